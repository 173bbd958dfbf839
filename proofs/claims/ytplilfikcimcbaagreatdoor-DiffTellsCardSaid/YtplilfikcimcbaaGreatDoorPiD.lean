/- A part of the proof: nothing is stated here for its own sake. -/
import Derived.Test.YtplilfikcimcbaaGreatDoorPiC
import Derived.Sort.OwnSortedInts
open _root_.Go.Addr renaming add->zab
open _root_.Array renaming getElem?_eq_some_iff->zaq,getElem?_toList->zb5,push->zc2,size->zay,size_push->zau,toList->zd7
open _root_.Bool renaming and_eq_true->zaw,eq_iff_iff->zbd
open _root_.Go.Builtin renaming append_->zaj,firstCells->zdb,len_->zdn
open _root_.Go.Instr renaming entry->zen,findNow->zc8,keyThatStays->zd0,makeSlice->zba,mapUpdate->zct,next->zdz,range->zey,sameNow->zeu,storeAt->zae
open _root_.Int renaming toNat_natCast->zag
open _root_.Go.IntKind renaming i64->zb3,wrap->zaa
open _root_.List renaming all_eq_true->zbl,append_assoc->za3,append_nil->zbi,drop_eq_getElem_cons->zbg,drop_length->zed,drop_zero->zcn,eq_nil_of_length_eq_zero->za4,ext_getElem?->zbm,filter_cons->zef,getD_eq_getElem?_getD->za8,getElem?_eq_getElem->zam,getElem?_eq_none->zco,getElem?_eq_some_iff->zbb,getElem?_map->zb7,getElem_append_left->zc9,getElem_append_right->zc6,getElem_map->zcx,getElem_mem->zak,getElem_of_mem->zdh,length->zbu,length_append->zah,length_cons->za1,length_drop->zcw,length_map->zas,length_nil->zbx,length_pos_iff->zb4,length_singleton->zcj,length_take->zbt,map_append->zbf,map_cons->zbk,map_map->zbo,mem_append->zav,mem_append_left->zap,mem_append_right->zaz,mem_cons->zal,mem_cons_of_mem->zan,mem_cons_self->zat,mem_iff_getElem->zdp,mem_map->zbr,mem_of_getElem?->zdc,mem_range->zcs,mem_singleton->zbh,mergeSort_perm->zea,nil_append->zcm,nodup_append->zdg,nodup_cons->zdk,nodup_nil->zee,nodup_range->zep,pairwise_cons->zb2,pairwise_lt_range->zeh,range->za7,replicate->zcr,take_append_drop->zbz,take_length->za2,take_succ_eq_append_getElem->zai,take_zero->ze3
open _root_.List.cons renaming injEq->zcv
open _root_.Nat renaming add_zero->zej,le_of_lt->zer,le_refl->zac,le_trans->zb8,lt_of_lt_of_le->zda,mul_comm->ze1,mul_le_mul->zcg,mul_le_mul_right->za6,mul_one->zbn,not_lt_zero->zcb,succ_mul->zc4,zero_add->zax,zero_le->zar
open _root_.Go.Op renaming bytesLess->zcz
open _root_.Option renaming map_some->zex
open _root_.Option.some renaming inj->za9,injEq->zad
open _root_.Prod.mk renaming injEq->zb9
open _root_.Go.Proofs.Tryz renaming prog->zbe
open _root_.UInt8 renaming ofNat->zcl,toNat_inj->zdt
open _root_.Go.Value renaming int->zby,slice->zdw,string->za0
open _root_.Go.Value.slice renaming injEq->zbc
open _root_.Go.Sem renaming run_bind->DM
open _root_.Go.Result renaming andThen_ok->D0
open _root_.Go renaming TypeId->Nw,FuncId->n4,Addr->n8
open _root_.Decidable renaming decide->ph
open _root_.Go.Value renaming oneCell'->pi
open _root_.Array renaming setIfInBounds->rg
open _root_.Go.X.Arg renaming mk->up
open _root_.Go.X.BT renaming push->ur
open _root_.Go.X.At renaming same->v0
open _root_.Go.X.Bk renaming underlying->wf
open _root_.Go.X.Blk renaming new->wr
open _root_.List renaming length->DB
set_option linter.all false
set_option maxRecDepth 1000000
set_option maxHeartbeats 20000000
open Go.Proofs.Tryz
namespace Go.X
end Go.X
namespace Go.Proofs
end Go.Proofs
open Go Go.X Go.Proofs
open _root_.Bool renaming true->Ta,false->Tc
open _root_.Option renaming some->Td,none->Te
namespace Go.X
section
section
def Lz:yf Tp 9=Ta:=κ
def Uo:yo Tp 9=1:=κ
def TT:yf Tp 3=Ta:=κ
def Nn:yo Tp 3=1:=κ
def But(bs:List Nat)(h h':zc):Prop:=h.size<=h'.size/\∀i,i<h.size->i∉bs->h'[i]?=h[i]?
def OH(n:Nat):∀(v:Tr),cK v<=n->∀{h:zc} {bs:ac0} {sk si:Sl},OT h v bs (zl v.aa6 v.aa9 sk si)->∀{K:vvv},(∀h',But bs h h'->K (.tuple #[]) h')->ab3 36 #[.agg #[ab9 v.aa6,ab5 v.aa9,aK sk,aK si]] h K:=by
 induction n with
 |zero=>intro v hn;have:=wa v;omega
 |succ n ih=>
 intro v hn h bs sk si ot K hK;have t:=ot;generalize hq:zl v.aa6 v.aa9 sk si=cells at t;cases t with
 | @mk kd s ks xs sk' si' bk bb b cs bf hkk hnn hz hi hd=>
 have:sk'=sk/\si'=si:=by simp only[zl,aK,zcv,zbc,and_true]at hq;have⟨_,_,⟨a1,a2,a3⟩,a4,a5,a6⟩:=hq;cases sk;cases si;cases sk';cases si';simp only at a1 a2 a3 a4 a5 a6;subst a1;subst a2;subst a3;subst a4;subst a5;subst a6;exact⟨rfl,rfl⟩
 obtain⟨rfl,rfl⟩:=this;have⟨ac,ar,am,V⟩:=hkk;rw[zdg]at hd;have⟨au,T,G⟩:=hd;rw[zdg]at T;have⟨ay,ae,ab⟩:=T;have nf:=RL.1 ae;have Q:=ot.lt;apply zd5 kd s sk' si';intro h1;have⟨Z,z1,b1⟩:=jo (g:=h1) rfl;clear_value h1;refine⟨λi g=>∃k:Nat,i=(k:Int)/\k<=DB ks/\h1.size<=g.size/\(∀x,x<h1.size->x∉bk->g[x]?=h1[x]?)/\(∀u∈bk,∃c:Array Value,Blk g u c/\DB ks<=c.size),λi _=>DB ks-i.toNat,⟨0,rfl,ω,zac _,λ_ _ _=>rfl,λu f=>?_⟩,?_⟩;obtain⟨_,rfl,_⟩|⟨b',cs',rfl,F,J,_,e3⟩:=V;cases f;simp at f;subst f;refine⟨cs',J.ab2 Z,?_⟩;omega;rintro i g ⟨k,rfl,hk,zg,Y,blk⟩;have ah:h.size∉bk:=λp=>η
 have bg:Blk g h.size (zl kd s sk' si').toArray:=b1.ab0 (Y _ ω ah);refine⟨sk',bg.ab1 (o:=0) (k:=2) rfl,λA=>?_,λA=>?_⟩;have l:k<DB ks:=by rw[ac]at A;simp at A;omega
 obtain⟨h0,_⟩|⟨b',cs',rfl,F,J,_,e3⟩:=V;rw[h0]at l;simp at l;have⟨c,aa,D⟩:=blk b' ξ;refine⟨sk',bg.ab1 (o:=0) (k:=2) rfl,⟨b',0,Te⟩,⟨F,ω,ω⟩,?_⟩;rw[Jk,zax,zag,zbn];refine X9 (vs:=[ab5 (⟨#[115,112,111,105,108,116]⟩:Bt)]) Lz aa rfl Uo φ (by simp[pi]) λh9 b9 z9 f9=>?_
 rw[qd l ω];refine⟨⟨k+1,rfl,ω,ω,λx m p=>η,λu f=>?_⟩,η⟩;simp at f;subst f;exact⟨_,b9,by rw[vL φ];exact D⟩;have w:∀i,i<DB xs->∀x∈bf i,x∉bk/\x∉bb/\x<h.size:=λi z x m=>
  ⟨λp=>G x p x (zaz _ (pR.2 ⟨i,z,m⟩)) rfl,λp=>ab x p x (pR.2 ⟨i,z,m⟩) rfl,Q x η⟩
 have N:∀x∈bb,x∉bk/\x<h.size:=λx m=>⟨λp=>G x p x (zap _ m) rfl,Q x (ϑ m)⟩;refine⟨λi g'=>∃(k:Nat) (cs':ac2),i=(k:Int)/\k<=DB xs/\h1.size<=g'.size/\(∀x,x<h1.size->x∉bk++(bb++(za7 (DB xs)).flatMap bf)->g'[x]?=h1[x]?)/\(∀u∈bb,Blk g' u cs'/\DB xs*4<=cs'.size)/\(∀i (m:i<DB xs),k<=i->OT g' xs[i] (bf i) (cut cs' (i*4) 4)),λi _=>DB xs-i.toNat,⟨0,cs,rfl,ω,zg,λx m p=>Y x m (λe=>p (by simp[e])),λu f=>?_,λi m _=>?_⟩,?_⟩;obtain⟨_,rfl,_⟩|⟨rfl,F,J,e3⟩:=hz;cases f;simp at f;subst f;exact⟨(J.ab2 Z).ab0 (Y u η (N u ξ).1),ω⟩;exact(hi i m).frame λx r=>by have⟨q1,q2,q3⟩:=w i m x r;rw[Y x ω q1];exact Z.get x q3
 rintro i g' ⟨j,cs',rfl,hj,az,S,M,todo⟩;have U:h.size∉bk++(bb++(za7 (DB xs)).flatMap bf):=λp=>η
 have E:Blk g' h.size (zl kd s sk' si').toArray:=b1.ab0 (S _ ω U);refine⟨si',E.ab1 (o:=0) (k:=3) rfl,λA=>?_,λA=>?_⟩;have l:j<DB xs:=by rw[hnn.1]at A;simp at A;omega
 obtain⟨h0,_⟩|⟨rfl,F,J,e3⟩:=hz;rw[h0]at l;simp at l;have⟨L,D⟩:=M b ξ;have C:=todo j l (zac _);have⟨tk,ti,y⟩:=C.cells;rw[y]at C;refine⟨si',E.ab1 (o:=0) (k:=3) rfl,⟨b,0,Te⟩,⟨F,ω,ω⟩,xs[j].aa6,xs[j].aa9,tk,ti,?_,?_⟩;rw[Jk,zax,zag];exact ow L (vs:=zl xs[j].aa6 xs[j].aa9 tk ti) (o:=j*4) (i:=0) y;have p:xs[j]∈xs:=zak l;have aj:=qi (v:=.mk kd s ks xs) p;refine ih xs[j] ω C λP q=>⟨rfl,?_⟩
 have ak:=q.1;have al:∀x,x∈bf j->x<h.size:=λx m=>(w j l x m).2.2;have O:Blk P h.size (zl kd s sk' si').toArray:=E.ab0 (q.2 _ ω λp=>η);refine⟨si',O.ab1 (o:=0) (k:=3) rfl,⟨b,0,Te⟩,⟨F,ω,ω⟩,?_⟩;have af:b∉bf j:=λp=>(w j l b p).2.1 ξ;have I:Blk P b cs':=L.ab0 (q.2 b η af);rw[Jk,Jk,zax,zej,zag];refine X9 (vs:=[ab9 (-7)]) TT I rfl Nn η (by simp[pi]) λax ai an H=>?_;rw[qd l ω];refine⟨⟨j+1,iS cs' (j*4) [ab9 (-7)],rfl,ω,ω,λx m p=>?_,λu f=>?_,λi m z=>?_⟩,φ⟩;rw[H x (λe=>p (by simp[e])),q.2 x ω λB=>p (by simp only[zav];exact .inr (.inr (pR.2 ⟨j,l,B⟩)))];grind;simp at f;subst f;exact⟨ai,by rw[vL η];exact D⟩;rw[zW η η];have oi:=todo i m ω;refine oi.frame λx r=>?_;rw[H x (λe=>(w i m x r).2.1 (by simp[e])),q.2 x (oi.lt x r) λB=>nf.2 j i ω m x B x r rfl];refine hK g' ⟨ω,λx m p=>?_⟩;rw[S x ω p];exact Z.get x m
end
section
def WT(gl:Fr)(b:Bt)(R:Tr->Prop) (H:R (Tr.mk 4 b [] [])):ab4 gl 98 [up .str b] [.tree] R:=PF ⟨[],[],[],[]⟩ [.cell 2 25] 5 func98 H
end
end
section
open Go.RowKit
section
def mO(k:Int)(s:Bt)(a b:Sl):Value:=.agg #[.int .i64 k,.string s,aK a,aK b]
def Hq{f:n4}{args:ac2}{h:zc}{g:Bool}(c:g=Ta){Kt:Bool->zc->Prop}(E:ab3 f args h λv h'=>∃r,v=.bool r/\Kt r h'):∃J:vvv,(g=Ta->ab3 f args h λv h'=>∃r:Bool,v=.bool r/\J (ab8 r) h')/\(g=Tc->∃r:Bool,J (ab8 r) h)/\(g=Ta->∀v h',J v h'->∃r:Bool,v=.bool r)/\∀r:Bool,∀h',J (ab8 r) h'->Kt r h':=by refine⟨λv h'=>∃r,v=.bool r/\Kt r h',λ_=>XC.mono E λv h' ⟨r,e,H⟩=>⟨r,e,r,rfl,H⟩,λb=>(by rw[c]at b;cases b),λ_ v h' ⟨r,e,_⟩=>⟨r,e⟩,λr h' ⟨i,e,H⟩=>?_⟩;injection e with e;subst e;exact H
section
variable {gl : Fr} {b2 b29 : Nat} {k2 k29 : Int} {s2 : Bt} {a2 c2 a29 c29 : Sl} {h : zc} {M : Fr}
end
end
section
variable {v:Tr} {sk si:Sl} {lv i:Nat}
section
variable {gl M : Fr} {b N : Nat} {ln : Bool}
def nK(gl M:Fr)(b N:Nat)(ln:Bool)(F:n4)(args:Array Value)(p:Bs):Prop:=
 ∀(l:Bs) (g:zc) (K:Value->zc->Prop),Prn g b ln (N:Int) l->Low gl M b g->l.length+p.length<=140737488355328->(∀g',Prn g' b ln (N:Int) (l++p)->FrP b g g'->K (.tuple #[]) g')->XC Tp F args g K
def IJ{F:n4}(hF:zy Tp F=Ta)(hi:Rd M (.row .tree) v.aa7 [aK si])(hN:N<=8)(hv:lv<=90){o c:UInt8}{ps:List Bs}(ac:ps.length=DB v.aa7)(S:v.aa7.length<=1000000) (hE:∀(i:Nat) (h:i<DB ps),nK gl M b N ln F (#[ab6 ⟨b,0,Te⟩]++#[mO v.aa6 v.aa9 sk si,ab9 (i:Int),ab9 ((lv+1:Nat):Int)]++#[]) ps[i]):nK gl M b N ln 254 #[ab6 ⟨b,0,Te⟩,mO v.aa6 v.aa9 sk si,ab9 (lv:Int),ab5 (bl [o,c]),.func (.func F) #[ab6 ⟨b,0,Te⟩] #[]] (o::jW ln N lv ps++[c]):=by
 intro l g K H L T hK;have ab:=(CD hi).1;have D:=H.lt;have e1:(o::jW ln N lv ps++[c]).length=2+(xq ln N (lv+1) ps).length+(ite (ps=[]) [] (Zx ln N lv:Bs)).length:=by unfold jW;simp only[za1,zah,zbx];omega
 rw[e1]at T;apply Sc;intro h1;have V:BT g.size g h1:=ur _ _ (zac _);have B1:h1[g.size]?=Td (.cells #[ab9 v.aa6,ab5 v.aa9,aK sk,aK si] 25 (0,0)):=ye _ _;clear_value h1;have f1:=FrP.ab2 V (zer D);have H1:=H.ab0 V;refine⟨_,rfl,⟨ζ,by rw[zn];simp⟩,?_⟩;rw[SW];have eo:zf (bl [o,c]) (0:Int).toNat=(o.toNat:Int):=by rw[yb];rfl
 have ec:zf (bl [o,c]) (1:Int).toNat=(c.toNat:Int):=by rw[yb];rfl
 rw[eo];refine Yl H1 ω o λq H4 U Y=>⟨_,rfl,?_⟩;have E:FrP b g q:=f1.trans ⟨U,Y⟩;have box:∀g',FrP b q g'->Blk g' g.size #[ab9 v.aa6,ab5 v.aa9,aK sk,aK si]:=λg' f=>⟨_,f.blk ((⟨U,Y⟩:FrP b h1 q).blk B1)⟩;refine⟨si,Blk.ab1 (o:=0) (k:=3) (box q (FrP.refl _ _)) rfl,?_⟩;refine⟨λi g'=>∃n:Nat,i=(n:Int)/\n<=DB ps/\Prn g' b ln (N:Int) (l++[o]++xq ln N (lv+1) (ps.take n))/\FrP b q g',λi _=>DB ps-i.toNat,⟨0,rfl,ω,by simpa[xq]using H4,FrP.refl _ _⟩,?_⟩;rintro i g' ⟨n,rfl,hn,G,A⟩;have J:=E.trans A;have L':=L.frp J;have aa:=uv ln N (lv+1) hn;have z:(l++[o]++xq ln N (lv+1) (ps.take n)).length=DB l+1+(xq ln N (lv+1) (ps.take n)).length:=by rw[zah,zah];rfl
 refine⟨λm=>?_,λt=>?_⟩;have m:n<DB ps:=χ (zH m)
 have x:=uv ln N (lv+1) (ps:=ps) (n:=n+1) m;have I:=v6 ln N (lv+1) m;rw[I]at x;simp only[zah]at x;intro B y;have p:∀g2,Prn g2 b ln (N:Int) (l++[o]++xq ln N (lv+1) (ps.take n)++(ite (n=0) [] [44]))->FrP b q g2->B g2:=λg2 w r=>y _ (by have Z:=L.frp (E.trans r);rw[fK ω,show(lv:Int)+1=((lv+1:Nat):Int)from ω];refine I7 w Z hN ω η λP Q O=>⟨rfl,v.aa6,v.aa9,sk,si,(box P (r.trans O)).ld (cs:=[_,_,aK sk,aK si]),hF,?_⟩;refine hE n m _ _ _ Q (Z.frp O) η λg5 H5 f5=>⟨rfl,⟨n+1,by grind [fK],m,?_,r.trans (O.trans f5)⟩,?_⟩;simp_all;show (DB ps)-(w6 ((n:Int)+1)).toNat<DB ps-(n:Int).toNat;rw[fK ω];omega);refine⟨λj=>?_,λj=>?_⟩;have h0:n≠0:=χ (zH j)
 refine⟨_,rfl,?_⟩;rw[SW];refine Yl G ω 44 λg2 w k2 o2=>⟨_,rfl,p g2 ?_ (A.trans ⟨k2,o2⟩)⟩;grind;have h0:n=0:=χ (zI j)
 simp_all;have t:n=DB ps:=χ (zI t)
 subst t;rw[za2]at G z;intro C u;have p:∀g2,Prn g2 b ln (N:Int) (l++[o]++xq ln N (lv+1) ps++(ite (ps=[]) [] (Zx ln N lv)))->FrP b q g2->C g2:=λg2 w r=>u _ (by refine⟨_,rfl,⟨ζ,by rw[zn];simp⟩,?_⟩;rw[SW,ec];refine Yl w η c λP Q k3 o3=>⟨_,rfl,hK P ?_ (E.trans (r.trans ⟨k3,o3⟩))⟩;unfold jW;simp_all);refine⟨si,Blk.ab1 (o:=0) (k:=3) (box g' A) rfl,λj=>?_,λj=>?_⟩;have h0:ps≠[]:=λe=>θ
 rw[zv h0]at T;refine I7 G L' hN ω (ο z) λg2 w r=>⟨rfl,p g2 ?_ (A.trans r)⟩;simp_all;simp_all
def qdv:zy Tp 255=Ta:=κ
def TW:zy Tp 256=Ta:=κ
def R9(hi:Rd M (.row .tree) v.aa7 [aK si])(h:i<DB v.aa7){p:Bs}(n:∀(c e:Sl),Rd M (.row .str) v.aa7[i].aa8 [aK c]->Rd M (.row .tree) v.aa7[i].aa7 [aK e]->nK gl M b N ln 201 #[ab6 ⟨b,0,Te⟩,mO v.aa7[i].aa6 v.aa7[i].aa9 c e,ab9 (lv:Int)] p):nK gl M b N ln 255 #[ab6 ⟨b,0,Te⟩,mO v.aa6 v.aa9 sk si,ab9 (i:Int),ab9 (lv:Int)] p:=by intro l g K H L q z;have x:=(CD hi).1;apply V5;intro h1;have⟨f,_,t⟩:=jo (g:=h1) rfl;clear_value h1;have j:=FrP.ab2 f (zer H.lt);have m:=L.frp j;have⟨a,c,e,u,B,w,y⟩:=Qs m.ag hi h;refine⟨si,Blk.ab1 (o:=0) (k:=3) t rfl,a,⟨u,ω,ω⟩,_,_,c,e,by rw[zag];exact B,?_⟩;exact n c e w y l h1 _ (H.ab0 f) m q λg' A r=>⟨rfl,z g' A (j.trans r)⟩
def UK(U:GL gl)(hb:Brn gl)(D:Rd M (.row .str) v.aa8 [aK sk])(hi:Rd M (.row .tree) v.aa7 [aK si])(h:i<DB v.aa7)(h2:i<DB v.aa8)(t:(lb v.aa8[i]).length<=1048576){p:Bs}(hE:∀(c e:Sl),Rd M (.row .str) v.aa7[i].aa8 [aK c]->Rd M (.row .tree) v.aa7[i].aa7 [aK e]->nK gl M b N ln 201 #[ab6 ⟨b,0,Te⟩,mO v.aa7[i].aa6 v.aa7[i].aa9 c e,ab9 (lv:Int)] p):nK gl M b N ln 256 #[ab6 ⟨b,0,Te⟩,mO v.aa6 v.aa9 sk si,ab9 (i:Int),ab9 (lv:Int)] (jN ln v.aa8[i] p):=by intro l g K H L G F;unfold jN at G F;simp only[zah,za1]at G;have Z:=(CD hi).1;have C:=(CD D).1;apply Xy;intro h1;have B:BT g.size g h1:=ur _ _ (zac _);have I:h1[g.size]?=Td (.cells #[ab9 v.aa6,ab5 v.aa9,aK sk,aK si] 25 (0,0)):=ye _ _;clear_value h1;have E:=FrP.ab2 B (zer H.lt);have A:=L.frp E;have⟨a,w,x,q,n⟩:=ke A.ag D h2 (i:=(i:Int)) rfl (L:=sk.len) rfl (Q:=λx=>x=v.aa8[i]) rfl;subst n;refine⟨sk,Blk.ab1 (o:=0) (k:=2) ⟨_,I⟩ rfl,a,w,v.aa8[i],q,?_⟩;refine Ip U hb (H.ab0 B) A t ω λh6 P f6=>⟨rfl,_,rfl,?_⟩;rw[SW];refine Yl P η 58 λh9 J Y o9=>⟨_,rfl,?_⟩;have f9:FrP b h1 h9:=f6.trans ⟨Y,o9⟩;intro r j;have f:∀g2,Prn g2 b ln (N:Int) (l++(io (lb v.aa8[i])).1++[58]++(ite ln [32] []))->FrP b h1 g2->r g2:=λg2 z y=>j _ (by have O:=A.frp y;have⟨a',c,e,e1,e2,e3,e4⟩:=Qs O.ag hi h;refine⟨si,Blk.ab1 (o:=0) (k:=3) ⟨_,y.blk I⟩ rfl,a',⟨e1,ω,ω⟩,_,_,c,e,by rw[zag];exact e2,?_⟩;refine hE c e e3 e4 _ g2 _ z O η λg' H' f'=>⟨rfl,F g' ?_ (E.trans (y.trans f'))⟩;simp_all);have u:=J;have⟨p9,T,V,aa,S⟩:=u;refine⟨_,rfl,ln,Blk.ab1 (o:=0) (k:=2) (cs:=#[.pointer p9,aK T,ab8 ln,ab9 (N:Int)]) ⟨_,V⟩ rfl,λm=>?_,λm=>?_⟩;subst m;refine⟨_,rfl,?_⟩;rw[SW];refine Yl J η 32 λg2 z k2 o2=>⟨_,rfl,f g2 z (f9.trans ⟨k2,o2⟩)⟩;grind
end
end
section
section
variable {gl M : Fr} {b N : Nat} {ln : Bool}
def SN{g:zc}{l:Bs}(H:Prn g b ln (N:Int) l)(s:Bt)(c:l.length+(lb s).length<=140737488355328){K:vvv}(e:∀g',Prn g' b ln (N:Int) (l++lb s)->BT b g g'->Otk g g'->K (.tuple #[ab9 ((lb s).length:Int),.nilIface]) g'):ab3 68 #[ab6 ⟨b,0,Te⟩,ab5 s] g K:=by have:=Jp H (lb s) c e;rw[Xl]at this;exact this
def Fy(S:GL gl)(hb:Brn gl)(U:N<=8):∀(n:Nat) (v:Tr) (lv:Nat) (sk si:Sl),n<=1000000->cK v<=n->Zo zm v=Ta->Sm v->lv+iB v<=90->Rd M (.row .str) v.aa8 [aK sk]->Rd M (.row .tree) v.aa7 [aK si] ->nK gl M b N ln 201 #[ab6 ⟨b,0,Te⟩,mO v.aa6 v.aa9 sk si,ab9 (lv:Int)] (Y5 ln N v lv)
 |0,v,lv,sk,si,_,h,_,_,_,_,_=>χ (wa v)
 |n+1,v,lv,sk,si,hn,hz,hok,hsm,hd,hk,hi=>by
  intro l g K H L q t;have f:=hok;rw[Zb,zaw]at f;have r:∀(i:Nat) (h:i<DB v.aa7) (j m:Sl),Rd M (.row .str) v.aa7[i].aa8 [aK j]->Rd M (.row .tree) v.aa7[i].aa7 [aK m]->nK gl M b N ln 201 #[ab6 ⟨b,0,Te⟩,mO v.aa7[i].aa6 v.aa7[i].aa9 j m,ab9 ((lv+1:Nat):Int)] (Y5 ln N v.aa7[i] (lv+1)):=λi h j m h1 h2=>by
   have J:=zak h;have hs:=qi J;have Y:=Aa J;have G:Zo zm v.aa7[i]=Ta:=by rw[jl,zbl]at f;exact f.2 _ J
   exact Fy S hb U n v.aa7[i] (lv+1) j m ω ω G (hsm.item J) ω h1 h2
  have I:v.aa7.length<=1000000:=by have:=we v.aa7;rw[jr]at hz;omega
  rw[Q7]at q t;apply Pv;intro h1;have⟨V,_,E⟩:=jo (g:=h1) rfl;clear_value h1;have B:=FrP.ab2 V (zer H.lt);have C:=H.ab0 V;have P:=L.frp B;refine⟨v.aa6,Blk.ab1 (o:=0) (k:=0) E rfl,λp=>?_,λp=>⟨λu=>?_,λu=>⟨λy=>?_,λy=>⟨λz=>?_,λz=>?_⟩⟩⟩⟩;have p:v.aa6=1:=eq_of_beq p;rw[zA p]at q t;refine⟨_,rfl,?_⟩;rw[SW];exact Jp C [110,117,108,108] q λg' w O T=>⟨_,_,rfl,t g' w (B.trans ⟨O,T⟩)⟩;have A:v.aa6≠1:=λe=>by rw[e]at p;cases p
  have u:v.aa6=4:=eq_of_beq u;rw[zv A,zA u]at q t;exact⟨v.aa9,Blk.ab1 (o:=0) (k:=1) E rfl,Ip S hb C P hsm.aa9 q λg' w D=>⟨rfl,t g' w (B.trans D)⟩⟩;have A:v.aa6≠1:=λe=>by rw[e]at p;cases p
  have F:v.aa6≠4:=λe=>by rw[e]at u;cases u
  have y:v.aa6=5:=eq_of_beq y;rw[zv A,zv F,zA y]at q t;refine⟨v.aa6,v.aa9,sk,si,E.ld (cs:=[_,_,aK sk,aK si]),?_⟩;refine IJ (o:=91) (c:=93) (ps:=v.aa7.map λx=>Y5 ln N x (lv+1)) qdv hi U ω (zas _) I (λi h=>?_) l h1 _ C P q λg' w D=>⟨rfl,t g' w (B.trans D)⟩;rw[zas]at h;rw[zcx];exact R9 hi h λj m a1 a2=>r i h j m a1 a2;have A:v.aa6≠1:=λe=>by rw[e]at p;cases p
  have F:v.aa6≠4:=λe=>by rw[e]at u;cases u
  have Q:v.aa6≠5:=λe=>by rw[e]at y;cases y
  have z:v.aa6=6:=eq_of_beq z;rw[zv A,zv F,zv Q,zA z]at q t;have Z:v.aa8.length=DB v.aa7:=by have:=f.1;unfold zm at this;simp[z]at this;exact this.1.2
  refine⟨v.aa6,v.aa9,sk,si,E.ld (cs:=[_,_,aK sk,aK si]),?_⟩;refine IJ (o:=123) (c:=125) (ps:=List.zipWith (jN ln) v.aa8 (v.aa7.map λx=>Y5 ln N x (lv+1))) TW hi U ω (by rw[List.length_zipWith,zas];omega) I (λi h=>?_) l h1 _ C P q λg' w D=>⟨rfl,t g' w (B.trans D)⟩;rw[List.length_zipWith,zas]at h;rw[List.getElem_zipWith,zcx];exact UK S hb hk hi ω ω (hsm.key (zak _)) λj m a1 a2=>r i ω j m a1 a2;have A:v.aa6≠1:=λe=>by rw[e]at p;cases p
  have F:v.aa6≠4:=λe=>by rw[e]at u;cases u
  have Q:v.aa6≠5:=λe=>by rw[e]at y;cases y
  have n6:v.aa6≠6:=λe=>by rw[e]at z;cases z
  rw[zv A,zv F,zv Q,zv n6]at q t;refine⟨_,rfl,v.aa9,Blk.ab1 (o:=0) (k:=1) E rfl,?_⟩;rw[SW];exact SN C v.aa9 q λg' w O T=>⟨_,_,rfl,t g' w (B.trans ⟨O,T⟩)⟩
end
end
end
section
section
def MF(gl:Fr)(c:Tr)(R:ad2) (H:∃a:Bool->Prop,((c.aa6 != 7)=Ta->ab4 gl 89 [up .tree (Tr.mk c.aa6 c.aa9 c.aa8 c.aa7)] [.bool] a)/\∀b:Bool,((c.aa6 != 7)=Ta->a b)->R (cond (c.aa6 != 7) b Tc)):ab4 gl 88 [up .tree c] [.bool] R:=PF ⟨[],[],[],[]⟩ [.tmp 2] 10 func88 H
end
section
variable {gl:Fr} {v:Tr} {R:Bool -> Prop}
def z9q(c:GL gl)(f:Sm v)(h:R (ph (v.aa6≠7)&&zm v)):ab4 gl 88 [up .tree v] [.bool] R:=by
 apply MF;simp only[qw];refine⟨λb=>b=zm v,λ_=>Fh c f rfl,λb hb=>?_⟩;cases hk:(v.aa6 != 7)with
 |false=>
  have e:v.aa6=7:=ψ hk
  have:(ph (v.aa6≠7)&&zm v)=Tc:=ϑ e
  rw[this]at h;simpa[hk]using h
 |true=>
  have e:v.aa6≠7:=ψ hk
  have hb:=hb hk;subst hb;have:(ph (v.aa6≠7)&&zm v)=zm v:=ϑ e
  rw[this]at h;simpa[hk]using h
def Wp(E:GL gl)(D:Sm v)(o:R (zr v)):ab4 gl 49 [up .tree v] [.bool] R:=by
 intro h M vs C ag P
 match vs,P with
 |[u],⟨n,_⟩=>
  have n:RdV M .tree v u:=n;have m:=n;obtain⟨sk,si,rfl,Q,T⟩:=qh n;apply PX.of;apply znz v.aa6 v.aa9 sk si;intro h1;have q:At h M h1 M:=At.push ag _;have s1:h1.size=h.size+1:=zau _;have f:∀h':zc,BT h1.size h1 h'->ze h' (ab7 h) 0 [ab9 v.aa6,ab5 v.aa9,aK sk,aK si]:=λh' k=>tf (h':=h') (by rw[s1]at k;exact k);clear_value h1;refine⟨v.aa6,v.aa9,sk,si,f h1 (BT.refl _ _),?_⟩;have y:ab4 gl 86 [up .tree v] [.bool] (λr=>r=xa v):=FZ D rfl;refine y.go (vs:=[.agg #[ab9 v.aa6,ab5 v.aa9,aK sk,aK si]]) (C.trans q.le) q.ag (zo (RdV.mono q.le m) qc) λw h2 L r z j J=>?_;refine⟨r,Jb j,v.aa6,v.aa9,sk,si,λ_=>f h2 z.ab0,?_⟩;have c:=q.trans z;refine⟨λw t=>∃b,w=.bool b/\(r=Ta->b=Zo (λx=>decide (x.aa6≠7)&&zm x) v)/\∃B,At h M t B,λO=>?_,λl=>⟨Ta,Ta,rfl,λe=>(by rw[e]at l;cases l),L,c⟩,λ_ w t ⟨b,e,_⟩=>⟨b,e⟩,?_⟩;refine(HG (F:=88) κ (p:=λx=>decide (x.aa6≠7)&&zm x) (λx N=>z9q E N rfl) v D (C.trans c.le) z.ag (RdV.mono c.le m)).go λw S H b G i A=>⟨b,Jb i,b,rfl,λ_=>A,H,c.trans G⟩;rintro b t ⟨b',e,hb,B,I⟩;cases e;refine⟨B,_,I,Qr.2 (GS _),?_⟩;unfold zr at o;rw[<-J]at o;cases r with
  |false=>exact o
  |true=>rw[zK,hb rfl];exact o
end
end
section
open Go.RowKit
variable {v:Tr} {ln:Bool} {N lv:Nat} {gl M:Fr}
def Jd(v:Tr):Bt×Int:=if zr v=Ta then(bl (Y5 Tc 0 v 0),0)else(⟨#[]⟩,1)
def Zd(h:zr v=Ta):cK v<=4096/\iB v<=32/\Zo ib v=Ta/\Zo zm v=Ta:=by unfold zr xa at h;simp only[zaw,zG]at h;refine⟨h.1.1,h.1.2,h.2,?_⟩;exact vw (λx b=>by rw[zaw]at b;exact b.2) v h.2
def VW(h:zr v=Ta):Y5 ln N v lv≠[]:=by have:=(Zd h).2.2.1;rw[Zb,zaw]at this;exact ME this.1
def qiy(n:GL gl)(hb:Brn gl)(h:Sm v)(e:zr v=Ta)(f:N<=8)(w:lv<=32){g:zc}{b:Nat}(m:Fr.le gl M)(ag:AgM M g)(low:∀c cs,M c=Td cs->c<b)(H:Prn g b ln (N:Int) []) {sk si:Sl} (t:Rd M (.row .str) v.aa8 [aK sk]) (p:Rd M (.row .tree) v.aa7 [aK si]) {K:vvv} (r:∀h',BT b g h'->K (ab5 (bl (Y5 ln N v lv))) h'):ab3 201 #[ab6 ⟨b,0,Te⟩,mO v.aa6 v.aa9 sk si,ab9 (lv:Int)] g λq h1=>q=.tuple #[]/\ab3 70 #[.pointer (Td (zab ⟨b,0,Te⟩ 0))] h1 K:=by have⟨x,y,u,o⟩:=Zd e;have j:=xN (ln:=ln) f (cK v) v lv (zac _) h ω;refine Fy n hb f 1000000 v lv sk si (zac _) ω o h ω t p [] g _ H ⟨m,ag,low⟩ (by simp only[zbx];omega) λg' i l=>⟨rfl,?_⟩;rw[SW];rw[zcm]at i;exact UV i (VW e) λh' k=>r h' (l.ab0.trans k (zac _))
def Cl(s:Bt)(e:Int):Yx M [.str,.int .i64] (s,e) (.tuple #[ab5 s,ab9 e]):=⟨[_,_],⟨_,_,rfl,GE _,_,rfl,Q9 _ _⟩,rfl⟩
def Jv(y:GL gl)(hb:Brn gl)(z:Sm v){R:Bt×Int->Prop}(l:R (Jd v)):ab4 gl 126 [up .tree v] [.str,.int .i64] R:=by
 intro h M vs x ag F
 match vs,F with
 |[u],⟨o,_⟩=>
  have o:RdV M .tree v u:=o;have t:=o;obtain⟨sk,si,rfl,C,E⟩:=qh o;apply PX.of;apply SJ v.aa6 v.aa9 sk si;intro h1;have f:At h M h1 M:=At.push ag _;have s1:h1.size=h.size+1:=zau _;have i:∀h':zc,BT h1.size h1 h'->ze h' (ab7 h) 0 [ab9 v.aa6,ab5 v.aa9,aK sk,aK si]:=λh' k=>tf (h':=h') (by rw[s1]at k;exact k);clear_value h1;refine⟨v.aa6,v.aa9,sk,si,i h1 (BT.refl _ _),?_⟩;refine(Wp y z (R:=λr=>r=zr v) rfl).go (vs:=[.agg #[ab9 v.aa6,ab5 v.aa9,aK sk,aK si]]) (x.trans f.le) f.ag (zo (RdV.mono f.le t) qc) λw h2 q r b m D=>?_;subst D;refine⟨_,Jb m,λj=>?_,λj=>?_⟩;have j:zr v=Tc:=ψ j
  unfold Jd at l;rw[zv (υ j)]at l;exact⟨q,_,f.trans b,Cl _ _,l⟩;have j:zr v=Ta:=ψ j
  unfold Jd at l;rw[zA j]at l;intro n;have A:Prn n h2.size Tc ((0:Nat):Int) []:=Prn.new h2 Tc 0;have p:BT h2.size h2 n:=ur _ _ (zac _);clear_value n;have B:At h M n q:=(f.trans b).trans (v0 b.ag p);refine⟨v.aa6,v.aa9,sk,si,i n (b.ab0.trans p b.ab0.size),?_⟩;refine qiy y hb z j (N:=0) (lv:=0) ω ω (x.trans (f.trans b).le) B.ag (λc cs e=>b.ag.lt e) A (C.mono (f.trans b).le) (E.mono (f.trans b).le) λH G=>⟨_,rfl,q,_,?_,Cl _ _,l⟩;exact(f.trans b).trans (v0 b.ag (p.trans G (zac _)))
end
section
section
def yv(b:Nat)(c1:n8)(h:zc)(R:vvv) (H:∃r:Option Nat,zd h c1=Td (.map r)/\qq Tp (zey 144 (.map r)) h (λG F=>∃j:Option n8,G=.pointer j/\∃(m:zc->Prop) (o:zc->Nat),m F/\∀l:zc,m l->(qq Tp (zdz (.pointer j) Tc 0) l (λz k=>(z=.tuple #[ab8 Tc]/\(Tc=Ta->qq Tp (zen (.pointer j)) k (λy B=>∃q u:Value,y=.tuple #[q,u]/\YX Tp b #[q] B (λx f=>∃e:Bool,x=.bool e/\((!e)=Ta->R (.tuple #[]) f)/\((!e)=Tc->(m f/\o f<o l)))))/\(Tc=Tc->R (.tuple #[]) k))\/∃C A:Value,z=.tuple #[ab8 Ta,C,A]/\(Ta=Ta->qq Tp (zen (.pointer j)) k (λD E=>∃p w:Value,D=.tuple #[p,w]/\YX Tp b #[p] E (λt i=>∃c:Bool,t=.bool c/\((!c)=Ta->R (.tuple #[]) i)/\((!c)=Tc->(m i/\o i<o l)))))/\(Ta=Tc->R (.tuple #[]) k))))):mK Tp 222 #[.func (.yield b) #[] #[],ab6 c1] h R:=
 BG Tryz.mixed ⟨[],[(1,[])],[]⟩ [.func (.yield b) #[] #[],ab6 c1] (rs:=[]) (n:=14) func222 κ κ κ κ (Eq.mp κ H)
def y9(j:Sl)(f:Value)(h:zc)(R:vvv) (H:let c:zc:=zc2 h (.cells #[.slice j.a j.len j.cap] 22);∃(m:n4) (k:ac2),f=.func (.func m) #[] k/\zy Tp m=Ta/\∀e:jF,(∀{p:Value} {l:zc} {o:vvv},l[(zay c+1)]?=Td (.loop (e .ready Te))->mq Tp 13 (mD (codeOf Tryz.f277)) (l9 (codeOf Tryz.f277)) e (zay c+1) o (putO [(0,[],.slice j.a j.len j.cap),(1,[],f),(2,[],ab6 ⟨zay h,0,Te⟩),(4,[],.slice Te 0 0),(6,[],f)] (Td 7) [] p) l->YX Tp (zay c+1) #[p] l o)->mK Tp m (#[.func (.yield (zay c+1)) #[] #[]]++k) (zc2 (zc2 c (.deferred (Td []))) (.loop (e .ready Te))) λ_ q=>qX e (zay c+1) (λi=>∃b:Sl,zd i ⟨zay h,0,Te⟩=Td (.slice b.a b.len b.cap)/\(i)[zay c]?=Td (.deferred (Td []))/\R (.slice b.a b.len b.cap) (rg i (zay c) (.deferred Te))) (λi=>(i)[zay c]?=Td (.deferred (Td []))/\R (.slice Te 0 0) (rg i (zay c) (.deferred Te))) q):ab3 277 #[.slice j.a j.len j.cap,f] h R:=
 LQ Tryz.mixed [.slice j.a j.len j.cap,f] (rs:=[.tmp 4]) (n:=13) func277 κ κ κ κ H (pl:=[]) κ
def ja(o:Value)(r:Value)(m:n8)(p:Value)(q:Value)(n:Bt)(rec:jF)(l:Nat)(K:vvv)(h:zc) (H:(h)[l]?=Td (.loop (rec .ready Te))/\let e:zc:=rg h l (.loop (rec .busy Te));∃c:Sl,zd e m=Td (.slice c.a c.len c.cap)/\let i:zc:=zc2 e (.cells #[ab5 n] 9);qq Tp (zaj #[22,22] 22 #[.slice c.a c.len c.cap,.slice (Td ⟨zay e,0,Te⟩) 1 1]) i (λj k=>∃b:Sl,j=.slice b.a b.len b.cap/\CA Tp (zae 22 (ab6 m) (.slice b.a b.len b.cap)) k (λf=>(f)[l]?=Td (.loop (rec .busy Te))/\K (ab8 Ta) (rg f l (.loop (rec .ready Te)))))):mq Tp 13 (mD (codeOf Tryz.f277)) (l9 (codeOf Tryz.f277)) rec l K [(7,[],ab5 n),(0,[],o),(1,[],r),(2,[],ab6 m),(4,[],p),(6,[],q)] h:=
 Eq.mp κ H
end
section
def Z5(j:n4)(i:ac2)(k:ac2)(h:zc)(R:vvv) (H:ab3 220 #[.func (.func j) i k] h (λb c=>∃d,b=aK d/\ab3 221 #[aK d] c (λe f=>e=.tuple #[]/\R (aK d) f))):ab3 161 #[.func (.func j) i k] h R:=XF ⟨[],[],[]⟩ [.tmp 2] 9 func161 H
def yy(b:ad0)(h:zc)(R:vvv) (H:let a:=h.push (.cells #[.map b] 144);R (.func (.func 222) #[] #[ab6 (ab7 h)]) a):ab3 162 #[.map b] h R:=XF ⟨[],[],[]⟩ [.tmp 2] 4 func162 H
def Zl(f:n4)(e:ac2)(i:ac2)(h:zc)(R:vvv) (H:ab3 277 #[.slice Te 0 0,.func (.func f) e i] h (λb c=>∃d,b=aK d/\R (aK d) c)):ab3 220 #[.func (.func f) e i] h R:=XF ⟨[],[],[]⟩ [.tmp 2] 5 func220 H
end
end
section
open Go.Shelf Go.RowKit
def Tl:Go.Shelf.Ren:=⟨fun|190=>221|125=>114|258=>278|128=>177|129=>178|302=>324|303=>325|304=>326|305=>327|306=>328|307=>329|308=>330|309=>331|310=>332|333=>371|329=>236|330=>237|334=>372|335=>373|336=>207|344=>395|n=>n,fun|31=>22|9=>9|3=>3|46=>123|0=>0|51=>176|53=>178|4=>4|183=>168|182=>167|131=>173|5=>5|218=>245|222=>249|228=>299|229=>300|n=>n,fun|n=>n⟩
def Eu:Go.Proofs.Lays.n190 Tp Tl:=by constructor <;> intros <;> kernel_rfl
open Go.Sort Go.RowKit in
def zcp(blk off cap:Nat)(ss:List (List UInt8))(w:World)(f:Holds encStr w blk off ss.toArray)(b:blk<w.heap.size)(c:ss.length<4611686018427387904):Calls Tp 221 #[.slice (Td ⟨blk,off,Te⟩) (DB ss) cap] w λe w'=>e=.returned (.tuple #[])/\∃n os,w'=grow (putRow encStr (Sort.ahead w n) blk off (ss.mergeSort λx y=>decide (x<=y)).toArray) os:=Any.slices_Sort_string Eu blk off cap ss w f b c
open Go.RowKit Go.Sort in
def J0(p:Option n8)(cap:Nat)(w:World):Calls Tp 221 #[.slice p 0 cap] w λe w'=>e=.returned (.tuple #[])/\w'=w:=Any.slices_Sort_string_none Eu p cap w
end
section
open Go.ChangeMaps
variable {h h':zc} {m r:Nat} {P:Program} {t kt et ty:Nw} {K:Value -> zc -> Prop} {dn:List Value}
def IO(h:zc)(m:Nat)(l:List (Value×Value)):Prop:=
 ∃c b,h[m]?=Td (.map c b)/\c.toList.map (λe=>(e.key,e.val))=l/\(∀e∈c.toList,e.born<b)/\(c.toList.map (·.born)).Nodup
theorem IO.ab0{l:List (Value×Value)}(H:IO h m l)(k:h'[m]?=h[m]?):IO h' m l:=by have⟨b,c,h1,h2⟩:=H;exact⟨b,c,k.trans h1,h2⟩
theorem IO.lt{l:List (Value×Value)}(H:IO h m l):m<h.size:=by have⟨b,c,h1,h2⟩:=H;grind
theorem IO.new(h:zc):IO (h.push (.map #[] 0)) h.size []:=⟨#[],0,ye _ _,rfl,ξ,ξ⟩
def Jq(l:List (Bt×Value)):List (Value×Value):=l.map λp=>(za0 p.1,p.2)
theorem IO.at{l:List (Bt×Value)}(H:IO h m (Jq l)):RW h m l:=by have⟨b,c,h1,h2,_⟩:=H;exact⟨b,c,h1,h2⟩
def Ln{z:Value}(T:MapT P t kt et z){l:List (Bt×Value)}(H:IO h m (Jq l))(k:Bt)(v:Value){K:zc->Prop}(w:∀h':zc,IO h' m (Jq (lT l k v))->h'.size=h.size->(∀i,i≠m->h'[i]?=h[i]?)->K h'):CA P (zct t (.map (Td m)) (ab5 k) v) h K:=by
 have f:=H.lt;have⟨b,c,h1,h2,L,I⟩:=H;intro B d;have A:=wf (h:=h) T.map B d;have u:=Yi (P:=P) h1 B d;have C:=DT T.key Tc k h B d;have n:∀o:Obj,(setObj m o).run P (mk B d h)=.ok () (mk B d (h.setIfInBounds m o)):=by intro o;have:(mk B d h).heap[m]?=Td (.map b c):=h1;simp[setObj,Sem.run,this];rfl
 unfold zct;obtain⟨g1,g2⟩|⟨j,N,e,g1,g2,G,J,F,D⟩:=Wz k b.toList l 0 h2;refine⟨d,h.setIfInBounds m (.map (b.push { key:=.string k,val:=v,born:=c }) (c+1)),?_,w _ ⟨b.push { key:=.string k,val:=v,born:=c },c+1,ϑ f,?_,?_,?_⟩ ξ (λi hi=>η)⟩;rw[DM,A];simp only[D0,DM,u,C];rw[Qf T.key k b.toList Te h g2 B d];simp_all;rw[W0 g1];unfold Jq at h2 ⊢;simp[h2];grind;grind;have y:j<b.size:=by have:=(zbb.1 g2).1;simpa using this
 have r:((b.modify j λe=>{ e with key:=.string k,val:=v }).toList.map (·.born))=b.toList.map (·.born):=by apply zbm;intro i;simp only[Array.toList_modify,zb7,List.getElem?_modify];by_cases E:j=i;simp_all;simp_all
 refine⟨d,_,?_,w (h.setIfInBounds m (.map (b.modify j λe=>{ e with key:=.string k,val:=v }) c)) ⟨b.modify j λe=>{ e with key:=.string k,val:=v },c,ϑ f,?_,?_,?_⟩ ξ (λi hi=>η)⟩;rw[DM,A];simp only[D0,DM,u,C];rw[Qf T.key k b.toList _ h F B d];simp only[D0,zax];have p:((b[j]?).map (·.key)).getD (ab5 k)=.string k:=by
  have:b[j]?=Td e:=ψ g2
  rw[this];exact G
 rw[p];have M:zd0 (ab5 k) (ab5 k)=pure (ab5 k):=by unfold zd0;rw[zA (by show(k==k)=Ta;simp)]
 simp_all;have:=D v;unfold Jq;grind;intro x q;have:x.born∈((b.modify j λe=>{ e with key:=.string k,val:=v }).toList.map (·.born)):=zbr.2 ⟨x,q,rfl⟩;grind;simp_all
def Vc(h:zc)(r m:Nat)(l:List (Value×Value))(dn:List Value):Prop:=
 ∃j f b i c,h[r]?=Td (.mapIter (Td m) b i c)/\h[m]?=Td (.map j f)/\j.toList.map (λe=>(e.key,e.val))=l/\(∀e∈j.toList,e.born<b)/\b<=c/\b<=f/\(j.toList.map (·.born)).Nodup /\
  ∀e∈j.toList,i.contains e.born=Ta↔e.key∈dn
theorem Vc.ab0{l:List (Value×Value)}(H:Vc h r m l dn)(i:h'[r]?=h[r]?)(k2:h'[m]?=h[m]?):Vc h' r m l dn:=by have⟨j,e,b,f,c,h1,h2,k⟩:=H;exact⟨j,e,b,f,c,i.trans h1,k2.trans h2,k⟩
def Gy(h:zc)(r m:Nat)(k v:Value):Prop:=
 ∃(i:Array MapEntry) (b c:Nat) (f:Array Nat) (e:MapEntry),h[r]?=Td (.mapIter (Td m) c (f.push e.born) b)/\h[m]?=Td (.map i b)/\e∈i.toList/\(i.toList.map (·.born)).Nodup/\e.key=k/\e.val=v
def Do(o:P.underlying t=Td (.map kt et)){l:List (Value×Value)}(H:IO h m l)(p:∀h',h'.size=h.size+1->BT h.size h h'->Vc h' h.size m l []->K (ab6 (ab7 h)) h'):qq P (zey t (.map (Td m))) h K:=by have b:=H.lt;have⟨i,c,h1,h2,k,f⟩:=H;intro B d;have j:=wf (h:=h) o B d;have n:=Yi (P:=P) h1 B d;refine⟨.pointer (Td (ab7 h)),d,h.push (.mapIter (Td m) c #[] c),?_,p _ ξ (ur _ _ (zac _)) ⟨i,c,c,#[],c,ye _ _,?_,h2,k,zac _,zac _,f,λe q=>ξ⟩⟩;unfold zey;rw[DM,j];simp only[D0,DM,n,Sem.run_pure];rfl;grind
theorem NW{c:List MapEntry}(h:(c.map (·.born)).Nodup){a b:MapEntry}(f:a∈c)(hb:b∈c)(e:a.born=b.born):a=b:=by
 induction c with
 |nil=>cases f
 |cons x c i=>grind
theorem z9s{c:List MapEntry}(h:(c.map (·.key)).Nodup){a b:MapEntry}(f:a∈c)(hb:b∈c)(e:a.key=b.key):a=b:=by
 induction c with
 |nil=>cases f
 |cons x c i=>grind
def OR(h:zc)(r m:Nat):Nat:=match h[r]?,h[m]? with
 |some (.mapIter _ _ seen _),Td (.map es _)=>(es.toList.filter λe=>!seen.contains e.born).length
 |_,_=>0
theorem OR.ab0(b:h'[r]?=h[r]?)(k2:h'[m]?=h[m]?):OR h' r m=OR h r m:=by unfold OR;rw[b,k2]
def LV{α:Type}{p q:α->Bool}(h:∀x,p x=Ta->q x=Ta):∀l:List α,(l.filter p).length<=(l.filter q).length
 |[]=>zac _
 |x::l=>by have:=LV h l;grind
def filter_lt{α:Type}{p q:α->Bool}(h:∀x,p x=Ta->q x=Ta){e:α}(h1:p e=Tc)(h2:q e=Ta):∀l:List α,e∈l->(l.filter p).length<(l.filter q).length
 |[],b=>ε b
 |x::l,b=>by rw[zef,zef];obtain rfl|b:=zal.1 b;have:=LV h l;grind;have:=filter_lt h h1 h2 l b;grind
def Bj{l:List (Value×Value)}(H:Vc h r m l dn)(V:(l.map (·.1)).Nodup)(F:r≠m) (y:(∀p∈l,p.1∈dn)->K (.tuple #[ab8 Tc]) h) (u:∀k v,(k,v)∈l->k∉dn->∀h',Vc h' r m l (k::dn)->Gy h' r m k v->h'.size=h.size->(∀j,j≠r->h'[j]?=h[j]?)->OR h' r m<OR h r m->K (.tuple #[ab8 Ta,k,v]) h'):qq P (zdz (ab6 ⟨r,0,Te⟩) Tc ty) h K:=by
 have⟨o,b,f,i,c,h1,h2,D,I,T,N,G,J⟩:=H;intro B d;have S:(o.toList.map (·.key)).Nodup:=by
  have e:o.toList.map (·.key)=l.map (·.1):=by rw[<-D,zbo];rfl
  rw[e];exact V
 obtain⟨O,A⟩|⟨e,L,w1,Q,A⟩:=run_next_at (P:=P) (mk B d h) ty r m f c i o b h1 h2 I T;refine⟨_,d,h,A,y λp M=>?_⟩;rw[<-D]at M;obtain⟨x,w,rfl⟩:=zbr.1 M;refine(J x w).1 ?_;have:leftOf o i=#[]:=Array.eq_empty_of_size_eq_zero O;unfold leftOf at this;simp_all;have n:e∈o.toList/\i.contains e.born=Tc:=by unfold leftOf at L;simpa using L
 have U:r<h.size:=(zaq.1 h1).1;have z:∃C,setBlock w1 r (.mapIter (Td m) f (i.push e.born) b)=mk B C (h.setIfInBounds r (.mapIter (Td m) f (i.push e.born) b)):=by obtain rfl|rfl:=Q;exact⟨d,rfl⟩;exact⟨d+1,rfl⟩
 have⟨C,E⟩:=z;rw[E]at A;have q:(h.setIfInBounds r (.mapIter (Td m) f (i.push e.born) b))[m]?=Td (.map o b):=by rw[Array.getElem?_setIfInBounds_ne F];exact h2
 have t:(h.setIfInBounds r (.mapIter (Td m) f (i.push e.born) b))[r]?=Td (.mapIter (Td m) f (i.push e.born) b):=ϑ U
 refine⟨_,C,_,A,u e.key e.val η (λZ=>?_) _ ⟨o,b,f,i.push e.born,b,t,q,D,I,N,N,G,λx w=>?_⟩ ⟨o,b,f,i,e,t,q,n.1,G,rfl,rfl⟩ ξ (λj Y=>η) ?_⟩;grind;rw[zal,<-J x w];simp only[Array.contains_eq_mem,Array.mem_push,zG];constructor;rintro(h|h);exact .inr h;exact .inl (by rw[NW G w n.1 h]);rintro(h|h);exact .inr (by rw[z9s S w n.1 h]);exact .inl h;unfold OR;rw[t,q,h1,h2];refine filter_lt (e:=e) (λx w=>?_) ?_ ?_ _ n.1;simp_all;simp;grind
def CV{k v:Value}(H:Gy h r m k v)(l:K (.tuple #[k,v]) h):qq P (zen (ab6 ⟨r,0,Te⟩)) h K:=by obtain⟨j,c,b,f,e,h1,h2,n,i,rfl,rfl⟩:=H;intro B d;exact⟨_,d,h,run_entry_at (P:=P) (mk B d h) r m b f j c e h1 h2 n i,l⟩
def Lv(i:P.underlying t=Td (.map kt et)){l:List (Value×Value)}(H:IO h m l):Bk P (zdn #[t] ty #[.map (Td m)]) h (ab9 (DB l:Int)):=by
 have⟨e,c,h1,h2,_⟩:=H;intro B d;have f:=wf (h:=h) i B d;have j:=Yi (P:=P) h1 B d;have b:l.length=e.size:=by rw[<-h2];simp
 simp[zdn,f,j,goInt,b]
end
section
open Go.RowKit Go.Sort Go.Shelf
variable {h:zc} {xs:List Bt} {K:Value -> zc -> Prop} {c m:Nat}
theorem XC.of_below{P:Program}{f:n4}{args:ac2}{R:vvv}(H:∀B d,Calls P f args (mk B d h) λe w'=>∃v,e=.returned v/\w'.os=B.os/\w'.tape=B.tape/\w'.output=B.output/\R v w'.heap):XC P f args h R:=by intro B d;refine(H B d).mono ?_;rintro e w' ⟨v,rfl,h1,h2,c,b⟩;refine⟨v,w'.drawn,w'.heap,rfl,?_,b⟩;cases w';simp only[mk]at *;simp_all
theorem ou{base:Nat}{s:Sl}(H:Fd h base 9 1 s (xs.map za0)):s.len=xs.length:=by have:=H.length;grind
def H8{base:Nat}{s:Sl}(H:Fd h base 9 1 s (xs.map za0))(r:xs.length<=1000000):ab3 221 #[.slice s.a s.len s.cap] h λv h'=>v=.tuple #[]/\Fd h' base 9 1 s ((zt xs).map za0)/\h.size<=h'.size/\∀i,i<h.size->(∀p,s.a=Td p->i≠p.block)->h'[i]?=h[i]?:=by
 refine XC.of_below λB d=>?_;have u:s.len=DB xs:=ou H;have j:(xs.map lb).length=DB xs:=ξ
 have c:(zt xs).map za0=((xs.map lb).mergeSort λx y=>decide (x<=y)).map encStr:=by unfold zt;rw[zbo];rfl
 obtain⟨o,h0⟩|⟨g,cap,l,o,m,E,I,G,C,J⟩:=H.2;have D:xs=[]:=za4 ω;subst D;rw[h0];refine(J0 s.a s.cap (mk B d h)).mono ?_;rintro e w' ⟨rfl,rfl⟩;exact⟨_,rfl,rfl,rfl,rfl,rfl,by rw[show zt []=[]from List.Perm.eq_nil (qz [])];exact H,zac _,λ_ _ _=>rfl⟩;simp only[zbc]at o;obtain⟨z,_,rfl⟩:=o;have f:(mk B d h).heap[g]?=Td (.cells l 9 (0,0)):=E;have q:g<(mk B d h).heap.size:=(zaq.1 f).1;have F:Holds encStr (mk B d h) g 0 (xs.map lb).toArray:=holds_of_block f θ;have A:=zcp g 0 s.cap (xs.map lb) (mk B d h) F q (ο j);rw[j,<-u]at A;rw[z];refine A.mono ?_;rintro e w' ⟨rfl,n,os,rfl⟩;have b:=grownBy_sorted (w:=mk B d h) (g:=g) (n:=n) (os:=os) ((xs.map lb).mergeSort λx y=>decide (x<=y)).toArray;refine⟨_,rfl,b.os,b.tape,b.output,rfl,?_,b.size,λi hi k=>b.block i hi λe=>k _ rfl (ψ e)⟩;have t:=ownsRow_sorted (w:=mk B d h) (base:=base) (n:=n) (os:=os) (ss:=xs.map lb) (ts:=(xs.map lb).mergeSort λx y=>decide (x<=y)) ξ m f ω G (ψ C);rw[<-c,j,<-u]at t;show World.ownsRow _ base _ 1 (.slice s.a s.len s.cap) s.len _;rw[z];exact t
def MZ:zbe.underlying 144=Td (.map 9 25):=κ
def MY:zy Tp 222=Ta:=κ
def Hy:∀{xs ys:List Bt},xs.Nodup->(∀x∈xs,x∈ys)->DB xs<=DB ys
 |[],_,_,_=>zar _
 |x::xs,ys,hn,hs=>by
  rw[zdk]at hn;have c:=hs x zat;obtain⟨a,b,rfl⟩:=List.append_of_mem c;have:=Hy (ys:=a++b) hn.2 λy e=>η
  grind
structure KyS (h:zc) (m:Nat) (rec:jF) (ps:List (Bt×Value)) (g:zc) (xs:List Bt) (sl:Sl):Prop where
 ab0:BT h.size h g
 d:g[h.size+1]?=Td (.deferred (Td []))
 rc:g[h.size+2]?=Td (.loop (rec .ready Te))
 box:Blk g h.size #[aK sl]
 o:Fd g (h.size+4) 9 1 sl (xs.map za0)
 it:Vc g (h.size+3) m (Jq ps) (xs.reverse.map za0)
 nd:xs.Nodup
 sub:∀x∈xs,x∈ps.map (·.1)
 gz:h.size+4<=g.size
theorem XJ(ps:List (Bt×Value)):(Jq ps).map (·.1)=(ps.map (·.1)).map za0:=by unfold Jq;simp
def SC{ks:List Bt}(h:ks.Nodup):(ks.map za0).Nodup:=η
section
variable {h : zc} {m : Nat} {rec : jF} {ps : List (Bt × Value)} {g : zc} {xs : List Bt} {sl : Sl}
theorem KyS.round(S:KyS h m rec ps g xs sl)(hm:m<h.size)(hx:xs.length<=1000000){g1:zc}{k:Bt}(u:Vc g1 (h.size+3) m (Jq ps) ((k::xs.reverse).map za0))(Y:g1.size=g.size)(D:∀j,j≠h.size+3->g1[j]?=g[j]?)(hk:k∉xs)(N:k∈ps.map (·.1)) {V L J I:Value} (P:∀g' y,KyS h m rec ps g' (xs++[k]) y->g'[h.size+3]?=g1[h.size+3]?->g'[m]?=g1[m]?->K (ab8 Ta) g'):mq Tp 13 (mD (codeOf Tryz.f277)) (l9 (codeOf Tryz.f277)) rec (h.size+2) K [(7,[],ab5 k),(0,[],J),(1,[],I),(2,[],ab6 (ab7 h)),(4,[],L),(6,[],V)] g1:=by
 apply ja;have gz:=S.gz;have ky:=S.ab0.size;refine⟨by grind [rc],?_⟩;intro h2;have G:∀j,j≠h.size+2->h2[j]?=g1[j]?:=λj e=>qu e;have U:h2[h.size+2]?=Td (.loop (rec .busy Te)):=ST ω;have z2:h2.size=g1.size:=Array.size_setIfInBounds;clear_value h2;have t:∀j,j≠h.size+2->j≠h.size+3->h2[j]?=g[j]?:=λj a b=>(G j a).trans (D j b);have B:Blk h2 h.size #[aK sl]:=S.box.ab0 (t _ ω ω);refine⟨sl,B.cell rfl,?_⟩;intro l;have⟨z,z3,T⟩:=jo (g:=l) rfl;clear_value l;have Q:Fd h2 (h.size+4) 9 1 sl (xs.map za0):=S.o.ab0 λp c=>by have:=S.o.base_le p c;grind
 have A:=Q.keepN z;have hl:=ou S.o;refine Zh pM A (src:=⟨Td (ab7 h2),1,1⟩) (news:=[ab5 k]) (n:=l.size) ?_ rfl (by simp[pi]) η η ω λr E q1 C F q4 q5=>⟨r,rfl,?_⟩;refine .inr ⟨h2.size,0,rfl,ω,λi v q=>?_⟩
 match i,q with
 |0,q=>cases q;exact T.cell rfl
 have f:∀j,j<h.size+4->E[j]?=h2[j]?:=λj e=>by rw[F j ω λp c=>χ (A.base_le p c)];exact z.get j ω
 refine jq Bo AH (B.ab0 (f _ ω)) ξ rfl λw H Z O=>?_;have x:∀j,j<h.size+4->j≠h.size->w[j]?=h2[j]?:=λj e h0=>(O j h0).trans (f j e);have M:w[h.size+2]?=Td (.loop (rec .busy Te)):=by rw[x _ ω ω];exact U
 refine⟨M,P _ r ⟨?_,?_,ST ω,?_,?_,?_,?_,?_,?_⟩ ?_ ?_⟩;refine S.ab0.trans ⟨η,λj e=>?_⟩ (zac _);grind;grind [d];exact Blk.ab0 H (qu ω);have:Fd w (h.size+4) 9 1 r ((xs++[k]).map za0):=by rw[zbf];exact C.ab0 λp c=>by have:=C.base_le p c;grind
 exact this.ab0 λp c=>by have:=this.base_le p c;grind
 rw[List.reverse_append];refine u.ab0 ?_ ?_;simp_all;grind;grind [nd];grind [sub];grind;simp_all;grind
end
theorem X2{ps:List (Bt×Value)}(C:Blk h c #[.map (Td m)])(W:IO h m (Jq ps))(O:(ps.map (·.1)).Nodup)(hl:ps.length<=1000000) (Y:∀(h':zc) (sl:Sl) (xs:List Bt),BT h.size h h'->Fd h' h.size 9 1 sl (xs.map za0)->xs.Perm (ps.map (·.1))->K (.slice sl.a sl.len sl.cap) h'):
  XC Tp 277 #[.slice Te 0 0,.func (.func 222) #[] #[.pointer (Td ⟨c,0,Te⟩)]] h K:=by
 apply y9 ⟨Te,0,0⟩;intro h1;obtain⟨T,V,B1⟩:=jo (g:=h1) rfl;clear_value h1;have P:=W.lt;have Z:=C.lt;refine⟨_,_,rfl,MY,λrec L=>?_⟩;obtain⟨f,b⟩:∃f:zc,f=((h1.push (.deferred (Td []))).push (.loop (rec .ready Te))):=⟨_,rfl⟩;have Q:BT h1.size h1 f:=by rw[b];exact(ur _ _ (zac _)).trans (ur _ _ ξ) (zac _)
 have z4:f.size=h1.size+2:=by rw[b,zau,zau]
 have N:f[h1.size]?=Td (.deferred (Td [])):=by rw[b,Array.getElem?_push,zv ξ];exact ye _ _
 have M:f[h1.size+1]?=Td (.loop (rec .ready Te)):=by rw[b];have:=ye (h1.push (.deferred (Td []))) (.loop (rec .ready Te));rw[zau]at this;exact this
 rw[<-b];clear b;have l:BT h.size h f:=T.trans Q ω;have F:h1.size=h.size+1:=V;rw[F]at N M L ⊢;apply yv;refine⟨Td m,(C.ab0 (l.get c Z)).cell rfl,?_⟩;have W4:IO f m (Jq ps):=W.ab0 (l.get m P);refine Do MZ W4 λh5 z5 u r=>⟨Td ⟨f.size,0,Te⟩,rfl,λg=>∃xs sl,KyS h m rec ps g xs sl,λg=>OR g (h.size+3) m,⟨[],⟨Te,0,0⟩,?_⟩,?_⟩;have G:f.size=h.size+3:=ω
 rw[G]at r;exact⟨l.trans u ω,(u.get _ ω).trans N,(u.get _ ω).trans M,(B1.ab2 Q).ab0 (u.get _ ω),Fd.nil _ _ _ _,r,zee,λx i=>(by cases i),ω⟩;have G:f.size=h.size+3:=ω
 rw[G];rintro g ⟨xs,sl,S⟩;have w:((Jq ps).map (·.1)).Nodup:=by rw[XJ];exact SC O
 have y:xs.length<=1000000:=by have h1:=Hy S.nd S.sub;rw[zas]at h1;omega
 refine Bj S.it w ω (λn=>.inl ⟨rfl,(λi=>by cases i),λ_=>.inl ⟨S.rc,?_⟩⟩) λk v E U g1 z t A I vG=>.inr ⟨k,v,rfl,λ_=>?_,λi=>by cases i⟩;have aa:=S.gz;refine⟨sl,?_,?_,Y _ sl xs ?_ ?_ ?_⟩;exact(S.box.ab0 (qu ω)).cell rfl;rw[qu ω];exact S.d;refine S.ab0.trans ⟨ξ,λj hj=>?_⟩ (zac _);grind;refine(S.o.ab0 λp D=>?_).base ω;have:=S.o.base_le p D;grind;refine(List.perm_ext_iff_of_nodup S.nd O).2 λa=>⟨S.sub a,λha=>?_⟩;obtain⟨p,D,rfl⟩:=zbr.1 ha;have:=n (.string p.1,p.2) (zbr.2 ⟨p,D,rfl⟩);simp_all;obtain⟨⟨J,vv⟩,q,e⟩:=zbr.1 E;injection e with F e2;subst F;subst e2;have B:J∉xs:=λi=>U (zbr.2 ⟨J,List.mem_reverse.2 i,rfl⟩);refine CV t ⟨_,_,rfl,L ?_ ?_⟩;rw[I _ ω];exact S.rc;refine S.round P y z A I B (zbr.2 ⟨_,q,rfl⟩) λg' H S' q1 q2=>⟨Ta,rfl,(λi=>by cases i),λ_=>⟨⟨_,H,S'⟩,?_⟩⟩;grind [OR.ab0]
def Ng{ps:List (Bt×Value)}(C:Blk h c #[.map (Td m)])(W:IO h m (Jq ps))(l:(ps.map (·.1)).Nodup)(j:ps.length<=1000000) (o:∀h' sl,BT h.size h h'->Fd h' h.size 9 1 sl ((zt (ps.map (·.1))).map za0)->K (.slice sl.a sl.len sl.cap) h'):ab3 161 #[.func (.func 222) #[] #[ab6 ⟨c,0,Te⟩]] h K:=by
 apply Z5;apply Zl;refine X2 C W l j λh1 sl xs e k b=>⟨sl,rfl,sl,rfl,?_⟩;have f:xs.length<=1000000:=by rw[b.length_eq,zas];exact j
 refine XC.mono (H8 k f) ?_;rintro v h2 ⟨rfl,q,z2,n⟩;refine⟨rfl,o h2 sl ⟨zb8 e.size z2,λi hi=>?_⟩ (by rw[<-KR b];exact q)⟩;refine(n i (zda hi e.size) λp b=>?_).trans (e.get i hi);have:=(k.base_le p b).1;omega
end
section
open Go.Lib
def Th:MapT Tp 144 9 25 (.agg #[ab9 0,ab5 ⟨#[]⟩,.slice Te 0 0,.slice Te 0 0]):=⟨κ,κ,⟨Tryz.t25,κ,κ⟩⟩
def Ee(k:Bt):∀(ks:List Bt) (us:ac1) (i:Nat),DB ks=DB us->(idxFromS ks k i=-1/\il (ks.zip us) k=Te)\/∃j u,idxFromS ks k i=((i+j:Nat):Int)/\us[j]?=Td u/\il (ks.zip us) k=Td u
 |[],[],_,_=>.inl ⟨rfl,rfl⟩
 |z::ks,u::us,i,h=>by unfold idxFromS;rw[List.zip_cons_cons,il];by_cases hz:z=k;rw[zA hz];exact .inr ⟨0,u,rfl,rfl,by rw[zA hz]⟩;rw[zv hz,zv hz];rcases Ee k ks us (i+1) (ψ h)with h1|⟨j,w,h1,h2,b⟩;exact .inl h1;exact .inr ⟨j+1,w,by rw[h1];congr 1;omega,ψ h2,b⟩
 |[],_::_,_,h=>by simp at h
 |_::_,[],_,h=>by simp at h
def BC{l:List (Bt×Value)}{k:Bt}(h:k∉l.map (·.1)):il l k=Te:=by
 induction l with
 |nil=>rfl
 |cons p l b=>simp only[zbk,zal,not_or]at h;rw[il,zv (λe=>h.1 e.symm),b h.2]
theorem FH{α β:Type}{xs:List α}{ys:List β}{k:Nat}(b:k<DB xs){u:β}(c:ys.length=k):(xs.take (k+1)).zip (ys++[u])=(xs.take k).zip ys++[(xs[k],u)]:=by rw[zai b,List.zip_append φ];rfl
def AK{v:Tr}(U:v.aa8.Nodup)(hl:v.aa8.length=DB v.aa7)(hi:v.aa7.length<=1000000000000){h:zc}{M:Fr}{u:Value}(ag:AgM M h)(S:RdV M .tree v u){K:vvv} (P:∀(h':zc) (m:Nat) (us:ac1),BT h.size h h'->h.size<=m->DB us=DB v.aa7->(∀i (h1:i<DB v.aa7) (h2:i<DB us),RdV M .tree v.aa7[i] us[i])->IO h' m (Jq (v.aa8.zip us))->K (.map (Td m)) h'):ab3 142 #[u] h K:=by
 obtain⟨sk,si,rfl,D,I⟩:=qh S;have⟨A,_,_⟩:=CD D;have⟨li,_,_⟩:=CD I;apply N2 v.aa6 v.aa9 sk si;intro h1;have⟨J,z1,b1⟩:=jo (g:=h1) rfl;clear_value h1;refine⟨sk,b1.ab1 (by rfl),?_⟩;intro c;have C:BT h1.size h1 c:=ur _ _ (zac _);have N:IO c h1.size []:=IO.new _;have z3:c.size=h1.size+1:=zau _;clear_value c;have b3:=b1.ab2 C;have O:BT h.size h c:=J.trans C ω;refine⟨sk,b3.ab1 (by rfl),λx g=>∃(k:Nat) (us:ac1),x=(k:Int)/\k<=DB v.aa7/\DB us=k/\g.size=c.size/\(∀j,j≠h1.size->g[j]?=c[j]?)/\(∀i (h1:i<DB v.aa7) (h2:i<DB us),RdV M .tree v.aa7[i] us[i])/\IO g h1.size (Jq ((v.aa8.take k).zip us)),λx _=>DB v.aa7-x.toNat,⟨0,[],rfl,zar _,rfl,rfl,λ_ _=>rfl,λi _ h2=>ι h2,by simpa[Jq]using N⟩,?_⟩;rintro x g ⟨k,us,rfl,hk,l,Z,y,F,w⟩;have B:BT h.size h g:=⟨ω,λj r=>by rw[y j ω];exact O.get j r⟩;have agg:=ag.ab0 B;refine⟨λq=>?_,λq=>?_⟩;have b:k<DB v.aa8:=by rw[A]at q;simp at q;omega
 have o:k<DB v.aa7:=ω
 refine ke agg D b rfl rfl ?_;have Q:Blk g h.size (zl v.aa6 v.aa9 sk si).toArray:=b3.ab0 (y _ ω);have⟨a,E,G,Y,z,L,V⟩:=Qs agg I o;refine⟨si,Q.ab1 (by rfl),a,⟨Y,ω,ω⟩,v.aa7[k].aa6,v.aa7[k].aa9,E,G,?_,?_⟩;rw[zag];exact z;refine Ln Th w v.aa8[k] _ λg' n T t=>?_;rw[qd o ω];refine⟨⟨k+1,us++[.agg #[ab9 v.aa7[k].aa6,ab5 v.aa7[k].aa9,aK E,aK G]],rfl,ω,φ,ω,λj r=>(t j r).trans (y j r),λi h1 h2=>?_,?_⟩,by simp only[zag];omega⟩;rw[List.getElem_append];split;rename_i c;exact F i h1 c;rename_i c;have:i=k:=ν h2
 subst this;simp only[l,Nat.sub_self,List.getElem_cons_zero];exact zw L V;rw[FH b l];have f:il ((v.aa8.take k).zip us) v.aa8[k]=Te:=BC λH=>by
  rw[List.map_fst_zip φ]at H;have p:=U;have e:v.aa8=v.aa8.take k++v.aa8[k]::v.aa8.drop (k+1):=by rw[<-zbg b,zbz]
  rw[e,zdg]at p;exact p.2.2 _ H _ zat rfl
 rw[W0 f]at n;exact n;have b:k=DB v.aa8:=by rw[A]at q;simp at q;omega
 subst b;rw[za2]at w;exact P g h1.size us B ω ω F w
end
section
open Go.RowKit
variable {ks:List Bt}
theorem Fd.frz{h g:zc}{M M':Fr}(L:At h M g M'){s:Sl}{base:Nat}(o:Fd g base 9 1 s (ks.map za0))(hb:h.size<=base)(C:ks.length<=1000000):∃k,At h M g k/\(∀c,c<base->k c=M' c)/\Rd k (.row .str) ks [aK s]:=by
 have n:=ou o;obtain⟨j,h0⟩|⟨b,cap,f,j,m,p,A,B,z,r⟩:=o.2;have l:ks=[]:=za4 ω;subst l;simp only[zbc]at j;refine⟨M',L,λ_ _=>rfl,⟨_,rfl,s.a,s.cap,?_,⟨ξ,ξ⟩,.inl rfl⟩⟩;show aK s=_;unfold aK;rw[h0];rfl;simp only[zbc]at j;have⟨u,_,y⟩:=j;have w:Blk g b f:=⟨_,p⟩;refine⟨MxL M' g [b],⟨L.ab0,L.le.trans (oN L.ag _),λx l=>?_,MxL.ag L.ag _⟩,λc y=>?_,⟨_,rfl,s.a,s.cap,?_,⟨ω,ω⟩,.inr ⟨b,0,f,u,MxL.at ξ w,λi hi=>?_⟩⟩⟩;unfold MxL;rw[zv φ];exact L.old x l;unfold MxL;grind;show aK s=_;unfold aK;rw[n];show cut f (0+i*1) 1=[ab5 ks[i]];apply zbm;intro q;rw[qt];by_cases t:q<1;have:q=0:=ω
 subst this;rw[zA t];have e:(f.toList.take (s.len*1))[i]?=(ks.map za0)[i]?:=ϕ r
 grind;simp_all
structure SrS (h:zc) (M:Fr) (r o lo:Nat) (k:Int) (s:Bt) (sk:Sl) (xs:List Tr) (g:zc) (M':Fr) (so:Sl) (bs:List Nat):Prop where
 L:At h M g M'
 res:Blk g r #[.int .i64 0,.string ⟨#[]⟩,.slice Te 0 0,.slice Te 0 0]
 out:Blk g o #[.int .i64 k,.string s,aK sk,aK so]
 row:GT lo g M' .tree xs so bs
 nO:M' o=Te
 nR:M' r=Te
 hr:h.size<=r
 ro:r<o
 ol:o<lo
 lg:lo<=g.size
section
variable {h : zc} {M : Fr} {r o lo : Nat} {k : Int} {s : Bt} {sk : Sl} {xs : List Tr} {g : zc} {M' : Fr} {so : Sl} {bs : List Nat}
theorem SrS.add(S:SrS h M r o lo k s sk xs g M' so bs)(hn:xs.length<=1000000){g1:zc}{u:Fr}(m:At g M' g1 u){x:Tr}{xk xi:Sl}(O:RdV u .tree x (.agg #[ab9 x.aa6,ab5 x.aa9,aK xk,aK xi])){K:zc->Prop}(hK:∀g' so' a,SrS h M r o lo k s sk (xs++[x]) g' u so' a->(∀j,j<lo->j≠o->g'[j]?=g[j]?)->K g'):let i:=g1.push (.cells #[ab9 x.aa6,ab5 x.aa9,aK xk,aK xi] 25)
 qq Tp (zaj #[23,23] 23 #[aK so,.slice (Td (ab7 g1)) 1 1]) i (λv n=>∃z:Sl,v=aK z/\CA Tp (zae 23 (.pointer (Td (zab ⟨o,0,Te⟩ 3))) (aK z)) n K):=by
 intro i;have⟨B,Z,P⟩:=jo (g:=i) rfl;clear_value i;have z1:=m.ab0.size;have N:=S.hr;have I:=S.ro;have y:=S.ol;have aa:=S.lg;have p:At g M' i u:=m.trans (v0 m.ag B);have t:=S.row.call p;have rd:Rd u .tree x [ab9 x.aa6,ab5 x.aa9,aK xk,aK xi]:=by
  unfold RdV at O;simp only[ig,if_true]at O;have⟨cs,e,N⟩:=O;injection e with e;have:cs=[ab9 x.aa6,ab5 x.aa9,aK xk,aK xi]:=by have:=congrArg zd7 e;simpa using this.symm
  rw[<-this];exact N
 refine GT.app uU ω p.ag t ω P rd hn λQ n a l U Y C=>⟨Q,rfl,?_⟩;have F:∀c∈bs,lo<=c/\c<g.size/\M' c=Te:=S.row.own;have q:∀j,j<lo->n[j]?=g[j]?:=λj D=>by rw[C j ω (λT=>η),B.get j ω];exact m.ab0.get j ω
 rw[zh];refine jq CW A7 (S.out.ab0 (q o y)) ξ rfl λw V u3 J=>?_;have f:∀j,j<lo->j≠o->w[j]?=g[j]?:=λj D h0=>(J j h0).trans (q j D);have A:∀c∈a,lo<=c/\c<n.size/\u c=Te:=l.own;have hg:=S.L.ab0.size;refine hK w Q a ⟨⟨⟨ω,λj D=>?_⟩,S.L.le.trans m.le,λb hb=>?_,?_⟩,?_,V,?_,?_,?_,N,I,y,ω⟩ f;rw[f j ω ω];exact S.L.ab0.get j D;rw[m.old b ω];exact S.L.old b hb;intro c cs e;have E:=p.ag.lt e;have H:c∉bs:=λT=>by have⟨_,h1,h2⟩:=F c T;rw[m.old c h1,h2]at e;cases e
 have G:c≠o:=λh=>by subst h;rw[m.old c ω,S.nO]at e;cases e
 rw[J c G,C c E H];exact p.ag c cs e;exact S.res.ab0 (f r ω ω);exact l.frame (λc E=>J c η) (Fr.le.refl _) λc E=>(A c E).2.2;rw[m.old o ω];exact S.nO;rw[m.old r ω];exact S.nR
theorem SrS.fin(S:SrS h M r o lo k s sk xs g M' so bs)(N:xs.length<=1000000)(H:Rd M' (.row .str) ks [aK sk]){w:Tr}(J:Tr.mk k s ks xs=w):∃(D:Int) (A:Bt) (u t:Sl),ze g ⟨o,0,Te⟩ 0 [ab9 D,ab5 A,aK u,aK t]/\CA Tp (zae 25 (ab6 ⟨r,0,Te⟩) (.agg #[ab9 D,ab5 A,aK u,aK t])) g λi=>∃(x:Int) (E:Bt) (y B:Sl),ze i ⟨r,0,Te⟩ 0 [ab9 x,ab5 E,aK y,aK B]/\∃z q,At h M i z/\Yx z [.tree] q (.agg #[ab9 x,ab5 E,aK y,aK B])/\q=w:=by
 refine⟨k,s,sk,so,S.out.ld (cs:=[_,_,aK sk,aK so]),?_⟩;refine Q8 S.res λg2 p z2 P=>⟨k,s,sk,so,P.ld (cs:=[_,_,aK sk,aK so]),?_⟩;have Q:=S.hr;have G:=S.ro;have F:=S.ol;have I:=S.lg;have n:∀c∈bs,lo<=c/\c<g.size/\M' c=Te:=S.row.own;have f:AgM M' g2:=λc cs e=>by rw[p c (λh=>by grind [nR])];exact S.L.ag c cs e
 have l:GT lo g2 M' .tree xs so bs:=S.row.frame (λc m=>p c η) (Fr.le.refl _) λc m=>(n c m).2.2;have C:At h M g2 M':=⟨⟨ω,λj O=>by rw[p j ω];exact S.L.ab0.get j O⟩,S.L.le,S.L.old,f⟩;refine⟨MxL M' g2 bs,_,⟨C.ab0,C.le.trans (oN f bs),λb hb=>?_,MxL.ag f bs⟩,Qr.2 (zw (v:=.mk k s ks xs) (H.mono (oN f bs)) (l.rd f (λc m=>m) N)),J⟩;unfold MxL;rw[zv (λT=>η)];exact S.L.old b hb
end
def Hp:∀(n:Nat) (v:Tr),n<=1000000->cK v<=n->Zo zm v=Ta->Sm v->∀(h:zc) (M:Fr) (u:Value),AgM M h->RdV M .tree v u->PX Tp 101 #[u] h M [.tree] (λq=>q=zj v)
 |0,v,_,hz,_,_=>χ (wa v)
 |n+1,v,hn,hz,hok,hsm=>by
  intro h M u ag hu;have aM:=hu;obtain⟨sk,si,rfl,rk,ri⟩:=qh hu;have f:=hok;rw[Zb,zaw]at f;have a7:v.aa7.length<=1000000:=by have:=we v.aa7;rw[jr]at hz;omega
  have ih:∀(i:Nat) (hi:i<DB v.aa7) (h:zc) (M:Fr) (u:Value),AgM M h->RdV M .tree v.aa7[i] u->PX Tp 101 #[u] h M [.tree] (λq=>q=zj v.aa7[i]):=λi hi=>by
   have hm:=zak hi;have hs:=qi hm;have ah:Zo zm v.aa7[i]=Ta:=by rw[jl,zbl]at f;exact f.2 _ hm
   exact Hp n v.aa7[i] ω ω ah (hsm.item hm)
  have⟨li,_,_⟩:=CD ri;apply PX.of;apply zmq v.aa6 v.aa9 sk si;intro h1;have⟨k1,z1,B1⟩:=jo (g:=h1) rfl;clear_value h1;intro h2;have⟨k2,z2,R2⟩:=jo (g:=h2) rfl;clear_value h2;have B2:=B1.ab2 k2;refine⟨v.aa6,B2.ab1 (o:=0) (k:=0) rfl,v.aa9,B2.ab1 (o:=0) (k:=1) rfl,?_⟩;intro h5;have⟨k5,z5,O5⟩:=jo (g:=h5) rfl;clear_value h5;refine Q8 (sk:=⟨Te,0,0⟩) (si:=⟨Te,0,0⟩) O5 λV f6 z6 O6=>?_;have k6:BT h2.size h2 V:=⟨ω,λj C=>by rw[f6 j ω];exact k5.get j C⟩;have G:BT h.size h V:=(k1.trans k2 ω).trans k6 ω;have B6:=B2.ab2 k6;have R6:=R2.ab2 k6;have az:=ag.ab0 G;refine⟨v.aa6,B6.ab1 (o:=0) (k:=0) rfl,λhx=>?_,λhx=>?_⟩;have V:v.aa6≠6:=ψ hx
  have hS:zj v=.mk v.aa6 v.aa9 [] (v.aa7.map zj):=by rw[Qh,zv V]
  refine⟨si,B6.ab1 (o:=0) (k:=3) rfl,λi g=>∃(m:Nat) (M':Fr) (so:Sl) (bs:ac0),i=(m:Int)/\m<=DB v.aa7/\SrS h M h1.size h2.size (h2.size+1) v.aa6 v.aa9 ⟨Te,0,0⟩ ((v.aa7.take m).map zj) g M' so bs,λi _=>DB v.aa7-i.toNat,⟨0,M,⟨Te,0,0⟩,[],rfl,zar _,⟨v0 ag G,R6,O6,GT.nil,ag.none ω,ag.none ω,ω,ω,ω,ω⟩⟩,?_⟩;rintro i g ⟨m,M',so,bs,rfl,hm,S⟩;have r:=S.L.ag;refine⟨λI=>?_,λI=>?_⟩;have b:m<DB v.aa7:=χ (zH I)
  have⟨a,ck,ci,ea,aJ,t1,t2⟩:=Qs r (ri.mono S.L.le) b;refine⟨a,⟨ea,ω,ω⟩,v.aa7[m].aa6,v.aa7[m].aa9,ck,ci,by rw[zag];exact aJ,?_⟩;intro ak;have⟨aE,aV,aB⟩:=jo (g:=ak) rfl;clear_value ak;refine Q8 aB λT aC aT aH=>?_;have an:BT g.size g T:=⟨ω,λj C=>by rw[aC j ω];exact aE.get j C⟩;have aZ:=S.out.lt;refine⟨so,(S.out.ab2 an).ab1 (o:=0) (k:=3) rfl,v.aa7[m].aa6,v.aa7[m].aa9,ck,ci,aH.ld (cs:=[_,_,aK ck,aK ci]),?_⟩;have am:At g M' T M':=v0 r an;refine(ih m b _ _ _ am.ag (zw t1 t2)).go λw aN H q D t hq=>?_;subst hq;obtain⟨xk,xi,rfl,y1,y2⟩:=qh (Qr.1 t);have aU:=D.ab0.size;have ho:aN[h2.size]?=T[h2.size]?:=D.ab0.get _ ω;refine⟨_,_,xk,xi,rfl,by rw[zh];exact ho,?_⟩;intro a8;refine⟨by rw[zh];grind,S.add η (am.trans D) (zw y1 y2) λg' s d S' _=>⟨⟨m+1,H,s,d,by rw[qd b ω],b,?_⟩,?_⟩⟩;rw[zai b,zbf];exact S';grind [qd];have b:m=DB v.aa7:=χ (zI I)
  subst b;rw[za2]at S;exact S.fin θ jI hS.symm;have O:v.aa6=6:=ψ hx
  have hS:zj v=.mk v.aa6 v.aa9 (zt v.aa8) ((zt v.aa8).map λq=>jB (v.aa8.zip (v.aa7.map zj)) q):=by rw[Qh,zA O]
  have l:=f.1;have aG:v.aa8.Nodup:=by unfold zm yj at l;simp[O]at l;exact l.1.1.2
  have aD:v.aa8.length=DB v.aa7:=by unfold zm at l;simp[O]at l;exact l.1.2
  refine⟨v.aa6,v.aa9,sk,si,B6.ld (cs:=[_,_,aK sk,aK si]),?_⟩;refine AK aG aD ω az aM λbr m us ae aS bu aQ aj=>⟨Td m,rfl,?_⟩;have bn:=ae.size;apply yy;intro U;have⟨Z,a6,ax⟩:=jo (g:=U) rfl;clear_value U;have J:IO U m (Jq (v.aa8.zip us)):=aj.ab0 (Z.get m aj.lt);have aA:(v.aa8.zip us).map (·.1)=v.aa8:=List.map_fst_zip ω;refine⟨_,rfl,Ng ax J η φ λE sl F al=>⟨sl,rfl,?_⟩⟩;rw[aA]at al;have bg:=F.size;have bj:(zt v.aa8).length=DB v.aa8:=Bi _;have z:BT V.size V E:=(ae.trans Z ω).trans F ω;have ac:BT h.size h E:=G.trans z ω;have⟨H,D,B,N⟩:=Fd.frz (v0 ag ac) al ω ω;have aP:Blk E h2.size #[ab9 v.aa6,ab5 v.aa9,aK ⟨Te,0,0⟩,aK ⟨Te,0,0⟩]:=O6.ab0 (z.get _ ω);have ar:H h2.size=Te:=by rw[B _ ω];exact ag.none ω
  have aO:H h1.size=Te:=by rw[B _ ω];exact ag.none ω
  rw[zh];refine jq uB vM aP ξ rfl λy aa be A=>?_;have au:At h M y H:=⟨⟨ω,λj C=>by rw[A j ω];exact D.ab0.get j C⟩,D.le,D.old,λc cs e=>by rw[A c (λh=>θ)];exact D.ag c cs e⟩;have ab:IO y m (Jq (v.aa8.zip us)):=J.ab0 ((A m ω).trans (F.get m J.lt));have af:=ab.lt;refine⟨sl,Blk.cell (o:=2) aa rfl,λi g=>∃(p:Nat) (M':Fr) (so:Sl) (bs:ac0),i=(p:Int)/\p<=(zt v.aa8).length/\SrS h M h1.size h2.size y.size v.aa6 v.aa9 sl (((zt v.aa8).take p).map λq=>jB (v.aa8.zip (v.aa7.map zj)) q) g M' so bs/\Fr.le H M'/\(∀j,j<y.size->j≠h2.size->g[j]?=y[j]?),λi _=>(zt v.aa8).length-i.toNat,⟨0,H,⟨Te,0,0⟩,[],rfl,zar _,⟨au,R6.ab0 ((A _ ω).trans (z.get _ ω)),aa,GT.nil,ar,aO,ω,ω,ω,zac _⟩,Fr.le.refl _,λ_ _ _=>rfl⟩,?_⟩;have⟨ba,_,_⟩:=CD N;rintro i g ⟨p,M',so,bs,rfl,hp,S,P,fg⟩;have r:=S.L.ag;refine⟨λI=>?_,λI=>?_⟩;have b:p<(zt v.aa8).length:=χ (zH I)
  have⟨a,aF,x,aI,ay⟩:=ke r (N.mono P) b (i:=(p:Int)) rfl (L:=sl.len) rfl (Q:=λx=>x=(zt v.aa8)[p]) rfl;subst ay;refine⟨a,aF,(zt v.aa8)[p],aI,so,S.out.ab1 (o:=0) (k:=3) rfl,?_⟩;have aL:(zt v.aa8)[p]∈v.aa8:=(qz v.aa8).mem_iff.1 (zak b);have⟨j,j1,j2,e1,e2,e3⟩:=uT (zt v.aa8)[p] v.aa8 (v.aa7.map zj) θ aL;rw[zas]at j2;have ai:j<DB us:=ω
  have⟨ck,ci,eu,t1,t2⟩:=qh (aQ j j2 ai);have wg:IO g m (Jq (v.aa8.zip us)):=ab.ab0 (fg m af ω);refine⟨v.aa7[j].aa6,v.aa7[j].aa9,ck,ci,?_,rfl,?_⟩;have:=Yu Th wg.at (zt v.aa8)[p] Tc;have eg:jX (v.aa8.zip us) (zt v.aa8)[p] (.agg #[ab9 0,ab5 ⟨#[]⟩,.slice Te 0 0,.slice Te 0 0])=us[j]:=by unfold jX;rw[e3 us ω,zam ai];rfl
  rw[zv ξ,eg,eu]at this;exact this;refine(ih j j2 _ _ _ r (zw (t1.mono S.L.le) (t2.mono S.L.le))).go λw Y M3 q L3 t hq=>?_;subst hq;obtain⟨xk,xi,rfl,y1,y2⟩:=qh (Qr.1 t);have bq:=L3.ab0.size;have aY:=S.lg;have ho:Y[h2.size]?=g[h2.size]?:=L3.ab0.get _ ω;refine⟨_,_,xk,xi,rfl,by rw[zh];exact ho,?_⟩;intro bm;refine⟨by rw[zh];exact((ur Y _ (zac _)).get h2.size ω).trans ho,S.add η L3 (zw y1 y2) λg' s d S' f'=>⟨⟨p+1,M3,s,d,by rw[qd b ω],b,?_,P.trans L3.le,λj C h0=>(f' j C h0).trans (fg j C h0)⟩,?_⟩⟩;rw[zai b,zbf,zbk,List.map_nil,e2,zcx];exact S';show(zt v.aa8).length-(w6 ((p:Int)+1)).toNat<(zt v.aa8).length-(p:Int).toNat;rw[qd b ω];omega;have b:p=(zt v.aa8).length:=χ (zI I)
  subst b;rw[za2]at S;exact S.fin θ (N.mono P) hS.symm
end
section
open Go.RowKit
section
def OC{gl:Fr}(P:GL gl){v:Tr}(I:Sm v){R:Tr->Prop}(n:R (ym v)):ab4 gl 56 [up .tree v] [.tree] R:=by
 intro h M vs N ag ha
 match vs,ha with
 |[u],⟨A,_⟩=>
  have A:RdV M .tree v u:=A;have x:=A;obtain⟨sk,si,rfl,rk,ri⟩:=qh A;apply PX.of;apply P7 v.aa6 v.aa9 sk si;intro h1;have⟨J,z1,Z⟩:=jo (g:=h1) rfl;clear_value h1;intro h2;have⟨k2,z2,Q⟩:=jo (g:=h2) rfl;clear_value h2;have F:=Z.ab2 k2;have D:BT h.size h h2:=J.trans k2 ω;have H:At h M h2 M:=v0 ag D;refine⟨v.aa6,v.aa9,sk,si,F.ld (cs:=[_,_,aK sk,aK si]),?_⟩;refine(vQ P I (R:=λr=>r=wm v) rfl).go (vs:=[.agg #[ab9 v.aa6,ab5 v.aa9,aK sk,aK si]]) N H.ag (zo x qc) λw U C r m o V=>?_;subst V;have z8:=m.ab0.size;have G:=Q.ab0 (m.ab0.get h1.size ω);have B8:=F.ab0 (m.ab0.get h.size ω);have E:C h1.size=Te:=by rw[m.old _ ω];exact ag.none ω
  have y:=H.trans m;have stay:∀{g g':zc} {M':Fr},At h M g M'->M' h1.size=Te->(∀j,j≠h1.size->g'[j]?=g[j]?)->g'.size=g.size->At h M g' M':=λ {g g' M'} L hn f z=>⟨⟨χ L.ab0.size,λj hj=>by rw[f j ω];exact L.ab0.get j hj⟩,L.le,L.old,λc cs e=>by rw[f c (λh=>by subst h;rw[hn]at e;cases e)];exact L.ag c cs e⟩;refine⟨_,Jb o,λb=>?_,λb=>?_⟩;have b:wm v=Tc:=ψ b
  unfold ym at n;rw[zv (υ b)]at n;refine Q8 (k:=0) (s:=⟨#[]⟩) (sk:=⟨Te,0,0⟩) (si:=⟨Te,0,0⟩) G λg f z B=>⟨_,_,_,_,B.ld (cs:=[ab9 0,ab5 ⟨#[]⟩,aK ⟨Te,0,0⟩,aK ⟨Te,0,0⟩]),?_⟩;exact⟨C,_,stay y E f z,Qr.2 (zw (v:=.mk 0 (bl []) [] []) jI jI),n⟩;have b:wm v=Ta:=ψ b
  unfold ym at n;rw[zA b]at n;unfold wm xa at b;simp only[zaw,zG]at b;refine⟨v.aa6,v.aa9,sk,si,B8.ld (cs:=[_,_,aK sk,aK si]),?_⟩;refine(Hp (cK v) v ω (zac _) b.2 I U C _ m.ag (RdV.mono m.le x)).go λw T p q i l S=>?_;subst S;obtain⟨xk,xi,rfl,O,y2⟩:=qh (Qr.1 l);have Y:=i.ab0.size;refine⟨_,_,xk,xi,rfl,?_⟩;refine Q8 (G.ab0 (i.ab0.get h1.size ω)) λg f z B=>⟨_,_,xk,xi,B.ld (cs:=[_,_,aK xk,aK xi]),?_⟩;have t:p h1.size=Te:=by rw[i.old _ ω];exact E
  exact⟨p,_,stay (y.trans i) t f z,Qr.2 (zw O y2),n⟩
end
end
section
open Go.RowKit
section
variable {h h' h'':zc} {M M' M'':Fr} {bs bs' b1 b2:List Nat} {b lo bv:Nat} {K:Value -> zc -> Prop}
theorem At.own{h g:zc}(L:At h M g M')(hb:∀c∈bs,h.size<=c):At h M g (MxL M' g bs):=by
 refine⟨L.ab0,L.le.trans (oN L.ag bs),λc b=>?_,MxL.ag L.ag bs⟩;have e:c∉bs:=λf=>η
 rw[<-L.old c b];unfold MxL;rw[zv e]
structure Grw (h:zc) (M:Fr) (b:Nat) (bs:List Nat) (h':zc) (M':Fr) (bs':List Nat):Prop where
 grow:h.size<=h'.size
 le:Fr.le M M'
 old:∀c,c<h.size->M' c=M c
 ag:AgM M' h'
 fr:∀j,j<h.size->j≠b->j∉bs->h'[j]?=h[j]?
 nw:∀c∈bs',c∈bs\/h.size<=c
theorem Grw.refl(ag:AgM M h):Grw h M b bs h M bs:=⟨zac _,Fr.le.refl _,λ_ _=>rfl,ag,λ_ _ _ _=>rfl,λ_ c=>.inl c⟩
theorem Grw.trans{bs bs' e:ac0}(A:Grw h M b bs h' M' bs')(B:Grw h' M' b bs' h'' M'' e):Grw h M b bs h'' M'' e:=by have m:=A.grow;refine⟨zb8 A.grow B.grow,A.le.trans B.le,λc f=>(B.old c ω).trans (A.old c f),B.ag,λj l h0 i=>(B.fr j ω h0 λk=>?_).trans (A.fr j l h0 i),λc f=>?_⟩;obtain h|h:=A.nw j k;exact i h;omega;obtain h|h:=B.nw c f;exact A.nw c h;exact .inr ω
theorem Grw.call(A:Grw h M b bs h' M' bs')(L:At h' M' h'' M''):Grw h M b bs h'' M'' bs':=by have k:=A.grow;exact⟨zb8 A.grow L.ab0.size,A.le.trans L.le,λc f=>(L.old c ω).trans (A.old c f),L.ag,λj e h0 i=>(L.ab0.get j ω).trans (A.fr j e h0 i),A.nw⟩
theorem Grw.ofCall(L:At h M h' M')(A:Grw h' M' b bs h'' M'' bs')(hb:∀c∈bs,c<h.size):Grw h M b bs h'' M'' bs':=by have i:=L.ab0.size;refine⟨zb8 i A.grow,L.le.trans A.le,λc e=>(A.old c ω).trans (L.old c e),A.ag,λj f h0 k=>(A.fr j ω h0 k).trans (L.ab0.get j f),λc e=>?_⟩;grind [nw]
structure TbS (lo:Nat) (h:zc) (M:Fr) (b:Nat) (S:List (Bt×Int)) (sl sf:Sl) (b1 b2:List Nat):Prop where
 box:Blk h b #[aK sl,aK sf]
 r1:GT lo h M .str (S.map (·.1)) sl b1
 r2:GT lo h M (.int .i64) (S.map (·.2)) sf b2
 dj:∀c∈b1,c∉b2
 n1:b∉b1
 n2:b∉b2
 nM:M b=Te
 lb:lo<=b
def Tb(lo:Nat)(h:zc)(M:Fr)(b:Nat)(S:List (Bt×Int))(bs:List Nat):Prop:=∃sl sf b1 b2,bs=b1++b2/\TbS lo h M b S sl sf b1 b2
theorem TbS.call{S:List (Bt×Int)}{sl sf:Sl}(B:TbS lo h M b S sl sf b1 b2)(L:At h M h' M'):TbS lo h' M' b S sl sf b1 b2:= ⟨B.box.ab0 (L.ab0.get b B.box.lt),B.r1.call L,B.r2.call L,B.dj,B.n1,B.n2,(L.old b B.box.lt).trans B.nM,B.lb⟩
theorem Tb.call{S:List (Bt×Int)}(B:Tb lo h M b S bs)(L:At h M h' M'):Tb lo h' M' b S bs:=by have⟨sl,sf,b1,b2,e,B⟩:=B;exact⟨sl,sf,b1,b2,e,B.call L⟩
theorem Tb.lt{S:List (Bt×Int)}(B:Tb lo h M b S bs):∀c∈bs,c<h.size:=by obtain⟨sl,sf,b1,b2,rfl,B⟩:=B;intro c e;obtain h|h:=zav.1 e;exact(B.r1.own c h).2.1;exact(B.r2.own c h).2.1
theorem Tb.ltb{S:List (Bt×Int)}(B:Tb lo h M b S bs):b<h.size:=by obtain⟨sl,sf,b1,b2,rfl,B⟩:=B;exact B.box.lt
structure AdM (lo:Nat) (h:zc) (M:Fr) (b:Nat) (sl sf:Sl) (b0:List Nat) (g:zc) (X:List Bt) (s1:Sl) (c1:List Nat) (Y:List Int) (s2:Sl) (c2:List Nat):Prop where
 box:Blk g b #[aK sl,aK sf]
 r1:GT lo g M .str X s1 c1
 r2:GT lo g M (.int .i64) Y s2 c2
 dj:∀c∈c1,c∉c2
 n1:b∉c1
 n2:b∉c2
 gr:h.size<=g.size
 bh:b<h.size
 fr:∀j,j<h.size->j≠b->j∉b0->g[j]?=h[j]?
 w1:∀c∈c1,c∈b0\/h.size<=c
 w2:∀c∈c2,c∈b0\/h.size<=c
 ag:AgM M g
 nM:M b=Te
 lb:lo<=b
section
variable {lo : Nat} {h g : zc} {M : Fr} {b : Nat} {sl sf : Sl} {b0 : List Nat} {X : List Bt} {s1 : Sl} {c1 : List Nat} {Y : List Int} {s2 : Sl} {c2 : List Nat}
theorem AdM.start{S:List (Bt×Int)}(B:TbS lo h M b S sl sf b1 b2)(ag:AgM M h):AdM lo h M b sl sf (b1++b2) h (S.map (·.1)) sl b1 (S.map (·.2)) sf b2:= ⟨B.box,B.r1,B.r2,B.dj,B.n1,B.n2,zac _,B.box.lt,λ_ _ _ _=>rfl,λc e=>.inl (zap _ e),λc e=>.inl (zaz _ e),ag,B.nM,B.lb⟩
theorem AdM.push(D:AdM lo h M b sl sf b0 g X s1 c1 Y s2 c2)(o:Obj):AdM lo h M b sl sf b0 (g.push o) X s1 c1 Y s2 c2:=by have k:BT g.size g (g.push o):=ur _ _ (zac _);have l:=D.gr;have hz:(g.push o).size=g.size+1:=zau _;refine⟨D.box.ab2 k,D.r1.frame (λc e=>k.get c (D.r1.own c e).2.1) (Fr.le.refl _) λc e=>(D.r1.own c e).2.2,D.r2.frame (λc e=>k.get c (D.r2.own c e).2.1) (Fr.le.refl _) λc e=>(D.r2.own c e).2.2,D.dj,D.n1,D.n2,ω,D.bh,λj i h0 f=>(k.get j ω).trans (D.fr j i h0 f),D.w1,D.w2,D.ag.ab0 k,D.nM,D.lb⟩
theorem AdM.lab(D:AdM lo h M b sl sf b0 g X s1 c1 Y s2 c2)(p:lo<=h.size)(n:X.length<=1000000){x:Bt}(q:Blk g bv #[ab5 x]) (t:∀(l:Sl) (g':zc) (m:ac0),AdM lo h M b sl sf b0 g' (X++[x]) l m Y s2 c2->g.size<=g'.size->(∀j,j<g.size->j∉c1->g'[j]?=g[j]?)->K (aK l) g'):qq Tp (zaj #[22,22] 22 #[aK s1,.slice (Td ⟨bv,0,Te⟩) 1 1]) g K:=by have u:=D.gr;refine GT.app Bc ω D.ag D.r1 ω (vs:=[ab5 x]) q rfl n λl g' m r z w f=>t l g' m ⟨D.box.ab0 (f b D.box.lt D.n1),r,D.r2.frame (λc k=>f c (D.r2.own c k).2.1 λi=>D.dj c i k) (Fr.le.refl _) λc k=>(D.r2.own c k).2.2,λc k i=>?_,λi=>?_,D.n2,ω,D.bh,λj o h0 n=>(f j ω λi=>?_).trans (D.fr j o h0 n),λc k=>?_,D.w2,λc cs e=>?_,D.nM,D.lb⟩ z f;obtain h|h:=w c k;exact D.dj c h i;have:=(D.r2.own c i).2.1;omega;obtain h|h:=w b i;exact D.n1 h;have:=D.bh;omega;grind [w1];grind [w1];have k:=D.ag.lt e;rw[f c k λi=>by have:=(D.r1.own c i).2.2;simp_all];exact D.ag c cs e
theorem AdM.lef(D:AdM lo h M b sl sf b0 g X s1 c1 Y s2 c2)(p:lo<=h.size)(n:Y.length<=1000000){x:Int}(q:Blk g bv #[ab9 x]) (t:∀(l:Sl) (g':zc) (m:ac0),AdM lo h M b sl sf b0 g' X s1 c1 (Y++[x]) l m->g.size<=g'.size->(∀j,j<g.size->j∉c2->g'[j]?=g[j]?)->K (aK l) g'):qq Tp (zaj #[29,29] 29 #[aK s2,.slice (Td ⟨bv,0,Te⟩) 1 1]) g K:=by have u:=D.gr;refine GT.app oO ω D.ag D.r2 ω (vs:=[ab9 x]) q rfl n λl g' m r z w f=>t l g' m ⟨D.box.ab0 (f b D.box.lt D.n2),D.r1.frame (λc i=>f c (D.r1.own c i).2.1 λk=>D.dj c i k) (Fr.le.refl _) λc i=>(D.r1.own c i).2.2,r,λc i k=>?_,D.n1,λk=>?_,ω,D.bh,λj o h0 n=>(f j ω λk=>?_).trans (D.fr j o h0 n),D.w1,λc i=>?_,λc cs e=>?_,D.nM,D.lb⟩ z f;obtain h|h:=w c k;exact D.dj c i h;have:=(D.r1.own c i).2.1;omega;obtain h|h:=w b k;exact D.n2 h;have:=D.bh;omega;grind [w2];grind [w2];have i:=D.ag.lt e;rw[f c i λk=>by have:=(D.r2.own c k).2.2;simp_all];exact D.ag c cs e
def FU:yf Tp 29=Ta:=κ
def EL:yo Tp 29=1:=κ
theorem AdM.fin(D:AdM lo h M b sl sf b0 g X s1 c1 Y s2 c2){S:List (Bt×Int)}(m:X=S.map (·.1))(t:Y=S.map (·.2)){K:zc->Prop}(q:∀g' bs',Grw h M b b0 g' M bs'->Tb lo g' M b S bs'->K g'):CA Tp (zae 22 (.pointer (Td (zab (zab ⟨b,0,Te⟩ 0) 0))) (aK s1)) g λg1=>CA Tp (zae 29 (.pointer (Td (zab (zab ⟨b,0,Te⟩ 0) 1))) (aK s2)) g1 K:=by subst m;subst t;have u:=D.gr;rw[SW,SW,zh];refine jq uB vM D.box ξ rfl λg1 l w p=>?_;refine jq FU EL l ξ rfl λg2 r z2 o=>?_;have f:∀j,j≠b->g2[j]?=g[j]?:=λj k=>(o j k).trans (p j k);refine q g2 (c1++c2) ⟨ω,Fr.le.refl _,λ_ _=>rfl,λc cs e=>?_,λj k h0 n=>(f j h0).trans (D.fr j k h0 n),λc i=>?_⟩ ⟨s1,s2,c1,c2,rfl,r,D.r1.frame (λc i=>f c λe=>D.n1 (e ▸ i)) (Fr.le.refl _) λc i=>(D.r1.own c i).2.2,D.r2.frame (λc i=>f c λe=>D.n2 (e ▸ i)) (Fr.le.refl _) λc i=>(D.r2.own c i).2.2,D.dj,D.n1,D.n2,D.nM,D.lb⟩;rw[f c λh=>by grind [nM]];exact D.ag c cs e;obtain h|h:=zav.1 i;exact D.w1 c h;exact D.w2 c h
end
end
section
variable {M:Fr} {a b:Ty} {h g:zc} {n bo bt i:Nat} {ts:Sl} {ct:Array Value}
def oI{x:El (.row a)×El (.row b)}{u:Value}(h:RdV M (.pair (.row a) (.row b)) x u):∃s1 s2:Sl,u=.agg #[aK s1,aK s2]/\Rd M (.row a) x.1 [aK s1]/\Rd M (.row b) x.2 [aK s2]:=by unfold RdV at h;simp only[ig,if_true]at h;obtain⟨cs,rfl,c1,c2,rfl,h1,h2⟩:=h;obtain⟨e,rfl,g1⟩:=h1;obtain⟨c,rfl,g2⟩:=h2;obtain⟨s1,rfl,i⟩:=jU (M:=M) (t:=a) (xs:=x.1) ((J1 rfl).2 ⟨e,rfl,g1⟩);obtain⟨s2,rfl,f⟩:=jU (M:=M) (t:=b) (xs:=x.2) ((J1 rfl).2 ⟨c,rfl,g2⟩);grind
def Xz{x:El (.row a)×El (.row b)}{s1 s2:Sl}(h1:Rd M (.row a) x.1 [aK s1])(h2:Rd M (.row b) x.2 [aK s2]):RdV M (.pair (.row a) (.row b)) x (.agg #[aK s1,aK s2]):=by unfold RdV;simp only[ig,if_true];exact⟨[_,_],rfl,[_],[_],rfl,h1,h2⟩
theorem Vn(z:Value)(n:Nat):madeCells #[z] n=(zcr n z).toArray:=by apply Array.ext;simp[madeCells];intro i h1 h2;simp[madeCells,Nat.mod_one]
def ut{t e:Nw}{z:Value}{bytes:Nat}(E:JT Tp t e z 1 bytes)(hz:z.cells=#[z])(f:bytes<=1000)(l:n<=1000000){K:vvv}(k:K (aK ⟨Td (ab7 h),n,n⟩) (h.push (.cells (zcr n z).toArray e))):qq Tp (zba t (ab9 (n:Int)) (ab9 (n:Int))) h K:=by intro B d;have⟨i,hi,b,j,hb⟩:=E.info;have m:(bytes:Int)*(n:Int)<=1000*1000000:=Int.mul_le_mul ω ω ω ω;have c:=run_make (P:=Tp) (mk B d h) t e i z E.slice hi b .i64 .i64 (n:Int) (n:Int) ω (Int.le_refl _) (ο hb) ω;rw[zag,j,zbn,hz,Vn]at c;exact⟨_,_,_,c,k⟩
theorem CR.pop{els:List (List Value)}{sl:Sl}{b:Nat}{cs:ac2}(H:CR g 1 els sl b cs){q:Nat}(f:q<=DB els):CR g 1 (els.take q) ⟨sl.a,q,sl.cap⟩ b cs:=by have h:=H.ln;have c:=H.ro.le;refine⟨⟨η,?_⟩,θ,λi e hi=>?_⟩;obtain⟨h1,h2⟩|h1:=H.ro.at_;grind;grind;rw[List.getElem?_take]at hi;split at hi;exact H.el i e hi;cases hi
structure ParI (h:zc) (n bo:Nat) (T:List Nat) (outs:List Int) (ts:Sl) (bt:Nat) (ct:Array Value) (g:zc):Prop where
 k:BT bo h g
 out:Blk g bo (outs.map (zby .i64)).toArray
 ln:outs.length=n
 top:CR g 1 (T.map λi:Nat=>[zby .i64 (i:Int)]) ts bt ct
 hb:bo<bt
theorem ParI.len{T:ac0}{outs:ad4}(S:ParI h n bo T outs ts bt ct g):ts.len=DB T:=by rw[S.top.ln,zas]
theorem ParI.cell{T:ac0}{outs:ad4}(S:ParI h n bo T outs ts bt ct g)(hi:i<DB T):ts.a=Td ⟨bt,0,Te⟩/\zd g ⟨bt,0+i,Te⟩=Td (ab9 ((T[i]:Nat):Int)):=by
 have b:(T.map λi:Nat=>[zby .i64 (i:Int)])≠[]:=λe=>θ
 have⟨c,B⟩:=S.top.blk b;have⟨_,f⟩:=S.top.el i [ab9 ((T[i]:Nat):Int)] θ;refine⟨c,B.cell ?_⟩;have:=AT f (q:=0) ω;simp_all
theorem ParI.set{T:ac0}{outs:ad4}(S:ParI h n bo T outs ts bt ct g)(hi:i<n){x:Int}{K:zc->Prop}(l:∀g',ParI h n bo T (outs.set i x) ts bt ct g'->g'.size=g.size->K g'):CA Tp (zae 3 (.pointer (Td ((⟨bo,0,Te⟩:n8).add (i*1)))) (ab9 x)) g K:=by have c:=S.ln;have hb:=S.hb;rw[zh,zax,zbn];refine jq FS κ S.out φ rfl λg' m e b=>l g' ⟨⟨χ S.k.size,λj f=>(b j ω).trans (S.k.get j f)⟩,?_,θ,S.top.frame λ_=>b bt ω,hb⟩ e;simp_all
theorem TS{s:Sl}{q:Nat}{i:Int}(h1:i=(q:Int)):(⟨iy s.a 1 (0:Int).toNat ((s.cap:Nat):Int).toNat,i.toNat-(0:Int).toNat,((s.cap:Nat):Int).toNat-(0:Int).toNat⟩:Sl)=⟨s.a,q,s.cap⟩:=by simp_all[zP]
def Rz{gl:Fr}{t:List Bt×List Int}{R:List Int×Bool->Prop}(hR:R (ite (zx t=Ta) (pg t.2,Ta) ([],Tc))):ab4 gl 60 [up (.pair (.row .str) (.row PJ)) t] [.row PJ,.bool] R:=by
 intro h M vs hM ag ha
 match vs,ha with
 |[u],⟨hu,_⟩=>
  obtain⟨s1,s2,rfl,r1,r2⟩:=oI (show RdV M (.pair (.row .str) (.row PJ)) t u from hu);apply PX.of;have⟨l1,_,_⟩:=CD r1;have⟨l2,b2,_⟩:=CD r2;apply ZJ s1 s2;intro h1;have⟨k1,z1,F⟩:=jo (g:=h1) rfl;clear_value h1;have B:∀g:zc,zx t=Tc->BT h.size h g->∃M' r,At h M g M'/\Yx M' [.row PJ,.bool] r (.tuple #[.slice Te 0 0,ab8 Tc])/\R r:=λg e k=>⟨M,([],Tc),v0 ag k,⟨[_,_],⟨_,_,rfl,(J1 rfl).2 jI,_,rfl,GS _⟩,rfl⟩,θ⟩;refine⟨s1,F.ab1 (o:=0) (k:=0) rfl,s2,F.ab1 (o:=0) (k:=1) rfl,s1,λ_=>F.ab1 (o:=0) (k:=0) rfl,λf=>?_,λf=>?_⟩;refine B _ ?_ k1;cases l:zx t with
  |false=>rfl
  |true=>unfold zx at l;grind
  have w:s1.len=s2.len:=by by_cases e:s1.len=s2.len;exact e;grind
  have ay:s1.len<=512:=by
   have:((s1.len:Int) != (s2.len:Int))=Tc:=φ
   rw[this]at f;have:=zI f;omega
  refine⟨s2,F.ab1 (o:=0) (k:=1) rfl,?_⟩;refine ut (E:=(oO:JT _ _ _ _ 1 8)) rfl ω ω ⟨⟨Td (ab7 h1),s2.len,s2.len⟩,rfl,s2,?_,?_⟩;exact(F.keepN (n:=h1.size) (ur _ _ (zac _)) ω).ab1 (o:=0) (k:=1) rfl;obtain⟨L,hL⟩:∃L,L=t.2:=⟨_,rfl⟩;have hn:L.length=s2.len:=by rw[hL,l2]
  have nr:∀m,m<DB L->km L m=Tc->zx t=Tc:=λm hm e=>by
   cases l:zx t with
   |false=>rfl
   |true=>unfold zx at l;simp only[zaw,zG]at l;rw[hL]at hm e;have:=Yd.1 l.2 m hm;simp_all
  refine⟨λts j g=>∃(m:Nat) (outs:ad4) (bt:Nat) (ct:ac2),j=(m:Int)/\m<=DB L/\jJ L m=Ta/\ParI h1 (DB L) h1.size (gR L m) outs ts bt ct g/\∀i,i<m->outs[i]?=Td (jE L m i),λ_ j _=>DB L-j.toNat,?_,?_⟩;refine⟨0,zcr (DB L) 0,h1.size+1,#[],rfl,zar _,rfl,⟨ur _ _ (zac _),?_,List.length_replicate,⟨⟨zar _,.inl ⟨rfl,rfl⟩⟩,rfl,λi e hi=>by simp[gR]at hi⟩,ω⟩,λi hi=>ω⟩;rw[List.map_replicate,hn];exact wr _ _ _;rintro ts j g ⟨m,outs,bt,ct,rfl,hm,O,S,hv⟩;refine⟨λf=>?_,λf=>?_⟩;have w:m<DB L:=χ (zH f)
  have H:BT h.size h g:=k1.trans S.k ω;have V:AgM M g:=ag.ab0 H;have⟨b,o,e1,J⟩:=wX V r2 (k:=m) ω;have hx:t.2[m]' ω=cR L m:=by subst hL;unfold cR;rw[za8,zam w];rfl
  rw[hx]at J;refine⟨⟨b,o,Te⟩,⟨e1,ω,ω⟩,cR L m,by rw[Jk,zag];exact J,λh3=>?_,λh3=>?_⟩;refine B _ (nr m w ?_) H;cases e:km L m with
  |false=>rfl
  |true=>have⟨a1,a2,_⟩:=Zz.1 e;grind
  have a0:0<=cR L m:=by by_cases e:cR L m<0;simp_all;omega
  have a1:cR L m<=m:=by rw[decide_eq_false (show¬cR L m<0 by omega)]at h3;have:=zI h3;omega
  generalize D:cR L m=lf at *;have hT:∀k,(U:k<(gR L m).length)->(gR L m)[k]<m:=λk U=>(BF.1 (zak U)).1;refine⟨λts g=>∃(q:Nat) (outs:ad4) (ct:ac2),q<=(gR L m).length/\ParI h1 (DB L) h1.size ((gR L m).take q) outs ts bt ct g/\(∀i,i<m->outs[i]?=Td (ite (i∈(gR L m).drop q) (m:Int) (jE L m i)))/\∀r∈(gR L m).drop q,lf<=(r:Int)/\lf<=cR L r,λts _=>ts.len,?_,?_⟩;exact⟨(gR L m).length,outs,ct,zac _,θ,λi hi=>θ,λr l=>θ⟩;rintro d g' ⟨q,C,A,hq,y,T,hp⟩;have az:d.len=q:=by rw[y.len,zbt,Nat.min_eq_left hq]
  have N:BT h.size h g':=k1.trans y.k ω;have ak:=y.top.ro.le;have aA:m<=512:=ω
  have am:q<=512:=by
   have:(gR L m).length<=m:=by unfold gR;exact zb8 (List.length_filter_le _ _) ξ
   omega
  obtain⟨k,U⟩:∃k,k=(gR L m).getD (q-1) 0:=⟨_,rfl⟩;obtain⟨a,p1⟩:∃a:n8,0<q->d.a=Td a/\zd g' (a.add ((q-1)*1))=Td (ab9 (k:Int)):=by by_cases h0:0<q;have⟨e3,e4⟩:=y.cell (i:=q-1) η;refine⟨_,λ_=>⟨e3,?_⟩⟩;rw[zh,zbn,e4,List.getElem_take,U,za8,zam ω];rfl;exact⟨⟨0,0,Te⟩,λh=>absurd h h0⟩
  have x:0<q->w6 (((d.len:Nat):Int)-1)=((q-1:Nat):Int):=λh0=>by rw[DE ω ω];omega
  have ab:0<q->k<m/\k∈gR L m/\(gR L m).drop (q-1)=k::(gR L m).drop q:=λh0=>by grind [zbg]
  refine⟨a,λf=>?_,(k:Int),λf=>?_,λf=>?_,λf=>?_⟩;grind;have h0:0<q:=χ (zH f)
  rw[x h0,zag];exact(p1 h0).2;have h0:0<q:=by by_cases e:0<q;exact e;rw[decide_eq_false (show¬((d.len:Nat):Int)>0 by omega)]at f;cases f
  rw[zJ (show((d.len:Nat):Int)>0 by omega)]at f;have an:lf<=(k:Int):=χ (zH f)
  have⟨aj,ar,I⟩:=ab h0;have x:=x h0;have⟨b3,o3,e3,e4⟩:=wX (ag.ab0 N) r2 (k:=k) ω;have ai:t.2[k]' ω=cR L k:=by subst hL;unfold cR;rw[za8,zam ω];rfl
  rw[ai]at e4;refine⟨a,⟨(p1 h0).1,ο x,ο x⟩,(k:Int),by rw[x,zag];exact(p1 h0).2,s2,(F.keepN y.k ω).ab1 (o:=0) (k:=1) rfl,⟨b3,o3,Te⟩,⟨e3,ω,ω⟩,cR L k,by rw[Jk,zag];exact e4,λh4=>?_,λh4=>?_⟩;refine B _ (nr m w ?_) N;cases e:km L m with
  |false=>rfl
  |true=>have:=(Zz.1 e).2.2 k aj ω;grind
  have h5:lf<=cR L k:=χ (zI h4)
  have af:q<=d.cap:=ω
  have P:(0:Int)<=0/\0<=w6 (((d.len:Nat):Int)-1)/\w6 (((d.len:Nat):Int)-1)<=((d.cap:Nat):Int)/\((d.cap:Nat):Int)<=((d.cap:Nat):Int):=ο x
  have Q:∀g2,ParI h1 (DB L) h1.size ((gR L m).take q) (C.set k (m:Int)) d bt A g2->(∃(q2:Nat) (outs:ad4) (ct:ac2),q2<=(gR L m).length/\ParI h1 (DB L) h1.size ((gR L m).take q2) outs ⟨iy d.a 1 (0:Int).toNat ((d.cap:Nat):Int).toNat,(w6 (((d.len:Nat):Int)-1)).toNat-(0:Int).toNat,((d.cap:Nat):Int).toNat-(0:Int).toNat⟩ bt ct g2/\(∀i,i<m->outs[i]?=Td (ite (i∈(gR L m).drop q2) (m:Int) (jE L m i)))/\∀r∈(gR L m).drop q2,lf<=(r:Int)/\lf<=cR L r)/\(w6 (((d.len:Nat):Int)-1)).toNat-(0:Int).toNat<d.len:=λg2 c=>by rw[TS x];refine⟨⟨q-1,_,A,ω,⟨c.k,c.out,c.ln,?_,c.hb⟩,λi hi=>?_,λr l=>?_⟩,ο x⟩;have:=c.top.pop (q:=q-1) η;grind [List.map_take];rw[List.getElem?_set,I];by_cases e:k=i;grind;rw[zv e,T i hi];congr 1;by_cases J:i∈(gR L m).drop q;grind;grind;rw[I]at l;obtain rfl|l:=zal.1 l;omega;grind
  refine⟨(ab7 h1),⟨rfl,ω,η⟩,⟨.inl rfl,P,?_⟩,?_⟩;rw[zag];exact y.set ω λg2 c _=>Q g2 c;rw[zag];exact y.set ω λg2 c _=>⟨.inl rfl,P,Q g2 c⟩;have G:0<q->(k:Int)<lf:=λh0=>η
  have z:=RD L m;have Y:(gR L m).filter (λi:Nat=>decide ((i:Int)<cR L m))=(gR L m).take q:=by
   rw[D];refine Gf z hq (λi hi ac=>?_) λi hi ac=>?_;have h0:0<q:=ω
   have h1:=G h0;have e:k=(gR L m)[q-1]' ω:=by rw[U,za8,zam ω];rfl
   obtain h2|h2:=Nat.lt_or_ge i (q-1);have:=List.pairwise_iff_getElem.1 z i (q-1) hi ω h2;omega;grind;exact(hp _ (by rw[List.mem_drop_iff_getElem];exact⟨i-q,ω,by congr 1;omega⟩)).1
  have aa:km L m=Ta:=VY O ω ω λr l ah=>by
   rw[D]at ah ⊢;have ax:r∉(gR L m).take q:=λh=>η
   rw[<-zbz q (gR L m)]at l;grind
  refine⟨(ab7 h1),⟨rfl,ω,η⟩,?_⟩;rw[zag];refine y.set ω λg2 c z2=>?_;intro g3;have⟨k3,z3,B3⟩:=jo (g:=g3) rfl;clear_value g3;have aB:=c.k.size;have au:=c.out.lt;have al:=c.hb;have T3:CR g3 1 (((gR L m).take q).map λi:Nat=>[zby .i64 (i:Int)]) d bt A:=c.top.frame λhx=>k3.get bt (by obtain⟨e5,e6⟩|⟨_,e6,_⟩:=c.top.ro.at_;grind;exact e6.lt);refine CR.app (E:=(oO:JT _ _ _ _ 1 8)) ω T3 B3 rfl (by intro u hu;simp at hu;rw[hu];rfl) η λs' g4 b' c4 T4 z4 w4 l4 f4=>⟨s',rfl,⟨m+1,_,b',c4,by rw[DE ω ω];omega,w,IK O aa,⟨⟨ω,λj hj=>?_⟩,?_,c.ln,?_,?_⟩,λi hi=>?_⟩,?_⟩;rw[f4 j ω ω,k3.get j ω];exact c.k.get j hj;refine c.out.ab0 ?_;rw[f4 h1.size ω ω,k3.get _ ω];rw[z9f,Y,zbf];exact T4;omega;rw[List.getElem?_set];by_cases e:m=i;subst e;rw[zA rfl,zA (by rw[y.ln];exact w),Fv];rw[zv e,T i ω,Ff L m i ω,D];congr 1;have Z:i∈gR L m↔jE L m i<0:=by rw[BF];obtain⟨e7,_⟩|⟨p,e7,_⟩:=Yk L m i;omega;omega
  by_cases J:i∈(gR L m).drop q;grind;rw[zv J,zv];rintro⟨h6,h7⟩;have h8:=Z.2 h6;rw[<-zbz q (gR L m)]at h8;grind;grind [qd,zag];have ae:m=DB L:=χ (zI f)
  subst ae;have l:zx t=Ta:=by unfold zx;simp only[zaw,zG];exact⟨⟨ω,ω⟩,θ⟩
  rw[l]at hR;have H:BT h.size h g:=k1.trans S.k ω;have V:AgM M g:=ag.ab0 H;have ho:outs=pg t.2:=by rw[<-hL];apply zbm;intro i;by_cases hi:i<DB L;rw[hv i hi,qdk hi];rw[zco (by rw[S.ln];omega),zco (by rw[z9g];omega)]
  refine⟨MxL M g [h1.size],(outs,Ta),MxL.later ag H θ,⟨[_,_],⟨_,_,rfl,(J1 rfl).2 ⟨_,rfl,Td (ab7 h1),s2.len,?_,⟨?_,?_⟩,.inr ⟨h1.size,0,_,rfl,MxL.at ξ S.out,λi hi=>?_⟩⟩,_,rfl,GS _⟩,rfl⟩,η⟩;show zdw _ _ _=zdw _ _ _;rw[S.ln,hn];show (DB outs)<=_;rw[S.ln];omega;show (DB outs)<=_;rw[S.ln];omega;show cut (outs.map (zby .i64)).toArray (0+i*1) 1=[zby .i64 outs[i]];refine rh rfl λq hq=>?_;simp_all
end
end
section
open Go.ChangeMaps
variable {P:Program} {kt:Nw}
def nH(l:List (Int×Value))(k:Int):Option Value:=match l with
 |[]=>Te
 |p::l=>if p.1=k then Td p.2 else nH l k
def mL(l:List (Int×Value))(k:Int)(v:Value):List (Int×Value):=match l with
 |[]=>[(k,v)]
 |p::l=>if p.1=k then(k,v)::l else p::mL l k v
def lP(l:List (Int×Value)):List (Value×Value):=l.map λp=>(zby .i64 p.1,p.2)
structure MapTI (P:Program) (t kt et:Nw):Prop where
 map:P.underlying t=Td (.map kt et)
 key:P.underlying kt=Td (.int .i64)
theorem IY(k:Int):∀(f:List MapEntry) (l:List (Int×Value)) (i:Nat),f.map (λe=>(e.key,e.val))=l.map (λp=>(zby .i64 p.1,p.2)) ->
  (nH l k=Te/\zc8 (.int .i64) (.int .i64 k) f i=Td Te)\/(∃j v e,nH l k=Td v/\f[j]?=Td e/\e.key=.int .i64 k/\e.val=v/\zc8 (.int .i64) (.int .i64 k) f i=Td (Td (i+j,v)) /\ ∀w,(f.modify j λe=>{ e with key:=.int .i64 k,val:=w }).map (λe=>(e.key,e.val))=(mL l k w).map λp=>(zby .i64 p.1,p.2))
 |[],l,i,h=>by
  have:l=[]:=by cases l <;> simp_all
  subst this;exact .inl ⟨rfl,rfl⟩
 |e::f,l,i,h=>by
  cases l with
  |nil=>simp at h
  |cons p l=>
   simp only[zbk,zcv,zb9]at h;obtain⟨⟨h1,h2⟩,m⟩:=h;by_cases c:p.1=k;refine .inr ⟨0,p.2,e,by simp[nH,c],rfl,by rw[h1,c],h2,?_,λw=>?_⟩;have b:(k==p.1)=Ta:=by simpa using c.symm
   simp[zc8,zeu,h1,h2,b];simp[mL,c,m];have b:(k==p.1)=Tc:=by simpa using λe=>c e.symm
   obtain⟨g1,g2⟩|⟨j,v,r,g1,g2,t,n,q,o⟩:=IY k f l (i+1) m;refine .inl ⟨by simp[nH,c,g1],?_⟩;simp[zc8,zeu,h1,b,g2];refine .inr ⟨j+1,v,r,by simp[nH,c,g1],by simpa using g2,t,n,?_,λw=>?_⟩;simp[zc8,zeu,h1,b,q];omega;simp[mL,c,h1,h2,o w]
def UT(c:P.underlying kt=Td (.int .i64))(b:Bool)(k:Int)(h:zc):Bk P (Instr.checkKey b 10000 kt (ab9 k)) h ():=by intro B d;have e:=wf (h:=h) c B d;unfold Instr.checkKey;simp_all
theorem Fg(c:P.underlying kt=Td (.int .i64))(k:Int)(b:List MapEntry)(r:Option (Nat×Value))(h:zc)(e:zc8 (.int .i64) (ab9 k) b 0=Td r):Bk P (Instr.findKey kt (ab9 k) b) h r:=by intro B d;have f:=wf (h:=h) c B d;unfold Instr.findKey;simp_all
theorem Q1{l:List (Int×Value)}{k:Int}{v:Value}(g:nH l k=Te):mL l k v=l++[(k,v)]:=by
 induction l with
 |nil=>rfl
 |cons p l c=>simp only[nH]at g;split at g;cases g;rename_i b;simp[mL,b,c g]
def qdz{t kt et:Nw}(T:MapTI P t kt et){h:zc}{m:Nat}{l:List (Int×Value)}(H:IO h m (lP l))(k:Int)(v:Value){K:zc->Prop}(w:∀h':zc,IO h' m (lP (mL l k v))->h'.size=h.size->(∀i,i≠m->h'[i]?=h[i]?)->K h'):CA P (zct t (.map (Td m)) (ab9 k) v) h K:=by
 have f:=H.lt;have⟨b,c,h1,h2,J,G⟩:=H;intro B d;have z:=wf (h:=h) T.map B d;have u:=Yi (P:=P) h1 B d;have A:=UT T.key Tc k h B d;have n:∀o:Obj,(setObj m o).run P (mk B d h)=.ok () (mk B d (h.setIfInBounds m o)):=by intro o;have:(mk B d h).heap[m]?=Td (.map b c):=h1;simp[setObj,Sem.run,this];rfl
 unfold zct;obtain⟨g1,g2⟩|⟨j,M,e,g1,g2,F,I,E,C⟩:=IY k b.toList l 0 h2;refine⟨d,h.setIfInBounds m (.map (b.push { key:=.int .i64 k,val:=v,born:=c }) (c+1)),?_,w _ ⟨b.push { key:=.int .i64 k,val:=v,born:=c },c+1,ϑ f,?_,?_,?_⟩ ξ (λi hi=>η)⟩;rw[DM,z];simp only[D0,DM,u,A];rw[Fg T.key k b.toList Te h g2 B d];simp_all;rw[Q1 g1];unfold lP at h2 ⊢;simp[h2];grind;grind;have y:j<b.size:=by have:=(zbb.1 g2).1;simpa using this
 have r:((b.modify j λe=>{ e with key:=.int .i64 k,val:=v }).toList.map (·.born))=b.toList.map (·.born):=by apply zbm;intro i;simp only[Array.toList_modify,zb7,List.getElem?_modify];by_cases D:j=i;simp_all;simp_all
 refine⟨d,_,?_,w (h.setIfInBounds m (.map (b.modify j λe=>{ e with key:=.int .i64 k,val:=v }) c)) ⟨b.modify j λe=>{ e with key:=.int .i64 k,val:=v },c,ϑ f,?_,?_,?_⟩ ξ (λi hi=>η)⟩;rw[DM,z];simp only[D0,DM,u,A];rw[Fg T.key k b.toList _ h E B d];simp only[D0,zax];have p:((b[j]?).map (·.key)).getD (ab9 k)=.int .i64 k:=by
  have:b[j]?=Td e:=ψ g2
  rw[this];exact F
 rw[p];have L:zd0 (ab9 k) (ab9 k)=pure (ab9 k):=by unfold zd0;rw[zA (by show((zb3==zb3)&&(k==k))=Ta;simp)]
 simp_all;have:=C v;unfold lP;grind;intro x q;have:x.born∈((b.modify j λe=>{ e with key:=.int .i64 k,val:=v }).toList.map (·.born)):=zbr.2 ⟨x,q,rfl⟩;grind;simp_all
end
section
open Go.Lib
def J3(L:List Int):List Nat:=(za7 L.length).filter λi=>(za7 L.length).all λj=>decide (j<=i)||decide (cR L j≠cR L i)
theorem Ce{L:ad4}{i:Nat}:i∈J3 L↔i<DB L/\∀j,i<j->j<DB L->cR L j≠cR L i:=by unfold J3;grind
def Ew(L:ad4):(J3 L).Pairwise (· < ·):=by unfold J3;exact List.Pairwise.sublist List.filter_sublist zeh
def mh(L:List Int)(m:Nat):List Nat->List Nat
 |[]=>[m]
 |p::P=>if cR L p=cR L m then m::P else p::mh L m P
def kK(L:List Int):Nat->List Nat
 |0=>[]
 |m+1=>mh L m (kK L m)
def nq(L:List Int)(i:Nat):Int×Value:=(cR L i,.int .i64 (i:Int))
theorem FQ(L:ad4)(m:Nat):∀P:List Nat,mL (P.map (nq L)) (cR L m) (ab9 (m:Int))=(mh L m P).map (nq L)
 |[]=>rfl
 |p::P=>by rw[zbk,mL,mh];by_cases h:cR L p=cR L m;rw[zA h,zA (show(nq L p).1=cR L m from h),zbk];rfl;rw[zv h,zv (show¬(nq L p).1=cR L m from h),zbk,FQ L m P]
theorem yR{L:ad4}{m:Nat}:∀{P:ac0},(P.map (cR L)).Nodup->∀i,i∈mh L m P↔i=m\/(i∈P/\cR L i≠cR L m)
 |[],_,i=>by simp[mh]
 |p::P,hn,i=>by rw[zbk,zdk]at hn;rw[mh];by_cases h:cR L p=cR L m;grind;rw[zv h,zal,zal,yR hn.2 i];grind
def JC{L:ad4}{m:Nat}:∀{P:ac0},(P.map (cR L)).Nodup->((mh L m P).map (cR L)).Nodup
 |[],_=>by simp[mh]
 |p::P,hn=>by have f:=hn;rw[zbk,zdk]at hn;rw[mh];by_cases h:cR L p=cR L m;simp_all;rw[zv h,zbk,zdk];refine⟨λb=>?_,JC hn.2⟩;have⟨q,c,e⟩:=zbr.1 b;obtain rfl|⟨h2,_⟩:=(yR hn.2 q).1 c;omega;simp_all
def BA(L:ad4):∀m,((kK L m).map (cR L)).Nodup/\∀i,i∈kK L m↔i<m/\∀j,i<j->j<m->cR L j≠cR L i
 |0=>⟨zee,λi=>by simp[kK]⟩
 |m+1=>by have⟨h1,h2⟩:=BA L m;refine⟨JC h1,λi=>?_⟩;rw[kK,yR h1,h2];grind
def Hr{α β:Type}{f:α->β}{l:List α}(h:(l.map f).Nodup):l.Nodup:=by
 induction l with
 |nil=>simp
 |cons x l b=>grind
def T6(L:ad4):(kK L (DB L)).Perm (J3 L):=by have⟨h1,h2⟩:=BA L (DB L);refine(List.perm_ext_iff_of_nodup (Hr h1) ((Ew L).imp λh=>Nat.ne_of_lt h)).2 λi=>?_;rw[h2,Ce]
end
section
def zsc(gl:Fr)(b:(List Bt)×List Int)(R:ad2) (H:ab4 gl 60 [up (.pair (.row .str) (.row PJ)) (b.1,b.2)] [.row PJ,.bool] (λa:(List Int)×Bool=>R a.2)):ab4 gl 21 [up (.pair (.row .str) (.row PJ)) b] [.bool] R:=PF ⟨[],[],[],[]⟩ [.tmp 2] 11 func21 H
def PR(gl:Fr)(h:(List Bt)×List Int)(R:ad2) (H:((cond ((DB h.1:Int) != (DB h.2:Int)) Ta (ph ((DB h.1:Int)>512)))=Ta->R Tc)/\((cond ((DB h.1:Int) != (DB h.2:Int)) Ta (ph ((DB h.1:Int)>512)))=Tc->∃(a:ad3) (b:Int->Nat),a 0/\∀c:Int,a c->((ph (c<DB h.2)=Ta->∃d,(0<=c/\h.2[c.toNat]?=Td d)/\∃e,((!(ph (d<0)))=Ta->(0<=c/\h.2[c.toNat]?=Td e))/\((cond (ph (d<0)) Ta (ph (e>c)))=Ta->R Tc)/\((cond (ph (d<0)) Ta (ph (e>c)))=Tc->∃(f:ad3) (g:Int->Nat),f 0/\∀i:Int,f i->((ph (i<c)=Ta->∃j,(0<=c/\h.2[c.toNat]?=Td j)/\∃k,(ph (j<=i)=Ta->(0<=c/\h.2[c.toNat]?=Td k))/\∃l,(ph (j<=i)=Ta->(0<=i/\h.2[i.toNat]?=Td l))/\((cond (ph (j<=i)) (ph (k>l)) Tc)=Ta->R Tc)/\((cond (ph (j<=i)) (ph (k>l)) Tc)=Tc->(f (w6 (i+1))/\g (w6 (i+1))<g i)))/\(ph (i<c)=Tc->(a (w6 (c+1))/\b (w6 (c+1))<b c)))))/\(ph (c<DB h.2)=Tc->R Ta)))):ab4 gl 22 [up (.pair (.row .str) (.row PJ)) h] [.bool] R:=PF ⟨[],[],[(4,⟨[(3,.one (.dat PJ))],[],[1],[100192]⟩),(9,⟨[(4,.one (.dat PJ))],[],[],[100256]⟩)],[]⟩ [.tmp 2] 65 func22 H
def RI(gl:Fr)(a0:Tr)(b1:Tr)(R:ad2) (H:ab4 gl 83 [up .tree (Tr.mk a0.aa6 a0.aa9 a0.aa8 a0.aa7)] [.bool] (λa:Bool=>∃b:Bool->Prop,(a=Ta->ab4 gl 83 [up .tree (Tr.mk b1.aa6 b1.aa9 b1.aa8 b1.aa7)] [.bool] b)/\∀c:Bool,(a=Ta->b c)->∃d:Bool->Prop,((cond a c Tc)=Ta->ab4 gl 84 [up .tree (Tr.mk a0.aa6 a0.aa9 a0.aa8 a0.aa7),up .tree (Tr.mk b1.aa6 b1.aa9 b1.aa8 b1.aa7)] [.bool] d)/\∀e:Bool,((cond a c Tc)=Ta->d e)->R (cond (cond a c Tc) e Tc))):ab4 gl 46 [up .tree a0,up .tree b1] [.bool] R:=PF ⟨[],[],[],[]⟩ [.tmp 4] 16 func46 H
def Ri(gl:Fr)(c:Tr)(R:Tr->Prop) (H:ab4 gl 106 [up .tree (Tr.mk c.aa6 c.aa9 c.aa8 c.aa7)] [.bool] (λa:Bool=>((!a)=Ta->R (Tr.mk 0 (⟨#[]⟩:Bt) [] []))/\((!a)=Tc->ab4 gl 107 [up .tree (Tr.mk c.aa6 c.aa9 c.aa8 c.aa7)] [.tree] (λb:Tr=>R (Tr.mk b.aa6 b.aa9 b.aa8 b.aa7))))):ab4 gl 59 [up .tree c] [.tree] R:=PF ⟨[],[],[],[]⟩ [.cell 2 25] 11 func59 H
def zmv(gl:Fr)(b:Tr)(R:Bt->Prop) (H:ab4 gl 126 [up .tree (Tr.mk b.aa6 b.aa9 b.aa8 b.aa7)] [.str,.int .i64] (λa:Bt×Int=>R a.1)):ab4 gl 97 [up .tree b] [.str] R:=PF ⟨[],[],[],[]⟩ [.tmp 2] 11 func97 H
def RU(gl:Fr)(c:Tr)(R:(Bt×Int)->Prop) (H:ab4 gl 57 [up .tree (Tr.mk c.aa6 c.aa9 c.aa8 c.aa7)] [.bool] (λa:Bool=>((!a)=Ta->R ((⟨#[]⟩:Bt),1))/\((!a)=Tc->ab4 gl 132 [up .tree (Tr.mk c.aa6 c.aa9 c.aa8 c.aa7),up PJ (-1),up PJ 0] [.str] (λb:Bt=>R (b,0))))):ab4 gl 73 [up .tree c] [.str,.int .i64] R:=PF ⟨[],[],[],[]⟩ [.tmp 2,.tmp 3] 11 func73 H
def Tf(gl:Fr)(A:Tr)(h:Int)(z:Int)(R:Bt->Prop) (H:((A.aa6==1)=Ta->R (⟨#[110,117,108,108]⟩:Bt))/\((A.aa6==1)=Tc->∀a:Bool->Prop,(∀b:Bool,((b=Ta->R A.aa9)/\(b=Tc->((A.aa6==4)=Ta->ab4 gl 131 [up .str A.aa9] [.str,.int .i64] (λc:Bt×Int=>R c.1))/\((A.aa6==4)=Tc->∀d:Bt->Bt->Prop,(∀e f:Bt,((((DB A.aa7:Int)==0)=Ta->qg (e.size+f.size)/\R (e++f))/\(((DB A.aa7:Int)==0)=Tc->∃(g:Bt->Int->Prop) (i:Bt->Int->Nat),g e 0/\∀j:Bt,∀k:Int,g j k->((ph (k<DB A.aa7)=Ta->∀l:Bt->Prop,(∀m:Bt,(∀n:Bt->Prop,(∀o:Bt,(∀p:Bt->Prop,(∀q:Bt,(∃r,(0<=k/\A.aa7[k.toNat]?=Td r)/\ab4 gl 132 [up .tree (Tr.mk r.aa6 r.aa9 r.aa8 r.aa7),up PJ h,up PJ (w6 (z+1))] [.str] (λs:Bt=>qg (q.size+s.size)/\(g (q++s) (w6 (k+1))/\i (q++s) (w6 (k+1))<i j k)))->p q)->((A.aa6==6)=Ta->∃t,(0<=k/\A.aa8[k.toNat]?=Td t)/\ab4 gl 131 [up .str t] [.str,.int .i64] (λu:Bt×Int=>qg (o.size+u.1.size)/\qg ((o++u.1).size+((⟨#[58]⟩:Bt)).size)/\(ph (h>=0)=Ta->qg (((o++u.1)++(⟨#[58]⟩:Bt)).size+((⟨#[32]⟩:Bt)).size)/\p (((o++u.1)++(⟨#[58]⟩:Bt))++(⟨#[32]⟩:Bt)))/\(ph (h>=0)=Tc->p ((o++u.1)++(⟨#[58]⟩:Bt)))))/\((A.aa6==6)=Tc->p o))->n o)->(ph (h>=0)=Ta->qg (m.size+((⟨#[10]⟩:Bt)).size)/\ab4 gl 204 [up PJ (w6 (h*(w6 (z+1))))] [.str] (λv:Bt=>qg ((m++(⟨#[10]⟩:Bt)).size+v.size)/\n ((m++(⟨#[10]⟩:Bt))++v)))/\(ph (h>=0)=Tc->n m))->l m)->(ph (k>0)=Ta->qg (j.size+((⟨#[44]⟩:Bt)).size)/\l (j++(⟨#[44]⟩:Bt)))/\(ph (k>0)=Tc->l j))/\(ph (k<DB A.aa7)=Tc->∀w:Bt->Prop,(∀x:Bt,(qg (x.size+f.size)/\R (x++f))->w x)->(ph (h>=0)=Ta->qg (j.size+((⟨#[10]⟩:Bt)).size)/\ab4 gl 204 [up PJ (w6 (h*z))] [.str] (λy:Bt=>qg ((j++(⟨#[10]⟩:Bt)).size+y.size)/\w ((j++(⟨#[10]⟩:Bt))++y)))/\(ph (h>=0)=Tc->w j)))))->d e f)->((A.aa6==6)=Ta->d (⟨#[123]⟩:Bt) (⟨#[125]⟩:Bt))/\((A.aa6==6)=Tc->d (⟨#[91]⟩:Bt) (⟨#[93]⟩:Bt)))))->a b)->((A.aa6==2)=Ta->a (A.aa6==2))/\((A.aa6==2)=Tc->a (A.aa6==3)))):ab4 gl 132 [up .tree A,up PJ h,up PJ z] [.str] R:=PF ⟨[],[],[(19,⟨[(11,.one (.dat .str)),(12,.one (.dat PJ))],[],[3],[100704,100768]⟩)],[(6,⟨[(19,.one (.dat .bool))],[],[3],[101216]⟩),(15,⟨[(9,.one (.dat .str)),(10,.one (.dat .str))],[],[3],[100576,100640]⟩),(23,⟨[(11,.one (.dat .str))],[],[],[100704]⟩),(25,⟨[(11,.one (.dat .str))],[],[],[100704]⟩),(30,⟨[(11,.one (.dat .str))],[],[],[100704]⟩),(33,⟨[(11,.one (.dat .str))],[],[],[100704]⟩)]⟩ [.tmp 6] 108 func132 H
def ZY(gl:Fr)(f:Tr)(R:ad2) (H:ab4 gl 102 [up .tree (Tr.mk f.aa6 f.aa9 f.aa8 f.aa7)] [.int .i64] (λa:Int=>∃b:Int->Prop,(ph (a<=4096)=Ta->ab4 gl 103 [up .tree (Tr.mk f.aa6 f.aa9 f.aa8 f.aa7)] [.int .i64] b)/\∀c:Int,(ph (a<=4096)=Ta->b c)->∃d:Bool->Prop,((cond (ph (a<=4096)) (ph (c<=32)) Tc)=Ta->ab4 gl 104 [up .tree (Tr.mk f.aa6 f.aa9 f.aa8 f.aa7),up .bool Tc] [.bool] d)/\∀e:Bool,((cond (ph (a<=4096)) (ph (c<=32)) Tc)=Ta->d e)->R (cond (cond (ph (a<=4096)) (ph (c<=32)) Tc) e Tc))):ab4 gl 57 [up .tree f] [.bool] R:=PF ⟨[],[],[],[]⟩ [.tmp 2] 15 func57 H
def PL(gl:Fr)(b:Bt)(R:Tr->Prop) (H:R (Tr.mk 4 b [] [])):ab4 gl 105 [up .str b] [.tree] R:=PF ⟨[],[],[],[]⟩ [.cell 2 25] 5 func105 H
def F0(gl:Fr)(f:Tr)(e:Bt)(R:ad3) (H:∃(a:ad3) (b:Int->Nat),a 0/\∀c:Int,a c->((ph (c<DB f.aa8)=Ta->∃d,(0<=c/\f.aa8[c.toNat]?=Td d)/\((d.toList==e.toList)=Ta->R c)/\((d.toList==e.toList)=Tc->(a (w6 (c+1))/\b (w6 (c+1))<b c)))/\(ph (c<DB f.aa8)=Tc->R (-1)))):ab4 gl 164 [up .tree f,up .str e] [.int .i64] R:=PF ⟨[],[],[(2,⟨[(5,.one (.dat PJ))],[],[2],[100320]⟩)],[]⟩ [.tmp 4] 21 func164 H
end
section
open Go.RowKit
variable {y:Bool} {a b:Int} {gl:Fr} {R:Bool -> Prop}
theorem Hj(a b:Bt):(a.toList==b.toList)=ph (a=b):=by rw[y8,y8,zbd,beq_iff_eq,zG,o7]
def Gi{x y:Bool}:(cond x Ta y)=Ta↔x=Ta\/y=Ta:=ξ
def uu{x y:Bool}:(cond x Ta y)=Tc↔x=Tc/\y=Tc:=ξ
def ny{x y:Bool}:(cond x y Tc)=Ta↔x=Ta/\y=Ta:=ξ
def vH{x y:Bool}:(cond x y Tc)=Tc↔x=Tc\/y=Tc:=η
def jM(h:ph (a<b)=Ta):a<b:=zH h
def jV(h:ph (a<b)=Tc):¬a<b:=zI h
def sG{L:ad4}{m:Nat}(h:m<DB L):(0:Int)<=(m:Int)/\L[((m:Nat):Int).toNat]?=Td (cR L m):=⟨ω,by rw[zag];exact OY h⟩
theorem jb{t:List Bt×List Int}(h:zx t=Ta):t.1.length=DB t.2/\DB t.2<=512/\jJ t.2 (DB t.2)=Ta:=by unfold zx at h;grind
abbrev iW:Ty:=.pair (.row .str) (.row PJ)
def BS{t:List Bt×List Int}(b:R (zx t)):ab4 gl 21 [up (.pair (.row .str) (.row PJ)) t] [.bool] R:=by apply zsc;refine Rz (t:=t) (R:=λr=>R r.2) ?_;grind
def JP{t:List Bt×List Int}(A:R (zx t)):ab4 gl 22 [up (.pair (.row .str) (.row PJ)) t] [.bool] R:=by
 apply PR;refine⟨λo=>?_,λo=>?_⟩;have:zx t=Tc:=by
  cases h:zx t with
  |false=>rfl
  |true=>have⟨a,b,_⟩:=jb h;grind
 simp_all;have⟨h1,h2⟩:=uu.1 o;have h1:(DB t.1:Int)=DB t.2:=ψ h1
 have h2:t.1.length<=512:=χ (zI h2)
 have key:∀b,jJ t.2 (DB t.2)=b->R b:=λb hb=>by
  have:zx t=b:=by unfold zx;rw[hb,zJ (show (DB t.1)=t.2.length by omega),zJ h2];rfl
  simp_all
 refine⟨λj=>∃m:Nat,j=m/\m<=DB t.2/\jJ t.2 m=Ta,λj=>DB t.2-j.toNat,⟨0,rfl,zar _,rfl⟩,?_⟩;rintro j ⟨m,rfl,y,ok⟩;refine⟨λo=>?_,λo=>?_⟩;have c:m<DB t.2:=χ (jM o)
 have n:km t.2 m=Tc->R Tc:=λhb=>key Tc (by
  cases h:jJ t.2 (DB t.2) with
  |false=>rfl
  |true=>have:=Yd.1 h m c;simp_all)
 refine⟨cR t.2 m,sG c,cR t.2 m,λ_=>sG c,λl=>n ?_,λl=>?_⟩;cases ho:km t.2 m with
 |false=>rfl
 |true=>have⟨a,b,_⟩:=Zz.1 ho;grind
 have⟨l,q⟩:=uu.1 l;have l:=jV l;have q:=zI q;refine⟨λi=>∃k:Nat,i=k/\k<=m/\∀r,r<k->cR t.2 m<=(r:Int)->cR t.2 m<=cR t.2 r,λi=>m-i.toNat,⟨0,rfl,zar _,λr x=>ω⟩,?_⟩;rintro i ⟨k,rfl,z,w⟩;refine⟨λe=>?_,λe=>?_⟩;have e:k<m:=χ (jM e)
 refine⟨cR t.2 m,sG c,cR t.2 m,λ_=>sG c,cR t.2 k,λ_=>sG ω,λf=>n ?_,λf=>?_⟩;have⟨f,u⟩:=ny.1 f;have f:=zH f;have u:=zH u;cases ho:km t.2 m with
 |false=>rfl
 |true=>have:=(Zz.1 ho).2.2 k e f;omega
 rw[qd e ω];grind;have e:k=m:=χ (jV e)
 subst e;rw[qd c ω];exact⟨⟨k+1,rfl,ω,IK ok (Zz.2 ⟨ω,ω,λi hi p=>w i hi p⟩)⟩,η⟩;grind
end
section
open Go.Lib
section
variable {n:Nat}
def OkX(n:Nat)(X:List (Bt×Int)):Prop:=∀j (h:j<X.length),(n:Int)<=X[j].2/\X[j].2<=((n+j:Nat):Int)/\∀i (hi:i<X.length),i<j->X[j].2<=((n+i:Nat):Int)->X[j].2<=X[i].2
theorem OkX.nil(n:Nat):OkX n []:=λj h=>absurd h (zcb j)
theorem OkX.app{X Y:List (Bt×Int)}(k:OkX n X)(l:OkX (n+DB X) Y):OkX n (X++Y):=by intro j e;rw[zah]at e;by_cases h1:j<DB X;rw[zc9 h1];have⟨a,b,c⟩:=k j h1;grind;rw[zc6 ω];have⟨a,b,c⟩:=l (j-DB X) ω;refine⟨ω,ω,λi hi f h=>?_⟩;by_cases h2:i<DB X;omega;rw[zc6 ω];exact c (i-DB X) ω ω ω
theorem OkX.root{X:List (Bt×Int)}(e:OkX n X)(s:Bt):OkX n (X++[(s,(n:Int))]):=by
 intro j f;rw[zah,zcj]at f;by_cases h1:j<DB X;rw[zc9 h1];have⟨a,b,c⟩:=e j h1;grind;have:j=DB X:=ω
 subst this;rw[zc6 (zac _)];refine⟨ξ,φ,λi hi h k=>?_⟩;rw[zc9 ω];have:=(e i ω).1;grind
mutual
def Aq:∀(v:Tr) (n:Nat),OkX n (ia v n)
 |.mk k s ks xs,n=>by rw[ia];refine OkX.root ?_ _;split;exact K8 xs ks n;split;exact EH xs n;exact OkX.nil n
def EH:∀(l:List Tr) (n:Nat),OkX n (iz l n)
 |[],n=>by rw[iz];exact OkX.nil n
 |x::l,n=>by rw[iz];exact(Aq x n).app (EH l _)
def K8:∀(l:List Tr) (ks:List Bt) (n:Nat),OkX n (hH l ks n)
 |[],_,n=>by rw[hH];exact OkX.nil n
 |x::l,ks,n=>by rw[hH];have h1:=(Aq x n).root (nT ks.head!);have h2:=h1.app (Y:=hH l ks.tail (n+(ia x n).length+1)) (by rw[zah,zcj,<-Nat.add_assoc];exact K8 l _ _);simp_all
end
def oa(X:List (Bt×Int)):List Bt×List Int:=(X.map (·.1),X.map (·.2))
theorem ZF{w:Tr}(h:iI w<=512):zx (oa (ia w 0))=Ta:=by
 have k:=Zy w 0;unfold zx oa;simp only[zaw,zG,zas];refine⟨⟨ξ,ω⟩,Yd.2 λj f=>Zz.2 ?_⟩;have e:∀i (hi:i<(ia w 0).length),cR ((ia w 0).map (·.2)) i=(ia w 0)[i].2:=λi hi=>by unfold cR;grind
 have⟨a,b,c⟩:=Aq w 0 j f;grind
end
section
def rM(b:List Bt)(i:Nat):Bt:=b.getD i ⟨#[]⟩
def Sk(w:Tr):0<iI w:=by rw[w3];omega
end
section
def aR(t:List Bt×List Int)(i:Nat):Nat:=(cR t.2 i).toNat
def eR(s t:List Bt×List Int)(i j:Nat):Nat:=if rM s.1 i=rM t.1 j then 0 else 1
def mz{t:List Bt×List Int}(h:jJ t.2 (DB t.2)=Ta):Rt (aR t) (DB t.2):=λi hi=>by have⟨a,b,c⟩:=Zz.1 (Yd.1 h i hi);refine⟨by unfold aR;omega,λk e f=>?_⟩;have:=c k e (by unfold aR at f;omega);unfold aR;omega
def Ma{t:List Bt×List Int}(h:jJ t.2 (DB t.2)=Ta)(k:Nat):k∈J3 t.2↔i5 (aR t) (DB t.2) k:=by have pos:∀i,i<DB t.2->0<=cR t.2 i:=λi hi=>(Zz.1 (Yd.1 h i hi)).1;rw[Ce];constructor;rintro⟨h1,h2⟩;refine⟨h1,λj g1 g2 e=>h2 j g1 g2 ?_⟩;have:=pos j g2;have:=pos k h1;unfold aR at e;omega;rintro⟨h1,h2⟩;exact⟨h1,λj g1 g2 e=>h2 j g1 g2 (by unfold aR;rw[e])⟩
def E5(L:ad4):(J3 L).Pairwise (· < ·):=by unfold J3;exact zeh.filter _
def pS(s t:List Bt×List Int):Nat->Nat->Nat:=oT (aR s) (aR t) (eR s t) (J3 t.2) (λ_ _=>0) (J3 s.2)
def To{s t:List Bt×List Int}(c:jJ s.2 (DB s.2)=Ta)(b:jJ t.2 (DB t.2)=Ta){i j:Nat}(hi:i<DB s.2)(e:j<DB t.2):pS s t i j=DN (aR s) (aR t) (eR s t) i j:= XM (mz c) (mz b) (E5 _) (Ma c) (E5 _) (Ma b) hi e
theorem qE{la:ad5}{n:Nat}(h:Rt la n):Frs la 0 n:=λk b=>⟨zar _,by rw[zax];exact(h k b).1⟩
end
end
section
abbrev gK:=List Bt×List Int
abbrev nQ:=Int×Int
def iH(p:Nat×Nat):nQ:=((p.1:Int),(p.2:Int))
def lh(e:Int)(s t:gK):Int×Int:=if(zx s&&zx t)=Ta then((gN (aR s) (aR t) (eR s t) (pS s t) 0 0 s.2.length t.2.length:Nat),0)else(0,e)
def j9{t:gK}(h:zx t=Ta):t.1.length=DB t.2/\jJ t.2 (DB t.2)=Ta:=by unfold zx at h;simp_all
theorem oz{t:gK}(h:zx t=Ta){i:Nat}(hi:i<DB t.2):cR t.2 i=((aR t i:Nat):Int):=by have:=(Zz.1 (Yd.1 (j9 h).2 i hi)).1;unfold aR;omega
end
section
open Go.RowKit
variable {M:Fr} {h h':zc} {n i b pb m:Nat} {y:Int} {K:zc -> Prop} {Q:Int -> Prop}
theorem AgM.off{h g:zc}(ag:AgM M h)(f:∀b c,M b=Td c->g[b]?=h[b]?):AgM M g:=λb c e=>by rw[f b c e];exact ag b c e
def rC{x y:Int}(h:y=x+1)(h0:0<=x)(h1:x<(n:Int)):n-y.toNat<n-x.toNat:=ω
def kH(n:Nat)(f:Nat->Nat):List Value:=(za7 n).map λi=>zby .i64 ((f i:Nat):Int)
theorem pm(n:Nat)(f:ad5):(kH n f).length=n:=by simp[kH]
theorem xC{f:ad5}(h:i<n):(kH n f)[i]?=Td (ab9 ((f i:Nat):Int)):=by simp[kH,h]
theorem Vi{f b:ad5}(e:∀i,i<n->f i=b i):kH n f=kH n b:=List.map_congr_left λi hi=>by rw[e i (zcs.1 hi)]
theorem YU{f:ad5}{i x:Nat}:(kH n f).set i (ab9 ((x:Nat):Int))=kH n λj=>ite (j=i) x (f j):=by apply zbm;intro j;rw[List.getElem?_set];by_cases c:j<n;rw[xC c,xC c,pm];by_cases e:i=j;subst e;rw[zA rfl,zA c,zA rfl];rw[zv e,zv λh=>e h.symm];rw[zco (by rw[pm];omega),zco (by rw[pm];omega),pm];split;split;rename_i a b;omega;rfl;rfl
def LT(h:zc)(b n:Nat)(f:Nat->Nat):Prop:=Blk h b (kH n f).toArray
theorem LT.ab0{f:ad5}(H:LT h b n f)(k:h'[b]?=h[b]?):LT h' b n f:=Blk.ab0 H k
theorem LT.ext{f c:ad5}(H:LT h b n f)(e:∀i,i<n->f i=c i):LT h b n c:=by unfold LT;rw[<-Vi e];exact H
theorem LT.cell{f:ad5}(H:LT h b n f)(hi:i<n):zd h ⟨b,i,Te⟩=Td (ab9 ((f i:Nat):Int)):= Blk.cell H (by rw[<-zb5];exact xC hi)
theorem LT.set{f:ad5}(H:LT h b n f){i x:Nat}(hi:i<n)(k:∀h',LT h' b n (λj=>ite (j=i) x (f j))->h'.size=h.size->(∀j,j≠b->h'[j]?=h[j]?)->K h'):CA Tp (zae 3 (ab6 ⟨b,i,Te⟩) (ab9 ((x:Nat):Int))) h K:=by
 refine jq FS κ H (by rw[List.size_toArray,pm];exact hi) rfl λg' c m l=>k g' ?_ m l;unfold LT;rw[<-YU];have e:(kH n f).toArray.setIfInBounds i (ab9 ((x:Nat):Int))=((kH n f).set i (ab9 ((x:Nat):Int))).toArray:=ξ
 rw[e]at c;exact c
theorem MA(n:Nat):zcr n (zby .i64 0)=kH n λ_=>0:=by apply zbm;intro i;rw[List.getElem?_replicate];by_cases hi:i<n;rw[zA hi,xC hi];rfl;rw[zv hi,zco (by rw[pm];omega)]
def oH{t:Nw}(E:JT Tp t 3 (ab9 0) 1 8)(c:n<=1000000){K:vvv}(b:∀h',h'=h.push (.cells (kH n λ_=>0).toArray 3)->LT h' h.size n (λ_=>0)->BT h.size h h'->h'.size=h.size+1->K (aK ⟨Td (ab7 h),n,n⟩) h'):qq Tp (zba t (ab9 (n:Int)) (ab9 (n:Int))) h K:=by refine ut E rfl ω c ?_;rw[MA];exact b _ rfl (wr _ _ _) (ur _ _ (zac _)) (zau _)
def Dq(n m:Nat)(B:Nat->Nat):List Value:=(za7 n).map λi=>aK ⟨Td ⟨B i,0,Te⟩,m,m⟩
structure Mat (h:zc) (pb:Nat) (B:Nat->Nat) (n m:Nat) (P:Nat->Nat->Nat):Prop where
 top:Blk h pb (Dq n m B).toArray
 row:∀i,i<n->LT h (B i) m (P i)
 inj:∀i j,i<n->j<n->B i=B j->i=j
 hb:∀i,i<n->pb<B i
theorem Mat.ab0{B:ad5}{P:ac6}(H:Mat h pb B n m P)(b:h'[pb]?=h[pb]?)(k:∀i,i<n->h'[B i]?=h[B i]?):Mat h' pb B n m P:= ⟨H.top.ab0 b,λi hi=>(H.row i hi).ab0 (k i hi),H.inj,H.hb⟩
theorem Mat.ext{B:ad5}{P P':ac6}(H:Mat h pb B n m P)(e:∀i j,i<n->j<m->P i j=P' i j):Mat h pb B n m P':= ⟨H.top,λi hi=>(H.row i hi).ext λj b=>e i j hi b,H.inj,H.hb⟩
theorem Mat.at_{B:ad5}{P:ac6}(H:Mat h pb B n m P)(hi:i<n):zd h ⟨pb,i,Te⟩=Td (aK ⟨Td ⟨B i,0,Te⟩,m,m⟩):= H.top.cell (by rw[<-zb5];simp[Dq,hi])
theorem Mat.set{B:ad5}{P:ac6}(H:Mat h pb B n m P){i j x:Nat}(hi:i<n)(l:j<m)(o:∀h',Mat h' pb B n m (λa b=>ite (a=i/\b=j) x (P a b))->h'.size=h.size->(∀k,k≠B i->h'[k]?=h[k]?)->K h'):CA Tp (zae 3 (ab6 ⟨B i,j,Te⟩) (ab9 ((x:Nat):Int))) h K:=by
 refine(H.row i hi).set l λh' h1 h2 c=>o h' ⟨H.top.ab0 (c _ (χ (H.hb i hi))),λa f=>?_,H.inj,H.hb⟩ h2 c;by_cases e:a=i;subst e;exact h1.ext λb hb=>by by_cases e:b=j;rw[zA e,zA ⟨rfl,e⟩];rw[zv e,zv λh=>e h.2]
 refine((H.row a f).ab0 (c _ λh=>e (H.inj a i f hi h))).ext λb hb=>?_;rw[zv λh=>e h.1]
def Cel(h:zc)(lo:Nat)(s:Sl)(x y v:Nat):Prop:=∃(a:n8) (s2:Sl) (a2:n8),s.a=Td a/\x<s.len/\zd h (a.add (x*1))=Td (aK s2)/\s2.a=Td a2/\y<s2.len/\zd h (a2.add (y*1))=Td (.int .i64 ((v:Nat):Int))/\a.block<lo/\a2.block<lo
theorem Cel.rd{lo:Nat}{s:Sl}{i j v:Nat}(C:Cel h lo s i j v){x y:Int}(e:x=(i:Int))(b:y=(j:Int))(c:Q ((v:Nat):Int)):∃a:n8,(s.a=Td a/\0<=x/\x<((s.len:Nat):Int))/\∃s2:Sl,zd h (a.add (x.toNat*1))=Td (aK s2)/\∃a2:n8,(s2.a=Td a2/\0<=y/\y<((s2.len:Nat):Int))/\∃v:Int,zd h (a2.add (y.toNat*1))=Td (ab9 v)/\Q v:=by subst e;subst b;have⟨a,s2,a2,f,o,k,m,n,l,_,_⟩:=C;exact⟨a,⟨f,ω,ω⟩,s2,by rw[zag];exact k,a2,⟨m,ω,ω⟩,_,by rw[zag];exact l,c⟩
def mI(ag:AgM M h){xs:ad4}{s:Sl}(H:Rd M (.row PJ) xs [aK s]){x:Int}(f:x=(i:Int))(hi:i<DB xs)(e:Q (cR xs i)):∃a:n8,(s.a=Td a/\0<=x/\x<((s.len:Nat):Int))/\∃v:Int,zd h (a.add (x.toNat*1))=Td (ab9 v)/\Q v:=by
 subst f;have⟨b,o,j,c⟩:=wX ag H (k:=i) hi;have l:xs[i]=cR xs i:=by unfold cR;rw[za8,zam hi];rfl
 rw[l]at c;have⟨m,_,_⟩:=CD H;exact⟨_,⟨j,ω,ω⟩,_,by rw[Jk,zag];exact c,e⟩
def xR(ag:AgM M h){xs:List Bt}{s:Sl}(H:Rd M (.row .str) xs [aK s]){x:Int}(e:x=(i:Int))(hi:i<DB xs){Q:Bt->Prop}(b:Q (rM xs i)):∃a:n8,(s.a=Td a/\0<=x/\x<((s.len:Nat):Int))/\∃v:Bt,zd h (a.add (x.toNat*1))=Td (ab5 v)/\Q v:=by
 have c:xs[i]=rM xs i:=by unfold rM;rw[za8,zam hi];rfl
 rw[<-c]at b;exact ke ag H hi e rfl b
end
section
def Rh(i:Int)(f:Int)(h:zc)(R:vvv) (H:qq Tp (zba 29 (iV (w6 ((w6 (i+1))*(w6 (f+1))))) (iV (w6 ((w6 (i+1))*(w6 (f+1)))))) h (λb c=>∃d,b=aK d/\let e:=c.push (.cells #[iV (w6 (f+1)),aK d] 371);R (ab6 (ab7 c)) e)):ab3 381 #[ab9 i,ab9 f] h R:=XF ⟨[],[],[]⟩ [.tmp 4] 15 func381 H
def ZT(g0:Option n8)(i:Int)(j:Int)(h:zc)(R:vvv) (H:∃b,g0=Td b/\∃c,zd h (zab b 1)=Td (aK c)/\∃d,g0=Td d/\∃e,zd h (zab d 0)=Td (iV e)/\∃f,(c.a=Td f/\0<=(w6 ((w6 ((w6 ((w6 (i+1))*e))+j))+1):Int)/\(w6 ((w6 ((w6 ((w6 (i+1))*e))+j))+1):Int)<(c.len:Int))/\R (.pointer (Td (f.add ((w6 ((w6 ((w6 ((w6 (i+1))*e))+j))+1):Int).toNat*1)))) h):ab3 351 #[.pointer g0,ab9 i,ab9 j] h R:=XF ⟨[],[],[]⟩ [.tmp 6] 22 func351 H
def PQ(m:Option n8)(k:Int)(l:Int)(h:zc)(R:vvv) (H:∃b,m=Td b/\∃c,zd h (zab (zab b 0) 0)=Td (aK c)/\∃d,(c.a=Td d/\0<=k/\k<c.len)/\∃e,zd h (d.add (k.toNat*1))=Td (ab5 e)/\∃f,m=Td f/\∃g,zd h (zab (zab f 2) 0)=Td (aK g)/\∃i,(g.a=Td i/\0<=l/\l<g.len)/\∃j,zd h (i.add (l.toNat*1))=Td (ab5 j)/\((e.toList==j.toList)=Ta->R (iV 0) h)/\((e.toList==j.toList)=Tc->R (iV 1) h)):ab3 382 #[.pointer m,ab9 k,ab9 l] h R:=XF ⟨[],[],[]⟩ [.tmp 6] 24 func382 H
def UM(r0:Option n8)(be:Int)(bm:Int)(bg:Int)(bj:Int)(h:zc)(R:vvv) (H:ab3 381 #[iV (w6 (bm-be)),iV (w6 (bj-bg))] h (λb c=>∃d:Option n8,b=.pointer d/\∃(e:ac5) (f:ac7),e be c/\∀g:Int,∀i:zc,e g i->((ph (g<bm)=Ta->ab3 351 #[.pointer d,iV (w6 (g-be)),iV (-1)] i (λj k=>∃l:Option n8,j=.pointer l/\∃m,l=Td m/\CA Tp (zae 3 (ab6 m) (iV (w6 ((w6 (g-be))+1)))) k (λn=>(e (w6 (g+1)) n/\f (w6 (g+1)) n<f g i))))/\(ph (g<bm)=Tc->∃(o:ac5) (p:ac7),o bg i/\∀q:Int,∀r:zc,o q r->((ph (q<bj)=Ta->ab3 351 #[.pointer d,iV (-1),iV (w6 (q-bg))] r (λs t=>∃u:Option n8,s=.pointer u/\∃v,u=Td v/\CA Tp (zae 3 (ab6 v) (iV (w6 ((w6 (q-bg))+1)))) t (λw=>(o (w6 (q+1)) w/\p (w6 (q+1)) w<p q r))))/\(ph (q<bj)=Tc->∃(x:ac5) (y:ac7),x be r/\∀z:Int,∀A:zc,x z A->((ph (z<bm)=Ta->∃(B:ac5) (C:ac7),B bg A/\∀D:Int,∀E:zc,B D E->((ph (D<bj)=Ta->∀F:Int->zc->Prop,(∀G:Int,∀I:zc,(∃J,r0=Td J/\∃L,zd I (zab (zab J 0) 1)=Td (aK L)/\∃M,(L.a=Td M/\0<=z/\z<L.len)/\∃N,zd I (M.add (z.toNat*1))=Td (iV N)/\∃O,r0=Td O/\∃P,zd I (zab (zab O 2) 1)=Td (aK P)/\∃Q,(P.a=Td Q/\0<=D/\D<P.len)/\∃S,zd I (Q.add (D.toNat*1))=Td (iV S)/\∀T:Int->zc->Prop,(∀U:Int,∀V:zc,(ab3 351 #[.pointer d,iV (w6 (z-be)),iV (w6 (D-bg))] V (λW X=>∃Y:Option n8,W=.pointer Y/\∃Z,Y=Td Z/\CA Tp (zae 3 (ab6 Z) (iV U)) X (λaa=>(B (w6 (D+1)) aa/\C (w6 (D+1)) aa<C D E))))->T U V)->((cond (N==be) (S==bg) Tc)=Ta->∀ab:Int->zc->Prop,(∀ac:Int,∀ad:zc,(∃ae,r0=Td ae/\∃af,zd ad (zab ae 4)=Td (aK af)/\∃ag,(af.a=Td ag/\0<=z/\z<af.len)/\∃ah,zd ad (ag.add (z.toNat*1))=Td (aK ah)/\∃ai,(ah.a=Td ai/\0<=D/\D<ah.len)/\CA Tp (zae 3 (.pointer (Td (ai.add (D.toNat*1)))) (iV ac)) ad (λaj=>T ac aj))->ab ac ad)->let ak:Int->zc->Prop:=λal (am:zc)=>(ab (ite (al<G) al G) am);ab3 351 #[.pointer d,iV (w6 ((w6 (z-be))-1)),iV (w6 ((w6 (D-bg))-1))] I (λan ao=>∃ap:Option n8,an=.pointer ap/\∃aq,ap=Td aq/\(∃ar,zd ao aq=Td (iV ar)/\ab3 382 #[.pointer r0,iV z,iV D] ao (λau av=>∃aw,au=iV aw/\ak (w6 (ar+aw)) av))/\(ab3 382 #[.pointer r0,iV z,iV D] ao (λax ay=>∃az,ax=iV az/\∃aA,zd ay aq=Td (iV aA)/\ak (w6 (aA+az)) ay))))/\((cond (N==be) (S==bg) Tc)=Tc->∃aB,r0=Td aB/\∃aC,zd I (zab aB 4)=Td (aK aC)/\∃aD,(aC.a=Td aD/\0<=z/\z<aC.len)/\∃aE,zd I (aD.add (z.toNat*1))=Td (aK aE)/\∃aF,(aE.a=Td aF/\0<=D/\D<aE.len)/\∃aG,zd I (aF.add (D.toNat*1))=Td (iV aG)/\ab3 351 #[.pointer d,iV (w6 ((w6 (N-be))-1)),iV (w6 ((w6 (S-bg))-1))] I (λaH aI=>∃aJ:Option n8,aH=.pointer aJ/\∃aL,aJ=Td aL/\hZ aI I ((aF.add (D.toNat*1)))/\hZ aI I ((aD.add (z.toNat*1)))/\hZ aI I (zab aB 4)/\∃aM,zd aI aL=Td (iV aM)/\hZ aI I ((aF.add (D.toNat*1)))/\hZ aI I ((aD.add (z.toNat*1)))/\hZ aI I (zab aB 4)/\T (ite ((w6 (aM+aG))<G) (w6 (aM+aG)) G) aI)))->F G I)->let aN:Int->Int->zc->Prop:=λaO aP (aQ:zc)=>(F (w6 (1+(ite (aO<aP) aO aP))) aQ);let aS:n8->Int->zc->Prop:=λ(aT:n8) aU (aV:zc)=>(∃aW,zd aV aT=Td (iV aW)/\aN aW aU aV);ab3 351 #[.pointer d,iV (w6 ((w6 (z-be))-1)),iV (w6 (D-bg))] E (λaX aY=>∃aZ:Option n8,aX=.pointer aZ/\∃a0,aZ=Td a0/\(∃a1,zd aY a0=Td (iV a1)/\ab3 351 #[.pointer d,iV (w6 (z-be)),iV (w6 ((w6 (D-bg))-1))] aY (λa2 a3=>∃a4:Option n8,a2=.pointer a4/\∃a5,a4=Td a5/\aS a5 a1 a3))/\(ab3 351 #[.pointer d,iV (w6 (z-be)),iV (w6 ((w6 (D-bg))-1))] aY (λa6 a7=>∃a8:Option n8,a6=.pointer a8/\∃a9,a8=Td a9/\(∃ba,zd a7 a0=Td (iV ba)/\aS a9 ba a7)/\(∃bb,zd a7 a9=Td (iV bb)/\∃bc,zd a7 a0=Td (iV bc)/\aN bb bc a7)))))/\(ph (D<bj)=Tc->(x (w6 (z+1)) E/\y (w6 (z+1)) E<y z A))))/\(ph (z<bm)=Tc->R (.pointer d) A)))))))):ab3 350 #[.pointer r0,ab9 be,ab9 bm,ab9 bg,ab9 bj] h R:=XF ⟨[(20,8000),(22,8000),(17,8000)],[(3,[(12,.one (.int .i64))]),(7,[(13,.one (.int .i64))]),(11,[(14,.one (.int .i64))]),(14,[(15,.one (.int .i64))])],[(18,[(18,.one (.int .i64))]),(23,[(18,.one (.int .i64))]),(21,[(18,.one (.int .i64))])]⟩ [.tmp 10] 175 func350 H
def QF(b:Sl)(c:Sl)(d:Sl)(e:Sl)(h:zc)(R:vvv) (H:let f:=h.push (.cells #[aK b,aK c] 31);let g:=f.push (.cells #[aK d,aK e] 31);∃i j,ze g (ab7 h) 0 [aK i,aK j]/\ab3 21 #[.agg #[aK i,aK j]] g (λk l=>∃m,k=.bool m/\∃n o,((!(!m))=Ta->ze l (ab7 f) 0 [aK n,aK o])/\∃p:vvv,((!(!m))=Ta->ab3 21 #[.agg #[aK n,aK o]] l (λq r=>∃s,q=.bool s/\p (ab8 s) r))/\((!(!m))=Tc->∃t,p (ab8 t) l)/\((!(!m))=Ta->∀u v,p u v->∃w,u=.bool w)/\∀x:Bool,∀y,p (ab8 x) y->((cond (!m) Ta (!x))=Ta->R (.tuple #[.pointer Te,ab8 Tc]) y)/\((cond (!m) Ta (!x))=Tc->∃z A,ze y (ab7 h) 0 [aK z,aK A]/\∃B C,ze y (ab7 f) 0 [aK B,aK C]/\∃D,zd y (zab (ab7 h) 0)=Td (aK D)/\hZ y y (ab7 f)/\hZ y y (ab7 h)/\qq Tp (zba 74 (iV (D.len:Int)) (iV (D.len:Int))) y (λE F=>∃G,E=aK G/\hZ F y (ab7 f)/\hZ F y (ab7 h)/\let I:=F.push (.cells #[aK z,aK A,aK B,aK C,aK G] 368);∃J:n8,Td (ab7 F)=Td J/\∃L,zd I (zab J 4)=Td (aK L)/\∃(M:ac5) (N:ac7),M 0 I/\∀O:Int,∀P:zc,M O P->((ph (O<L.len)=Ta->∃Q:n8,Td (ab7 F)=Td Q/\∃S,zd P (zab Q 4)=Td (aK S)/\∃T,zd P (zab (ab7 f) 0)=Td (aK T)/\hZ P P (zab Q 4)/\qq Tp (zba 29 (iV (T.len:Int)) (iV (T.len:Int))) P (λU V=>∃W,U=aK W/\∃X,(S.a=Td X/\0<=O/\O<S.len)/\hZ V P (zab Q 4)/\CA Tp (zae 29 (.pointer (Td (X.add (O.toNat*1)))) (aK W)) V (λY=>(M (w6 (O+1)) Y/\N (w6 (O+1)) Y<N O P))))/\(ph (O<L.len)=Tc->∃Z aa,ze P (ab7 h) 0 [aK Z,aK aa]/\ab3 28 #[.agg #[aK Z,aK aa]] P (λab ac=>∃ad,ab=aK ad/\∃(ae:ac5) (af:ac7),ae 0 ac/\∀ag:Int,∀ah:zc,ae ag ah->((ph (ag<ad.len)=Ta->∃ai,(ad.a=Td ai/\0<=ag/\ag<ad.len)/\∃aj,zd ah (ai.add (ag.toNat*1))=Td (iV aj)/\∃ak al,ze ah (ab7 f) 0 [aK ak,aK al]/\ab3 28 #[.agg #[aK ak,aK al]] ah (λam an=>∃ao,am=aK ao/\∃(ap:ac5) (aq:ac7),ap 0 an/\∀ar:Int,∀au:zc,ap ar au->((ph (ar<ao.len)=Ta->∃av,(ao.a=Td av/\0<=ar/\ar<ao.len)/\∃aw,zd au (av.add (ar.toNat*1))=Td (iV aw)/\∃ax,zd au (zab (ab7 h) 1)=Td (aK ax)/\∃ay,(ax.a=Td ay/\0<=aj/\aj<ax.len)/\∃az,zd au (ay.add (aj.toNat*1))=Td (iV az)/\∃aA,zd au (zab (ab7 f) 1)=Td (aK aA)/\∃aB,(aA.a=Td aB/\0<=aw/\aw<aA.len)/\∃aC,zd au (aB.add (aw.toNat*1))=Td (iV aC)/\ab3 350 #[ab6 (ab7 F),iV az,iV (w6 (aj+1)),iV aC,iV (w6 (aw+1))] au (λaD aE=>∃aF:Option n8,aD=.pointer aF/\(ap (w6 (ar+1)) aE/\aq (w6 (ar+1)) aE<aq ar au)))/\(ph (ar<ao.len)=Tc->(ae (w6 (ag+1)) au/\af (w6 (ag+1)) au<af ag ah)))))/\(ph (ag<ad.len)=Tc->R (.tuple #[ab6 (ab7 F),ab8 Ta]) ah))))))))):ab3 349 #[.agg #[.slice b.a b.len b.cap,.slice c.a c.len c.cap],.agg #[.slice d.a d.len d.cap,.slice e.a e.len e.cap]] h R:=XF ⟨[(3,8000),(7,8000),(15,8000)],[(5,[(33,.one (.int .i64))]),(10,[(50,.one (.int .i64))]),(13,[(57,.one (.int .i64))])],[]⟩ [.tmp 4,.tmp 5] 80 func349 H
def OU(b:Sl)(c:Sl)(d:Sl)(e:Sl)(h:zc)(R:vvv) (H:let f:=h.push (.cells #[aK b,aK c] 31);let g:=f.push (.cells #[aK d,aK e] 31);∃i j,ze g (ab7 h) 0 [aK i,aK j]/\∃k l,ze g (ab7 f) 0 [aK k,aK l]/\ab3 349 #[.agg #[aK i,aK j],.agg #[aK k,aK l]] g (λm n=>∃o:Option n8,∃p,m=.tuple #[.pointer o,ab8 p]/\((!p)=Ta->R (.tuple #[iV 0,iV 1]) n)/\((!p)=Tc->∃q,zd n (zab (ab7 h) 0)=Td (aK q)/\∃r,zd n (zab (ab7 f) 0)=Td (aK r)/\ab3 350 #[.pointer o,iV 0,iV (q.len:Int),iV 0,iV (r.len:Int)] n (λs t=>∃u:Option n8,s=.pointer u/\ab3 351 #[.pointer u,iV (w6 ((q.len:Int)-1)),iV (w6 ((r.len:Int)-1))] t (λv w=>∃x:Option n8,v=.pointer x/\∃y,x=Td y/\∃z,zd w y=Td (iV z)/\R (.tuple #[iV z,iV 0]) w))))):ab3 296 #[.agg #[.slice b.a b.len b.cap,.slice c.a c.len c.cap],.agg #[.slice d.a d.len d.cap,.slice e.a e.len e.cap]] h R:=XF ⟨[],[],[]⟩ [.tmp 4,.tmp 5] 35 func296 H
end
section
open Go.RowKit
variable {y A:Nat} {h:zc} {K:Value -> zc -> Prop}
def SS{W x y c f:Nat}(h1:y<W)(h2:f<W)(e:x*W+y=c*W+f):x=c/\y=f:=by
 have a:(x*W+y) / W=x:=by rw[ze1,Nat.mul_add_div ω,Nat.div_eq_of_lt h1,zej]
 have b:(c*W+f) / W=c:=by rw[ze1,Nat.mul_add_div ω,Nat.div_eq_of_lt h2,zej]
 have:x=c:=by rw[<-a,<-b,e]
 subst this;exact⟨rfl,ω⟩
def SE{W A x y:Nat}(b:x<A)(c:y<W):x*W+y<A*W:=by have:(x+1)*W<=A*W:=za6 _ b;rw[zc4]at this;omega
def Pt{A B:Nat}(hA:A<=900)(l:B<=900) (j:∀g,LT g h.size ((A+1)*(B+1)) (λ_=>0)->Blk g (h.size+1) #[ab9 ((B+1:Nat):Int),aK ⟨Td (ab7 h),(A+1)*(B+1),(A+1)*(B+1)⟩]->BT h.size h g->g.size=h.size+2->K (ab6 ⟨h.size+1,0,Te⟩) g):ab3 381 #[ab9 (A:Int),ab9 (B:Int)] h K:=by
 apply Rh;have k:(A+1)*(B+1)<=901*901:=zcg ω ω;have f:w6 ((w6 ((A:Int)+1))*(w6 ((B:Int)+1)))=(((A+1)*(B+1):Nat):Int):=by rw[zq ω,zq ω,<-Int.natCast_mul,DE ω ω]
 rw[f,zq (ω:B<9223372036854775807)];refine oH (oO:JT _ _ _ _ 1 8) ω λh1 _ e c i=>⟨_,rfl,?_⟩;intro h2;have⟨k2,z2,b⟩:=jo (g:=h2) rfl;clear_value h2;rw[i]at b z2;unfold ab7;rw[i];exact j h2 (e.ab0 (k2.get _ ω)) b (c.trans k2 ω) z2
def Ux{gb cb W N:Nat}(B:Blk h gb #[ab9 (W:Int),aK ⟨Td ⟨cb,0,Te⟩,N,N⟩]){i j:Int}{x y:Nat}(hi:i=(x:Int)-1)(f:j=(y:Int)-1)(q:x*W+y<N)(p:N<=1000000)(b:x<=100000)(c:W<=100000)(l:K (ab6 ⟨cb,x*W+y,Te⟩) h):ab3 351 #[ab6 ⟨gb,0,Te⟩,ab9 i,ab9 j] h K:=by
 apply ZT;have m:x*W<=100000*100000:=zcg b c;have e:w6 ((w6 ((w6 ((w6 (i+1))*(W:Int)))+j))+1)=((x*W+y:Nat):Int):=by rw[hi,f,DE (n:=(x:Int)-1+1) ω ω,show(x:Int)-1+1=(x:Int)by omega,<-Int.natCast_mul,DE (n:=((x*W:Nat):Int)) ω ω,DE (n:=((x*W:Nat):Int)+((y:Int)-1)) ω ω,DE ω ω];omega
 refine⟨_,rfl,_,B.ab1 (o:=0) (k:=1) rfl,_,rfl,_,B.ab1 (o:=0) (k:=0) rfl,?_⟩;rw[e];refine⟨_,⟨rfl,ω,by show((x*W+y:Nat):Int)<(N:Int);omega⟩,?_⟩;rw[Jk,zag,zax,zbn];exact l
structure TwoT (M:Fr) (s t:gK) (a1 a2 b1 b2:Sl):Prop where
 sl:Rd M (.row .str) s.1 [aK a1]
 si:Rd M (.row PJ) s.2 [aK a2]
 tl:Rd M (.row .str) t.1 [aK b1]
 ti:Rd M (.row PJ) t.2 [aK b2]
 rs:zx s=Ta
 rt:zx t=Ta
def JD{M:Fr}{s t:gK}{a1 a2 b1 b2 ps:Sl}{rb:Nat}(ag:AgM M h)(T:TwoT M s t a1 a2 b1 b2)(B:Blk h rb #[aK a1,aK a2,aK b1,aK b2,aK ps]){i j:Nat}(hi:i<DB s.1)(e:j<DB t.1)(b:K (ab9 ((eR s t i j:Nat):Int)) h):ab3 382 #[ab6 ⟨rb,0,Te⟩,ab9 (i:Int),ab9 (j:Int)] h K:=by apply PQ;refine⟨_,rfl,a1,B.ab1 (o:=0) (k:=0) rfl,xR ag T.sl rfl hi ⟨_,rfl,b1,B.ab1 (o:=0) (k:=2) rfl,xR ag T.tl rfl e ?_⟩⟩;unfold eR at b;rw[Hj];refine⟨λc=>?_,λc=>?_⟩;rw[zA (zH c)]at b;exact b;rw[zv (zI c)]at b;exact b
end
section
open Go.Lib
section
def pT(v:Tr):Bool:=ph (v.aa6=0/\lb v.aa9=[]/\v.aa8=[]/\v.aa7=[])
abbrev eK:=Bt×List Bt×List Bt×Tr
def qR:Bs:=[97,100,100]
def xF:Bs:=[114,101,109,111,118,101]
def rz:Bs:=[114,101,112,108,97,99,101]
def wV:Bs:=[109,111,118,101]
def yZ:Bs:=[99,111,112,121]
def BN:Bs:=[116,101,115,116]
def lm(s:Bs):Bool×Bool×Bool:=if s=qR\/s=rz\/s=BN then(Ta,Tc,Ta)else if s=wV\/s=yZ then(Tc,Ta,Ta)else(Tc,Tc,ph (s=xF))
def Zm(o:eK):Bool:=(lm (lb o.1)).2.2&&(Y2 o.2.1&&(Y2 o.2.2.1&&(((lm (lb o.1)).2.1||decide (o.2.2.1=[]))&&(bif (lm (lb o.1)).1 then zr o.2.2.2 else pT o.2.2.2))))
mutual
def xd:Tr->Tr->Bool
 |.mk k s ks xs,b=>decide (k=b.aa6)&&(ph (s=b.aa9)&&(ph (xs.length=b.aa7.length)&&(if k=6 then nv ks xs b else nD xs b.aa7)))
def nD:List Tr->List Tr->Bool
 |[],[]=>Ta
 |x::l,y::m=>xd x y&&nD l m
 |_,_=>Tc
def nv:List Bt->List Tr->Tr->Bool
 |_,[],_=>Ta
 |[],_::_,_=>Tc
 |k::ks,x::xs,b=>(match b.aa7[(idxOfS b.aa8 k).toNat]? with
  |some y=>decide (0<=idxOfS b.aa8 k)&&xd x y
  |none=>Tc)&&nv ks xs b
end
theorem Y8{v:Tr}(h:zm v=Ta)(b:v.aa6=6):v.aa8.length=DB v.aa7:=by unfold zm at h;simp_all
end
section
variable {v:Tr}
def YW{q:Tr->Bool}(h:q v=Ta)(hi:∀x∈v.aa7,Zo q x=Ta):Zo q v=Ta:=by rw[Zb,h,Bool.true_and,jl,zbl];exact hi
def NU(h:zr v=Ta):wm v=Ta:=by
 unfold zr at h;unfold wm;rw[zaw]at h ⊢;refine⟨h.1,?_⟩;have key:∀n (x:Tr),cK x<=n->Zo (λx=>decide (x.aa6≠7)&&zm x) x=Ta->Zo zm x=Ta:=by
  intro n;induction n with
  |zero=>grind [wa]
  |succ n e=>intro x f b;have:=xp b;simp at this;refine YW this.2 λy c=>e y (χ (qi c)) (jm b c)
 exact key _ v (zac _) h.2
def rU(h:wm v=Ta):Zo zm v=Ta:=by unfold wm at h;simp_all
end
section
def kT(b:List Bt)(ys:List Tr)(q:Tr->Tr->Bool)(k:Bt)(x:Tr):Bool:=match ys[(idxOfS b k).toNat]? with
 |some y=>decide (0<=idxOfS b k)&&q x y
 |none=>Tc
theorem Dx(b:Tr):∀(ks:List Bt) (xs:List Tr),DB ks=DB xs->nv ks xs b=(ks.zip xs).all λp=>kT b.aa8 b.aa7 xd p.1 p.2
 |[],[],_=>by simp[nv]
 |k::ks,x::xs,h=>by rw[nv,Dx b ks xs (ψ h)];rfl
 |[],_::_,h=>by simp at h
 |_::_,[],h=>by simp at h
theorem Aj:∀(xs ys:List Tr),DB xs=DB ys->nD xs ys=(xs.zip ys).all λp=>xd p.1 p.2
 |[],[],_=>by simp[nD]
 |x::xs,y::ys,h=>by rw[nD,Aj xs ys (ψ h)];rfl
 |[],_::_,h=>by simp at h
 |_::_,[],h=>by simp at h
theorem pV(a b:Tr):xd a b=(ph (a.aa6=b.aa6)&&(ph (a.aa9=b.aa9)&&(ph (DB a.aa7=DB b.aa7)&&(ite (a.aa6=6) (nv a.aa8 a.aa7 b) (nD a.aa7 b.aa7))))):=by cases a;rw[xd]
def XB{ks:List Bt}{k:Bt}{j:Nat}(h:idxOfS ks k=(j:Int)):j<DB ks:=by obtain⟨h1,_⟩|⟨i,h1,h2,_⟩:=Xt k ks 0;unfold idxOfS at h;omega;unfold idxOfS at h;omega
def ue:Sm zT:=⟨by simp[zT,cK,xc],by refine(nF _ _).2 ⟨⟨?_,by simp[zT],by simp[zT]⟩,sY.2 (by simp[zT])⟩;show(0:Nat)<=_;omega⟩
end
end
section
open Go.Lib
variable {gl M:Fr} {F:n4} {xs ys:List Tr} {h:zc}
def Ts(hF:zy Tp F=Ta){q:Tr->Tr->Bool}(hp:∀x∈xs,∀y∈ys,ab4 gl F [up .tree x,up .tree y] [.bool] (λr=>r=q x y)){s1 s2:Sl}(hM:Fr.le gl M)(ag:AgM M h) (r1:Rd M (.row .tree) xs [aK s1]) (r2:Rd M (.row .tree) ys [aK s2]):PX Tp 140 #[aK s1,aK s2,.func (.func F) #[] #[]] h M [.bool] (λr=>r=(ph (DB xs=DB ys)&&(xs.zip ys).all λp=>q p.1 p.2)):=by
 have⟨l1,n1,_⟩:=CD r1;have⟨l2,n2,_⟩:=CD r2;apply PX.of;apply yd s1 s2 F #[] #[];refine⟨λQ=>⟨M,_,At.refl ag,Qr.2 (GS _),?_⟩,λQ=>?_⟩;grind;have an:xs.length=DB ys:=by rw[l1,l2]at Q;simp at Q;omega
 refine⟨λi g=>∃(k:Nat) (M':Fr),i=(k:Int)/\k<=DB xs/\At h M g M'/\((xs.zip ys).take k).all (λp=>q p.1 p.2)=Ta,λi _=>DB xs-i.toNat,⟨0,M,rfl,zar _,At.refl ag,ξ⟩,?_⟩;rintro i g ⟨k,M',rfl,hk,L,ah⟩;refine⟨λt=>?_,λt=>?_⟩;have e:k<DB xs:=by rw[l1]at t;simp at t;omega
 have C:k<DB ys:=ω
 have⟨a,B,o,ea,S,t1,t2⟩:=Qs L.ag (r1.mono L.le) e;refine⟨a,⟨ea,ω,ω⟩,xs[k].aa6,xs[k].aa9,B,o,by rw[zag];exact S,?_⟩;intro z;have⟨ac,aj,ab⟩:=jo (g:=z) rfl;clear_value z;refine xm ab rfl _ _ _ _ λaf V au P=>?_;have H:BT g.size g af:=⟨ω,λj T=>by rw[P j ω];exact ac.get j T⟩;have l:=L.ag.ab0 H;have⟨a2,J,N,U,n,t3,t4⟩:=Qs l (r2.mono L.le) C;refine⟨a2,⟨U,ω,ω⟩,ys[k].aa6,ys[k].aa9,J,N,by rw[zag];exact n,?_⟩;intro D;have⟨I,al,Z⟩:=jo (g:=D) rfl;clear_value D;refine xm Z rfl _ _ _ _ λc aa am G=>?_;have m:Blk c g.size (zl xs[k].aa6 xs[k].aa9 B o).toArray:=(V.ab2 I).ab0 (G _ ω);have ae:BT g.size g c:=⟨ω,λj T=>by rw[G j ω,I.get j ω];exact H.get j T⟩;have b:At h M c M':=L.trans (v0 L.ag ae);refine⟨xs[k].aa6,xs[k].aa9,B,o,m.ld (cs:=zl xs[k].aa6 xs[k].aa9 B o),ys[k].aa6,ys[k].aa9,J,N,aa.ld (cs:=zl ys[k].aa6 ys[k].aa9 J N),hF,?_⟩;have f:=(hp xs[k] (zak e) ys[k] (zak C)).px (h:=c) (M:=M') (vs:=[.agg #[ab9 xs[k].aa6,ab5 xs[k].aa9,aK B,aK o],.agg #[ab9 ys[k].aa6,ab5 ys[k].aa9,aK J,aK N]]) (hM.trans b.le) b.ag (zo (zw t1 t2) (zo (zw t3 t4) qc));refine f.go λw ar A r E u hr=>?_;have hr:r=q xs[k] ys[k]:=hr;subst hr;have ai:(xs.zip ys).take (k+1)=(xs.zip ys).take k++[(xs[k],ys[k])]:=by rw[zai φ];simp
 refine⟨q xs[k] ys[k],Jb u,λhf=>⟨A,_,b.trans E,Qr.2 (GS _),?_⟩,λht=>?_⟩;have O:q xs[k] ys[k]=Tc:=ψ hf
 have:(xs.zip ys).all (λp=>q p.1 p.2)=Tc:=by rw[List.all_eq_false];exact⟨(xs[k],ys[k]),zdp.2 ⟨k,φ,ξ⟩,ϑ O⟩
 simp_all;have ak:q xs[k] ys[k]=Ta:=ψ ht
 rw[qd e ω];refine⟨⟨k+1,A,rfl,e,b.trans E,?_⟩,η⟩;simp_all;have Y:k=DB xs:=by rw[l1]at t;simp at t;omega
 subst Y;refine⟨M',_,L,Qr.2 (GS _),?_⟩;simp_all[List.take_of_length_le]
theorem TF{l:List Bt}(h:l.Nodup){i j:Nat}(hi:i<DB l)(b:j<DB l)(e:l[i]=l[j]):i=j:=by unfold List.Nodup at h;rw[List.pairwise_iff_getElem]at h;grind
theorem Ue(ks:List Bt)(us:ac1)(h:ks.length=DB us):(Jq (ks.zip us)).map (·.1)=ks.map za0:=by
 unfold Jq;rw[zbo];have:(ks.zip us).map (λp=>za0 p.1)=(ks.zip us).unzip.1.map za0:=ξ
 show(ks.zip us).map (λp=>za0 p.1)=_;rw[this,List.unzip_zip h]
def YJ{ks:List Bt}(h:ks.Nodup):(ks.map za0).Nodup:=η
def QM(hF:zy Tp F=Ta){q:Tr->Tr->Bool}{f m:List Bt}{z t:ac1}(aF:f.Nodup)(la:f.length=DB xs)(a7:m.length=DB ys)(aU:z.length=DB xs)(aY:t.length=DB ys)(aO:xs.length<=1000000000000/\DB ys<=1000000000000) (hp:∀x∈xs,∀y∈ys,ab4 gl F [up .tree x,up .tree y] [.bool] (λr=>r=q x y)) {A m2:Nat} (hM:Fr.le gl M) (ag:AgM M h) (w1:IO h A (Jq (f.zip z))) (w2:IO h m2 (Jq (m.zip t))) (ra:∀i (h1:i<DB xs) (h2:i<DB z),RdV M .tree xs[i] z[i]) (rb:∀i (h1:i<DB ys) (h2:i<DB t),RdV M .tree ys[i] t[i]):PX Tp 141 #[.map (Td A),.map (Td m2),.func (.func F) #[] #[]] h M [.bool] (λr=>r=(ph (DB xs=DB ys)&&(f.zip xs).all λp=>kT m ys q p.1 p.2)):=by
 apply PX.of;apply qf (Td A) (Td m2) F #[] #[];have L1:(Jq (f.zip z)).length=DB xs:=by unfold Jq;simp;omega
 have C:(Jq (m.zip t)).length=DB ys:=by unfold Jq;simp;omega
 have H:=Lv (P:=Tp) (ty:=3) Th.map w1;have G:=Lv (P:=Tp) (ty:=3) Th.map w2;rw[L1]at H;rw[C]at G;refine⟨DB xs,H,DB ys,G,λhx=>⟨M,_,At.refl ag,Qr.2 (GS _),?_⟩,λhx=>?_⟩;grind;have a6:xs.length=DB ys:=by simp at hx;omega
 have aM:=w1.lt;have ac:=w2.lt;have aL:((Jq (f.zip z)).map (·.1)).Nodup:=by rw[Ue _ _ ω];exact YJ aF
 refine Do Th.map w1 λh4 z4 k4 aJ=>⟨Td (ab7 h),rfl,?_⟩;refine⟨λg=>∃dn M',Vc g h.size A (Jq (f.zip z)) dn/\At h M g M'/\h.size<g.size/\∀i (h1:i<DB f) (h2:i<DB xs),za0 f[i]∈dn->kT m ys q f[i] xs[i]=Ta,λg=>OR g h.size A,⟨[],M,aJ,v0 ag k4,ω,λi _ _ hm=>ε hm⟩,?_⟩;rintro g ⟨dn,M',it,L,zg,aA⟩;have kg:=L.ab0;refine Bj it aL ω (λY=>.inl ⟨rfl,(λhc=>by cases hc),λ_=>⟨M',_,L,Qr.2 (GS _),?_⟩⟩) λk u aj hk g1 aH ar z1 f1 vG=>.inr ⟨k,u,rfl,λ_=>?_,λhc=>by cases hc⟩;have aP:((f.zip xs).all λp=>kT m ys q p.1 p.2)=Ta:=by rw[zbl];intro p J;have⟨i,hi,e⟩:=zdh J;rw[List.length_zip,Nat.lt_min]at hi;have:=aA i hi.1 hi.2 (Y (ab5 f[i],z[i]) (by unfold Jq;refine zbr.2 ⟨(f[i],z[i]),zdp.2 ⟨i,φ,ξ⟩,rfl⟩));rw[<-e];simpa using this
 simp_all
 ·obtain⟨i,aT,ax,ek,eu⟩:∃i,∃(h1:i<DB f) (h2:i<DB z),k=.string f[i]/\u=z[i]:=by unfold Jq at aj;have⟨p,J,e⟩:=zbr.1 aj;have⟨i,hi,e2⟩:=zdh J;grind
  subst ek;subst eu;have U:i<DB xs:=ω
  have ae:BT h.size h g1:=⟨ω,λj N=>by rw[f1 j ω];exact kg.get j N⟩;have ak:AgM M' g1:=λb c e=>by have⟨T,mm,e2⟩:=L.ag b c e;by_cases hb:b=h.size;subst hb;have⟨_,_,_,_,_,e3,_⟩:=it;simp_all;simp_all
  refine CV ar ⟨_,_,rfl,?_⟩;intro ai;have⟨aE,aS,aD⟩:=jo (g:=ai) rfl;clear_value ai;have⟨ck,ci,eu,t1,t2⟩:=qh (ra i U ax);rw[eu];refine xm aD rfl _ _ _ _ λaf aC aQ ay=>?_;have I:BT g1.size g1 af:=⟨ω,λj N=>by rw[ay j ω];exact aE.get j N⟩;have aN:=ak.ab0 I;have az:IO af m2 (Jq (m.zip t)):=w2.ab0 ((I.get _ ω).trans (ae.get _ ac));have n:=Yu Th az.at f[i] Ta;simp only[if_true]at n;obtain⟨y,E,D,a,t3,t4,d⟩:∃(y:Tr) (E D:Sl),jX (m.zip t) f[i] (.agg #[ab9 0,ab5 ⟨#[]⟩,.slice Te 0 0,.slice Te 0 0])=.agg #[ab9 y.aa6,ab5 y.aa9,aK E,aK D]/\RdV M .tree y (.agg #[ab9 y.aa6,ab5 y.aa9,aK E,aK D]) /\
   ((il (m.zip t) f[i]).isSome=Ta->y∈ys)/\kT m ys q f[i] xs[i]=((il (m.zip t) f[i]).isSome&&q xs[i] y):=by
   rcases Ee f[i] m t 0 ω with⟨g1,g2⟩|⟨j,w,g1,g2,g3⟩;refine⟨zT,⟨Te,0,0⟩,⟨Te,0,0⟩,by unfold jX;rw[g2];rfl,?_,?_,?_⟩;refine zw (v:=zT) ?_ ?_;exact⟨_,rfl,Te,0,rfl,⟨by simp[zT],by simp[zT]⟩,.inl rfl⟩;exact⟨_,rfl,Te,0,rfl,⟨by simp[zT],by simp[zT]⟩,.inl rfl⟩;simp_all;rw[g2];unfold kT idxOfS;grind;have⟨N,ej⟩:=zbb.1 g2;have am:j<DB ys:=ω
   have hr:=rb j am N;rw[ej]at hr;have⟨E,D,ew,t3,t4⟩:=qh hr;refine⟨ys[j],E,D,by unfold jX;grind,θ,λ_=>zak am,?_⟩;rw[g3];unfold kT idxOfS;simp_all
  rw[a]at n;refine⟨y.aa6,y.aa9,E,D,(il (m.zip t) f[i]).isSome,n,?_⟩;intro al;have⟨ab,aZ,aG⟩:=jo (g:=al) rfl;clear_value al;refine xm aG rfl _ _ _ _ λl aB aV Z=>?_;have aa:Blk l g1.size (zl xs[i].aa6 xs[i].aa9 ck ci).toArray:=(aC.ab2 ab).ab0 (Z _ ω);have o:BT g1.size g1 l:=⟨ω,λj N=>by rw[Z j ω,ab.get j ω];exact I.get j N⟩;have an:BT h.size h l:=ae.trans o ω;have B:At h M l M':=⟨an,L.le,L.old,ak.ab0 o⟩;have V:Vc l h.size A (Jq (f.zip z)) (ab5 f[i]::dn):=aH.ab0 (o.get _ ω) (o.get _ ω);have Q:OR l h.size A<OR g h.size A:=by rw[OR.ab0 (o.get h.size ω) (o.get A ω)];exact vG
  refine⟨xs[i].aa6,xs[i].aa9,ck,ci,λ_=>aa.ld (cs:=zl xs[i].aa6 xs[i].aa9 ck ci),y.aa6,y.aa9,E,D,λ_=>aB.ld (cs:=zl y.aa6 y.aa9 E D),?_⟩;have aI:kT m ys q f[i] xs[i]=Tc->((f.zip xs).all λp=>kT m ys q p.1 p.2)=Tc:=λhf=>by rw[List.all_eq_false];exact⟨(f[i],xs[i]),zdp.2 ⟨i,φ,ξ⟩,by simp[hf]⟩
  refine⟨λw g2=>∃b S,w=.bool b/\At l M' g2 S/\((il (m.zip t) f[i]).isSome=Ta->b=q xs[i] y),λhs=>⟨hF,?_⟩,λhs=>⟨Ta,Ta,M',rfl,At.refl B.ag,λhc=>θ⟩,λ_ w g2 ⟨b,_,e,_⟩=>⟨b,e⟩,?_⟩;have au:(il (m.zip t) f[i]).isSome=Ta:=ψ hs
  have O:=(hp xs[i] (zak U) y (t4 au)).px (h:=l) (M:=M') (vs:=[.agg #[ab9 xs[i].aa6,ab5 xs[i].aa9,aK ck,aK ci],.agg #[ab9 y.aa6,ab5 y.aa9,aK E,aK D]]) (hM.trans B.le) B.ag (zo (RdV.mono L.le (zw t1 t2)) (zo (RdV.mono L.le t3) qc));exact O.go λw g2 S r C ah hr=>⟨r,Jb ah,r,S,rfl,C,λ_=>hr⟩;rintro b g2 ⟨b',S,e,C,hb⟩;cases e;refine⟨λhf=>⟨S,_,B.trans C,Qr.2 (GS _),?_⟩,λht=>⟨⟨_,S,V.ab0 (C.ab0.get _ ω) (C.ab0.get _ ω),B.trans C,χ C.ab0.size,λi2 h1 h2 hm=>?_⟩,?_⟩⟩;grind;obtain e|hm:=zal.1 hm;grind [TF];grind;show OR g2 h.size A<OR g h.size A;rw[OR.ab0 (C.ab0.get h.size ω) (C.ab0.get A ω)];exact Q
end
section
def Sf(gl:Fr)(b:Tr)(R:ad2) (H:ab4 gl 12 [up .tree (Tr.mk b.aa6 b.aa9 b.aa8 b.aa7),up PJ 40] [.bool] (λa:Bool=>R a)):ab4 gl 31 [up .tree b] [.bool] R:=PF ⟨[],[],[],[]⟩ [.tmp 2] 5 func31 H
def ZH(gl:Fr)(h:Tr)(R:ad2) (H:∃(a:ad3) (b:Int->Nat),a 0/\∀c:Int,a c->((ph (c<DB h.aa7)=Ta->∃d,(0<=c/\h.aa7[c.toNat]?=Td d)/\ab4 gl 32 [up .tree (Tr.mk d.aa6 d.aa9 d.aa8 d.aa7)] [.bool] (λe:Bool=>∃f,(((!(!e))&&(h.aa6==5))=Ta->(0<=c/\h.aa7[c.toNat]?=Td f))/\∃g:Bool->Prop,(((!(!e))&&(h.aa6==5))=Ta->ab4 gl 12 [up .tree (Tr.mk f.aa6 f.aa9 f.aa8 f.aa7),up PJ 8] [.bool] g)/\∀i:Bool,(((!(!e))&&(h.aa6==5))=Ta->g i)->((cond (!e) Ta (cond (h.aa6==5) (!i) Tc))=Ta->R Tc)/\((cond (!e) Ta (cond (h.aa6==5) (!i) Tc))=Tc->(a (w6 (c+1))/\b (w6 (c+1))<b c))))/\(ph (c<DB h.aa7)=Tc->R Ta))):ab4 gl 32 [up .tree h] [.bool] R:=PF ⟨[],[],[(2,⟨[(3,.one (.dat PJ))],[],[1],[100192]⟩)],[]⟩ [.tmp 2] 34 func32 H
def Tn(gl:Fr)(a0:Tr)(b1:Tr)(R:((List (Bt×(List Bt)×(List Bt)×Tr))×Int)->Prop) (H:ab4 gl 57 [up .tree (Tr.mk a0.aa6 a0.aa9 a0.aa8 a0.aa7)] [.bool] (λa:Bool=>ab4 gl 57 [up .tree (Tr.mk b1.aa6 b1.aa9 b1.aa8 b1.aa7)] [.bool] (λb:Bool=>((cond (!a) Ta (!b))=Ta->R ([],1))/\((cond (!a) Ta (!b))=Tc->ab4 gl 66 [up (.row .str) [],up .tree (Tr.mk a0.aa6 a0.aa9 a0.aa8 a0.aa7),up .tree (Tr.mk b1.aa6 b1.aa9 b1.aa8 b1.aa7)] [.row (.pair .str (.pair (.row .str) (.pair (.row .str) .tree)))] (λc:List (Bt×(List Bt)×(List Bt)×Tr)=>R (c,0)))))):ab4 gl 34 [up .tree a0,up .tree b1] [.row (.pair .str (.pair (.row .str) (.pair (.row .str) .tree))),.int .i64] R:=PF ⟨[],[],[],[]⟩ [.tmp 4,.tmp 5] 21 func34 H
def US(gl:Fr)(a0:List (Bt×(List Bt)×(List Bt)×Tr))(b1:List (Bt×(List Bt)×(List Bt)×Tr))(R:ad2) (H:(((DB a0:Int) != (DB b1:Int))=Ta->R Tc)/\(((DB a0:Int) != (DB b1:Int))=Tc->∃(a:ad3) (b:Int->Nat),a 0/\∀c:Int,a c->((ph (c<DB a0)=Ta->∃d:Bt×(List Bt)×(List Bt)×Tr,(0<=c/\a0[c.toNat]?=Td d)/\∃e:Bt×(List Bt)×(List Bt)×Tr,(0<=c/\b1[c.toNat]?=Td e)/\ab4 gl 17 [up .tree (Tr.mk d.2.2.2.aa6 d.2.2.2.aa9 d.2.2.2.aa8 d.2.2.2.aa7),up .tree (Tr.mk e.2.2.2.aa6 e.2.2.2.aa9 e.2.2.2.aa8 e.2.2.2.aa7)] [.bool] (λf:Bool=>∃g:Bt×(List Bt)×(List Bt)×Tr,((!(!f))=Ta->(0<=c/\a0[c.toNat]?=Td g))/\∃i:Bt×(List Bt)×(List Bt)×Tr,((!(!f))=Ta->(0<=c/\b1[c.toNat]?=Td i))/\∃j:Bt×(List Bt)×(List Bt)×Tr,((!(cond (!f) Ta (!(g.1.toList==i.1.toList))))=Ta->(0<=c/\a0[c.toNat]?=Td j))/\∃k:Bt×(List Bt)×(List Bt)×Tr,((!(cond (!f) Ta (!(g.1.toList==i.1.toList))))=Ta->(0<=c/\b1[c.toNat]?=Td k))/\∃l:Bool->Prop,((!(cond (!f) Ta (!(g.1.toList==i.1.toList))))=Ta->ab4 gl 40 [up (.row .str) j.2.1,up (.row .str) k.2.1] [.bool] l)/\∀m:Bool,((!(cond (!f) Ta (!(g.1.toList==i.1.toList))))=Ta->l m)->∃n:Bt×(List Bt)×(List Bt)×Tr,((!(cond (cond (!f) Ta (!(g.1.toList==i.1.toList))) Ta (!m)))=Ta->(0<=c/\a0[c.toNat]?=Td n))/\∃o:Bt×(List Bt)×(List Bt)×Tr,((!(cond (cond (!f) Ta (!(g.1.toList==i.1.toList))) Ta (!m)))=Ta->(0<=c/\b1[c.toNat]?=Td o))/\∃p:Bool->Prop,((!(cond (cond (!f) Ta (!(g.1.toList==i.1.toList))) Ta (!m)))=Ta->ab4 gl 40 [up (.row .str) n.2.2.1,up (.row .str) o.2.2.1] [.bool] p)/\∀q:Bool,((!(cond (cond (!f) Ta (!(g.1.toList==i.1.toList))) Ta (!m)))=Ta->p q)->((cond (cond (cond (!f) Ta (!(g.1.toList==i.1.toList))) Ta (!m)) Ta (!q))=Ta->R Tc)/\((cond (cond (cond (!f) Ta (!(g.1.toList==i.1.toList))) Ta (!m)) Ta (!q))=Tc->(a (w6 (c+1))/\b (w6 (c+1))<b c))))/\(ph (c<DB a0)=Tc->R Ta)))):ab4 gl 35 [up (.row (.pair .str (.pair (.row .str) (.pair (.row .str) .tree)))) a0,up (.row (.pair .str (.pair (.row .str) (.pair (.row .str) .tree)))) b1] [.bool] R:=PF ⟨[(6,10)],[(7,40,[],[0,1,2,3,4,5,6,7,8,9,10,11,12,13,14,15,16,17,18,19,20,21,22,23,24,25,26,27,28,29,30,31,32,33,34,35,36,37,38,39],[])],[(4,⟨[(5,.one (.dat PJ))],[],[],[100320]⟩)],[]⟩ [.tmp 4] 72 func35 H
def V6(gl:Fr)(h:List (Bt×(List Bt)×(List Bt)×Tr))(R:(List Bt)->Prop) (H:∃(a:(List Bt)->Int->Prop) (b:(List Bt)->Int->Nat),a [] 0/\∀c:List Bt,∀d:Int,a c d->((ph (d<DB h)=Ta->∃e:Bt×(List Bt)×(List Bt)×Tr,(0<=d/\h[d.toNat]?=Td e)/\ab4 gl 75 [up (.row .str) e.2.1] [.str,.int .i64] (λf:Bt×Int=>((DB c+zbu ([f.1]:List Bt))*16<=140737488355328/\(a (c++[f.1]) (w6 (d+1))/\b (c++[f.1]) (w6 (d+1))<b c d))))/\(ph (d<DB h)=Tc->R c))):ab4 gl 41 [up (.row (.pair .str (.pair (.row .str) (.pair (.row .str) .tree)))) h] [.row .str] R:=PF ⟨[],[],[(3,⟨[(3,.one (.own 9 .str)),(10,.one (.dat PJ))],[],[],[100192,100640]⟩)],[]⟩ [.tmp 2] 26 func41 H
def OZ(gl:Fr)(h:Bt×(List Bt)×(List Bt)×Tr)(R:ad2) (H:ab4 gl 77 [up .str h.1] [.bool,.bool,.bool] (λa:Bool×Bool×Bool=>∀b:Bool->Prop,(∀c:Bool,((c=Ta->R Tc)/\(c=Tc->(a.1=Ta->ab4 gl 49 [up .tree (Tr.mk h.2.2.2.aa6 h.2.2.2.aa9 h.2.2.2.aa8 h.2.2.2.aa7)] [.bool] (λd:Bool=>R d))/\(a.1=Tc->ab4 gl 79 [up .tree (Tr.mk h.2.2.2.aa6 h.2.2.2.aa9 h.2.2.2.aa8 h.2.2.2.aa7)] [.bool] (λe:Bool=>R e))))->b c)->((!a.2.2)=Ta->b (!a.2.2))/\((!a.2.2)=Tc->ab4 gl 78 [up (.row .str) h.2.1] [.bool] (λf:Bool=>((!f)=Ta->b (!f))/\((!f)=Tc->ab4 gl 78 [up (.row .str) h.2.2.1] [.bool] (λg:Bool=>((!g)=Ta->b (!g))/\((!g)=Tc->b (cond (!a.2.1) (ph ((DB h.2.2.1:Int)>0)) Tc)))))))):ab4 gl 44 [up (.pair .str (.pair (.row .str) (.pair (.row .str) .tree))) h] [.bool] R:=PF ⟨[],[],[],[(6,⟨[(13,.one (.dat .bool))],[],[1],[100832]⟩)]⟩ [.tmp 2] 40 func44 H
def WM(gl:Fr)(h:List Bt)(a1:Tr)(b2:Tr)(R:(List (Bt×(List Bt)×(List Bt)×Tr))->Prop) (H:ab4 gl 119 [up .tree (Tr.mk a1.aa6 a1.aa9 a1.aa8 a1.aa7),up .tree (Tr.mk b2.aa6 b2.aa9 b2.aa8 b2.aa7)] [.bool] (λa:Bool=>(a=Ta->R [])/\(a=Tc->((cond (a1.aa6==6) (b2.aa6==6) Tc)=Ta->ab4 gl 120 [up (.row .str) h,up .tree (Tr.mk a1.aa6 a1.aa9 a1.aa8 a1.aa7),up .tree (Tr.mk b2.aa6 b2.aa9 b2.aa8 b2.aa7)] [.row (.pair .str (.pair (.row .str) (.pair (.row .str) .tree)))] (λb:List (Bt×(List Bt)×(List Bt)×Tr)=>R b))/\((cond (a1.aa6==6) (b2.aa6==6) Tc)=Tc->∀c:Prop,((ab4 gl 13 [up .tree (Tr.mk b2.aa6 b2.aa9 b2.aa8 b2.aa7)] [.tree] (λd:Tr=>R ([((⟨#[114,101,112,108,97,99,101]⟩:Bt),(h,([],Tr.mk d.aa6 d.aa9 d.aa8 d.aa7)))]:List (Bt×(List Bt)×(List Bt)×Tr))))->c)->((cond (a1.aa6==5) (b2.aa6==5) Tc)=Ta->ab4 gl 121 [up (.row .tree) a1.aa7,up (.row .tree) b2.aa7] [.row (.pair PJ (.int .i64)),.int .i64,.int .i64] (λe:(List (Int×Int))×Int×Int=>((e.2.2==0)=Ta->ab4 gl 122 [up (.row .str) h,up .tree (Tr.mk a1.aa6 a1.aa9 a1.aa8 a1.aa7),up .tree (Tr.mk b2.aa6 b2.aa9 b2.aa8 b2.aa7),up (.row (.pair PJ (.int .i64))) e.1] [.row (.pair .str (.pair (.row .str) (.pair (.row .str) .tree)))] (λf:List (Bt×(List Bt)×(List Bt)×Tr)=>R f))/\((e.2.2==0)=Tc->c)))/\((cond (a1.aa6==5) (b2.aa6==5) Tc)=Tc->c))))):ab4 gl 66 [up (.row .str) h,up .tree a1,up .tree b2] [.row (.pair .str (.pair (.row .str) (.pair (.row .str) .tree)))] R:=PF ⟨[],[],[],[(10,⟨[],[],[5],[]⟩)]⟩ [.tmp 6] 56 func66 H
def zn2(gl:Fr)(c:Bt)(R:(Bool×Bool×Bool)->Prop) (H:∀a:Bool->Prop,(∀b:Bool,((b=Ta->R (Ta,Tc,Ta))/\(b=Tc->((c.toList==(⟨#[109,111,118,101]⟩:Bt).toList)=Ta->((c.toList==(⟨#[109,111,118,101]⟩:Bt).toList)=Ta->R (Tc,Ta,Ta))/\((c.toList==(⟨#[109,111,118,101]⟩:Bt).toList)=Tc->R (Tc,Tc,(c.toList==(⟨#[114,101,109,111,118,101]⟩:Bt).toList))))/\((c.toList==(⟨#[109,111,118,101]⟩:Bt).toList)=Tc->((c.toList==(⟨#[99,111,112,121]⟩:Bt).toList)=Ta->R (Tc,Ta,Ta))/\((c.toList==(⟨#[99,111,112,121]⟩:Bt).toList)=Tc->R (Tc,Tc,(c.toList==(⟨#[114,101,109,111,118,101]⟩:Bt).toList))))))->a b)->((c.toList==(⟨#[97,100,100]⟩:Bt).toList)=Ta->a (c.toList==(⟨#[97,100,100]⟩:Bt).toList))/\((c.toList==(⟨#[97,100,100]⟩:Bt).toList)=Tc->((c.toList==(⟨#[114,101,112,108,97,99,101]⟩:Bt).toList)=Ta->a (c.toList==(⟨#[114,101,112,108,97,99,101]⟩:Bt).toList))/\((c.toList==(⟨#[114,101,112,108,97,99,101]⟩:Bt).toList)=Tc->a (c.toList==(⟨#[116,101,115,116]⟩:Bt).toList)))):ab4 gl 77 [up .str c] [.bool,.bool,.bool] R:=PF ⟨[],[],[],[(5,⟨[(6,.one (.dat .bool))],[],[],[100384]⟩)]⟩ [.tmp 2,.tmp 3,.tmp 4] 15 func77 H
def VB(gl:Fr)(b:Tr)(R:ad2) (H:R (cond (cond (b.aa6==0) (b.aa9.toList==(⟨#[]⟩:Bt).toList) Tc) ((w6 ((DB b.aa8:Int)+(DB b.aa7:Int)))==0) Tc)):ab4 gl 79 [up .tree b] [.bool] R:=PF ⟨[],[],[],[]⟩ [.tmp 2] 21 func79 H
def Sj(gl:Fr)(a0:Tr)(b1:Tr)(R:ad2) (H:ab4 gl 106 [up .tree (Tr.mk a0.aa6 a0.aa9 a0.aa8 a0.aa7)] [.bool] (λa:Bool=>ab4 gl 106 [up .tree (Tr.mk b1.aa6 b1.aa9 b1.aa8 b1.aa7)] [.bool] (λb:Bool=>∃c:Bool->Prop,((cond a b Tc)=Ta->ab4 gl 188 [up .tree (Tr.mk a0.aa6 a0.aa9 a0.aa8 a0.aa7),up .tree (Tr.mk b1.aa6 b1.aa9 b1.aa8 b1.aa7)] [.bool] c)/\∀d:Bool,((cond a b Tc)=Ta->c d)->R (cond (cond a b Tc) d Tc)))):ab4 gl 119 [up .tree a0,up .tree b1] [.bool] R:=PF ⟨[],[],[],[]⟩ [.tmp 4] 20 func119 H
def Rx(gl:Fr)(h:List Bt)(a1:Tr)(b2:Tr)(R:(List (Bt×(List Bt)×(List Bt)×Tr))->Prop) (H:ab4 gl 59 [up .tree (Tr.mk a1.aa6 a1.aa9 a1.aa8 a1.aa7)] [.tree] (λa:Tr=>ab4 gl 59 [up .tree (Tr.mk b2.aa6 b2.aa9 b2.aa8 b2.aa7)] [.tree] (λb:Tr=>∃(c:(List (Bt×(List Bt)×(List Bt)×Tr))->Int->Prop) (d:(List (Bt×(List Bt)×(List Bt)×Tr))->Int->Nat),c [] 0/\∀e:List (Bt×(List Bt)×(List Bt)×Tr),∀f:Int,c e f->((ph (f<DB a.aa8)=Ta->∃g,(0<=f/\a.aa8[f.toNat]?=Td g)/\ab4 gl 189 [up .tree (Tr.mk b2.aa6 b2.aa9 b2.aa8 b2.aa7),up .str g] [.int .i64] (λi:Int=>(ph (i<0)=Ta->∃j,(0<=f/\a.aa8[f.toNat]?=Td j)/\ab4 gl 190 [up (.row .str) h,up .str j] [.row .str] (λk:List Bt=>((DB e+zbu ([((⟨#[114,101,109,111,118,101]⟩:Bt),(k,([],Tr.mk 0 (⟨#[]⟩:Bt) [] [])))]:List (Bt×(List Bt)×(List Bt)×Tr)))*136<=140737488355328/\(c (e++([((⟨#[114,101,109,111,118,101]⟩:Bt),(k,([],Tr.mk 0 (⟨#[]⟩:Bt) [] [])))]:List (Bt×(List Bt)×(List Bt)×Tr))) (w6 (f+1))/\d (e++([((⟨#[114,101,109,111,118,101]⟩:Bt),(k,([],Tr.mk 0 (⟨#[]⟩:Bt) [] [])))]:List (Bt×(List Bt)×(List Bt)×Tr))) (w6 (f+1))<d e f))))/\(ph (i<0)=Tc->(c e (w6 (f+1))/\d e (w6 (f+1))<d e f))))/\(ph (f<DB a.aa8)=Tc->∃(l:(List (Bt×(List Bt)×(List Bt)×Tr))->Int->Prop) (m:(List (Bt×(List Bt)×(List Bt)×Tr))->Int->Nat),l e 0/\∀n:List (Bt×(List Bt)×(List Bt)×Tr),∀o:Int,l n o->((ph (o<DB a.aa8)=Ta->∃p,(0<=o/\a.aa8[o.toNat]?=Td p)/\ab4 gl 189 [up .tree (Tr.mk b2.aa6 b2.aa9 b2.aa8 b2.aa7),up .str p] [.int .i64] (λq:Int=>(ph (q>=0)=Ta->∃r,(0<=o/\a.aa8[o.toNat]?=Td r)/\∃s,(0<=o/\a.aa8[o.toNat]?=Td s)/\∃t,(0<=q/\b2.aa7[q.toNat]?=Td t)/\ab4 gl 190 [up (.row .str) h,up .str r] [.row .str] (λu:List Bt=>ab4 gl 189 [up .tree (Tr.mk a1.aa6 a1.aa9 a1.aa8 a1.aa7),up .str s] [.int .i64] (λv:Int=>∃w,(0<=v/\a1.aa7[v.toNat]?=Td w)/\ab4 gl 66 [up (.row .str) u,up .tree (Tr.mk w.aa6 w.aa9 w.aa8 w.aa7),up .tree (Tr.mk t.aa6 t.aa9 t.aa8 t.aa7)] [.row (.pair .str (.pair (.row .str) (.pair (.row .str) .tree)))] (λx:List (Bt×(List Bt)×(List Bt)×Tr)=>((DB n+DB x)*136<=140737488355328/\(l (n++x) (w6 (o+1))/\m (n++x) (w6 (o+1))<m n o))))))/\(ph (q>=0)=Tc->(l n (w6 (o+1))/\m n (w6 (o+1))<m n o))))/\(ph (o<DB a.aa8)=Tc->∃(y:(List (Bt×(List Bt)×(List Bt)×Tr))->Int->Prop) (z:(List (Bt×(List Bt)×(List Bt)×Tr))->Int->Nat),y n 0/\∀A:List (Bt×(List Bt)×(List Bt)×Tr),∀B:Int,y A B->((ph (B<DB b.aa8)=Ta->∃C,(0<=B/\b.aa8[B.toNat]?=Td C)/\ab4 gl 189 [up .tree (Tr.mk a1.aa6 a1.aa9 a1.aa8 a1.aa7),up .str C] [.int .i64] (λD:Int=>(ph (D<0)=Ta->∃E,(0<=B/\b.aa8[B.toNat]?=Td E)/\∃F,(0<=B/\b.aa8[B.toNat]?=Td F)/\ab4 gl 190 [up (.row .str) h,up .str E] [.row .str] (λG:List Bt=>ab4 gl 189 [up .tree (Tr.mk b2.aa6 b2.aa9 b2.aa8 b2.aa7),up .str F] [.int .i64] (λI:Int=>∃J,(0<=I/\b2.aa7[I.toNat]?=Td J)/\ab4 gl 13 [up .tree (Tr.mk J.aa6 J.aa9 J.aa8 J.aa7)] [.tree] (λL:Tr=>((DB A+zbu ([((⟨#[97,100,100]⟩:Bt),(G,([],Tr.mk L.aa6 L.aa9 L.aa8 L.aa7)))]:List (Bt×(List Bt)×(List Bt)×Tr)))*136<=140737488355328/\(y (A++([((⟨#[97,100,100]⟩:Bt),(G,([],Tr.mk L.aa6 L.aa9 L.aa8 L.aa7)))]:List (Bt×(List Bt)×(List Bt)×Tr))) (w6 (B+1))/\z (A++([((⟨#[97,100,100]⟩:Bt),(G,([],Tr.mk L.aa6 L.aa9 L.aa8 L.aa7)))]:List (Bt×(List Bt)×(List Bt)×Tr))) (w6 (B+1))<z A B))))))/\(ph (D<0)=Tc->(y A (w6 (B+1))/\z A (w6 (B+1))<z A B))))/\(ph (B<DB b.aa8)=Tc->R A))))))))):ab4 gl 120 [up (.row .str) h,up .tree a1,up .tree b2] [.row (.pair .str (.pair (.row .str) (.pair (.row .str) .tree)))] R:=PF ⟨[(7,6),(12,6),(18,6)],[(14,24,[],[0,1,2,3,4,5,6,8,9,10,11,12,13,14,15,19,20,21,22,23,7,16,17,18],[0]),(19,17,[],[0,1,2,3,4,5,6,8,9,10,11,12,13,14,15,7,16],[0])],[(5,⟨[(7,.one (.own 50 (.pair .str (.pair (.row .str) (.pair (.row .str) .tree))))),(10,.one (.dat PJ))],[],[4,5,8,9],[100448,100640]⟩),(10,⟨[(7,.one (.own 50 (.pair .str (.pair (.row .str) (.pair (.row .str) .tree))))),(11,.one (.dat PJ))],[],[4,5,8,9],[100448,100704]⟩),(16,⟨[(7,.one (.own 50 (.pair .str (.pair (.row .str) (.pair (.row .str) .tree))))),(13,.one (.dat PJ))],[],[4,5,9],[100448,100832]⟩)],[]⟩ [.tmp 6] 125 func120 H
def Oz(gl:Fr)(h:List Bt)(a1:Tr)(b2:Tr)(D:List (Int×Int))(R:(List (Bt×(List Bt)×(List Bt)×Tr))->Prop) (H:∃(a:(List (Bt×(List Bt)×(List Bt)×Tr))->Int->Prop) (b:(List (Bt×(List Bt)×(List Bt)×Tr))->Int->Nat),a [] 0/\∀c:List (Bt×(List Bt)×(List Bt)×Tr),∀d:Int,a c d->((ph (d<DB D)=Ta->∃e:Int×Int,(0<=d/\D[d.toNat]?=Td e)/\∃f:Int×Int,(0<=d/\D[d.toNat]?=Td f)/\∃g,(0<=f.1/\a1.aa7[f.1.toNat]?=Td g)/\∃i:Int×Int,(0<=d/\D[d.toNat]?=Td i)/\∃j,(0<=i.2/\b2.aa7[i.2.toNat]?=Td j)/\ab4 gl 193 [up PJ e.1] [.str] (λk:Bt=>ab4 gl 190 [up (.row .str) h,up .str k] [.row .str] (λl:List Bt=>ab4 gl 66 [up (.row .str) l,up .tree (Tr.mk g.aa6 g.aa9 g.aa8 g.aa7),up .tree (Tr.mk j.aa6 j.aa9 j.aa8 j.aa7)] [.row (.pair .str (.pair (.row .str) (.pair (.row .str) .tree)))] (λm:List (Bt×(List Bt)×(List Bt)×Tr)=>((DB c+DB m)*136<=140737488355328/\(a (c++m) (w6 (d+1))/\b (c++m) (w6 (d+1))<b c d))))))/\(ph (d<DB D)=Tc->∃(n:(List (Bt×(List Bt)×(List Bt)×Tr))->Int->Prop) (o:(List (Bt×(List Bt)×(List Bt)×Tr))->Int->Nat),n c (w6 ((DB a1.aa7:Int)-1))/\∀p:List (Bt×(List Bt)×(List Bt)×Tr),∀q:Int,n p q->((ph (q>=0)=Ta->ab4 gl 194 [up (.row (.pair PJ (.int .i64))) D,up PJ q,up .bool Tc] [.bool] (λr:Bool=>((!r)=Ta->ab4 gl 193 [up PJ q] [.str] (λs:Bt=>ab4 gl 190 [up (.row .str) h,up .str s] [.row .str] (λt:List Bt=>((DB p+zbu ([((⟨#[114,101,109,111,118,101]⟩:Bt),(t,([],Tr.mk 0 (⟨#[]⟩:Bt) [] [])))]:List (Bt×(List Bt)×(List Bt)×Tr)))*136<=140737488355328/\(n (p++([((⟨#[114,101,109,111,118,101]⟩:Bt),(t,([],Tr.mk 0 (⟨#[]⟩:Bt) [] [])))]:List (Bt×(List Bt)×(List Bt)×Tr))) (w6 (q-1))/\o (p++([((⟨#[114,101,109,111,118,101]⟩:Bt),(t,([],Tr.mk 0 (⟨#[]⟩:Bt) [] [])))]:List (Bt×(List Bt)×(List Bt)×Tr))) (w6 (q-1))<o p q)))))/\((!r)=Tc->(n p (w6 (q-1))/\o p (w6 (q-1))<o p q))))/\(ph (q>=0)=Tc->∃(u:(List (Bt×(List Bt)×(List Bt)×Tr))->Int->Prop) (v:(List (Bt×(List Bt)×(List Bt)×Tr))->Int->Nat),u p 0/\∀w:List (Bt×(List Bt)×(List Bt)×Tr),∀x:Int,u w x->((ph (x<DB b2.aa7)=Ta->ab4 gl 194 [up (.row (.pair PJ (.int .i64))) D,up PJ x,up .bool Ta] [.bool] (λy:Bool=>((!y)=Ta->∃z,(0<=x/\b2.aa7[x.toNat]?=Td z)/\ab4 gl 193 [up PJ x] [.str] (λA:Bt=>ab4 gl 190 [up (.row .str) h,up .str A] [.row .str] (λB:List Bt=>ab4 gl 13 [up .tree (Tr.mk z.aa6 z.aa9 z.aa8 z.aa7)] [.tree] (λC:Tr=>((DB w+zbu ([((⟨#[97,100,100]⟩:Bt),(B,([],Tr.mk C.aa6 C.aa9 C.aa8 C.aa7)))]:List (Bt×(List Bt)×(List Bt)×Tr)))*136<=140737488355328/\(u (w++([((⟨#[97,100,100]⟩:Bt),(B,([],Tr.mk C.aa6 C.aa9 C.aa8 C.aa7)))]:List (Bt×(List Bt)×(List Bt)×Tr))) (w6 (x+1))/\v (w++([((⟨#[97,100,100]⟩:Bt),(B,([],Tr.mk C.aa6 C.aa9 C.aa8 C.aa7)))]:List (Bt×(List Bt)×(List Bt)×Tr))) (w6 (x+1))<v w x))))))/\((!y)=Tc->(u w (w6 (x+1))/\v w (w6 (x+1))<v w x))))/\(ph (x<DB b2.aa7)=Tc->R w))))))):ab4 gl 122 [up (.row .str) h,up .tree a1,up .tree b2,up (.row (.pair PJ (.int .i64))) D] [.row (.pair .str (.pair (.row .str) (.pair (.row .str) .tree)))] R:=PF ⟨[],[(5,27,[],[0,1,2,3,4,5,6,9,10,11,12,13,14,15,16,17,18,19,20,21,22,23,24,25,26,7,8],[0]),(17,10,[],[0,1,2,5,6,7,8,9,3,4],[0])],[(3,⟨[(9,.one (.own 50 (.pair .str (.pair (.row .str) (.pair (.row .str) .tree))))),(10,.one (.dat PJ))],[],[5,6],[100576,100640]⟩),(7,⟨[(9,.one (.own 50 (.pair .str (.pair (.row .str) (.pair (.row .str) .tree))))),(11,.one (.dat PJ))],[],[6],[100576,100704]⟩),(13,⟨[(9,.one (.own 50 (.pair .str (.pair (.row .str) (.pair (.row .str) .tree))))),(13,.one (.dat PJ))],[],[6],[100576,100832]⟩)],[]⟩ [.tmp 8] 98 func122 H
def PM(gl:Fr)(c:List Bt)(R:Bt->Prop) (H:ab4 gl 75 [up (.row .str) c] [.str,.int .i64] (λa:Bt×Int=>ab4 gl 125 [up .str a.1] [.str,.int .i64] (λb:Bt×Int=>R b.1))):ab4 gl 124 [up (.row .str) c] [.str] R:=PF ⟨[],[],[],[]⟩ [.tmp 2] 18 func124 H
def zn4(gl:Fr)(h:List Tr)(R:((List ((List Bt)×List Int))×Int)->Prop) (H:∃(a:ad3) (b:Int->Nat),a 0/\∀c:Int,a c->((ph (c<DB h)=Ta->∃d,(0<=c/\h[c.toNat]?=Td d)/\ab4 gl 49 [up .tree (Tr.mk d.aa6 d.aa9 d.aa8 d.aa7)] [.bool] (λe:Bool=>((!e)=Ta->R ([],1))/\((!e)=Tc->(a (w6 (c+1))/\b (w6 (c+1))<b c))))/\(ph (c<DB h)=Tc->(ph ((DB h:Int)>64)=Ta->R ([],6))/\(ph ((DB h:Int)>64)=Tc->∃(f:(List ((List Bt)×List Int))->Int->Int->Prop) (g:(List ((List Bt)×List Int))->Int->Int->Nat),f [] 512 0/\∀i:List ((List Bt)×List Int),∀j k:Int,f i j k->((ph (k<DB h)=Ta->∃l,(0<=k/\h[k.toNat]?=Td l)/\ab4 gl 14 [up .tree (Tr.mk l.aa6 l.aa9 l.aa8 l.aa7)] [.pair (.row .str) (.row PJ),.int .i64] (λm:((List Bt)×List Int)×Int=>((cond (m.2 != 0) Ta (ph ((w6 (j-(DB m.1.1:Int)))<0)))=Ta->R ([],6))/\((cond (m.2 != 0) Ta (ph ((w6 (j-(DB m.1.1:Int)))<0)))=Tc->((DB i+zbu ([(m.1.1,m.1.2)]:List ((List Bt)×List Int)))*48<=140737488355328/\(f (i++[(m.1.1,m.1.2)]) (w6 (j-(DB m.1.1:Int))) (w6 (k+1))/\g (i++[(m.1.1,m.1.2)]) (w6 (j-(DB m.1.1:Int))) (w6 (k+1))<g i j k)))))/\(ph (k<DB h)=Tc->R (i,0))))))):ab4 gl 182 [up (.row .tree) h] [.row (.pair (.row .str) (.row PJ)),.int .i64] R:=PF ⟨[],[],[(2,⟨[(14,.one (.dat PJ))],[],[],[100896]⟩),(12,⟨[(6,.one (.own 31 (.pair (.row .str) (.row PJ)))),(7,.one (.dat PJ)),(27,.one (.dat PJ))],[],[],[100384,100448,101728]⟩)],[]⟩ [.tmp 2,.tmp 3] 53 func182 H
def zgl(gl:Fr)(a0:Tr)(b1:Tr)(R:ad2) (H:((cond (cond (a0.aa6 != b1.aa6) Ta (!(a0.aa9.toList==b1.aa9.toList))) Ta ((DB a0.aa7:Int) != (DB b1.aa7:Int)))=Ta->R Tc)/\((cond (cond (a0.aa6 != b1.aa6) Ta (!(a0.aa9.toList==b1.aa9.toList))) Ta ((DB a0.aa7:Int) != (DB b1.aa7:Int)))=Tc->∃(a:ad3) (b:Int->Nat),a 0/\∀c:Int,a c->((ph (c<DB a0.aa7)=Ta->∀d:Int->Prop,(∀e:Int,((ph (e<0)=Ta->R Tc)/\(ph (e<0)=Tc->∃f,(0<=c/\a0.aa7[c.toNat]?=Td f)/\∃g,(0<=e/\b1.aa7[e.toNat]?=Td g)/\ab4 gl 188 [up .tree (Tr.mk f.aa6 f.aa9 f.aa8 f.aa7),up .tree (Tr.mk g.aa6 g.aa9 g.aa8 g.aa7)] [.bool] (λi:Bool=>((!i)=Ta->R Tc)/\((!i)=Tc->(a (w6 (c+1))/\b (w6 (c+1))<b c)))))->d e)->((a0.aa6==6)=Ta->∃j,(0<=c/\a0.aa8[c.toNat]?=Td j)/\ab4 gl 164 [up .tree (Tr.mk b1.aa6 b1.aa9 b1.aa8 b1.aa7),up .str j] [.int .i64] (λk:Int=>d k))/\((a0.aa6==6)=Tc->d c))/\(ph (c<DB a0.aa7)=Tc->R Ta)))):ab4 gl 188 [up .tree a0,up .tree b1] [.bool] R:=PF ⟨[(8,6),(11,10)],[],[(4,⟨[(5,.one (.dat PJ))],[],[2,3],[100320]⟩)],[(9,⟨[(6,.one (.dat PJ))],[],[],[100384]⟩)]⟩ [.tmp 4] 62 func188 H
def Ro(gl:Fr)(f:Tr)(e:Bt)(R:ad3) (H:∃(a:ad3) (b:Int->Nat),a 0/\∀c:Int,a c->((ph (c<DB f.aa8)=Ta->∃d,(0<=c/\f.aa8[c.toNat]?=Td d)/\((d.toList==e.toList)=Ta->R c)/\((d.toList==e.toList)=Tc->(a (w6 (c+1))/\b (w6 (c+1))<b c)))/\(ph (c<DB f.aa8)=Tc->R (-1)))):ab4 gl 189 [up .tree f,up .str e] [.int .i64] R:=PF ⟨[],[],[(2,⟨[(5,.one (.dat PJ))],[],[2],[100320]⟩)],[]⟩ [.tmp 4] 21 func189 H
def Vl(gl:Fr)(b:List Bt)(c:Bt)(R:(List Bt)->Prop) (H:((zbu ([]:List Bt)+DB b)*16<=140737488355328/\((zbu ([]++b)+zbu ([c]:List Bt))*16<=140737488355328/\R (([]++b)++[c])))):ab4 gl 190 [up (.row .str) b,up .str c] [.row .str] R:=PF ⟨[],[],[],[]⟩ [.tmp 4] 11 func190 H
def VD(gl:Fr)(h:List Tr)(R:((List ((List Bt)×List Int))×Int)->Prop) (H:∃(a:ad3) (b:Int->Nat),a 0/\∀c:Int,a c->((ph (c<DB h)=Ta->∃d,(0<=c/\h[c.toNat]?=Td d)/\ab4 gl 57 [up .tree (Tr.mk d.aa6 d.aa9 d.aa8 d.aa7)] [.bool] (λe:Bool=>((!e)=Ta->R ([],1))/\((!e)=Tc->(a (w6 (c+1))/\b (w6 (c+1))<b c))))/\(ph (c<DB h)=Tc->(ph ((DB h:Int)>64)=Ta->R ([],6))/\(ph ((DB h:Int)>64)=Tc->∃(f:(List ((List Bt)×List Int))->Int->Int->Prop) (g:(List ((List Bt)×List Int))->Int->Int->Nat),f [] 0 0/\∀i:List ((List Bt)×List Int),∀j k:Int,f i j k->((ph (k<DB h)=Ta->∃l,(0<=k/\h[k.toNat]?=Td l)/\ab4 gl 15 [up .tree (Tr.mk l.aa6 l.aa9 l.aa8 l.aa7)] [.pair (.row .str) (.row PJ),.int .i64] (λm:((List Bt)×List Int)×Int=>((cond (m.2 != 0) Ta (ph ((w6 (j+(DB m.1.1:Int)))>512)))=Ta->R ([],6))/\((cond (m.2 != 0) Ta (ph ((w6 (j+(DB m.1.1:Int)))>512)))=Tc->((DB i+zbu ([(m.1.1,m.1.2)]:List ((List Bt)×List Int)))*48<=140737488355328/\(f (i++[(m.1.1,m.1.2)]) (w6 (j+(DB m.1.1:Int))) (w6 (k+1))/\g (i++[(m.1.1,m.1.2)]) (w6 (j+(DB m.1.1:Int))) (w6 (k+1))<g i j k)))))/\(ph (k<DB h)=Tc->R (i,0))))))):ab4 gl 191 [up (.row .tree) h] [.row (.pair (.row .str) (.row PJ)),.int .i64] R:=PF ⟨[],[],[(3,⟨[(5,.one (.dat PJ))],[],[],[100320]⟩),(12,⟨[(4,.one (.own 31 (.pair (.row .str) (.row PJ)))),(7,.one (.dat PJ)),(8,.one (.dat PJ))],[],[],[100256,100448,100512]⟩)],[]⟩ [.tmp 2,.tmp 3] 57 func191 H
def VS(gl:Fr)(i:List (Int×Int))(h:Int)(f:Bool)(R:ad2) (H:∃(a:ad3) (b:Int->Nat),a 0/\∀c:Int,a c->((ph (c<DB i)=Ta->∃d:Int×Int,((!f)=Ta->(0<=c/\i[c.toNat]?=Td d))/\∃e:Int×Int,(((!(cond (!f) (d.1==h) Tc))&&f)=Ta->(0<=c/\i[c.toNat]?=Td e))/\((cond (cond (!f) (d.1==h) Tc) Ta (cond f (e.2==h) Tc))=Ta->R Ta)/\((cond (cond (!f) (d.1==h) Tc) Ta (cond f (e.2==h) Tc))=Tc->(a (w6 (c+1))/\b (w6 (c+1))<b c)))/\(ph (c<DB i)=Tc->R Tc))):ab4 gl 194 [up (.row (.pair PJ (.int .i64))) i,up PJ h,up .bool f] [.bool] R:=PF ⟨[],[],[(2,⟨[(7,.one (.dat PJ))],[],[],[100448]⟩)],[]⟩ [.tmp 6] 37 func194 H
end
section
open Go.RowKit
section
variable {v:Tr} {k:Bt}
def EG{lo:Nat}{h:zc}{M:Fr}{b:Nat}{S t:List (Bt×Int)}{bs:ac0}{lab:Bt}{F:n4}{A C:ac2}(hF:zy Tp F=Ta)(H:Tb lo h M b S bs)(an:lo<=h.size)(V:t.length<=513) (hk:ab3 F (A++#[]++C) h λv h1=>v=.tuple #[]/\∃f y,Grw h M b bs h1 f y/\Tb lo h1 f b t y) {K:vvv} (hK:∀h' M' a,Grw h M b bs h' M' a->Tb lo h' M' b (iC (t++[(lab,(DB S:Int))])) a->K (.tuple #[]) h'):ab3 94 #[ab6 ⟨b,0,Te⟩,ab5 lab,.func (.func F) A C] h K:=by
 obtain⟨sl,sf,b1,b2,rfl,B⟩:=H;have l0:=B.r1.len;rw[zas]at l0;apply MI (Td ⟨b,0,Te⟩) lab F A C;refine⟨⟨b,0,Te⟩,rfl,sl,by rw[SW];exact B.box.ab1 (o:=0) (k:=0) rfl,hF,XC.mono hk ?_⟩;rintro v h4 ⟨rfl,f,y,T,c,e,d1,d2,rfl,l⟩;have l1:=l.r1.len;have l2:=l.r2.len;rw[zas]at l1 l2;have ar:=T.grow;refine⟨rfl,⟨b,0,Te⟩,rfl,c,by rw[SW];exact l.box.ab1 (o:=0) (k:=0) rfl,λG=>?_,λG=>?_⟩
 ·have G:t.length<=512:=χ (zH G)
  have D:=AdM.start l T.ag;have Z:=l.box.lt;have fin:∀{g:zc} {s1:Sl} {c1:ac0} {s2:Sl} {c2:ac0},AdM lo h4 f b c e (d1++d2) g (t.map (·.1)++[lab]) s1 c1 (t.map (·.2)++[(sl.len:Int)]) s2 c2->∃u:n8,Td (⟨b,0,Te⟩:n8)=Td u /\
   CA Tp (zae 22 (.pointer (Td (zab (zab u 0) 0))) (aK s1)) g (λg1=>∃w:n8,Td (⟨b,0,Te⟩:n8)=Td w/\CA Tp (zae 29 (.pointer (Td (zab (zab w 0) 1))) (aK s2)) g1 (λg2=>K (.tuple #[]) g2)):=by
   intro g s1 c1 s2 c2 x;refine⟨_,rfl,?_⟩;have:=x.fin (S:=t++[(lab,(sl.len:Int))]) ξ ξ (K:=λg2=>K (.tuple #[]) g2) λg' a T' B'=>hK g' f a (T.trans T') (by rw[<-HX V,zA G,<-l0];exact B');exact CA.mono this λg1 h1=>⟨_,rfl,h1⟩
  refine⟨⟨b,0,Te⟩,rfl,c,by rw[SW];exact l.box.ab1 (o:=0) (k:=0) rfl,⟨b,0,Te⟩,rfl,e,by rw[SW];exact l.box.ab1 (o:=0) (k:=1) rfl,?_,?_⟩;intro j;have⟨ae,ax,Y⟩:=jo (g:=j) rfl;have q:AdM lo h4 f b c e (d1++d2) j _ _ _ _ _ _:=D.push _;clear_value j;have i:j[b]?=h4[b]?:=ae.get b Z;refine⟨i,i,?_,?_⟩;refine q.lab ω (by rw[zas];omega) Y λQ g' c' x z' r=>⟨Q,rfl,?_,?_⟩;exact(r b ω q.n1).trans i;intro z;have⟨aa,_,aj⟩:=jo (g:=z) rfl;have ak:AdM lo h4 f b c e (d1++d2) z _ _ _ _ _ _:=x.push _;clear_value z;refine⟨(aa.get b x.box.lt).trans ((r b ω q.n1).trans i),?_⟩;exact ak.lef ω (by rw[zas];omega) aj λs2 g2 c2 N _ _=>⟨s2,rfl,fin N⟩;intro n;have⟨O,am,af⟩:=jo (g:=n) rfl;have P:AdM lo h4 f b c e (d1++d2) n _ _ _ _ _ _:=q.push _;clear_value n;have J:n[b]?=h4[b]?:=(O.get b ω).trans i;refine⟨J,J,?_⟩;refine P.lab ω (by rw[zas];omega) (Y.ab2 O) λQ g' c' x z' r=>⟨Q,rfl,(r b ω P.n1).trans J,?_⟩;have hn:j.size∉d1:=λhm=>χ ((l.r1.own _ hm).2.1)
  exact x.lef ω (by rw[zas];omega) (af.ab0 (r _ ω hn)) λs2 g2 c2 N _ _=>⟨s2,rfl,fin N⟩;intro m;have⟨ah,al,ai⟩:=jo (g:=m) rfl;have ac:AdM lo h4 f b c e (d1++d2) m _ _ _ _ _ _:=D.push _;clear_value m;have E:m[b]?=h4[b]?:=ah.get b Z;refine⟨E,E,?_⟩;intro p;have⟨U,au,ab⟩:=jo (g:=p) rfl;have L:AdM lo h4 f b c e (d1++d2) p _ _ _ _ _ _:=ac.push _;clear_value p;have I:p[b]?=h4[b]?:=(U.get b ω).trans E;refine⟨I,I,?_⟩;refine L.lab ω (by rw[zas];omega) ab λQ g' c' x z' r=>⟨Q,rfl,(r b ω L.n1).trans I,?_⟩;have hn:h4.size∉d1:=λhm=>χ ((l.r1.own _ hm).2.1)
  exact x.lef ω (by rw[zas];omega) ((ai.ab2 U).ab0 (r _ ω hn)) λs2 g2 c2 N _ _=>⟨s2,rfl,fin N⟩
 have G:¬t.length<=512:=χ (zI G)
 refine hK h4 f _ T ?_;rw[<-HX V,zv G];exact⟨c,e,d1,d2,rfl,l⟩
def Kv{gl:Fr}(b:GL gl)(hb:Brn gl)(c:Sm v){R:Bt->Prop}(e:R (Jd v).1):ab4 gl 97 [up .tree v] [.str] R:=by apply zmv;simp only[qw];exact Jv b hb c e
theorem FV(h:ib v=Ta)(i:v.aa6≠5)(f:v.aa6≠6):v.aa7=[]/\zr v=Ta:=by
 have hi:v.aa7=[]:=by unfold ib zm at h;simp only[i,f,if_false]at h;by_cases h1:v.aa6=1;simp[h1]at h;exact h.2;by_cases h2:v.aa6=2;simp[h2]at h;exact h.2;by_cases e:v.aa6=3;simp[e]at h;exact h.2;by_cases b:v.aa6=4;simp[b]at h;exact h.2;by_cases c:v.aa6=7;simp[c]at h;simp[h1,h2,e,b,c]at h
 refine⟨hi,?_⟩;unfold zr xa;rw[jr,lX,Zb,hi];simp only[zaw,zG];refine⟨⟨by rw[xc];omega,by rw[ie];omega⟩,?_,by rfl⟩;unfold ib at h;simpa using h
def RV(h:Q2 (lb k)=Ta):ib (.mk 4 k [] [])=Ta:=by unfold ib zm;simpa[Tr.aa6,Tr.aa9,Tr.aa8,Tr.aa7]using h
theorem zO(h:Q2 (lb k)=Ta):zr (.mk 4 k [] [])=Ta:= (FV (RV h) (show¬(4:Int)=5 by decide) (show¬(4:Int)=6 by decide)).2
theorem Iy(h:ib v=Ta)(b:v.aa6≠5)(c:v.aa6≠6):(Jd v).1=kE v:=by unfold Jd kE;rw[zA (FV h b c).2,zv b,zv c]
theorem Kq(h:Q2 (lb k)=Ta):(⟨#[107]⟩:Bt)++(Jd (.mk 4 k [] [])).1=nT k:=by unfold Jd nT;rw[zA (zO h),Q7];show bl [107]++bl (io (lb k)).1=_;rw[qo];rfl
end
section
def KB{g:zc}{M:Fr}(ag:AgM M g){k:Int}{s:Bt}{sk si:Sl}{K:zc->Prop}(c:∀g',At g M g' M->g'.size=g.size+1->Blk g' g.size #[ab9 k,ab5 s,aK sk,aK si]->K g'):CA Tp (zae 25 (ab6 (ab7 g)) (.agg #[ab9 k,ab5 s,aK sk,aK si])) (zc2 g (.cells #[ab9 0,ab5 ⟨#[]⟩,.slice Te 0 0,.slice Te 0 0] 25)) K:=by have e:BT g.size g (zc2 g (.cells #[ab9 0,ab5 ⟨#[]⟩,.slice Te 0 0,.slice Te 0 0] 25)):=ur _ _ (zac _);have i:(zc2 g (.cells #[ab9 0,ab5 ⟨#[]⟩,.slice Te 0 0,.slice Te 0 0] 25)).size=g.size+1:=zau _;have b:Blk (zc2 g (.cells #[ab9 0,ab5 ⟨#[]⟩,.slice Te 0 0,.slice Te 0 0] 25)) g.size #[ab9 0,ab5 ⟨#[]⟩,.slice Te 0 0,.slice Te 0 0]:=wr _ _ _;refine Q8 b λg' f z B=>c g' (v0 ag ⟨ω,λj h=>η⟩) ω B
def Ev{gl:Fr}(hg:GL gl)(hb:Brn gl){lo:Nat}:∀(n:Nat) (v:Tr),n<=1000000->cK v<=n->Zo ib v=Ta->Sm v->∀(h:zc) (M:Fr) (b:Nat) (S:List (Bt×Int)) (bs:ac0) (u:Value),AgM M h->Fr.le gl M->Tb lo h M b S bs->lo<=h.size->DB S<=513->RdV M .tree v u ->ab3 55 #[ab6 ⟨b,0,Te⟩,u] h λr h'=>r=.tuple #[]/\∃M' bs',Grw h M b bs h' M' bs'/\Tb lo h' M' b (iC (S++ia v (DB S))) bs'
 |0,v,_,hz,_,_=>χ (wa v)
 |n+1,v,hn,hz,hok,hsm=>by
  intro h M b S bs u ag hM HB aI hS hu;obtain⟨sk,si,rfl,rk,ri⟩:=qh hu;have z:=hok;rw[Zb,zaw]at z;have aN:v.aa7.length<=1000000:=by have:=we v.aa7;rw[jr]at hz;omega
  have ih:∀(i:Nat) (hi:i<DB v.aa7) (h:zc) (M:Fr) (S:List (Bt×Int)) (bs:ac0) (u:Value),AgM M h->Fr.le gl M->Tb lo h M b S bs->lo<=h.size->DB S<=513->RdV M .tree v.aa7[i] u ->
   ab3 55 #[ab6 ⟨b,0,Te⟩,u] h λr h'=>r=.tuple #[]/\∃M' bs',Grw h M b bs h' M' bs'/\Tb lo h' M' b (iC (S++ia v.aa7[i] (DB S))) bs':=λi hi h M S bs u=>by
   have hm:=zak hi;have hs:=qi hm;have ak:Zo ib v.aa7[i]=Ta:=by rw[jl,zbl]at z;exact z.2 _ hm
   exact Ev hg hb n v.aa7[i] ω ω ak (hsm.item hm) h M b S bs u
  have⟨li,_,_⟩:=CD ri;have⟨lk,_,_⟩:=CD rk;have aM:=HB.ltb;have an:=HB.lt;apply XG (Td ⟨b,0,Te⟩) v.aa6 v.aa9 sk si;intro h1;have⟨k1,z1,P1⟩:=jo (g:=h1) rfl;clear_value h1;intro h2;have⟨k2,z2,T2⟩:=jo (g:=h2) rfl;clear_value h2;have P2:=P1.ab2 k2;have aF:BT h.size h h2:=k1.trans k2 ω;have L2:At h M h2 M:=v0 ag aF;have aa:=HB.call L2;have row:ia v (DB S)=(ite (v.aa6=6) (hH v.aa7 v.aa8 (DB S)) (ite (v.aa6=5) (iz v.aa7 (DB S)) []))++[(kE v,(DB S:Int))]:=Ix v _;have fin:∀(A:List (Bt×Int)) (lab:Bt) (F:n4) (C:ac2),ia v (DB S)=A++[(lab,(DB S:Int))]->zy Tp F=Ta->(∀(h':zc) (M':Fr),At h2 M h' M'->ab3 F (#[]++#[]++C) h' λw h1=>w=.tuple #[]/\∃I t,Grw h' M' b bs h1 I t/\Tb lo h1 I b (iC (S++A)) t) ->
   ∀(h':zc) (M':Fr),At h2 M h' M'->ab3 94 #[ab6 ⟨b,0,Te⟩,ab5 lab,.func (.func F) #[] C] h' λr h3=>r=.tuple #[]/\Value.tuple #[]=Value.tuple #[]/\∃M' bs',Grw h M b bs h3 M' bs'/\Tb lo h3 M' b (iC (S++ia v (DB S))) bs':=by
   intro A lab F C aj hF hk h' M' L';have aO:=L'.ab0.size;refine EG hF (aa.call L') ω (wE (S++A)) (hk h' M' L') λh3 M3 ac T3 B3=>⟨rfl,rfl,M3,ac,Grw.ofCall (L2.trans L') T3 an,?_⟩;have:=uD (S++A) λ_=>[(lab,(DB S:Int))];rw[this,za3,<-aj]at B3;exact B3
  refine⟨v.aa6,T2.ab1 (o:=0) (k:=0) rfl,λh5=>?_,λh5=>⟨λh6=>?_,λh6=>?_⟩⟩;have h5:v.aa6=5:=ψ h5
  refine⟨Td ⟨b,0,Te⟩,P2.cell (o:=0) rfl,?_⟩;refine fin (iz v.aa7 (DB S)) ⟨#[91]⟩ _ _ (by rw[row,zv ω,zA h5];unfold kE;rw[zA h5]) κ (λh' M' L'=>?_) h2 M (At.refl L2.ag);show XC _ _ #[ab6 (ab7 h1),ab6 (ab7 h)] _ _;have z':=L'.ab0.size;have T':Blk h' h1.size #[ab9 v.aa6,ab5 v.aa9,aK sk,aK si]:=T2.ab0 (L'.ab0.get _ ω);have P':Blk h' h.size #[ab6 ⟨b,0,Te⟩]:=P2.ab0 (L'.ab0.get _ ω);have af:=aa.call L';apply Xu (ab7 h1) (ab7 h);refine⟨si,T'.ab1 (o:=0) (k:=3) rfl,λi g=>∃(m:Nat) (I:Fr) (t:ac0),i=(m:Int)/\m<=DB v.aa7/\Grw h' M' b bs g I t/\Tb lo g I b (iC (S++iz (v.aa7.take m) (DB S))) t,λi _=>DB v.aa7-i.toNat,⟨0,M',bs,rfl,zar _,Grw.refl L'.ag,by rw[ze3,iz,zbi,pe hS];exact af⟩,?_⟩;rintro i g ⟨m,I,t,rfl,hm,T,B⟩;have gz:=T.grow;refine⟨λhc=>?_,λhc=>?_⟩;have H:m<DB v.aa7:=χ (zH hc)
  have⟨a,ck,ci,ea,ab,t1,t2⟩:=Qs T.ag (ri.mono (L'.le.trans T.le)) H;refine⟨a,⟨ea,ω,ω⟩,v.aa7[m].aa6,v.aa7[m].aa9,ck,ci,by rw[zag];exact ab,?_⟩;intro aB;refine KB T.ag λy E aE ae=>?_;have Pg:Blk y h.size #[ab6 ⟨b,0,Te⟩]:=P'.ab0 ((E.ab0.get h.size ω).trans (T.fr h.size ω ω λhm=>η));refine⟨Td ⟨b,0,Te⟩,Pg.cell (o:=0) rfl,v.aa7[m].aa6,v.aa7[m].aa9,ck,ci,ae.ld (cs:=[_,_,aK ck,aK ci]),?_⟩;refine XC.mono (ih m H y I _ t _ E.ag (hM.trans (L'.le.trans T.le)) (B.call E) ω (wE _) (zw t1 t2)) ?_;rintro r d ⟨rfl,M2,am,ax,aH⟩;refine⟨rfl,⟨m+1,M2,am,by rw[qd H ω],H,T.trans (Grw.ofCall E ax λc hc=>B.lt c hc),?_⟩,?_⟩;simp_all[uD,Cr];grind [qd];grind
  ·have h6:v.aa6=6:=ψ h6
   have aL:v.aa8.length=DB v.aa7:=by have:=z.1;unfold ib zm at this;simp[h6]at this;exact this.1.2
   have aA:∀k∈v.aa8,Q2 (lb k)=Ta:=by have:=z.1;unfold ib zm yj at this;simp[h6]at this;exact this.1.1.1
   refine⟨Td ⟨b,0,Te⟩,P2.cell (o:=0) rfl,?_⟩;refine fin (hH v.aa7 v.aa8 (DB S)) ⟨#[123]⟩ _ _ (by rw[row,zA h6];unfold kE;simp_all) κ (λh' M' L'=>?_) h2 M (At.refl L2.ag);show XC _ _ #[ab6 (ab7 h1),ab6 (ab7 h)] _ _;have z':=L'.ab0.size;have T':Blk h' h1.size #[ab9 v.aa6,ab5 v.aa9,aK sk,aK si]:=T2.ab0 (L'.ab0.get _ ω);have P':Blk h' h.size #[ab6 ⟨b,0,Te⟩]:=P2.ab0 (L'.ab0.get _ ω);have af:=aa.call L';apply Xv (ab7 h1) (ab7 h);refine⟨si,T'.ab1 (o:=0) (k:=3) rfl,λi g=>∃(m:Nat) (I:Fr) (t:ac0),i=(m:Int)/\m<=DB v.aa7/\Grw h' M' b bs g I t/\Tb lo g I b (iC (S++hH (v.aa7.take m) v.aa8 (DB S))) t,λi _=>DB v.aa7-i.toNat,⟨0,M',bs,rfl,zar _,Grw.refl L'.ag,by rw[ze3,hH,zbi,pe hS];exact af⟩,?_⟩;rintro i g ⟨m,I,t,rfl,hm,T,B⟩;have gz:=T.grow;refine⟨λhc=>?_,λhc=>?_⟩
   ·have H:m<DB v.aa7:=χ (zH hc)
    have Y:m<DB v.aa8:=ω
    have V:=L'.le.trans T.le;have⟨a,ck,ci,ea,ab,t1,t2⟩:=Qs T.ag (ri.mono V) H;refine⟨a,⟨ea,ω,ω⟩,v.aa7[m].aa6,v.aa7[m].aa9,ck,ci,by rw[zag];exact ab,?_⟩;intro aB;refine KB T.ag λy E aE ae=>?_;have Pg:Blk y h.size #[ab6 ⟨b,0,Te⟩]:=P'.ab0 ((E.ab0.get h.size ω).trans (T.fr h.size ω ω λhm=>η));have Tg:Blk y h1.size #[ab9 v.aa6,ab5 v.aa9,aK sk,aK si]:=T'.ab0 ((E.ab0.get h1.size ω).trans (T.fr h1.size ω ω λhm=>η));have⟨a2,aC,x,ar,az⟩:=ke E.ag (rk.mono V) Y (i:=(m:Int)) rfl (L:=sk.len) rfl (Q:=λx=>x=v.aa8[m]) rfl;subst az;refine⟨Td ⟨b,0,Te⟩,Pg.cell (o:=0) rfl,sk,Tg.ab1 (o:=0) (k:=2) rfl,a2,aC,v.aa8[m],ar,?_⟩;have ai:=aA _ (zak Y);have au:Sm (.mk 4 v.aa8[m] [] []):=⟨by rw[jr];simp[xc],by rw[kn];refine⟨⟨?_,zar _,λk hk=>ε hk⟩,trivial⟩;have:=hsm.key (zak Y);simp_all⟩;have BB:=B.call E;have P:∀(e:zc) (f:Fr) (kt:Bt),At y I e f->kt=(Jd (.mk 4 v.aa8[m] [] [])).1->ab3 94 #[ab6 ⟨b,0,Te⟩,ab5 ((⟨#[107]⟩:Bt)++kt),.func (.func 99) #[] #[ab6 (ab7 h),ab6 (ab7 g)]] e λw ah=>w=.tuple #[] /\
     (∃(q:Nat) (I:Fr) (t:ac0),w6 ((m:Int)+1)=(q:Int)/\q<=DB v.aa7/\Grw h' M' b bs ah I t/\Tb lo ah I b (iC (S++hH (v.aa7.take q) v.aa8 (DB S))) t)/\DB v.aa7-(w6 ((m:Int)+1)).toNat<DB v.aa7-(m:Int).toNat:=by
     rintro e f kt j rfl;rw[Kq ai];have aJ:=j.ab0.size;have O:=E.trans j;refine EG κ (B.call O) ω (wE (iC (S++hH (v.aa7.take m) v.aa8 (DB S))++ia v.aa7[m] (iC (S++hH (v.aa7.take m) v.aa8 (DB S))).length)) ?_ λh3 M3 ac T3 B3=>⟨rfl,⟨m+1,M3,ac,by rw[qd H ω],H,T.trans (Grw.ofCall O T3 λc hc=>B.lt c hc),?_⟩,?_⟩;show XC _ _ #[ab6 (ab7 h),ab6 (ab7 g)] _ _;apply Jz (ab7 h) (ab7 g);refine⟨Td ⟨b,0,Te⟩,(Pg.ab0 (j.ab0.get _ ω)).cell (o:=0) rfl,v.aa7[m].aa6,v.aa7[m].aa9,ck,ci,(ae.ab0 (j.ab0.get _ ω)).ld (cs:=[_,_,aK ck,aK ci]),?_⟩;exact XC.mono (ih m H e f _ t _ j.ag (hM.trans (V.trans j.le)) (B.call O) ω (wE _) (zw (t1.mono j.le) (t2.mono j.le))) λr h' N=>⟨N.1,rfl,N.2⟩;have e1:=uD (S++hH (v.aa7.take m) v.aa8 (DB S)) λk=>ia v.aa7[m] k++[(nT v.aa8[m],(k:Int))];have e2:=uD (iC (S++hH (v.aa7.take m) v.aa8 (DB S))++ia v.aa7[m] (iC (S++hH (v.aa7.take m) v.aa8 (DB S))).length) λ_=>[(nT v.aa8[m],((iC (S++hH (v.aa7.take m) v.aa8 (DB S))).length:Int))];rw[e2,za3,e1,za3,zah,<-Ls H Y]at B3;exact B3;grind [qd]
    have Z:∀(l:zc) (p:Fr) (xk xi:Sl),At y I l p->RdV p .tree (.mk 4 v.aa8[m] [] []) (.agg #[ab9 4,ab5 v.aa8[m],aK xk,aK xi])->∀{K:vvv},(∀e f,At y I e f->At l p e f->K (ab5 (Jd (.mk 4 v.aa8[m] [] [])).1) e) ->
     ab3 97 #[.agg #[ab9 4,ab5 v.aa8[m],aK xk,aK xi]] l K:=λl p xk xi D N K hK=>by
     refine(Kv hg hb au (R:=λr=>r=(Jd (.mk 4 v.aa8[m] [] [])).1) rfl).go (vs:=[.agg #[ab9 4,ab5 v.aa8[m],aK xk,aK xi]]) (hM.trans (V.trans D.le)) D.ag (zo N qc) λw e f r j J N=>?_;subst N;rw[kW J];exact hK e f (D.trans j) j
    have off:∀{K:vvv},(∀l p xk xi,At y I l p->RdV p .tree (.mk 4 v.aa8[m] [] []) (.agg #[ab9 4,ab5 v.aa8[m],aK xk,aK xi])->K (.agg #[ab9 4,ab5 v.aa8[m],aK xk,aK xi]) l)->ab3 98 #[ab5 v.aa8[m]] y K:=λ {K} hK=>by refine(show ab4 gl 98 [up .str v.aa8[m]] [.tree] (λr=>r=.mk 4 v.aa8[m] [] [])from by apply WT;rfl).go (hM.trans V) E.ag (zo (a:=up .str _) (GE _) qc) λw l p r D J N=>?_;subst N;have N:=Qr.1 J;grind [qh]
    have U:qg ((⟨#[107]⟩:Bt).size+(Jd (.mk 4 v.aa8[m] [] [])).1.size):=by have h1:=hsm.key (zak Y);unfold Jd;rw[zA (zO ai),Q7];show qg ((bl [107]).size+(bl (io (lb v.aa8[m])).1).size);have:=sI (lb v.aa8[m]);exact Xq η
    have aG:b<y.size:=χ B.ltb
    have G:∀(e:zc) (f:Fr),At y I e f->e[h.size]?=y[h.size]?:=λe f L=>L.ab0.get _ ω;refine⟨off λl p xk xi D N=>⟨_,_,xk,xi,rfl,G l p D,?_,G l p D,?_⟩,rfl,rfl,rfl,off λl p xk xi D N=>⟨_,_,xk,xi,rfl,G l p D,?_⟩⟩;exact Z l p xk xi D N λe f j _=>⟨_,rfl,U,G e f j,G e f j,P e f _ j rfl⟩;exact Z l p xk xi D N λe f j _=>⟨_,rfl,U,G e f j,P e f _ j rfl⟩;exact Z l p xk xi D N λe f j _=>⟨_,rfl,U,G e f j,P e f _ j rfl⟩
   grind
  have h5:v.aa6≠5:=ψ h5
  have h6:v.aa6≠6:=ψ h6
  refine⟨Td ⟨b,0,Te⟩,P2.cell (o:=0) rfl,v.aa6,v.aa9,sk,si,T2.ld (cs:=[_,_,aK sk,aK si]),?_⟩;refine(Kv hg hb hsm (R:=λr=>r=(Jd v).1) rfl).go (vs:=[.agg #[ab9 v.aa6,ab5 v.aa9,aK sk,aK si]]) hM L2.ag (zo hu qc) λw ay aD r al J N=>?_;subst N;rw[kW J,Iy z.1 h5 h6];refine⟨_,rfl,al.ab0.get h.size ω,?_⟩;refine fin [] (kE v) _ _ θ κ (λh' M' L'=>?_) ay aD al;show XC _ _ #[] _ _;apply Xw;exact⟨rfl,M',bs,Grw.refl L'.ag,by rw[zbi,pe hS];exact aa.call L'⟩
end
section
variable {g:zc} {b:Nat} {v:Tr}
def No:yf Tp 31=Ta:=κ
def WS:yo Tp 31=2:=κ
def sZ{x y:Value}(B:Blk g b #[x,y]){s1 s2:Sl}{K:zc->Prop}(f:∀g',(∀j,j≠b->g'[j]?=g[j]?)->g'.size=g.size->Blk g' b #[aK s1,aK s2]->K g'):CA Tp (zae 31 (ab6 ⟨b,0,Te⟩) (.agg #[aK s1,aK s2])) g K:=by refine X9 (vs:=[aK s1,aK s2]) No B rfl WS (zac _) (λu c=>?_) λg' e i h=>f g' h i e;simp at c;obtain rfl|rfl:=c <;> rfl
theorem At.stay{h g g':zc}{M M':Fr}(L:At h M g M')(hb:h.size<=b)(k:M' b=Te)(f:∀j,j≠b->g'[j]?=g[j]?)(z:g'.size=g.size):At h M g' M':= ⟨⟨χ L.ab0.size,λj i=>by rw[f j ω];exact L.ab0.get j i⟩,L.le,L.old,λc cs e=>by rw[f c (λh=>by subst h;rw[k]at e;cases e)];exact L.ag c cs e⟩
def xr(v:Tr):(List Bt×List Int)×Int:=if zr v=Ta then(if 512<iI (zj v)then(([],[]),6)else(oa (ia (zj v) 0),0))else(([],[]),1)
def Ko(h:zr v=Ta):ym v=zj v:=by unfold ym;rw[zA (LM h)]
def TQ{gl:Fr}(U:GL gl)(hb:Brn gl)(hv:Sm v){R:(List Bt×List Int)×Int->Prop}(x:R (xr v)):ab4 gl 14 [up .tree v] [.pair (.row .str) (.row PJ),.int .i64] R:=by
 intro h M vs Z ag ha
 match vs,ha with
 |[u],⟨O,_⟩=>
  have O:RdV M .tree v u:=O;have F:=O;obtain⟨sk,si,rfl,rk,ri⟩:=qh O;apply PX.of;apply zu8 v.aa6 v.aa9 sk si;intro h1;have⟨k1,z1,B1⟩:=jo (g:=h1) rfl;clear_value h1;intro h2;have⟨k2,z2,R2⟩:=jo (g:=h2) rfl;clear_value h2;have B2:=B1.ab2 k2;have Y:BT h.size h h2:=k1.trans k2 ω;have L2:At h M h2 M:=v0 ag Y;have done:∀(g:zc) (M':Fr) (t:List Bt×List Int) (e:Int) (s1 s2:Sl),At h2 M g M'->Rd M' (.row .str) t.1 [aK s1]->Rd M' (.row PJ) t.2 [aK s2]->R (t,e) ->
   CA Tp (zae 31 (ab6 (ab7 h1)) (.agg #[aK s1,aK s2])) g λg'=>∃P Q:Sl,ze g' (ab7 h1) 0 [aK P,aK Q]/\∃M2 q,At h M g' M2/\Yx M2 [.pair (.row .str) (.row PJ),.int .i64] q (.tuple #[.agg #[aK P,aK Q],ab9 e])/\R q:=by
   intro g M' t e s1 s2 L P Q N;have nR:M' h1.size=Te:=by rw[L.old _ ω];exact ag.none ω
   refine sZ (R2.ab0 (L.ab0.get _ ω)) λg' f z B=>⟨s1,s2,B.ld (cs:=[aK s1,aK s2]),M',(t,e),At.stay (L2.trans L) ω nR f z,⟨[_,_],⟨_,_,rfl,Xz P Q,_,rfl,Q9 _ _⟩,rfl⟩,N⟩
  refine⟨v.aa6,v.aa9,sk,si,B2.ld (cs:=[_,_,aK sk,aK si]),?_⟩;refine(Wp U hv (R:=λr=>r=zr v) rfl).go (vs:=[.agg #[ab9 v.aa6,ab5 v.aa9,aK sk,aK si]]) Z L2.ag (zo F qc) λw I M8 r G n N=>?_;subst N;refine⟨_,Jb n,λp=>?_,λp=>?_⟩
  ·have p:zr v=Tc:=ψ p
   unfold xr at x;rw[zv (υ p)]at x;exact done I M8 ([],[]) 1 ⟨Te,0,0⟩ ⟨Te,0,0⟩ G jI jI x
  have p:zr v=Ta:=ψ p
  unfold xr at x;rw[zA p]at x;have z8:=G.ab0.size;intro y;have⟨aa,ac,S⟩:=jo (g:=y) rfl;clear_value y;have l:At h2 M y M8:=G.trans (v0 G.ag aa);refine⟨v.aa6,v.aa9,sk,si,(B2.ab0 (l.ab0.get _ ω)).ld (cs:=[_,_,aK sk,aK si]),?_⟩;refine(OC U hv (R:=λr=>r=ym v) rfl).go (vs:=[.agg #[ab9 v.aa6,ab5 v.aa9,aK sk,aK si]]) (Z.trans l.le) l.ag (zo (F.mono l.le) qc) λw H A r i n N=>?_;subst N;have E:=Qr.1 n;obtain⟨xk,xi,rfl,y1,y2⟩:=qh E;refine⟨_,_,xk,xi,rfl,?_⟩;have hs:=Ko p;have ab:zr (ym v)=Ta:=by rw[Iu];exact p
  have⟨q1,q2,q3,q4⟩:=Zd ab;have ae:=i.ab0.size;have nB:A I.size=Te:=by rw[i.old _ ω];exact G.ag.none ω
  have HB:Tb I.size H A I.size [] []:=⟨⟨Te,0,0⟩,⟨Te,0,0⟩,[],[],rfl,S.ab0 (i.ab0.get _ ω),GT.nil,GT.nil,λc b=>(ε b),λb=>(ε b),λb=>(ε b),nB,zac _⟩;refine XC.mono (Ev U hb (cK (ym v)) (ym v) ω (zac _) q3 (Ky hv) H A I.size [] [] _ i.ag (Z.trans (l.le.trans i.le)) HB ω (zar _) E) ?_;rintro w a ⟨rfl,C,bs,T,s1,s2,b1,b2,rfl,B⟩;rw[zcm,zbx,hs]at B;have af:=T.grow;have J:At h2 M a C:=by have hk:=l.ab0;refine⟨⟨ω,λj hj=>?_⟩,l.le.trans (i.le.trans T.le),λc b=>?_,T.ag⟩;rw[T.fr j ω ω ξ,i.ab0.get j ω];exact hk.get j hj;rw[T.old c ω,i.old c ω];exact l.old c b
  have m:=B.r1.len;rw[zas]at m;have ah:=Zy (zj v) 0;refine⟨rfl,s1,by rw[SW];exact B.box.ab1 (o:=0) (k:=0) rfl,λb=>?_,λb=>?_⟩
  ·have b:=zH b;have:512<iI (zj v):=by unfold iC at m;rw[zbt]at m;omega
   rw[zA this]at x;exact done a C ([],[]) 6 ⟨Te,0,0⟩ ⟨Te,0,0⟩ J jI jI x
  ·have b:=zI b;have:¬512<iI (zj v):=by unfold iC at m;rw[zbt]at m;omega
   rw[zv this]at x;have D:=pe (X:=ia (zj v) 0) ω;rw[D]at B;refine⟨s1,s2,by rw[SW];exact B.box.ld (cs:=[aK s1,aK s2]),?_⟩;have own:∀c∈b1++b2,h2.size<=c:=λc b=>by obtain h|h:=zav.1 b;have:=(B.r1.own c h).1;omega;have:=(B.r2.own c h).1;omega
   have V:At h2 M a (MxL C a (b1++b2)):=At.own J own;exact done a _ (oa (ia (zj v) 0)) 0 s1 s2 V (B.r1.rd T.ag (λc b=>zap _ b) (by rw[zas];omega)) (B.r2.rd T.ag (λc b=>zaz _ b) (by rw[zas];omega)) x
end
end
section
open Go.Shelf Go.RowKit
def Ul:Go.Shelf.Ren:=⟨fun|189=>64|125=>114|257=>113|128=>177|129=>178|294=>168|295=>169|296=>170|297=>171|298=>172|299=>173|216=>174|300=>175|301=>176|328=>235|329=>236|330=>237|331=>238|332=>239|215=>240|343=>294|n=>n,fun|28=>29|3=>3|46=>123|0=>0|51=>176|53=>178|4=>4|183=>168|182=>167|131=>173|5=>5|9=>9|218=>245|222=>249|228=>299|229=>300|n=>n,fun|n=>n⟩
def Mu:Go.Proofs.Lays.n189 Tp Ul:=by constructor <;> intros <;> kernel_rfl
open Go.Sort Go.RowKit in
def Pq(blk off cap:Nat)(c:ad4)(w:World)(h:Holds (zby .i64) w blk off c.toArray)(b:blk<w.heap.size)(f:c.length<4611686018427387904):Calls Tp 64 #[.slice (Td ⟨blk,off,Te⟩) (DB c) cap] w λe w'=>e=.returned (.tuple #[])/\∃n os,w'=grow (putRow (zby .i64) (Sort.ahead w n) blk off (c.mergeSort λx y=>decide (x<=y)).toArray) os:=Any.slices_Sort_int Mu blk off cap c w h b f
open Go.RowKit Go.Sort in
def XL(p:Option n8)(cap:Nat)(w:World):Calls Tp 64 #[.slice p 0 cap] w λe w'=>e=.returned (.tuple #[])/\w'=w:=Any.slices_Sort_int_none Mu p cap w
end
section
open Go.Lib
theorem Tq{v:Tr}(h:zr v=Ta):Zo ib v=Ta/\Zo zm v=Ta:=by have e:zr v=(xa v&&Zo ib v):=rfl;rw[e,zaw]at h;exact⟨h.2,vw (λx b=>by unfold ib at b;simp_all) v h.2⟩
def LA{α:Type}[DecidableEq α]:∀{xs ys:List α},xs.Nodup->(∀x∈xs,x∈ys)->DB xs<=DB ys
 |[],ys,_,_=>zar _
 |x::xs,ys,hn,h=>by
  rw[zdk]at hn;have c:=h x zat;have:=LA (ys:=ys.erase x) hn.2 λy b=>η
  grind
mutual
def nW:Tr->Nat
 |.mk _ _ ks xs=>ks.length+lM xs
def lM:List Tr->Nat
 |[]=>0
 |x::l=>nW x+lM l
end
theorem qi5(v:Tr):nW v=DB v.aa8+lM v.aa7:=by cases v;rw[nW]
theorem wU(d:Nat):∀l:List Tr,iu d l=(l.map λx=>iI x+d).sum
 |[]=>rfl
 |x::l=>by rw[iu,wU d l,zbk,List.sum_cons]
theorem FR(d:Nat):∀{l:List Tr},(∀x∈l,iI (zj x)=cK x+nW x)->iu d (l.map zj)=xc l+lM l+DB l*d
 |[],_=>by simp[iu,xc,lM]
 |x::l,h=>by rw[zbk,iu,FR d λy b=>h y (zan _ b),h x zat,xc,lM,za1,zc4];omega
theorem Mo:∀(n:Nat) (v:Tr),cK v<=n->Zo ib v=Ta->iI (zj v)=cK v+nW v
 |0,v,h,_=>χ (wa v)
 |n+1,v,hz,hok=>by
  have o:=xp hok;have l:zm v=Ta:=by unfold ib at o;rw[zaw]at o;exact o.2
  have p:∀x∈v.aa7,iI (zj x)=cK x+nW x:=λx c=>Mo n x (χ (qi c)) (jm hok c);have S:=Gg l;have e:∀d,iu d (zj v).aa7=xc v.aa7+lM v.aa7+DB v.aa7*d:=λd=>by rw[wU,Gm (S.ip.map λx=>iI x+d),<-wU,FR d p]
  rw[w3,S.k,jr,qi5];have b:v.aa6≠5->v.aa6≠6->v.aa8=[]->v.aa7=[]->(ite (v.aa6=6) (iu 1 (zj v).aa7) (ite (v.aa6=5) (iu 0 (zj v).aa7) 0))+1=1+xc v.aa7+(DB v.aa8+lM v.aa7):=λj m f hi=>by rw[zv m,zv j,f,hi];rfl
  obtain⟨k,_,q,i⟩|⟨k,_,q,i⟩|⟨k,_,q,i⟩|⟨k,_,q,i⟩|⟨k,t,q⟩|⟨k,r,u,t⟩:=Cm o;grind;grind;grind;grind;grind;grind
end
section
open Go.RowKit Go.Sort Go.Shelf
variable {h:zc}
theorem U9{x:Int}{K:vvv}:Dr Tp 29 1 (ab9 x) h K=K (.slice (Td (ab7 h)) 1 1) (h.push (.cells #[ab9 x] 3)):=κ
def mapII:MapTI Tp 79 3 3:=⟨κ,κ⟩
theorem DJ{base:Nat}{s:Sl}{xs:ad4}(H:Fd h base 3 1 s (xs.map (zby .i64))):s.len=xs.length:=by have:=H.length;grind
def z3p{base:Nat}{s:Sl}{xs:ad4}(H:Fd h base 3 1 s (xs.map (zby .i64)))(o:xs.length<=1000000):ab3 64 #[.slice s.a s.len s.cap] h λv h'=>v=.tuple #[]/\Fd h' base 3 1 s ((xs.mergeSort λx y=>decide (x<=y)).map (zby .i64))/\h.size<=h'.size/\∀i,i<h.size->(∀p,s.a=Td p->i≠p.block)->h'[i]?=h[i]?:=by refine XC.of_below λB d=>?_;have r:s.len=DB xs:=DJ H;obtain⟨l,h0⟩|⟨g,cap,j,l,k,A,F,E,z,G⟩:=H.2;have D:xs=[]:=za4 ω;subst D;rw[h0];refine(XL s.a s.cap (mk B d h)).mono ?_;rintro e w' ⟨rfl,rfl⟩;exact⟨_,rfl,rfl,rfl,rfl,rfl,by rw[List.mergeSort_nil];exact H,zac _,λ_ _ _=>rfl⟩;simp only[zbc]at l;obtain⟨t,_,rfl⟩:=l;have c:(mk B d h).heap[g]?=Td (.cells j 3 (0,0)):=A;have m:g<(mk B d h).heap.size:=(zaq.1 c).1;have C:Holds (zby .i64) (mk B d h) g 0 xs.toArray:=holds_of_blockI c θ;have u:=Pq g 0 s.cap xs (mk B d h) C m ω;rw[<-r]at u;rw[t];refine u.mono ?_;rintro e w' ⟨rfl,n,os,rfl⟩;have b:=grownBy_sortedI (w:=mk B d h) (g:=g) (n:=n) (os:=os) (xs.mergeSort λx y=>decide (x<=y)).toArray;refine⟨_,rfl,b.os,b.tape,b.output,rfl,?_,b.size,λi hi f=>b.block i hi λe=>f _ rfl (ψ e)⟩;have q:=ownsRow_sortedI (w:=mk B d h) (base:=base) (n:=n) (os:=os) (ss:=xs) (ts:=xs.mergeSort λx y=>decide (x<=y)) ξ k c ω E (ψ z);rw[<-r]at q;show World.ownsRow _ base _ 1 (.slice s.a s.len s.cap) s.len _;rw[t];exact q
theorem Fd.frzI{h g:zc}{M M':Fr}(L:At h M g M'){s:Sl}{ks:ad4}{base:Nat}(o:Fd g base 3 1 s (ks.map (zby .i64)))(hb:h.size<=base)(B:ks.length<=1000000):∃l,At h M g l/\Rd l (.row PJ) ks [aK s]:=by
 have n:=DJ o;obtain⟨j,h0⟩|⟨b,cap,f,j,m,p,z,A,y,t⟩:=o.2;have r:ks=[]:=za4 ω;subst r;simp only[zbc]at j;refine⟨M',L,⟨_,rfl,s.a,s.cap,?_,⟨ξ,ξ⟩,.inl rfl⟩⟩;show aK s=_;unfold aK;rw[h0];rfl;simp only[zbc]at j;have⟨u,_,x⟩:=j;have w:Blk g b f:=⟨_,p⟩;refine⟨MxL M' g [b],At.own L (λc x=>η),⟨_,rfl,s.a,s.cap,?_,⟨ω,ω⟩,.inr ⟨b,0,f,u,MxL.at ξ w,λi hi=>?_⟩⟩⟩;show aK s=_;unfold aK;rw[n];show cut f (0+i*1) 1=[ab9 ks[i]];refine rh rfl λq C=>?_
 have k:q=0:=ω
 subst k;have e:(f.toList.take (s.len*1))[i]?=(ks.map (zby .i64))[i]?:=ϕ t
 grind
theorem Pp{L:ad4}{xs:ac0}(h:xs.Perm (J3 L)):((xs.map λi:Nat=>(i:Int)).mergeSort λx y=>decide (x<=y))=(J3 L).map λi:Nat=>(i:Int):=by refine List.Perm.eq_of_pairwise (le:=λa b:Int=>decide (a<=b)=Ta) (λa b _ _ h1 h2=>?_) (List.pairwise_mergeSort (λa b c h1 h2=>?_) (λa b=>?_) _) (List.pairwise_map.2 ((Ew L).imp λh=>zJ ω)) ((zea _ _).trans (h.map _));grind;grind;grind
def Mh{gl:Fr}{t:List Bt×List Int}{R:List Int->Prop}(hR:R (ite (zx t=Ta) ((J3 t.2).map (λi:Nat=>(i:Int))) [])):ab4 gl 28 [up (.pair (.row .str) (.row PJ)) t] [.row PJ] R:=by
 intro h M vs hM ag ha
 match vs,ha with
 |[u],⟨hu,_⟩=>
  obtain⟨s1,s2,rfl,r1,r2⟩:=oI (show RdV M (.pair (.row .str) (.row PJ)) t u from hu);apply PX.of;have⟨l2,_,_⟩:=CD r2;apply NB s1 s2;intro h1;have L1:At h M h1 M:=At.push ag _;have⟨_,z1,B1⟩:=jo (g:=h1) rfl;clear_value h1;refine⟨s1,s2,B1.ld (cs:=[aK s1,aK s2]),?_⟩;refine(BS (gl:=gl) (t:=t) (R:=λr=>r=zx t) rfl).go (vs:=[.agg #[aK s1,aK s2]]) hM L1.ag (zo (a:=up (.pair (.row .str) (.row PJ)) t) (Xz r1 r2) qc) λw f O r P V hr=>?_;subst hr;have D:=L1.trans P;have z5:=P.ab0.size;refine⟨_,Jb V,λl=>?_,λl=>?_⟩;have l:zx t=Tc:=ψ l
  rw[l]at hR;exact⟨O,[],D,Qr.2 ((J1 rfl).2 (jI (T:=.int .i64))),hR⟩;have l:zx t=Ta:=ψ l
  rw[l,zA rfl]at hR;have⟨q1,q2,q3⟩:=jb l;obtain⟨L,hL⟩:∃L,L=t.2:=⟨_,rfl⟩;rw[<-hL]at hR q2 q3 r2 l2;intro G;have k7:BT f.size f G:=ur _ _ (zac _);have z7:G.size=f.size+1:=zau _;have W7:IO G f.size []:=IO.new _;clear_value G;have B7:Blk G h.size #[aK s1,aK s2]:=(B1.ab0 (P.ab0.get _ ω)).ab2 k7;refine⟨s2,B7.ab1 (o:=0) (k:=1) rfl,λi g=>∃m:Nat,i=(m:Int)/\m<=DB L/\g.size=G.size/\(∀j,j≠f.size->g[j]?=G[j]?)/\IO g f.size (lP ((kK L m).map (nq L))),λi _=>DB L-i.toNat,⟨0,rfl,zar _,rfl,λ_ _=>rfl,W7⟩,?_⟩;rintro i g ⟨m,rfl,hm,zg,fg,W⟩;have kg:BT f.size f g:=⟨ω,λj A=>by rw[fg j ω];exact k7.get j A⟩;have Lg:At f O g O:=v0 P.ag kg;refine⟨λC=>?_,λC=>?_⟩;have z:m<DB L:=χ (jM C)
  have⟨b,o,e1,e2⟩:=wX Lg.ag (r2.mono D.le) (k:=m) z;have S:L[m]=cR L m:=by unfold cR;rw[za8,zam z];rfl
  rw[S]at e2;refine⟨⟨b,o,Te⟩,⟨e1,ω,ω⟩,cR L m,by rw[Jk,zag];exact e2,?_⟩;refine qdz mapII W (cR L m) (ab9 (m:Int)) λg' W' z' f'=>⟨⟨m+1,by rw[qd z ω],z,ω,λj A=>(f' j A).trans (fg j A),?_⟩,by grind [qd]⟩;rw[FQ]at W';exact W';have aa:m=DB L:=χ (jV C)
  subst aa;have⟨Z,y⟩:=BA L (DB L);have B:((lP ((kK L (DB L)).map (nq L))).map (·.1))=((kK L (DB L)).map (cR L)).map (zby .i64):=by unfold lP;rw[zbo,zbo,zbo];rfl
  have ac:((lP ((kK L (DB L)).map (nq L))).map (·.1)).Nodup:=by rw[B];exact List.Pairwise.map _ (λa b ae e=>ae (by injection e)) Z
  refine Do mapII.map W λab am ah Q=>⟨Td (ab7 g),rfl,?_⟩;have ai:BT f.size f ab:=kg.trans ah ω;refine⟨λout g2=>∃xs:List Nat,xs.Nodup/\(∀x∈xs,x∈kK L (DB L))/\Vc g2 g.size f.size (lP ((kK L (DB L)).map (nq L))) (xs.reverse.map λi=>zby .i64 (cR L i))/\Fd g2 (g.size+1) 3 1 out ((xs.map λi:Nat=>(i:Int)).map (zby .i64))/\g.size+1<=g2.size/\BT f.size f g2,λ_ g2=>OR g2 g.size f.size,⟨[],zee,λx l=>(ε l),Q,Fd.nil _ _ _ _,ω,ai⟩,?_⟩;rintro out g2 ⟨xs,Y,F,it,o,an,K2⟩;have al:xs.length<=DB L:=by have:=LA (xs:=xs) (ys:=za7 (DB L)) Y λx l=>zcs.2 ((y x).1 (F x l)).1;rwa[List.length_range]at this
  refine Bj it ac ω (λN=>.inl ⟨rfl,(λC=>(by cases C)),λ_=>?_⟩) λk v H hk q aj U z3 f3 xW=>.inr ⟨k,v,rfl,λ_=>CV U ⟨k,v,rfl,?_⟩,λC=>(by cases C)⟩;have c:xs.Perm (J3 L):=by refine((List.perm_ext_iff_of_nodup Y (Hr Z)).2 λp=>⟨F p,λc=>?_⟩).trans (T6 L);have af:=N (ab9 (cR L p),ab9 (p:Int)) (by unfold lP;rw[zbo];exact zbr.2 ⟨p,c,rfl⟩);have⟨x,l,e⟩:=zbr.1 af;injection e with _ e;have l:=List.mem_reverse.1 l;have⟨a1,a2⟩:=(y x).1 (F x l);have⟨b1,b2⟩:=(y p).1 c;obtain h|h|h:=Nat.lt_trichotomy x p;grind;grind;simp_all
  refine XC.mono (z3p o η) ?_;rintro v g4 ⟨rfl,o4,z4,f4⟩;rw[Pp c]at o4;have Lf:At f O g4 O:=v0 P.ag ⟨ω,λj A=>by rw[f4 j ω λp c=>χ (o.base_le p c)];exact K2.get j A⟩;have⟨M6,L6,rd⟩:=Fd.frzI Lf o4 ω (by rw[zas,c.symm.length_eq];omega);exact⟨rfl,M6,_,D.trans L6,Qr.2 ((J1 rfl).2 rd),hR⟩;obtain⟨i,hi,rfl,rfl⟩:∃i,i∈kK L (DB L)/\k=.int .i64 (cR L i)/\v=.int .i64 (i:Int):=by unfold lP at H;rw[zbo]at H;have⟨i,hi,e⟩:=zbr.1 H;injection e with e1 e2;exact⟨i,hi,e1.symm,e2.symm⟩
  have ak:i∉xs:=λhm=>hk (zbr.2 ⟨i,List.mem_reverse.2 hm,rfl⟩);rw[U9];have E:BT q.size q (q.push (.cells #[ab9 (i:Int)] 3)):=ur _ _ (zac _);have z8:(q.push (.cells #[ab9 (i:Int)] 3)).size=q.size+1:=zau _;have V8:Blk (q.push (.cells #[ab9 (i:Int)] 3)) q.size #[ab9 (i:Int)]:=wr _ _ _;generalize (q.push (.cells #[ab9 (i:Int)] 3))=h8 at E z8 V8 ⊢;have o3:Fd q (g.size+1) 3 1 out ((xs.map λi:Nat=>(i:Int)).map (zby .i64)):=o.ab0 λp c=>f3 _ (χ (o.base_le p c));have I:=o3.keepN E;have hl:=DJ o;rw[zas]at hl;refine Zh (oO:JT _ _ _ _ 1 8) I (src:=⟨Td (ab7 q),1,1⟩) (news:=[ab9 (i:Int)]) (n:=h8.size) ?_ rfl (by simp[pi]) η η ω λs' h4 p1 p2 J p4 p5=>⟨s',rfl,⟨xs++[i],?_,?_,?_,?_,ω,?_⟩,?_⟩;refine .inr ⟨q.size,0,rfl,ω,λi v S=>?_⟩
  match i,S with
  |0,S=>cases S;exact V8.cell rfl
  grind;grind;rw[List.reverse_append];refine aj.ab0 ?_ ?_;rw[J _ ω λp c=>χ (I.base_le p c)];exact E.get _ ω;rw[J _ ω λp c=>χ (I.base_le p c)];exact E.get _ ω;rw[zbf,zbf];exact p2;refine⟨ω,λj A=>?_⟩;rw[J j ω λp c=>χ (I.base_le p c),E.get j ω,f3 j ω];exact K2.get j A;show OR h4 g.size f.size<OR g2 g.size f.size;rw[OR.ab0 (h:=q) ?_ ?_];exact xW;rw[J _ ω λp c=>χ (I.base_le p c)];exact E.get _ ω;rw[J _ ω λp c=>χ (I.base_le p c)];exact E.get _ ω
end
section
open Go.RowKit
variable {gl:Fr} {v:Tr} {h2 g:zc} {K:Value -> zc -> Prop} {lv:Nat}
def Wq(f:GL gl)(c:Sm v){R:ad2}(h:R (zr v)):ab4 gl 57 [up .tree v] [.bool] R:=by
 apply ZY;rw[qw];refine AI v c.sz ⟨λr=>r=(iB v:Int),λ_=>AL v c.sz rfl,λr i=>⟨λb=>b=Zo (λx=>decide (x.aa6≠7)&&zm x) v,λ_=>Di f Tc v c (Fp (λx=>η) v),λb hb=>?_⟩⟩;have e:(cond (ph ((cK v:Int)<=4096)) (ph (r<=32)) Tc)=xa v:=by
  unfold xa;cases hc:ph ((cK v:Int)<=4096)with
  |false=>grind
  |true=>grind
 rw[e]at hb ⊢;unfold zr at h;grind
def pG:Bt:=⟨#[48,49,50,51,52,53,54,55,56,57,97,98,99,100,101,102]⟩
def R5:(za7 32).all (λk=>(k==8||k==9||k==10||k==12||k==13)||(ph (iL (kq (zcl k))=[92,117,48,48,zf pG (zaa .u8 ((k:Int).tdiv 16)).toNat,zf pG ((k:Int).tmod 16).toNat]) && (ph (0<=zaa .u8 ((k:Int).tdiv 16))&&ph (zaa .u8 ((k:Int).tdiv 16)<16)&&ph (0<=(k:Int).tmod 16)&&ph ((k:Int).tmod 16<16))))=Ta:=κ
def Pw{c:UInt8}(h:c.toNat<32)(j:c.toNat≠8)(i:c.toNat≠9)(b:c.toNat≠10)(f:c.toNat≠12)(e:c.toNat≠13):iL (kq c)=[92,117,48,48,zf pG (zaa .u8 ((c.toNat:Int).tdiv 16)).toNat,zf pG ((c.toNat:Int).tmod 16).toNat]/\0<=zaa .u8 ((c.toNat:Int).tdiv 16)/\zaa .u8 ((c.toNat:Int).tdiv 16)<16/\0<=(c.toNat:Int).tmod 16/\(c.toNat:Int).tmod 16<16:=by have:=zbl.1 R5 c.toNat (zcs.2 h);simp_all
theorem IC(l:Bs):(iL l).length=DB l:=by unfold iL;simp
structure QB (h2 g:zc) (s:Sl) (xs:List Int):Prop where
 k:BT h2.size h2 g
 o:Fd g h2.size 5 1 s (xs.map (zby .u8))
theorem QB.len{s:Sl}{xs:ad4}(Q:QB h2 g s xs):s.len=DB xs:=by have:=Q.o.1;rw[zas,zbn]at this;exact this.symm
theorem QB.next{h2 g g':zc}{s b:Sl}{xs X:ad4}(Q:QB h2 g s xs)(o:Fd g' h2.size 5 1 b (xs.map (zby .u8)++X.map (zby .u8)))(f:∀i,i<g.size->(∀p,s.a=Td p->i≠p.block)->g'[i]?=g[i]?)(z:g.size<=g'.size):QB h2 g' b (xs++X):= ⟨⟨χ Q.k.size,λi hi=>(f i (χ Q.k.size) λp c=>χ (Q.o.base_le p c)).trans (Q.k.get i hi)⟩,by rw[zbf];exact o⟩
theorem QB.lit{s:Sl}{xs:ad4}(Q:QB h2 g s xs)(X:ad4)(z:xs.length+DB X<=140737488355328)(j:∀b g',QB h2 g' b (xs++X)->K (aK b) g'):qq Tp (zaj #[87,87] 87 #[aK s,.slice (Td (ab7 g)) (DB X) (DB X)]) (g.push (.cells (X.map (zby .u8)).toArray 5)) K:=by have e:=Q.len;have⟨c,t,b1⟩:=jo (h:=g) (cs:=(X.map (zby .u8)).toArray) (T:=5) rfl;have f:QB h2 (g.push (.cells (X.map (zby .u8)).toArray 5)) s xs:=⟨Q.k.trans c Q.k.size,Q.o.keepN c⟩;refine Zh qP f.o (src:=⟨Td (ab7 g),DB X,DB X⟩) (news:=X.map (zby .u8)) (n:=(g.push (.cells (X.map (zby .u8)).toArray 5)).size) (.inr ⟨g.size,0,rfl,ω,λi v q=>?_⟩) ξ (λu p=>?_) (by simp only;omega) (by simp only;omega) (χ Q.k.size) λb g' w r l m y=>j b g' (f.next r l m);exact b1.cell (by rw[zax];simpa using q);obtain⟨x,_,rfl⟩:=zbr.1 p;rfl
theorem QB.str{s:Sl}{xs:ad4}(Q:QB h2 g s xs)(X:Bs)(n:xs.length+DB X<=140737488355328)(h:∀c g',QB h2 g' c (xs++iL X)->K (aK c) g'):qq Tp (zaj #[87,9] 87 #[aK s,ab5 (bl X)]) g K:=by
 have e:=Q.len;have b:=zn X;refine Wk qP Q.o (x:=.string (bl X)) (m:=(bl X).size) (news:=(iL X).map (zby .u8)) (λB d=>?_) (ο b) (ο b) Q.k.size λc g' p j i f q=>h c g' (Q.next j i f);have:=Src.ofString (P:=Tp) (w:=Go.X.mk B d g) DG (bl X);have l:byteCells (bl X)=(iL X).map (zby .u8):=by unfold byteCells iL;have:(bl X).data.toList=X:=Zn X;rw[this,zbo];rfl
 rw[l]at this;exact this
def KH{t:Bs}(hl:t.length<=1000000000){R:Bt×Int->Prop}(h:R (bl (io t).1,(io t).2)):ab4 gl 131 [up .str (bl t)] [.str,.int .i64] R:=by
 intro h0 M vs hM ag ha
 match vs,ha with
 |[u],⟨hu,_⟩=>
 cases w5 (s:=bl t) hu;apply PX.of;apply UU (bl t);refine(Ie (gl:=gl) (l:=t) ω (R:=λr=>r.2=Q2 t) λk=>rfl).go (vs:=[ab5 (bl t)]) hM ag (zo (a:=up .str _) (GE _) qc) λw h2 M2 r V E I=>?_;have I:r.2=Q2 t:=I;obtain⟨us,⟨x1,aa,rfl,q1,Y,rfl,P⟩,rfl⟩:=E;cases Zu q1;have P:Y=.bool r.2:=by have:=(J1 rfl).1 P;simpa[Rd]using this
 subst P;unfold io at h;have done:∀{g:zc} (s:Bt) (e:Int),BT h2.size h2 g->R (s,e)->∃M' r,At h0 M g M'/\Yx M' [.str,.int .i64] r (.tuple #[ab5 s,ab9 e])/\R r:=λs e k hR=>⟨M2,(s,e),V.trans (v0 V.ag k),Cl s e,hR⟩;refine⟨_,_,rfl,λq=>?_,λq=>?_⟩
 ·have q:Q2 t=Tc:=by rw[<-I];simpa using q
  rw[q]at h;exact done _ _ (BT.refl _ _) h
 have q:Q2 t=Ta:=by rw[<-I];simpa using q
 rw[q,zA rfl]at h;intro x;have Z:QB h2 x ⟨Td (ab7 h2),1,1⟩ (iL (34::hY (t.take 0))):=⟨ur _ _ (zac _),⟨rfl,.inr ⟨h2.size,1,#[.int .u8 34],rfl,zac _,ye _ _,zac _,by unfold maxLen;omega,rfl,rfl⟩⟩⟩;clear_value x;refine⟨λout i g=>∃k:Nat,i=k/\k<=DB t/\QB h2 g out (iL (34::hY (t.take k))),λ_ i _=>DB t-i.toNat,⟨0,rfl,zar _,Z⟩,?_⟩;rintro out i g ⟨k,rfl,hk,Q⟩;rw[zn];have ab:(hY (t.take k)).length<=6*DB t:=by have:=uK (t.take k);rw[zbt]at this;omega
 have L:(iL (34::hY (t.take k))).length<=6*DB t+1:=by rw[IC,za1];omega
 refine⟨λN=>?_,λN=>?_⟩
 ·have m:k<DB t:=χ (jM N)
  have hb:zf (bl t) ((k:Nat):Int).toNat=((t[k]:UInt8).toNat:Int):=by rw[zag,yb,zam m];rfl
  rw[hb,qd m ω];generalize S:t[k]=c;have z:hY (t.take (k+1))=hY (t.take k)++kq c:=by rw[zai m,FE,S];congr 1;unfold hY;simp
  have fin:∀{X:ad4} {f:Sl} {g':zc},X=iL (kq c)->QB h2 g' f (iL (34::hY (t.take k))++X)->(∃k2:Nat,((k+1:Nat):Int)=k2/\k2<=DB t/\QB h2 g' f (iL (34::hY (t.take k2))))/\DB t-((k+1:Nat):Int).toNat<DB t-((k:Nat):Int).toNat:=by rintro X f g' rfl Q';refine⟨⟨k+1,rfl,m,?_⟩,ω⟩;rw[z];rw[<-JM]at Q';exact Q'
  have A:∀n:Nat,n<256->(((c.toNat:Int)==(n:Int))=Ta↔c=zcl n):=λn U=>by rw[beq_iff_eq];constructor;intro e;apply zdt.1;simp;omega;simp_all;omega
  have ne:∀n:Nat,n<256->((c.toNat:Int)==(n:Int))=Tc->c≠zcl n:=λn U e h=>θ
  refine⟨⟨ω,ω⟩,λh1=>?_,λh1=>⟨λh2=>?_,λh2=>⟨λG=>?_,λG=>⟨λH=>?_,λH=>⟨λx=>?_,λx=>⟨λJ=>?_,λJ=>⟨λD=>?_,λD=>?_⟩⟩⟩⟩⟩⟩⟩;have:c=34\/c=92:=by obtain h|h:=Gi.1 h1;exact .inl ((A 34 ω).1 h);exact .inr ((A 92 ω).1 h)
  refine Q.lit [92,(c.toNat:Int)] (by simp only[za1,zbx];omega) λf g' Q'=>⟨f,rfl,fin ?_ Q'⟩;unfold kq;rw[zA this];rfl;all_goals have⟨B,C⟩:=uu.1 h1
  all_goals have B:=ne 34 ω B
  all_goals have C:=ne 92 ω C
  all_goals have nn:¬(c=34\/c=92):=by rintro(e|e);exact B e;exact C e
  have e:=(A 8 ω).1 h2;exact Q.str [92,98] (by simp only[za1,zbx];omega) λf g' Q'=>⟨f,rfl,fin (π e) Q'⟩;have e:=(A 12 ω).1 G;exact Q.str [92,102] (by simp only[za1,zbx];omega) λf g' Q'=>⟨f,rfl,fin (π e) Q'⟩;have e:=(A 10 ω).1 H;exact Q.str [92,110] (by simp only[za1,zbx];omega) λf g' Q'=>⟨f,rfl,fin (π e) Q'⟩;have e:=(A 13 ω).1 x;exact Q.str [92,114] (by simp only[za1,zbx];omega) λf g' Q'=>⟨f,rfl,fin (π e) Q'⟩;have e:=(A 9 ω).1 J;exact Q.str [92,116] (by simp only[za1,zbx];omega) λf g' Q'=>⟨f,rfl,fin (π e) Q'⟩;have D:c.toNat<32:=χ (zH D)
  have F:∀n:Nat,n<256->((c.toNat:Int)==(n:Int))=Tc->c.toNat≠n:=λn U e h=>θ
  have⟨e,b1,b2,b3,b4⟩:=Pw D (F 8 ω h2) (F 9 ω J) (F 10 ω H) (F 12 ω G) (F 13 ω x);refine⟨rfl,ζ,rfl,ζ,?_⟩;intro T;have hz:T g:=Q.lit [92,117,48,48,zf pG (zaa .u8 ((c.toNat:Int).tdiv 16)).toNat,zf pG ((c.toNat:Int).tmod 16).toNat] (by simp only[za1,zbx];omega) λf g' Q'=>⟨f,rfl,fin e.symm Q'⟩;exact⟨⟨⟨b1,b2⟩,⟨b3,b4⟩,hz⟩,⟨b3,b4⟩,⟨b1,b2⟩,hz⟩;have D:¬c.toNat<32:=χ (zI D)
  refine Q.lit [(c.toNat:Int)] (by simp only[za1,zbx];omega) λf g' Q'=>⟨f,rfl,fin ?_ Q'⟩;unfold kq;rw[zv nn,zv (show¬c=8 from ne 8 ω h2),zv (show¬c=12 from ne 12 ω G),zv (show¬c=10 from ne 10 ω H),zv (show¬c=13 from ne 13 ω x),zv (show¬c=9 from ne 9 ω J),zv D];rfl
 ·have O:k=DB t:=χ (jV N)
  subst O;rw[za2]at Q L;refine Q.lit [34] (by simp only[za1,zbx];omega) λf g' Q'=>⟨f,rfl,?_⟩;have e:iL (34::hY t)++([34]:ad4)=iL (34::hY t++[34]):=by rw[JM];rfl
  rw[e]at Q';have p:=Q'.len;rw[IC]at p;obtain hz|⟨b,o,ea,_,y⟩:=Q'.o.arr;rw[List.map_eq_nil_iff]at hz;simp[iL]at hz
  ·have⟨sa,sl,sc⟩:=f;cases ea;have p:sl=(34::hY t++[34]).length:=p;subst p;refine Kf (l:=34::hY t++[34]) (λj hj=>y j _ ?_) ⟨_,rfl,done _ _ Q'.k h⟩;rw[zb7];unfold iL;rw[zb7,zam hj];rfl
def T7{ps:List Bs}{n:Nat}(h:n<DB ps)(lv:Nat):(xq Tc 0 lv (ps.take n)).length+ps[n].length+(ite (n=0) 0 1)<=(xq Tc 0 lv ps).length:=by have h1:=uv Tc 0 lv (ps:=ps) (n:=n+1) h;rw[v6 Tc 0 lv h,zah,zah,zah]at h1;grind
def Ze(v:Tr)(lv:Nat):List Bs:=if v.aa6=6 then List.zipWith (jN Tc) v.aa8 (v.aa7.map λx=>Y5 Tc 0 x (lv+1))else v.aa7.map λx=>Y5 Tc 0 x (lv+1)
def Nu(h:v.aa6=6->DB v.aa8=DB v.aa7):(Ze v lv).length=DB v.aa7:=by unfold Ze;grind
def TX(h:v.aa6=5\/v.aa6=6):Y5 Tc 0 v lv=(ite (v.aa6=6) 123 91)::xq Tc 0 (lv+1) (Ze v lv)++[ite (v.aa6=6) 125 93]:=by
 have b:∀ps,jW Tc 0 lv ps=xq Tc 0 (lv+1) ps:=λps=>by unfold jW Zx;split <;> simp
 rw[Q7];unfold Ze;grind
def Lh{gl:Fr}:∀(n:Nat) (v:Tr) (lv:Nat),cK v<=n->n<=5000->Sm v->Zo ib v=Ta->lv+iB v<=90->∀{R:Bt->Prop},R (bl (Y5 Tc 0 v lv))->ab4 gl 132 [up .tree v,up PJ (-1),up PJ (lv:Int)] [.str] R
 |0,v,_,h,_,_,_,_,_,_=>χ (wa v)
 |n+1,v,lv,hz,hn,hsm,hok,hd,R,hR=>by
  have o:=xp hok;have ab:=xN (ln:=Tc) (N:=0) ω (cK v) v lv (zac _) hsm hd;have l:(Y5 Tc 0 v lv).length<=200000000000:=by have:cK v*20000000<=5001*20000000:=za6 _ ω;omega
  apply Tf;refine⟨λh1=>?_,λh1=>?_⟩;have h1:v.aa6=1:=ψ h1
  rw[Q7,zA h1]at hR;exact hR;have h1:¬v.aa6=1:=ψ h1
  intro K2 S;suffices h23:K2 (v.aa6==2||v.aa6==3)by grind
  refine S _ ⟨λh2=>?_,λh2=>⟨λz=>?_,λz=>?_⟩⟩;have h2:v.aa6=2\/v.aa6=3:=ψ h2
  rw[Q7,zv h1,zv ω,zv ω,zv ω,Xl]at hR;exact hR;have z:v.aa6=4:=ψ z
  rw[Q7,zv h1,zA z]at hR;have w:=KH (gl:=gl) (t:=lb v.aa9) (χ hsm.aa9) (R:=λr=>R r.1) hR;rw[Xl]at w;exact w;have z:¬v.aa6=4:=ψ z
  have h2:¬(v.aa6=2\/v.aa6=3):=ψ h2
  have U:v.aa6=5\/v.aa6=6:=by obtain⟨k,_⟩|⟨k,_⟩|⟨k,_⟩|⟨k,_⟩|⟨k,_⟩|⟨k,_⟩:=Cm o <;> omega
  have A:v.aa6=6->DB v.aa8=DB v.aa7:=λc=>by unfold ib at o;rw[zaw]at o;exact(BX o.2 c).2
  have M:=Nu (lv:=lv) A;have V:=TX (lv:=lv) U;rw[V]at hR l;obtain⟨y,f⟩:∃y:UInt8,y=(ite (v.aa6=6) 123 91):=⟨_,rfl⟩;obtain⟨L,m⟩:∃L:UInt8,L=(ite (v.aa6=6) 125 93):=⟨_,rfl⟩;rw[<-f,<-m]at hR l;rw[zah,za1,zcj]at l;intro K6 Q;suffices main:K6 (bl [y]) (bl [L])by
   refine⟨λc=>?_,λc=>?_⟩;have c:v.aa6=6:=ψ c
   rw[zA c]at f m;rw[f,m]at main;exact main;have c:¬v.aa6=6:=ψ c
   rw[zv c]at f m;rw[f,m]at main;exact main
  refine Q _ _ ⟨λh0=>?_,λh0=>?_⟩;have h0:v.aa7.length=0:=ψ h0
  refine⟨Xq ξ,?_⟩;have:Ze v lv=[]:=za4 ω;rw[this]at hR;rw[qo];exact hR;refine⟨λs i=>∃k:Nat,i=k/\k<=DB v.aa7/\s=bl (y::xq Tc 0 (lv+1) ((Ze v lv).take k)),λ_ i=>DB v.aa7-i.toNat,⟨0,rfl,zar _,rfl⟩,?_⟩;rintro s i ⟨k,rfl,hk,rfl⟩;have af:=uv Tc 0 (lv+1) (ps:=Ze v lv) (n:=k) ω;refine⟨λZ=>?_,λZ=>?_⟩;have p:k<DB v.aa7:=χ (jM Z)
  have I:k<(Ze v lv).length:=ω
  have B:=T7 I (lv+1);have Y:=v6 Tc 0 (lv+1) I;have u:=zak p;have ah:=qi u;have ae:=Aa u;rw[qd p (χ hsm.aa7)];have O:w6 ((lv:Int)+1)=((lv+1:Nat):Int):=by rw[fK ω];omega
  rw[O];obtain⟨pre,b⟩:∃pre:Bs,pre=y::xq Tc 0 (lv+1) ((Ze v lv).take k)++(ite (k=0) [] [44]):=⟨_,rfl⟩;have aa:pre.length=1+(xq Tc 0 (lv+1) ((Ze v lv).take k)).length+(ite (k=0) 0 1):=by rw[b];by_cases h0:k=0;rw[zA h0,zA h0,zbi,za1];omega;rw[zv h0,zv h0,zah,za1,zcj];omega
  intro P C;suffices hmain:P (bl pre)by
   refine⟨λhi=>?_,λhi=>?_⟩;have hi:¬k=0:=χ (zH hi)
   rw[zv hi]at b;refine⟨Xq φ,?_⟩;have e:bl (y::xq Tc 0 (lv+1) ((Ze v lv).take k))++(⟨#[44]⟩:Bt)=bl pre:=by rw[b];exact qo _ _
   rw[e];exact hmain;have hi:k=0:=χ (zI hi)
   rw[zA hi,zbi]at b;rw[<-b];exact hmain
  refine C _ λai D=>?_;refine⟨λh=>(by cases h),λ_=>D _ λx F=>?_⟩;have j:∀q:Bs,(Ze v lv)[k]=q++Y5 Tc 0 v.aa7[k] (lv+1)->x (bl (pre++q)):=λq w=>F _ ⟨v.aa7[k],⟨ω,Jx p⟩,by rw[qw];refine Lh n v.aa7[k] (lv+1) ω ω (hsm.item u) (jm hok u) ω ?_;rw[w,zah]at B;refine⟨Xq φ,⟨k+1,rfl,p,?_⟩,φ⟩;rw[qo,Y,w,b];congr 1;simp[Zx]⟩;refine⟨λc=>?_,λc=>?_⟩;have c:v.aa6=6:=ψ c
  have G:k<DB v.aa8:=χ (A c)
  have w:(Ze v lv)[k]=((io (lb v.aa8[k])).1++[58])++Y5 Tc 0 v.aa7[k] (lv+1):=by unfold Ze jN;simp[c]
  have J:=j _ w;have H:=KH (gl:=gl) (t:=lb v.aa8[k]) (χ (hsm.key (zak G))) (R:=λr=>qg ((bl pre).size+r.1.size)/\qg ((bl pre++r.1).size+(⟨#[58]⟩:Bt).size)/\(Tc=Ta->qg (((bl pre++r.1)++(⟨#[58]⟩:Bt)).size+(⟨#[32]⟩:Bt).size)/\x (((bl pre++r.1)++(⟨#[58]⟩:Bt))++(⟨#[32]⟩:Bt)))/\(Tc=Tc->x ((bl pre++r.1)++(⟨#[58]⟩:Bt)))) (by
   rw[w,zah,zah]at B;refine⟨Xq ω,?_,λh=>(by cases h),λ_=>?_⟩;show qg ((bl pre++bl (io (lb v.aa8[k])).1).size+(bl [58]).size);rw[qo];exact Xq φ;have:(bl pre++bl (io (lb v.aa8[k])).1)++(⟨#[58]⟩:Bt)=bl (pre++((io (lb v.aa8[k])).1++[58])):=by show(bl pre++bl (io (lb v.aa8[k])).1)++bl [58]=_;rw[qo,qo,za3]
   rw[this];exact J)
  rw[Xl]at H;exact⟨v.aa8[k],⟨ω,mM G⟩,H⟩;have c:¬v.aa6=6:=ψ c
  have J:=j [] (by unfold Ze;simp[c]);rw[zbi]at J;exact J;have T:k=DB v.aa7:=χ (jV Z)
  rw[T,<-M,za2];intro ac E;refine⟨λh=>(by cases h),λ_=>E _ ⟨Xq φ,?_⟩⟩;rw[qo];exact hR
def E3(f:GL gl)(c:Sm v){R:Bt×Int->Prop}(b:R (Jd v)):ab4 gl 73 [up .tree v] [.str,.int .i64] R:=by
 apply RU;simp only[qw];refine Wq f c ?_;unfold Jd at b;cases hr:zr v with
 |false=>rw[hr]at b;exact⟨λ_=>b,λh=>(by cases h)⟩
 |true=>rw[hr]at b;have⟨j,k,e,i⟩:=Zd hr;exact⟨λh=>(by cases h),λ_=>Lh (cK v) v 0 (zac _) ω c e ω b⟩
end
section
open Go.Lib
section
variable {v a b:Tr} {gl:Fr} {R:Bool -> Prop}
def Gp:zy Tp 84=Ta:=κ
theorem rI(a b:Bt):(a.toList==b.toList)=ph (a=b):=by rw[zbd];simp only[ByteArray.toList_eq,beq_iff_eq,zG];constructor;intro h;cases a;simp_all;grind
def KD(h:zm v=Ta)(b:v.aa6=6):v.aa8.Nodup/\DB v.aa8=DB v.aa7:=by refine⟨?_,Y8 h b⟩;unfold zm at h;simp[b]at h;have:=h.1.1;unfold yj at this;simp_all
def NO:∀(n:Nat) (a b:Tr),cK a<=n->Sm a->Sm b->Zo zm a=Ta->Zo zm b=Ta->∀{R:ad2},R (xd a b)->ab4 gl 84 [up .tree a,up .tree b] [.bool] R:=by
 intro n;induction n with
 |zero=>intro a _ h;have:=wa a;omega
 |succ n Z=>
  intro a b hn E hb F ob R Y h M vs hM ag o
  match vs,o with
  |[u1,u2],⟨p,l,_⟩=>
  have p:RdV M .tree a u1:=p;have l:RdV M .tree b u2:=l;obtain⟨sk,si,rfl,rk,V⟩:=qh p;obtain⟨tk,A,rfl,J,m⟩:=qh l;have⟨li,_,_⟩:=CD V;have⟨ah,_,_⟩:=CD m;apply PX.of;apply PU a.aa6 a.aa9 sk si b.aa6 b.aa9 tk A;intro h1 h2;have k1:BT h.size h h1:=ur _ _ (zac _);have k2:BT h1.size h1 h2:=ur _ _ (zac _);have b1:Blk h1 h.size (zl a.aa6 a.aa9 sk si).toArray:=wr _ _ _;have b2:Blk h2 h1.size (zl b.aa6 b.aa9 tk A).toArray:=wr _ _ _;have z1:h1.size=h.size+1:=zau _;have z2:h2.size=h1.size+1:=zau _;clear_value h1 h2;have c:=b1.ab2 k2;have kk:BT h.size h h2:=k1.trans k2 ω;have z:At h M h2 M:=v0 ag kk;intro K5 O;have f:∀x:Bool,(x=Ta->xd a b=Tc)->(x=Tc->a.aa6=b.aa6/\a.aa9=b.aa9/\DB a.aa7=DB b.aa7)->K5 x h2:=by
   intro x aj G;refine O x h2 ⟨λj=>⟨M,_,z,Qr.2 (GS _),?_⟩,λj=>?_⟩;grind;have⟨e1,e2,e3⟩:=G j;have N:xd a b=(ite (a.aa6=6) (nv a.aa8 a.aa7 b) (nD a.aa7 b.aa7)):=by rw[pV];simp[e1,e2,e3]
   rw[N]at Y;refine⟨a.aa6,c.ab1 (by rfl),λU=>?_,λU=>?_⟩;have i:¬a.aa6=6:=ψ U
   rw[zv i,Aj _ _ e3]at Y;refine⟨si,c.ab1 (by rfl),A,b2.ab1 (by rfl),?_⟩;refine(Ts (gl:=gl) Gp (q:=xd) (xs:=a.aa7) (ys:=b.aa7) (λx j y C=>Z x y (χ (qi j)) (E.item j) (hb.item C) (jm F j) (jm ob C) rfl) hM z.ag V m).go λw ac S r L e t=>?_;have t:r=_:=t;subst t;refine⟨_,Jb e,S,_,z.trans L,Qr.2 (GS _),?_⟩;grind;have i:a.aa6=6:=ψ U
   rw[zA i,Dx _ _ _ (Y8 (xp F) i)]at Y;have⟨na,la⟩:=KD (xp F) i;have⟨nb,lb⟩:=KD (xp ob) ω;refine⟨a.aa6,a.aa9,sk,si,c.ld (cs:=zl a.aa6 a.aa9 sk si),b.aa6,b.aa9,tk,A,b2.ld (cs:=zl b.aa6 b.aa9 tk A),?_⟩;refine AK na la E.aa7 z.ag (zw rk V) λaf m1 ua u ai T ra w1=>⟨Td m1,rfl,u.get h1.size ω,?_⟩;have k:=z.ag.ab0 u;refine AK nb lb hb.aa7 k (zw J m) λQ m2 ub B ae P rb w2=>⟨Td m2,rfl,?_⟩;have D:At h M Q M:=(z.trans (v0 z.ag u)).trans (v0 k B);refine(QM (gl:=gl) Gp (q:=xd) na la lb T P ⟨E.aa7,hb.aa7⟩ (λx j y C=>Z x y (χ (qi j)) (E.item j) (hb.item C) (jm F j) (jm ob C) rfl) hM D.ag (w1.ab0 (B.get _ w1.lt)) w2 ra rb).go λw ab H r L e t=>?_;have t:r=_:=t;subst t;refine⟨_,Jb e,H,_,D.trans L,Qr.2 (GS _),?_⟩;grind
  refine⟨a.aa6,c.ab1 (by rfl),b.aa6,b2.ab1 (by rfl),λhk=>f _ (λ_=>?_) (λI=>?_),λhk=>?_⟩;grind [pV];grind;have aa:a.aa6=b.aa6:=ψ hk
  refine⟨a.aa9,c.ab1 (by rfl),b.aa9,b2.ab1 (by rfl),λht=>f _ (λ_=>?_) (λI=>?_),λht=>⟨si,c.ab1 (by rfl),A,b2.ab1 (by rfl),f _ (λI=>?_) (λI=>?_)⟩⟩;grind [pV];grind;grind [pV];grind [rI]
def YK(f:GL gl)(e:Sm a)(hb:Sm b)(h:R (wm a&&(wm b&&xd a b))):ab4 gl 46 [up .tree a,up .tree b] [.bool] R:=by
 apply RI;simp only[qw];refine vQ f e ⟨λr=>r=wm b,λ_=>vQ f hb rfl,λr i=>⟨λx=>x=xd a b,λc=>?_,λx j=>?_⟩⟩;cases h1:wm a with
 |false=>rw[h1]at c;cases c
 |true=>rw[h1,zK]at c;have h2:=i h1;rw[c]at h2;exact NO _ a b (zac _) e hb (rU h1) (rU h2.symm) rfl
 grind
theorem Et{aa8:List Bt}{x:Bt}{k:Nat}(b:k<DB aa8):idxFromS (aa8.drop k) x k=ite (aa8[k]=x) (k:Int) (idxFromS (aa8.drop (k+1)) x (k+1)):=by rw[zbg b,idxFromS]
def qmc{key:Bt}(l:v.aa8.length<=1000000000){R:ad3}(h:R (idxOfS v.aa8 key)):ab4 gl 164 [up .tree v,up .str key] [.int .i64] R:=by
 apply F0;refine⟨λi=>∃k:Nat,i=k/\k<=DB v.aa8/\idxOfS v.aa8 key=idxFromS (v.aa8.drop k) key k,λi=>DB v.aa8-i.toNat,⟨0,rfl,zar _,by rw[zcn];rfl⟩,?_⟩;rintro i ⟨k,rfl,j,e⟩;refine⟨λf=>?_,λf=>?_⟩;have b:k<DB v.aa8:=by simp at f;omega
 refine⟨v.aa8[k],⟨ω,ξ⟩,λc=>?_,λc=>?_⟩;simp_all[rI,Et];rw[rI]at c;rw[Et b,zv (ψ c)]at e;grind [qd];have b:k=DB v.aa8:=by simp at f;omega
 subst b;rw[zed,idxFromS]at e;grind
def V7(a b:Tr)(i:Nat)(x:Tr):Bool:=if a.aa6=6 then(match a.aa8[i]? with
 |some k=>kT b.aa8 b.aa7 xd k x
 |none=>Tc)else(match b.aa7[i]? with
 |some y=>xd x y
 |none=>Tc)
theorem LN{α β:Type}{p:α×β->Bool}{xs:List α}{ys:List β}(h:xs.length=DB ys):(xs.zip ys).all p=Ta↔∀i (h1:i<DB xs) (h2:i<DB ys),p (xs[i],ys[i])=Ta:=by rw[zbl];constructor;intro H i h1 h2;exact H _ (zdp.2 ⟨i,φ,ξ⟩);intro H x b;have⟨i,hi,e⟩:=zdh b;grind
def QK(ok:Zo zm a=Ta)(h1:a.aa6=b.aa6)(h2:a.aa9=b.aa9)(c:a.aa7.length=DB b.aa7):xd a b=Ta↔∀i (hi:i<DB a.aa7),V7 a b i a.aa7[i]=Ta:=by
 have e:xd a b=(ite (a.aa6=6) (nv a.aa8 a.aa7 b) (nD a.aa7 b.aa7)):=by rw[pV];simp[h1,h2,c]
 rw[e];unfold V7;split;grind [Y8,xp,Dx,LN];grind [Aj,LN]
def QJ:∀(n:Nat) (a b:Tr),cK a<=n->Sm a->Sm b->Zo zm a=Ta->Zo zm b=Ta->∀{R:ad2},R (xd a b)->ab4 gl 188 [up .tree a,up .tree b] [.bool] R:=by
 intro n;induction n with
 |zero=>intro a _ h;have:=wa a;omega
 |succ n F=>
  intro a b Q x hb u ob R S;apply zgl;have y:=x.aa7;have J:=hb.aa8;refine⟨λm=>?_,λm=>?_⟩;have:xd a b=Tc:=by rw[pV];rw[rI]at m;simp only[Bool.cond_true_left,Bool.or_eq_true,bne_iff_ne,Bool.not_eq_true',decide_eq_false_iff_not,ne_eq]at m;obtain (h|h)|h:=m;simp[h];simp[h];grind
  simp_all;rw[rI]at m;obtain⟨E,C,L⟩:a.aa6=b.aa6/\a.aa9=b.aa9/\DB a.aa7=DB b.aa7:=η
  have key:=QK u E C L;refine⟨λi=>∃k:Nat,i=k/\k<=DB a.aa7/\∀j (f:j<DB a.aa7),j<k->V7 a b j a.aa7[j]=Ta,λi=>DB a.aa7-i.toNat,⟨0,rfl,zar _,λj _ f=>ω⟩,?_⟩;rintro i ⟨k,rfl,P,z⟩;refine⟨λm=>?_,λm=>?_⟩;have c:k<DB a.aa7:=by simp at m;omega
  have l:V7 a b k a.aa7[k]=Tc->R Tc:=λI=>η
  intro K H;have step:∀(i:Int),(i<0->V7 a b k a.aa7[k]=Tc)->(∀j:Nat,i=(j:Int)->∃f:j<DB b.aa7,V7 a b k a.aa7[k]=xd a.aa7[k] b.aa7[j])->K i:=by
   intro i h1 h2;refine H i ⟨λo=>l (h1 (ψ o)),λr=>?_⟩;have q:0<=i:=ψ r
   have⟨f,e⟩:=h2 i.toNat ω;refine⟨a.aa7[k],⟨ω,ξ⟩,b.aa7[i.toNat],⟨q,ξ⟩,?_⟩;simp only[qw];refine F _ _ (χ (qi (zak c))) (x.item (zak c)) (hb.item (zak f)) (jm u (zak c)) (jm ob (zak f)) ⟨λI=>?_,λA=>?_⟩;grind;have D:xd a.aa7[k] b.aa7[i.toNat]=Ta:=ψ A
   rw[qd c ω];refine⟨⟨k+1,rfl,c,λj M G=>?_⟩,ω⟩;grind
  refine⟨λt=>?_,λt=>?_⟩;have p:a.aa6=6:=ψ t
  have O:=Y8 (xp u) p;have N:=Y8 (xp ob) ω;refine⟨a.aa8[k],⟨ω,ξ⟩,?_⟩;simp only[qw];have w:V7 a b k a.aa7[k]=kT b.aa8 b.aa7 xd a.aa8[k] a.aa7[k]:=by unfold V7;rw[zA p,zam ω]
  refine qmc ω (step _ (λo=>?_) λj f=>?_);rw[w];unfold kT;grind;have B:=XB f;refine⟨ω,?_⟩;rw[w];unfold kT;rw[f,zag,zam ω];simp;have p:¬a.aa6=6:=ψ t
  refine step _ (λo=>ω) λj f=>?_;have:j=k:=ω
  subst this;refine⟨ω,?_⟩;unfold V7;grind;grind
def OB(e:GL gl)(f:Sm a)(hb:Sm b)(h:R (wm a&&(wm b&&xd a b))):ab4 gl 119 [up .tree a,up .tree b] [.bool] R:=by
 apply Sj;simp only[qw];refine yM e f (yM e hb ⟨λx=>x=xd a b,λc=>?_,λx i=>?_⟩);cases h1:wm a with
 |false=>rw[h1]at c;cases c
 |true=>rw[h1,zK]at c;exact QJ _ a b (zac _) f hb (rU h1) (rU c) rfl
 grind
end
section
variable {M gl:Fr} {o:eK} {R:Bool -> Prop}
abbrev iq:Ty:=.pair .str (.pair (.row .str) (.pair (.row .str) .tree))
def j6(s:Bt)(sp sf:Sl)(v:Tr)(sk si:Sl):List Value:=[.string s,aK sp,aK sf,.int .i64 v.aa6,.string v.aa9,aK sk,aK si]
def ZZ{u:Value}(h:RdV M iq o u):∃sp sf sk si:Sl,u=.agg (j6 o.1 sp sf o.2.2.2 sk si).toArray/\RdV M (.row .str) o.2.1 (aK sp)/\RdV M (.row .str) o.2.2.1 (aK sf)/\RdV M .tree o.2.2.2 (.agg (Y6 o.2.2.2 sk si).toArray):=by
 unfold RdV at h;simp only[ig,if_true]at h;obtain⟨cs,rfl,c1,c2,rfl,h1,x,A,rfl,h2,z,i,rfl,m,p⟩:=h;have h1:c1=[ab5 o.1]:=h1;subst h1;have⟨y,r,a2,e,q,g2⟩:=h2;have⟨w,n,j,c,k,t⟩:=m;subst r;subst n;subst q;subst k;have b:RdV M .tree o.2.2.2 (.agg i.toArray):=by unfold RdV;simp only[ig,if_true];exact⟨_,rfl,p⟩
 have⟨sk,si,f,_⟩:=qh b;have l:i=Y6 o.2.2.2 sk si:=by injection f with f;exact congrArg zd7 f
 subst l;refine⟨⟨a2,DB o.2.1,e⟩,⟨j,DB o.2.2.1,c⟩,sk,si,rfl,?_,?_,b⟩;rw[J1 rfl];exact⟨_,rfl,a2,e,rfl,g2⟩;rw[J1 rfl];exact⟨_,rfl,j,c,rfl,t⟩
def QV{v:Tr}(b:v.aa8.length<=1000000000)(hi:v.aa7.length<=1000000000000)(h:R (pT v)):ab4 gl 79 [up .tree v] [.bool] R:=by
 apply VB;have e:(cond (cond ((v.aa6:Int)==0) ((v.aa9:Bt).toList==((⟨#[]⟩:Bt):Bt).toList) Tc) ((w6 (((zbu v.aa8:Nat):Int)+((zbu v.aa7:Nat):Int)):Int)==0) Tc)=pT v:=by rw[fK ω,zbd];unfold pT;simp only[Bool.cond_false_right,zaw,beq_iff_eq,zG,ByteArray.toList_eq,lb];constructor;rintro⟨⟨h1,h2⟩,c⟩;exact⟨h1,h2,za4 ω,za4 ω⟩;simp_all
 rw[e];exact h
theorem Ig(s:Bt)(a:Array UInt8):(s.toList==(⟨a⟩:Bt).toList)=ph (lb s=a.toList):=by rw[zbd];simp[ByteArray.toList_eq,lb]
structure OpS (o:eK):Prop where
 p:SL o.2.1
 f:SL o.2.2.1
 v:Sm o.2.2.2
theorem U2{s:Bt}{R:Bool×Bool×Bool->Prop}(h:R (lm (lb s))):ab4 gl 77 [up .str s] [.bool,.bool,.bool] R:=by apply zn2;simp only[Ig];unfold lm qR rz BN wV yZ xF at h;grind
def R4(k:GL gl)(b:OpS o)(h:R (Zm o)):ab4 gl 44 [up iq o] [.bool] R:=by
 apply OZ;refine U2 ?_;simp only[qw];intro K r;have c:Zm o=Tc->K Ta:=λu=>r Ta ⟨λ_=>θ,(λq=>by cases q)⟩;refine⟨λh1=>?_,λh1=>?_⟩;rw[h1];exact c (by unfold Zm;simp_all);have m:(lm (lb o.1)).2.2=Ta:=ψ h1
 refine AP k b.p ⟨λh2=>?_,λh2=>?_⟩;rw[h2];exact c (by unfold Zm;simp_all);have i:Y2 o.2.1=Ta:=ψ h2
 refine AP k b.f ⟨λl=>?_,λl=>?_⟩;rw[l];exact c (by unfold Zm;simp_all);have n:Y2 o.2.2.1=Ta:=ψ l
 have e:(cond (!(lm (lb o.1)).2.1) (ph (((zbu o.2.2.1:Nat):Int)>0)) Tc)=!((lm (lb o.1)).2.1||decide (o.2.2.1=[])):=by
  rw[zbd];cases(lm (lb o.1)).2.1 with
  |true=>simp
  |false=>simp[zb4]
 rw[e];cases h4:((lm (lb o.1)).2.1||decide (o.2.2.1=[]))with
 |false=>exact c (by unfold Zm;rw[h4];simp)
 |true=>
  have t:Zm o=(cond ((lm (lb o.1)).1) (zr o.2.2.2) (pT o.2.2.2)):=by unfold Zm;rw[m,i,n,h4];rfl
  rw[t]at h;refine r Tc ⟨(λq=>by cases q),λ_=>⟨λj=>?_,λj=>?_⟩⟩;rw[j]at h;exact Wp k b.v h;rw[j]at h;exact QV (χ b.v.aa8) b.v.aa7 h
def HS{sp sf sk si:Sl}(f:RdV M (.row .str) o.2.1 (aK sp))(c:RdV M (.row .str) o.2.2.1 (aK sf))(b:RdV M .tree o.2.2.2 (.agg (Y6 o.2.2.2 sk si).toArray)):RdV M iq o (.agg (j6 o.1 sp sf o.2.2.2 sk si).toArray):=by
 rw[J1 rfl]at f c;unfold RdV at b ⊢;simp only[ig,if_true]at b ⊢;have⟨cs,e,b⟩:=b;have e:Y6 o.2.2.2 sk si=cs:=by injection e with e;simpa using congrArg zd7 e
 subst e;exact⟨j6 o.1 sp sf o.2.2.2 sk si,rfl,[ab5 o.1],_,rfl,rfl,[aK sp],_,rfl,f,[aK sf],_,rfl,c,b⟩
theorem TD{a b:List eK}(G:∀o∈a,OpS o)(M:a.length<=1000000)(h:∀r,(r=Ta↔a=b)->R r):ab4 gl 35 [up (.row iq) a,up (.row iq) b] [.bool] R:=by
 apply US;refine⟨λe=>h Tc ⟨λe=>(by cases e),λC=>η⟩,λe=>?_⟩;have L:a.length=DB b:=by
  have:((DB a:Nat):Int)=DB b:=by simpa[bne]using e
  omega
 refine⟨λi=>∃k:Nat,i=k/\k<=DB a/\a.take k=b.take k,λi=>DB a-i.toNat,⟨0,rfl,ω,ξ⟩,?_⟩;rintro i ⟨k,rfl,I,h1⟩;refine⟨λB=>?_,λB=>?_⟩;have c:k<DB a:=ψ B
 have u:k<DB b:=ω
 have ga:a[(k:Int).toNat]?=Td a[k]:=by rw[zag];exact zam c
 have gb:b[(k:Int).toNat]?=Td b[k]:=by rw[zag];exact zam u
 have q:=G a[k] (zak c);have l:(0:Int)<=k/\a[(k:Int).toNat]?=Td a[k]:=⟨ω,ga⟩;have pb:(0:Int)<=k/\b[(k:Int).toNat]?=Td b[k]:=⟨ω,gb⟩;refine⟨a[k],l,b[k],pb,?_⟩;rw[qw,qw];refine VU _ _ q.v.sz λz w=>⟨a[k],λ_=>l,b[k],λ_=>pb,a[k],λ_=>l,b[k],λ_=>pb,λr=>r=Ta↔a[k].2.1=b[k].2.1,λ_=>Ds q.p.n λr t=>t,λA m=>⟨a[k],λ_=>l,b[k],λ_=>pb,λr=>r=Ta↔a[k].2.2.1=b[k].2.2.1,λ_=>Ds q.f.n λr t=>t,λy x=>⟨λj=>h Tc ⟨λe=>(by cases e),λC=>?_⟩,λj=>?_⟩⟩⟩;simp_all;have D:z=Ta/\a[k].1=b[k].1/\A=Ta/\y=Ta:=by cases z <;> cases A <;> cases y <;> simp at j;exact⟨rfl,(by rw[y8,y8]at j;exact o7.1 j),rfl,rfl⟩
 have⟨E,J,F,H⟩:=D;have N:=(m η).1 F;have P:=(x θ).1 H;have O:=w.1 E;rw[fK ω];refine⟨⟨k+1,ω,ω,?_⟩,η⟩;grind [zai];grind
end
end
section
open Go.RowKit
variable {g:zc} {ks:List Bt} {bs:List Nat} {c:Nat}
def Id(g:zc)(ks:List Bt)(bs:List Nat)(s:Sl):Prop:=
 s.len=ks.length/\ks.length<=s.cap/\ks.length<=140737488355328/\((ks=[]/\bs=[])\/∃b cs,bs=[b]/\s.a=Td ⟨b,0,Te⟩/\Blk g b cs/\cut cs 0 ks.length=ks.map za0)
theorem Id.frame{g g':zc}{s:Sl}(H:Id g ks bs s)(f:∀b∈bs,g'[b]?=g[b]?):Id g' ks bs s:=by have⟨h1,h2,i,h⟩:=H;refine⟨h1,h2,i,h.imp id ?_⟩;rintro⟨b,cs,rfl,c,j,e⟩;exact⟨b,cs,rfl,c,j.ab0 (f b ξ),e⟩
theorem Id.nil:Id g [] [] ⟨Te,0,0⟩:=⟨rfl,zac _,ξ,.inl ⟨rfl,rfl⟩⟩
theorem Id.rd{M:Fr}{s:Sl}(H:Id g ks bs s)(c:∀b∈bs,∀cs,Blk g b cs->M b=Td cs):Rd M (.row .str) ks [aK s]:=by
 have⟨h1,h2,e,j⟩:=H;refine⟨_,rfl,s.a,s.cap,by rw[aK,h1],⟨e,h2⟩,?_⟩;obtain⟨h0,_⟩|⟨b,cs,rfl,f,l,h⟩:=j;grind;refine .inr ⟨b,0,cs,f,c b ξ cs l,λi hi=>?_⟩;have k:(cut cs 0 (DB ks))[i]?=Td (za0 ks[i]):=by rw[h,zb7,zam hi];rfl
 rw[qt,zA hi,zax]at k;show cut cs (0+i*1) 1=[ab5 ks[i]];apply zbm;intro q;rw[qt];grind
structure DAx where
 sp:Sl
 bp:List Nat
 sk:Sl
 si:Sl
 bv:List Nat
abbrev DA:=List (eK×DAx)
def dC(p:eK×DAx):List Value:=j6 p.1.1 p.2.sp ⟨Te,0,0⟩ p.1.2.2.2 p.2.sk p.2.si
def dO(p:eK×DAx)(c:Nat):Prop:=c∈p.2.bp\/c∈p.2.bv
def im(na:DA)(sl:Sl)(b c:Nat):Prop:=(sl.cap≠0/\c=b)\/∃p∈na,dO p c
structure DI (lo:Nat) (g:zc) (M:Fr) (p:eK×DAx):Prop where
 path:Id g p.1.2.1 p.2.bp p.2.sp
 frm:p.1.2.2.1=[]
 val:OT g p.1.2.2.2 p.2.bv (Y6 p.1.2.2.2 p.2.sk p.2.si)
 own:∀c,dO p c->lo<=c/\c<g.size/\M c=Te
 dj:∀c∈p.2.bp,c∉p.2.bv
structure Sh (lo:Nat) (g:zc) (M:Fr) (na:DA) (sl:Sl) (b:Nat) (cs:Array Value):Prop where
 cr:CR g 7 (na.map dC) sl b cs
 lb:sl.cap≠0->lo<=b/\b<g.size/\M b=Te
 nd:∀p∈na,DI lo g M p
 dj:∀(i j:Nat) (p p':eK×DAx) (c:Nat),na[i]?=Td p->na[j]?=Td p'->dO p c->dO p' c->i=j
 nb:∀p∈na,¬dO p b
section
variable {lo : Nat} {g g' : zc} {M M' : Fr} {na : DA} {sl : Sl} {b : Nat} {cs : Array Value} {p : eK × DAx}
theorem DI.frame(H:DI lo g M p)(hz:g.size<=g'.size)(f:∀c,dO p c->g'[c]?=g[c]?)(e:∀c,dO p c->M' c=Te):DI lo g' M' p:= ⟨H.path.frame λc b=>f c (.inl b),H.frm,H.val.frame λc b=>f c (.inr b),λc b=>⟨(H.own c b).1,χ ((H.own c b).2.1),e c b⟩,H.dj⟩
theorem Sh.len(H:Sh lo g M na sl b cs):sl.len=DB na:=by rw[H.cr.ln,zas]
theorem Sh.own(H:Sh lo g M na sl b cs)(h:im na sl b c):lo<=c/\c<g.size/\M c=Te:=by obtain⟨h1,rfl⟩|⟨p,e,h⟩:=h;exact H.lb h1;exact(H.nd p e).own c h
theorem Sh.frame(H:Sh lo g M na sl b cs)(hz:g.size<=g'.size)(f:∀c,im na sl b c->g'[c]?=g[c]?)(j:∀c,im na sl b c->M' c=Te):Sh lo g' M' na sl b cs:=by refine⟨H.cr.frame λh=>f b (.inl ⟨?_,rfl⟩),λh=>by have:=H.lb h;exact⟨this.1,ω,j b (.inl ⟨h,rfl⟩)⟩,λp e=>(H.nd p e).frame hz (λc i=>f c (.inr ⟨p,e,i⟩)) λc i=>j c (.inr ⟨p,e,i⟩),H.dj,H.nb⟩;obtain h|h:=h;have:=H.cr.ln;have h2:=H.cr.ro.le;have:=zb4.2 h;omega;exact h
theorem Sh.call(H:Sh lo g M na sl b cs)(L:At g M g' M'):Sh lo g' M' na sl b cs:= H.frame L.ab0.size (λc e=>L.ab0.get c (H.own e).2.1) λc e=>by rw[L.old c (H.own e).2.1];exact(H.own e).2.2
theorem Sh.nil:Sh lo g M [] ⟨Te,0,0⟩ b cs:= ⟨⟨⟨zac _,.inl ⟨rfl,rfl⟩⟩,rfl,λi e h=>(ε h)⟩,λh=>absurd rfl h,λp f=>(ε f),λi j p k c h=>(ε h),λp f=>(ε f)⟩
def NZ(p:eK×DAx):∀u∈dC p,u.oneCell'=Ta:=by intro u b;unfold dC j6 aK at b;simp at b;obtain rfl|rfl|rfl|rfl|rfl|rfl|rfl:=b <;> rfl
theorem Sh.push{t e:Nw}{N:Value}{bytes:Nat}(E:JT Tp t e N 7 bytes)(x:bytes<=1000){ty:Nw}(ag:AgM M g)(H:Sh lo g M na sl b cs)(I:DI lo g M p)(ap:∀c,dO p c->¬im na sl b c)(O:lo<=g.size){bv F:Nat}(P:Blk g bv (dC p).toArray)(L:na.length<=1000000){K:vvv} (G:∀(l:Sl) (g':zc) (b':Nat) (d:ac2),Sh lo g' M (na++[p]) l b' d->g.size<=g'.size->(∀c,im (na++[p]) l b' c->im na sl b c\/dO p c\/g.size<=c)->(∀j,j<g.size->¬im na sl b j->g'[j]?=g[j]?)->K (.slice l.a l.len l.cap) g'):qq Tp (zaj #[t,t] ty #[.slice sl.a sl.len sl.cap,.slice (Td ⟨bv,0,Te⟩) 1 F]) g K:=by
 have D:∀c,g.size<=c->M c=Te:=by
  intro c k;cases e:M c with
  |none=>rfl
  |some cs=>have:=ag.lt e;omega
 refine CR.app E x H.cr P rfl (NZ _) θ λl g' b' d C z u J A=>?_;have n:im na sl b b'\/g.size<=b':=by obtain⟨r,Q⟩|r:=u;exact .inl (.inl ⟨χ H.cr.ro.le,r⟩);exact .inr r
 have w:∀q∈na++[p],¬dO q b':=λq f k=>by obtain f|f:=zav.1 f;obtain⟨r,_⟩|r:=u;grind [nb];have:=((H.nd q f).own b' k).2.1;omega;rw[zbh.1 f]at k;obtain h|h:=n;grind;have:=(I.own b' k).2.1;omega
 have m:∀q∈na++[p],DI lo g M q:=λq f=>by obtain f|f:=zav.1 f;exact H.nd q f;simp_all
 refine G l g' b' d ⟨θ,λ_=>?_,λq f=>?_,?_,w⟩ z (λc k=>?_) (λj y L=>A j y λe=>?_);obtain h|h:=n;have:=H.own h;simp_all;grind;exact(m q f).frame z (λc k=>A c ((m q f).own c k).2.1 λe=>w q f (e ▸ k)) λc k=>((m q f).own c k).2.2
 intro i j q B c hi y k o;have key:∀(i:Nat) (q:eK×DAx),(na++[p])[i]?=Td q->na[i]?=Td q\/(i=DB na/\q=p):=λi q hi=>η
 obtain h1|⟨h1,rfl⟩:=key i q hi <;> obtain h2|⟨h2,rfl⟩:=key j B y;grind [dj];exact absurd (.inr ⟨q,zdc h1,k⟩) (ap c o);exact absurd (.inr ⟨B,zdc h2,o⟩) (ap c k);omega;obtain⟨_,rfl⟩|⟨q,f,k⟩:=k;simp_all;obtain f|f:=zav.1 f;exact .inl (.inr ⟨q,f,k⟩);simp_all;grind
def mR(na:DA)(sl:Sl)(b:Nat):List Nat:=(if sl.cap=0 then []else [b])++na.flatMap λp=>p.2.bp++p.2.bv
def te:c∈mR na sl b↔im na sl b c:=by unfold mR im dO;simp
theorem Sh.rd(H:Sh lo g M na sl b cs)(ag:AgM M g)(z:na.length<=1000000):Rd (MxL M g (mR na sl b)) (.row iq) (na.map (·.1)) [aK sl]:=by
 have t:=H.len;have x:=H.cr.ro.le;refine⟨_,rfl,sl.a,sl.cap,by rw[aK,t,zas],⟨η,θ⟩,?_⟩;by_cases h0:na=[];simp_all;have⟨w,j⟩:=H.cr.blk (ψ h0);have n:=zb4.2 h0;refine .inr ⟨b,0,cs,w,MxL.at (te.2 (.inl ⟨ω,rfl⟩)) j,λi hi=>?_⟩;have f:i<DB na:=ψ hi
 have y:na[i]?=Td na[i]:=zam f;have k:na[i]∈na:=zak f;have e:=(H.cr.el i (dC na[i]) θ).2;have l:sz iq=7:=rfl;rw[l,zax,e,zcx];have D:=H.nd _ k;have q:Rd (MxL M g (mR na sl b)) (.row .str) na[i].1.2.1 [aK na[i].2.sp]:=D.path.rd λc m c j=>MxL.at (te.2 (.inr ⟨_,k,.inl m⟩)) j;have u:Rd (MxL M g (mR na sl b)) (.row .str) na[i].1.2.2.1 [aK ⟨Te,0,0⟩]:=by rw[D.frm];exact⟨_,rfl,Te,0,rfl,⟨ξ,ξ⟩,.inl rfl⟩
 have p:RdV (MxL M g (mR na sl b)) .tree na[i].1.2.2.2 (.agg (Y6 na[i].1.2.2.2 na[i].2.sk na[i].2.si).toArray):=by unfold RdV;simp only[ig,if_true];exact⟨_,rfl,D.val.rd λc m c j=>MxL.at (te.2 (.inr ⟨_,k,.inr m⟩)) j⟩
 have:=HS (M:=MxL M g (mR na sl b)) (o:=na[i].1) (sf:=⟨Te,0,0⟩) ((J1 rfl).2 q) ((J1 rfl).2 u) p;unfold RdV at this;simp only[ig,if_true]at this;have⟨c,h,r⟩:=this;have h:j6 na[i].1.1 na[i].2.sp ⟨Te,0,0⟩ na[i].1.2.2.2 na[i].2.sk na[i].2.si=c:=by injection h with h;simpa using congrArg zd7 h
 subst h;exact r
end
end
section
def zcu(b:Int)(c:Bt)(d:Sl)(e:Sl)(h:zc)(R:vvv) (H:let f:=h.push (.cells #[iV b,ab5 c,aK d,aK e] 25);let g:=f.push (.cells tC 25);∃i,zd g (zab (ab7 h) 0)=Td (iV i)/\∃j,zd g (zab (ab7 h) 1)=Td (ab5 j)/\let k:=g.push (.cells tC 25);CA Tp (zae 25 (ab6 (ab7 g)) (.agg #[iV i,ab5 j,.slice Te 0 0,.slice Te 0 0])) k (λl=>let m:=l.push (.cells #[] 9);∃n,zd m (zab (ab7 h) 2)=Td (aK n)/\qq Tp (zaj #[22,22] 22 #[.slice (Td (ab7 l)) 0 0,aK n]) m (λo p=>∃q,o=aK q/\∃(r:Sl->zc->Prop) (s:Sl->zc->Nat),r q p/\∀t:Sl,∀u:zc,r t u->(∃w,zd u (zab (ab7 h) 0)=Td (iV w)/\((cond (w==6) (ph ((t.len:Int)>0)) Tc)=Ta->∃(x:Int->Int->zc->Prop) (y:Int->Int->zc->Nat),x 0 1 u/\∀z A:Int,∀B:zc,x z A B->((ph (A<t.len)=Ta->∃C,(t.a=Td C/\0<=A/\A<t.len)/\∃D,zd B (C.add (A.toNat*1))=Td (ab5 D)/\∃E,(t.a=Td E/\0<=z/\z<t.len)/\∃F,zd B (E.add (z.toNat*1))=Td (ab5 F)/\((zcz D.toList F.toList)=Ta->(x A (w6 (A+1)) B/\y A (w6 (A+1)) B<y z A B))/\((zcz D.toList F.toList)=Tc->(x z (w6 (A+1)) B/\y z (w6 (A+1)) B<y z A B)))/\(ph (A<t.len)=Tc->∃G,zd B (zab (ab7 g) 2)=Td (aK G)/\∃I,(t.a=Td I/\0<=z/\z<t.len)/\∃J,zd B (I.add (z.toNat*1))=Td (ab5 J)/\let L:=B.push (.cells #[ab5 J] 9);hZ L B (zab (ab7 g) 2)/\qq Tp (zaj #[22,22] 22 #[aK G,.slice (Td (ab7 B)) 1 1]) L (λM N=>∃O,M=aK O/\CA Tp (zae 22 (.pointer (Td (zab (ab7 g) 2))) (aK O)) N (λP=>∃Q,zd P (zab (ab7 g) 3)=Td (aK Q)/\∃S,zd P (zab (ab7 h) 3)=Td (aK S)/\∃T U V W,ze P (ab7 h) 0 (tL T U V W)/\∃X,(t.a=Td X/\0<=z/\z<t.len)/\∃Y,zd P (X.add (z.toNat*1))=Td (ab5 Y)/\ab3 164 #[tA T U V W,ab5 Y] P (λZ aa=>∃ab,Z=iV ab/\∃ac,(S.a=Td ac/\0<=ab/\ab<S.len)/\hZ aa P (zab (ab7 h) 3)/\hZ aa P (zab (ab7 g) 3)/\∃ad ae af ag,ze aa (ac.add (ab.toNat*4)) 0 (tL ad ae af ag)/\hZ aa P (zab (ab7 g) 3)/\ab3 107 #[tA ad ae af ag] aa (λah ai=>∃aj ak al am,ah=tA aj ak al am/\hZ ai P (zab (ab7 g) 3)/\let an:=ai.push (.cells #[iV aj,ab5 ak,aK al,aK am] 25);hZ an P (zab (ab7 g) 3)/\qq Tp (zaj #[23,23] 23 #[aK Q,.slice (Td (ab7 ai)) 1 1]) an (λao ap=>∃aq,ao=aK aq/\CA Tp (zae 23 (.pointer (Td (zab (ab7 g) 3))) (aK aq)) ap (λar=>((Td (iV z):Option Value)=Te\/∃v,(Td (iV z):Option Value)=Td v)/\(0<=(0:Int)/\(0:Int)<=z/\z<=z/\z<=t.cap)/\((Te:Option Value)=Te\/∃v,(Te:Option Value)=Td v)/\(0<=(w6 (z+1))/\(w6 (z+1))<=(t.len:Int)/\(t.len:Int)<=(t.cap:Int)/\(t.cap:Int)<=(t.cap:Int))/\qq Tp (zaj #[22,22] 22 #[.slice (iy t.a 1 ((0:Int).toNat) z.toNat) (z.toNat-(0:Int).toNat) (z.toNat-(0:Int).toNat),.slice (iy t.a 1 ((w6 (z+1)).toNat) ((t.cap:Int).toNat)) ((t.len:Int).toNat-(w6 (z+1)).toNat) ((t.cap:Int).toNat-(w6 (z+1)).toNat)]) ar (λau av=>∃aw,au=aK aw/\(r aw av/\s aw av<s t u)))))))))))/\((cond (w==6) (ph ((t.len:Int)>0)) Tc)=Tc->∃(ax:ac5) (ay:ac7),ax 0 u/\∀az:Int,∀aA:zc,ax az aA->(∃aB,zd aA (zab (ab7 h) 3)=Td (aK aB)/\∃aC,(ph (az<aB.len)=Ta->zd aA (zab (ab7 h) 0)=Td (iV aC))/\((cond (ph (az<aB.len)) (aC != 6) Tc)=Ta->∃aD,zd aA (zab (ab7 g) 3)=Td (aK aD)/\∃aE,zd aA (zab (ab7 h) 3)=Td (aK aE)/\∃aF,(aE.a=Td aF/\0<=az/\az<aE.len)/\∃aG aH aI aJ,ze aA (aF.add (az.toNat*4)) 0 (tL aG aH aI aJ)/\ab3 107 #[tA aG aH aI aJ] aA (λaL aM=>∃aN aO aP aQ,aL=tA aN aO aP aQ/\hZ aM aA (zab (ab7 g) 3)/\let aS:=aM.push (.cells #[iV aN,ab5 aO,aK aP,aK aQ] 25);hZ aS aA (zab (ab7 g) 3)/\qq Tp (zaj #[23,23] 23 #[aK aD,.slice (Td (ab7 aM)) 1 1]) aS (λaT aU=>∃aV,aT=aK aV/\CA Tp (zae 23 (.pointer (Td (zab (ab7 g) 3))) (aK aV)) aU (λaW=>(ax (w6 (az+1)) aW/\ay (w6 (az+1)) aW<ay az aA)))))/\((cond (ph (az<aB.len)) (aC != 6) Tc)=Tc->∃aX aY aZ a0,ze aA (ab7 g) 0 (tL aX aY aZ a0)/\CA Tp (zae 25 (ab6 (ab7 f)) (tA aX aY aZ a0)) aA (λa1=>∃a2 a3 a4 a5,ze a1 (ab7 f) 0 (tL a2 a3 a4 a5)/\R (tA a2 a3 a4 a5) a1)))))))):ab3 107 #[.agg #[ab9 b,ab5 c,.slice d.a d.len d.cap,.slice e.a e.len e.cap]] h R:=XF ⟨[(10,8000),(11,8000),(12,8000),(16,8000)],[(3,[(4,.one (.sl))]),(6,[(5,.one (.int .i64)),(6,.one (.int .i64))]),(14,[(7,.one (.int .i64))])],[]⟩ [.cell 2 25] 99 func107 H
end
section
open Go.RowKit
variable {g':zc} {bv:Nat} {K:Value -> zc -> Prop} {xk xi:Sl}
structure VbM (lo:Nat) (h0:zc) (M0:Fr) (b:Nat) (k:Int) (z2 z3:Sl) (g:zc) (M:Fr) (ks:List Bt) (xs:List Tr) (sk si:Sl) (bk bi:List Nat):Prop where
 L:At h0 M0 g M
 box:Blk g b #[.int .i64 k,.string ⟨#[]⟩,aK z2,aK z3]
 aa8:GT lo g M .str ks sk bk
 aa7:GT lo g M .tree xs si bi
 dj:∀c∈bk,c∉bi
 hb:h0.size<=b
 bl:b<lo
 lg:lo<=g.size
 nB:M b=Te
section
variable {lo : Nat} {h0 : zc} {M0 : Fr} {b : Nat} {k : Int} {z2 z3 : Sl} {g : zc} {M : Fr} {ks : List Bt} {xs : List Tr} {sk si : Sl} {bk bi : List Nat}
theorem VbM.call(V:VbM lo h0 M0 b k z2 z3 g M ks xs sk si bk bi){M':Fr}(L:At g M g' M'):VbM lo h0 M0 b k z2 z3 g' M' ks xs sk si bk bi:= ⟨V.L.trans L,V.box.ab0 (L.ab0.get b V.box.lt),V.aa8.call L,V.aa7.call L,V.dj,V.hb,V.bl,by have:=V.lg;have:=L.ab0.size;omega,by rw[L.old b V.box.lt];exact V.nB⟩
theorem VbM.push(V:VbM lo h0 M0 b k z2 z3 g M ks xs sk si bk bi)(o:Obj):VbM lo h0 M0 b k z2 z3 (g.push o) M ks xs sk si bk bi:=V.call (At.push V.L.ag o)
theorem VbM.key(V:VbM lo h0 M0 b k z2 z3 g M ks xs sk si bk bi)(u:ks.length<=1000000){x:Bt}(A:Blk g bv #[ab5 x]) (p:∀m g' n,VbM lo h0 M0 b k z2 z3 g' M (ks++[x]) xs m si n bi->g.size<=g'.size->(∀j,j<g.size->j∉bk->g'[j]?=g[j]?)->K (aK m) g'):qq Tp (zaj #[22,22] 22 #[aK sk,.slice (Td ⟨bv,0,Te⟩) 1 1]) g K:=by have hb:=V.bl;have q:=V.lg;have t:=V.hb;refine GT.app Bc ω V.L.ag V.aa8 V.lg (vs:=[ab5 x]) A rfl u λm g' o r z w f=>p m g' o ⟨⟨⟨χ V.L.ab0.size,λj y=>?_⟩,V.L.le,V.L.old,λc cs e=>?_⟩,V.box.ab0 (f b V.box.lt λi=>?_),r,V.aa7.frame (λc l=>f c (V.aa7.own c l).2.1 λi=>V.dj c i l) (Fr.le.refl _) (λc l=>(V.aa7.own c l).2.2),λc l i=>?_,V.hb,V.bl,ω,V.nB⟩ z f;rw[f j ω λi=>χ ((V.aa8.own j i).1)];exact V.L.ab0.get j y;rw[f c (V.L.ag.lt e) λi=>by have:=(V.aa8.own c i).2.2;rw[this]at e;cases e];exact V.L.ag c cs e;have:=(V.aa8.own b i).1;omega;obtain h|h:=w c l;exact V.dj c h i;have:=(V.aa7.own c i).2.1;omega
def FG{M:Fr}{x:Tr}(b:RdV M .tree x (.agg #[ab9 x.aa6,ab5 x.aa9,aK xk,aK xi])):Rd M .tree x [ab9 x.aa6,ab5 x.aa9,aK xk,aK xi]:=by
 unfold RdV at b;simp only[ig,if_true]at b;have⟨cs,e,c⟩:=b;injection e with e;have:cs=[ab9 x.aa6,ab5 x.aa9,aK xk,aK xi]:=by have:=congrArg zd7 e;simpa using this.symm
 rw[<-this];exact c
theorem VbM.item(V:VbM lo h0 M0 b k z2 z3 g M ks xs sk si bk bi)(y:xs.length<=1000000){x:Tr}(B:Blk g bv #[ab9 x.aa6,ab5 x.aa9,aK xk,aK xi])(u:RdV M .tree x (.agg #[ab9 x.aa6,ab5 x.aa9,aK xk,aK xi])) (p:∀m g' n,VbM lo h0 M0 b k z2 z3 g' M ks (xs++[x]) sk m bk n->g.size<=g'.size->(∀j,j<g.size->j∉bi->g'[j]?=g[j]?)->K (aK m) g'):qq Tp (zaj #[23,23] 23 #[aK si,.slice (Td ⟨bv,0,Te⟩) 1 1]) g K:=by have hb:=V.bl;have q:=V.lg;have t:=V.hb;refine GT.app uU ω V.L.ag V.aa7 V.lg (vs:=[ab9 x.aa6,ab5 x.aa9,aK xk,aK xi]) B (FG u) y λm g' o r z w f=>p m g' o ⟨⟨⟨χ V.L.ab0.size,λj A=>?_⟩,V.L.le,V.L.old,λc cs e=>?_⟩,V.box.ab0 (f b V.box.lt λi=>?_),V.aa8.frame (λc l=>f c (V.aa8.own c l).2.1 λi=>V.dj c l i) (Fr.le.refl _) (λc l=>(V.aa8.own c l).2.2),r,λc l i=>?_,V.hb,V.bl,ω,V.nB⟩ z f;rw[f j ω λi=>χ ((V.aa7.own j i).1)];exact V.L.ab0.get j A;rw[f c (V.L.ag.lt e) λi=>by have:=(V.aa7.own c i).2.2;rw[this]at e;cases e];exact V.L.ag c cs e;have:=(V.aa7.own b i).1;omega;obtain h|h:=w c i;exact V.dj c l h;have:=(V.aa8.own c l).2.1;omega
theorem VbM.turn(V:VbM lo h0 M0 b k z2 z3 g M ks xs sk si bk bi){l:Int}{i h:Sl}(B:Blk g' b #[ab9 l,ab5 ⟨#[]⟩,aK i,aK h])(z:g'.size=g.size)(f:∀j,j≠b->g'[j]?=g[j]?):VbM lo h0 M0 b l i h g' M ks xs sk si bk bi:=by have hb:=V.bl;exact⟨At.stay V.L V.hb V.nB f z,B,V.aa8.frame (λc e=>f c (χ ((V.aa8.own c e).1))) (Fr.le.refl _) (λc e=>(V.aa8.own c e).2.2),V.aa7.frame (λc e=>f c (χ ((V.aa7.own c e).1))) (Fr.le.refl _) (λc e=>(V.aa7.own c e).2.2),V.dj,V.hb,V.bl,by rw[z];exact V.lg,V.nB⟩
theorem VbM.st2(V:VbM lo h0 M0 b k z2 z3 g M ks xs sk si bk bi){K:zc->Prop}(c:∀g',VbM lo h0 M0 b k sk z3 g' M ks xs sk si bk bi->g'.size=g.size->(∀j,j≠b->g'[j]?=g[j]?)->K g'):CA Tp (zae 22 (.pointer (Td (zab ⟨b,0,Te⟩ 2))) (aK sk)) g K:=by rw[zh];exact jq uB vM V.box (by show 2<4;omega) rfl λg' B z f=>c g' (V.turn B z f) z f
theorem VbM.st3(V:VbM lo h0 M0 b k z2 z3 g M ks xs sk si bk bi){K:zc->Prop}(c:∀g',VbM lo h0 M0 b k z2 si g' M ks xs sk si bk bi->g'.size=g.size->(∀j,j≠b->g'[j]?=g[j]?)->K g'):CA Tp (zae 23 (.pointer (Td (zab ⟨b,0,Te⟩ 3))) (aK si)) g K:=by rw[zh];exact jq CW A7 V.box (by show 3<4;omega) rfl λg' B z f=>c g' (V.turn B z f) z f
theorem VbM.fin(V:VbM lo h0 M0 b k z2 z3 g M ks xs sk si bk bi)(f:ks.length<=1000000/\DB xs<=1000000):At h0 M0 g (MxL M g (bk++bi))/\RdV (MxL M g (bk++bi)) .tree (.mk k ⟨#[]⟩ ks xs) (.agg #[ab9 k,ab5 ⟨#[]⟩,aK sk,aK si]):=by have hb:=V.bl;have i:=V.hb;refine⟨At.own V.L λc e=>?_,zw (v:=.mk k ⟨#[]⟩ ks xs) (V.aa8.rd V.L.ag (λc e=>zap _ e) f.1) (V.aa7.rd V.L.ag (λc e=>zaz _ e) f.2)⟩;obtain h|h:=zav.1 e;have:=(V.aa8.own c h).1;omega;have:=(V.aa7.own c h).1;omega
end
end
section
open Go.Lib
variable {L:List Bt} {m:Nat}
theorem GF{α:Type}(L:List α)(m:Nat):L.take m++L.drop (m+1)=L.eraseIdx m:=(List.eraseIdx_eq_take_drop_succ L m).symm
def Ut(j:m<DB L)(h:∀x∈L,lb L[m]<=lb x):zt L=L[m]::zt (L.eraseIdx m):=by
 have i:L.Perm (L[m]::L.eraseIdx m):=by
  have e:L=L.take m++L[m]::L.drop (m+1):=by rw[<-zbg j,zbz]
  rw[<-GF];exact(List.Perm.of_eq e).trans List.perm_middle
 have tr:∀a b c:List UInt8,ph (a<=b)=Ta->decide (b<=c)=Ta->decide (a<=c)=Ta:=λa b c h1 h2=>η
 have f:∀a b:List UInt8,(ph (a<=b)||decide (b<=a))=Ta:=λa b=>η
 have e:((L[m]::L.eraseIdx m).map lb).mergeSort (λx y=>decide (x<=y))=lb L[m]::((L.eraseIdx m).map lb).mergeSort (λx y=>decide (x<=y)):=by refine List.Perm.eq_of_pairwise (le:=λa b=>decide (a<=b)=Ta) (λa b _ _ h1 h2=>?_) (List.pairwise_mergeSort tr f _) (zb2.2 ⟨λa k=>?_,List.pairwise_mergeSort tr f _⟩) ?_;grind;rw[(zea _ _).mem_iff,zbr]at k;grind;rw[zbk];exact(zea _ _).trans (List.Perm.cons _ (zea _ _).symm)
 rw[KR i];unfold zt;simp_all
def qd9{m k:Nat}(c:m<DB L)(f:k<DB L)(h:∀j (b:j<DB L),j<k->lb L[m]<=lb L[j]):(zcz L[k].toList L[m].toList=Ta->∀j (b:j<DB L),j<k+1->lb L[k]<=lb L[j])/\(zcz L[k].toList L[m].toList=Tc->∀j (b:j<DB L),j<k+1->lb L[m]<=lb L[j]):=by
 have e:zcz L[k].toList L[m].toList=ph (lb L[k]<lb L[m]):=by rw[Go.Proofs.bytesLess_eq,y8,y8]
 grind
end
section
open Go.Sort Go.Lib
variable {v:Tr} {i k n:Nat} {gl M:Fr} {t:Ty} {h g:zc} {src:Sl} {K:Value -> zc -> Prop}
theorem uz(a b:Bt):(a.toList==b.toList)=ph (a=b):=by rw[zbd];simp only[ByteArray.toList_eq,beq_iff_eq,zG];constructor;intro h;cases a;simp_all;grind
def UN(h:zm v=Ta)(b:v.aa6=6):v.aa8.length=DB v.aa7:=by unfold zm at h;simp_all
theorem UE{α:Type}{l:List α}(h:l.Nodup){i j:Nat}(hi:i<DB l)(c:j<DB l)(e:l[i]=l[j]):i=j:=by
 induction l generalizing i j with
 |nil=>simp at hi
 |cons a l b=>grind
def E4(h:zm v=Ta)(b:v.aa6=6):v.aa8.Nodup/\DB v.aa8=DB v.aa7:=by refine⟨?_,UN h b⟩;unfold zm at h;simp[b]at h;have:=h.1.1;unfold yj at this;simp_all
theorem yA{aa8:List Bt}{x:Bt}(b:k<DB aa8):idxFromS (aa8.drop k) x k=ite (aa8[k]=x) (k:Int) (idxFromS (aa8.drop (k+1)) x (k+1)):=by rw[zbg b,idxFromS]
def MD{key:Bt}(l:v.aa8.length<=1000000000){R:ad3}(h:R (idxOfS v.aa8 key)):ab4 gl 164 [up .tree v,up .str key] [.int .i64] R:=by
 apply F0;refine⟨λi=>∃k:Nat,i=k/\k<=DB v.aa8/\idxOfS v.aa8 key=idxFromS (v.aa8.drop k) key k,λi=>DB v.aa8-i.toNat,⟨0,rfl,zar _,by rw[zcn];rfl⟩,?_⟩;rintro i ⟨k,rfl,j,e⟩;refine⟨λf=>?_,λf=>?_⟩;have b:k<DB v.aa8:=by simp at f;omega
 refine⟨v.aa8[k],⟨ω,ξ⟩,λc=>?_,λc=>?_⟩;simp_all[uz,yA];rw[uz]at c;rw[yA b,zv (ψ c)]at e;grind [qd,zag];have b:k=DB v.aa8:=by simp at f;omega
 subst b;rw[zed,idxFromS]at e;grind
def YG{l:List Bt}(h:l.Nodup)(hi:i<DB l):idxOfS l l[i]=(i:Int):=by obtain⟨_,h2⟩|⟨k,h1,h2,b⟩:=Xt l[i] l 0;simp_all;unfold idxOfS;grind [zam,UE,za9]
def Cf{P:Program}{t e:Nw}{z:Value}{sz bytes:Nat}(T:JT P t e z sz bytes){ty:Nw}{p:n8}{n N:Nat}{olds:ac1}(E:olds.length=n*sz)(k:∀j v,olds[j]?=Td v->zd h (p.add j)=Td v){news:ac1}(I:Arr N h src.a news)(F:news.length=src.len*sz)(f:(n+src.len)*bytes<=140737488355328)(C:n+src.len<=4611686018427387904) (h0:src.len=0->K (.slice (Td p) n n) h) (D:∀(c:Nat) (h':zc) (l:ac2),0<src.len->n+src.len<=c->Blk h' h.size l->l.toList.take (olds++news).length=olds++news->BT h.size h h'->K (.slice (Td (ab7 h)) (n+src.len) c) h'):qq P (zaj #[t,t] ty #[.slice (Td p) n n,.slice src.a src.len src.cap]) h K:=by intro B d;have⟨i,hi,hz,r,x⟩:=T.info;have A:=T.slice;subst r x;by_cases y:src.len=0;refine⟨_,d,h,?_,h0 y⟩;rw[y];generalize src.a=q;cases q <;> simp[zaj,run_underlying A,sizeOf,typeInfo,hi,Builtin.lenOf,zdb,loadCells,loadCellsFrom,storeCells];obtain m|⟨b,o,m,hb,L⟩:=I;subst m;have:=Nat.mul_pos (Nat.pos_of_ne_zero y) T.pos;grind;rw[m];have G:=run_append_grow (P:=P) (ty:=ty) (w:=mk B d h) t e i z A hi hz p n n olds E (λj v J=>k j v J) ⟨b,o,Te⟩ src.len src.cap news F (λj u H=>by rw[zh];exact L j u H) ω ω (growslice_fits ω f);refine⟨_,_,_,G,D _ _ (olds.toArray++news.toArray++Builtin.zeroCells z.cells (grownCap (mk B d h) (n+src.len) n e-(n+src.len))) ω (grownCap_ge _ _ _ _) (wr h _ e) ?_ (ur _ _ (zac _))⟩;grind
def UZ(ag:AgM M h){ks:List Bt}{s:Sl}(H:Rd M (.row .str) ks [aK s]):Arr h.size h s.a (ks.map za0):=by
 have⟨w,e,a,c,q,t,l⟩:=H;simp only[zcv,and_true]at e;subst e;simp only[aK,zbc]at q;have⟨h1,_,_⟩:=q;obtain rfl|⟨b,o,cs,m,j,n⟩:=l;exact .inl rfl;refine .inr ⟨b,o,by rw[h1,m],ag.lt j,λi v f=>?_⟩;rw[zb7]at f;cases hk:ks[i]? with
 |none=>simp_all
 |some k=>
  rw[hk]at f;simp only[zex,zad]at f;subst f;have⟨hi,e⟩:=zbb.1 hk;have:=n i hi;rw[e]at this;have p:cut cs (o+i) 1=[ab5 k]:=by have r:cut cs (o+i*sz .str) (sz .str)=[ab5 k]:=this;simpa[sz]using r
  exact uW ag j p
def Co(ag:AgM M g){p:n8}{olds news:List Bt}(h0:Rd M (.row .str) olds [aK ⟨Td p,n,n⟩])(w:Rd M (.row .str) news [aK src])(H:olds.length+DB news<=2000000) (t:∀(r:Sl) (g':zc) (u:Fr),At g M g' u->Rd u (.row .str) (olds++news) [aK r]->K (aK r) g'):qq Tp (zaj #[22,22] 22 #[.slice (Td p) n n,aK src]) g K:=by
 have A:n=DB olds:=(CD h0).1;have⟨E,_,_⟩:=CD w;refine Cf Bc (olds:=olds.map za0) (news:=news.map za0) (N:=g.size) (by simp[sz,A]) (λj v m=>?_) (UZ ag w) (by simp[sz,E]) ω ω (λI=>?_) λc g' f h1 F B y k=>?_;rw[zb7]at m;cases e:olds[j]? with
 |none=>simp_all
 |some x=>rw[e]at m;obtain⟨h,rfl⟩:=zbb.1 e;cases m;have⟨b,o,cs,C,z,D⟩:=Go.X.aa2 h0 h;cases C;rw[zh];have:=uW ag z (v:=.string olds[j]) (o:=o+j*sz .str) D;simpa[sz]using this
 have:news=[]:=za4 ω;subst this;exact t ⟨Td p,n,n⟩ g M (At.refl ag) θ;refine t ⟨Td (ab7 g),n+src.len,c⟩ g' (MxL M g' [g.size]) (At.own (v0 ag k) λc F=>η) ⟨_,rfl,Td (ab7 g),c,?_,⟨η,θ⟩,.inr ⟨g.size,0,f,rfl,MxL.at ξ B,λi hi=>?_⟩⟩;show zdw _ _ _=zdw _ _ _;simp_all;show cut f (0+i*1) 1=[ab5 (olds++news)[i]];refine rh rfl λq G=>?_;have l:q=0:=ω
 subst l;have e:(f.toList.take (olds.map za0++news.map za0).length)[i]?=(olds.map za0++news.map za0)[i]?:=ϕ y
 grind
theorem GW{xs:List (El t)}{s:Sl}(h:Rd M (.row t) xs [aK s]):xs=[]\/∃b o cs,s.a=Td ⟨b,o,Te⟩/\M b=Td cs/\∀i (hi:i<DB xs),Rd M t xs[i] (cut cs (o+i*sz t) (sz t)):=by have⟨w,e,a,c,q,j,f⟩:=h;simp only[zcv,and_true]at e;subst e;simp only[aK,zbc]at q;simp_all
def Ra{xs:List (El t)}{s:Sl}(h:Rd M (.row t) xs [aK s])(c:k<=DB xs):Rd M (.row t) (xs.take k) [aK ⟨s.a,k,k⟩]:=by
 have⟨h1,h2,e⟩:=CD h;have b:(xs.take k).length=k:=by rw[zbt];omega
 refine⟨_,rfl,s.a,k,?_,⟨ω,ω⟩,?_⟩;show zdw _ _ _=zdw _ _ _;rw[b];grind [GW]
def Ps{xs:List (El t)}{s:Sl}(h:Rd M (.row t) xs [aK s])(p:k<=DB xs):Rd M (.row t) (xs.drop k) [aK ⟨iy s.a (sz t) k s.cap,s.len-k,s.cap-k⟩]:=by
 have⟨h1,h2,n⟩:=CD h;have c:(xs.drop k).length=s.len-k:=by rw[zcw];omega
 refine⟨_,rfl,iy s.a (sz t) k s.cap,s.cap-k,?_,⟨ω,ω⟩,?_⟩;show zdw _ _ _=zdw _ _ _;rw[c];by_cases j:xs.drop k=[];grind;have m:=zb4.2 j;obtain e|⟨b,o,cs,f,l,q⟩:=GW h;simp_all;refine .inr ⟨b,o+k*sz t,cs,?_,l,λi hi=>?_⟩;unfold iy;rw[zv ω,f,zex,Jk];grind
def u9{M b:Fr}{r o:Nat}{k:Int}{s:Bt}{sk si:Sl}(R:Blk g r #[ab9 0,ab5 ⟨#[]⟩,.slice Te 0 0,.slice Te 0 0])(O:Blk g o #[ab9 k,ab5 s,aK sk,aK si])(L:At h M g b)(u:h.size<=r)(t:b r=Te){w:Tr}(rd:RdV b .tree w (.agg #[ab9 k,ab5 s,aK sk,aK si])){Q:Tr->Prop}(x:Q w):∃(n:Int) (i:Bt) (j e:Sl),ze g ⟨o,0,Te⟩ 0 [ab9 n,ab5 i,aK j,aK e]/\CA Tp (zae 25 (ab6 ⟨r,0,Te⟩) (.agg #[ab9 n,ab5 i,aK j,aK e])) g λc=>∃(f:Int) (p:Bt) (m l:Sl),ze c ⟨r,0,Te⟩ 0 [ab9 f,ab5 p,aK m,aK l]/\∃b q,At h M c b/\Yx b [.tree] q (.agg #[ab9 f,ab5 p,aK m,aK l])/\Q q:=
 ⟨k,s,sk,si,O.ld (cs:=[_,_,aK sk,aK si]),Q8 R λg2 y z2 z=>⟨k,s,sk,si,z.ld (cs:=[_,_,aK sk,aK si]),b,w,At.stay L u t y z2,Qr.2 rd,x⟩⟩
def KL(h:zm v=Ta)(b:v.aa6=5\/v.aa6=6):v.aa9=⟨#[]⟩:=by unfold zm at h;obtain k|k:=b;simp[k]at h;exact ByteArray.ext h.1;simp[k]at h;exact ByteArray.ext h.2
theorem Ka(h:zm v=Ta)(b:v.aa6≠6):v.aa8=[]/\(v.aa6≠5->v.aa7=[]):=by unfold zm at h;grind
theorem Kn:∀(n:Nat) (v:Tr),n<=1000000->cK v<=n->Zo zm v=Ta->∀(h:zc) (M:Fr) (u:Value),AgM M h->RdV M .tree v u->PX Tp 107 #[u] h M [.tree] (λq=>q=zj v)
 |0,v,_,hz,_=>χ (wa v)
 |n+1,v,hn,hz,hok=>by
  intro h M u ag hu;obtain⟨sk,si,rfl,rk,ri⟩:=qh hu;have t:=hok;rw[Zb,zaw]at t;have O:=t.1;have b9:v.aa7.length<=1000000:=by have:=we v.aa7;rw[jr]at hz;omega
  have ih:∀(i:Nat) (hi:i<v.aa7.length) (h:zc) (M:Fr) (u:Value),AgM M h->RdV M .tree v.aa7[i] u->PX Tp 107 #[u] h M [.tree] (λq=>q=zj v.aa7[i]):=λi hi=>by
   have J:=zak hi;have hs:=qi J;have aY:Zo zm v.aa7[i]=Ta:=by rw[jl,zbl]at t;exact t.2 _ J
   exact Kn n v.aa7[i] ω ω aY
  obtain⟨li,_,_⟩:=CD ri;obtain⟨lk,_,_⟩:=CD rk;have bO:v.aa8.length<=1000000:=by by_cases h6:v.aa6=6;have:=(E4 O h6).2;omega;rw[(Ka O h6).1];simp
  apply PX.of;apply zcu v.aa6 v.aa9 sk si;intro h1;obtain⟨k1,z1,B1⟩:=jo (g:=h1) rfl;clear_value h1;intro h2;obtain⟨k2,z2,R2⟩:=jo (g:=h2) rfl;clear_value h2;have B2:=B1.ab2 k2;refine⟨v.aa6,B2.ab1 (o:=0) (k:=0) rfl,v.aa9,B2.ab1 (o:=0) (k:=1) rfl,?_⟩;intro h5;obtain⟨k5,z5,O5⟩:=jo (g:=h5) rfl;clear_value h5;refine Q8 (sk:=⟨Te,0,0⟩) (si:=⟨Te,0,0⟩) O5 λh6 f6 z6 O6=>?_;have k6:BT h2.size h2 h6:=⟨ω,λj I=>by rw[f6 j ω];exact k5.get j I⟩;have bA:BT h.size h h6:=(k1.trans k2 ω).trans k6 ω;intro h7;obtain⟨k7,z7,_⟩:=jo (g:=h7) rfl;clear_value h7;have L7:At h M h7 M:=v0 ag (bA.trans k7 ω);have B7:=(B2.ab2 k6).ab2 k7;have R7:=(R2.ab2 k6).ab2 k7;have O7:=O6.ab2 k7;refine⟨sk,B7.ab1 (o:=0) (k:=2) rfl,?_⟩;refine Co L7.ag (olds:=[]) (news:=v.aa8) (n:=0) (p:=⟨h6.size,0,Te⟩) ⟨_,rfl,_,_,rfl,⟨ξ,ξ⟩,.inl rfl⟩ rk φ λaM b M2 G aS=>?_;rw[zcm]at aS;refine⟨aM,rfl,?_⟩;have bP:=G.ab0.size;have LL:=L7.trans G;have aa:=B7.ab0 (G.ab0.get _ ω);have aI:=R7.ab0 (G.ab0.get _ ω);have bg:=O7.ab0 (G.ab0.get _ ω);have nO:M2 h2.size=Te:=by rw[G.old _ ω];exact ag.none ω
  have nR:M2 h1.size=Te:=by rw[G.old _ ω];exact ag.none ω
  have V0:v.aa9=⟨#[]⟩->VbM b.size h M h2.size v.aa6 ⟨Te,0,0⟩ ⟨Te,0,0⟩ b M2 [] [] ⟨Te,0,0⟩ ⟨Te,0,0⟩ [] []:=λet=>⟨LL,θ,GT.nil,GT.nil,λc z=>(by cases z),ω,ω,zac _,nO⟩;by_cases C:v.aa6=6;have et:=KL O (.inr C);obtain⟨bL,bC⟩:=E4 O C;have hS:zj v=.mk v.aa6 v.aa9 (zt v.aa8) ((zt v.aa8).map λq=>jB (v.aa8.zip (v.aa7.map zj)) q):=by rw[Qh,zA C]
  refine⟨λleft g=>∃(L D:List Bt) (M':Fr) (zk H:Sl) (bk bi:List Nat),Rd M' (.row .str) L [aK left]/\VbM b.size h M h2.size v.aa6 zk H g M' D (D.map λq=>jB (v.aa8.zip (v.aa7.map zj)) q) zk H bk bi/\zt v.aa8=D++zt L/\(∀q∈L,q∈v.aa8)/\M' h1.size=Te/\(∀j,j<b.size->j≠h2.size->g[j]?=b[j]?),λleft _=>left.len,⟨v.aa8,[],M2,⟨Te,0,0⟩,⟨Te,0,0⟩,[],[],aS,V0 et,rfl,λq hq=>hq,nR,λ_ _ _=>rfl⟩,?_⟩;rintro left g ⟨L,D,M',zk,H,bk,bi,rL,V,eD,ax,af,fg⟩;have N:=V.L.ag;have br:=V.lg;obtain⟨lL,_,_⟩:=CD rL;have b7:D.length+L.length=v.aa8.length:=by have:=congrArg zbu eD;rw[Bi,zah,Bi]at this;omega
  have Bg:=aa.ab0 (fg h.size ω ω);have Rg:=aI.ab0 (fg h1.size ω ω);refine⟨v.aa6,Bg.ab1 (o:=0) (k:=0) rfl,λz=>?_,λz=>?_⟩;have au:0<L.length:=χ (zH (ny.1 z).2)
  refine⟨λm i g'=>∃(e ii:Nat),m=(e:Int)/\i=(ii:Int)/\g'=g/\ii<=L.length/\∃J:e<L.length,∀j (I:j<L.length),j<ii->lb L[e]<=lb L[j],λ_ i _=>L.length-i.toNat,⟨0,1,rfl,rfl,rfl,au,au,λj I bV=>θ⟩,?_⟩;rintro m i g' ⟨e,ii,rfl,rfl,rfl,b8,f,ar⟩;refine⟨λaD=>?_,λaD=>?_⟩;have hi:ii<L.length:=χ (jM aD)
  obtain⟨a,ha,x,hx,ex⟩:=ke N rL hi (i:=(ii:Int)) rfl (L:=left.len) rfl (Q:=λx=>x=L[ii]) rfl;obtain⟨a',bM,y,hy,ey⟩:=ke N rL f (i:=(e:Int)) rfl (L:=left.len) rfl (Q:=λx=>x=L[e]) rfl;subst ex;subst ey;obtain⟨s1,s2⟩:=qd9 f hi ar;have hw:=qd hi ω;exact⟨a,ha,_,hx,a',bM,_,hy,λhl=>⟨⟨ii,ii+1,rfl,hw,rfl,hi,hi,s1 hl⟩,φ⟩,λhl=>⟨⟨e,ii+1,rfl,hw,rfl,hi,f,s2 hl⟩,φ⟩⟩;have bj:ii=L.length:=χ (jV aD)
  subst bj;have es:=Ut f λx hx=>by obtain⟨j,I,rfl⟩:=zdp.1 hx;exact ar j I I
  have hq:=ax _ (zak f);obtain⟨am,bG,x,bq,ex⟩:=ke N rL f (i:=(e:Int)) rfl (L:=left.len) rfl (Q:=λx=>x=L[e]) rfl;subst ex;refine⟨zk,V.box.ab1 (o:=0) (k:=2) rfl,am,bG,_,bq,?_⟩;have aC:=V.box.lt;intro aB;obtain⟨k29,bZ,bz⟩:=jo (g:=aB) rfl;have aP:VbM b.size h M h2.size v.aa6 zk H aB M' D (D.map λq=>jB (v.aa8.zip (v.aa7.map zj)) q) zk H bk bi:=V.push _;clear_value aB;refine⟨by rw[zh];exact k29.get _ aC,?_⟩;refine aP.key ω bz λak ca aV aZ b6 bD=>⟨ak,rfl,?_⟩;refine aZ.st2 λaT ae bS bJ=>?_;have S:∀j,j<b.size->j≠h2.size->aT[j]?=g'[j]?:=λj I h0=>by rw[bJ j h0,bD j ω λJ=>χ ((aP.aa8.own j J).1)];exact k29.get j ω
  have aJ:=Bg.ab0 (S h.size ω ω);have aQ:=Rg.ab0 (S h1.size ω ω);have an:=ae.L.ag;obtain⟨bF,bE,x,a8,ex⟩:=ke an rL f (i:=(e:Int)) rfl (L:=left.len) rfl (Q:=λx=>x=L[e]) rfl;subst ex;refine⟨H,ae.box.ab1 (o:=0) (k:=3) rfl,si,aJ.ab1 (o:=0) (k:=3) rfl,v.aa6,v.aa9,sk,si,aJ.ld (cs:=[_,_,aK sk,aK si]),bF,bE,_,a8,?_⟩;have Z:=ae.L.le;refine(MD (gl:=M') (v:=v) (key:=L[e]) ω (R:=λr=>r=Lib.idxOfS v.aa8 L[e]) rfl).go (Fr.le.refl _) an (zo (a:=up .tree v) (zw (rk.mono Z) (ri.mono Z)) (zo (a:=up .str L[e]) (GE _) qc)) λw bT cc r P A hr=>?_;rw[WO A,hr];obtain⟨j,j1,j2,e1,e2,_⟩:=uT L[e] v.aa8 (v.aa7.map zj) (by rw[zas];exact bC) hq;rw[zas]at j2;have ej:Lib.idxOfS v.aa8 L[e]=(j:Int):=by rw[<-e1];exact YG bL j1
  rw[ej];have bY:=P.ab0.size;obtain⟨a7,ck,ci,ea,az,t1,t2⟩:=Qs P.ag (ri.mono (Z.trans P.le)) j2;have T:=ae.box.lt;have ab:=P.ab0;refine⟨(j:Int),rfl,a7,⟨ea,ω,ω⟩,by rw[zh];exact ab.get _ aJ.lt,by rw[zh];exact ab.get _ T,v.aa7[j].aa6,v.aa7[j].aa9,ck,ci,by rw[zag];exact az,by rw[zh];exact ab.get _ T,?_⟩;refine(ih j j2 _ _ _ P.ag (zw t1 t2)).go λw be ah q E A aH=>?_;subst aH;obtain⟨xk,xi,rfl,y1,y2⟩:=qh (Qr.1 A);have l:=P.trans E;have B:=l.ab0.get _ T;have bH:=l.ab0.size;refine⟨_,_,xk,xi,rfl,by rw[zh];exact B,?_⟩;intro F;obtain⟨U,bn,aA⟩:=jo (g:=F) rfl;have ac:VbM b.size h M h2.size v.aa6 ak H F ah (D++[L[e]]) (D.map λq=>jB (v.aa8.zip (v.aa7.map zj)) q) ak H aV bi:=(ae.call l).push _;clear_value F;refine⟨by rw[zh];exact(U.get h2.size ω).trans B,?_⟩;refine ac.item (by rw[zas];omega) aA (zw y1 y2) λY bw aG aE a6 aF=>⟨Y,rfl,?_⟩;refine aE.st3 λaN aj bm aL=>?_;have aO:∀j,j<b.size->j≠h2.size->aN[j]?=g'[j]?:=λj I h0=>by
   have bN:g'.size<=aT.size:=ω
   rw[aL j h0,aF j ω λJ=>χ ((ac.aa7.own j J).1),U.get j ω,l.ab0.get j ω];exact S j I h0
  have hw:=qd f ω;rw[hw];refine⟨.inr ⟨_,rfl⟩,⟨ω,ω,ω,ω⟩,.inl rfl,⟨ω,ω,ω,ω⟩,?_⟩;simp only[zag,Int.toNat_zero,Nat.sub_zero,zP];have al:Fr.le M' ah:=l.le;obtain⟨pb,po,bQ,ep,_⟩:=Go.X.aa2 rL f;have rT:=Ra (rL.mono al) (k:=e) ω;have rD:=Ps (rL.mono al) (k:=e+1) f;rw[ep]at rT;rw[ep];rw[ep]at rD;have app:=λK=>Co (K:=K) aj.L.ag rT rD (by rw[zbt,zcw];omega);refine app _ λbI bU bB ay aU=>⟨bI,rfl,⟨L.eraseIdx e,D++[L[e]],bB,ak,Y,aV,aG,?_,?_,?_,?_,?_,?_⟩,?_⟩;rw[<-GF];exact aU;have:=aj.call ay;rw[zbf,zbk,List.map_nil,e2,zcx];exact this;rw[za3,eD,es];rfl;exact λq hq=>ax q (List.mem_of_mem_eraseIdx hq);rw[ay.old _ (χ aQ.lt),l.old _ aQ.lt];exact af;intro j I h0;rw[ay.ab0.get j ω,aO j I h0];exact fg j I h0;have:=(CD aU).1;rw[zah,zbt,zcw]at this;omega;have hL:L=[]:=by obtain h|h:=vH.1 z;simp_all;simp_all
  subst hL;rw[show zt []=[]from List.Perm.eq_nil (qz []),zbi]at eD;refine⟨λi g'=>i=0/\g'=g,λ_ _=>0,⟨rfl,rfl⟩,?_⟩;rintro i g' ⟨rfl,rfl⟩;refine⟨si,Bg.ab1 (o:=0) (k:=3) rfl,v.aa6,λ_=>Bg.ab1 (o:=0) (k:=0) rfl,λz=>?_,λz=>?_⟩;have:=(ny.1 z).2;simp[C]at this;have bu:D.length<=1000000:=ω
  obtain⟨Lf,rf⟩:=V.fin ⟨bu,θ⟩;refine u9 Rg V.box Lf ω ?_ rf ?_;unfold MxL;rw[zv λJ=>?_];exact af;obtain h|h:=zav.1 J;have:=(V.aa8.own _ h).1;omega;have:=(V.aa7.own _ h).1;omega;rw[hS,eD,et];refine⟨λleft g=>left=aM/\g=b,λ_ _=>0,⟨rfl,rfl⟩,?_⟩;rintro left g ⟨rfl,rfl⟩;refine⟨v.aa6,aa.ab1 (o:=0) (k:=0) rfl,λz=>?_,λ_=>?_⟩;have:=(ny.1 z).1;simp[C]at this;have hS:zj v=.mk v.aa6 v.aa9 [] (v.aa7.map zj):=by rw[Qh,zv C]
  by_cases h5:v.aa6=5;have et:=KL O (.inl h5);refine⟨λi g'=>∃(m:Nat) (M':Fr) (H:Sl) (bi:List Nat),i=(m:Int)/\m<=v.aa7.length/\VbM g.size h M h2.size v.aa6 ⟨Te,0,0⟩ H g' M' [] ((v.aa7.take m).map zj) ⟨Te,0,0⟩ H [] bi/\M' h1.size=Te/\(∀j,j<g.size->j≠h2.size->g'[j]?=g[j]?),λi _=>v.aa7.length-i.toNat,⟨0,M2,⟨Te,0,0⟩,[],rfl,zar _,V0 et,nR,λ_ _ _=>rfl⟩,?_⟩;rintro i g' ⟨m,M',H,bi,rfl,J,V,af,fg⟩;have br:=V.lg;have N:=V.L.ag;have Bg:=aa.ab0 (fg h.size ω ω);have Rg:=aI.ab0 (fg h1.size ω ω);refine⟨si,Bg.ab1 (o:=0) (k:=3) rfl,v.aa6,λ_=>Bg.ab1 (o:=0) (k:=0) rfl,λz=>?_,λz=>?_⟩;have ai:m<v.aa7.length:=χ (jM (ny.1 z).1)
  obtain⟨a,ck,ci,ea,az,t1,t2⟩:=Qs N (ri.mono V.L.le) ai;have aC:=V.box.lt;refine⟨H,V.box.ab1 (o:=0) (k:=3) rfl,si,Bg.ab1 (o:=0) (k:=3) rfl,a,⟨ea,ω,ω⟩,v.aa7[m].aa6,v.aa7[m].aa9,ck,ci,by rw[zag];exact az,?_⟩;refine(ih m ai _ _ _ N (zw t1 t2)).go λw be ah q E A aH=>?_;subst aH;obtain⟨xk,xi,rfl,y1,y2⟩:=qh (Qr.1 A);have B:=E.ab0.get _ aC;have bH:=E.ab0.size;refine⟨_,_,xk,xi,rfl,by rw[zh];exact B,?_⟩;intro F;obtain⟨U,bn,aA⟩:=jo (g:=F) rfl;have ac:VbM g.size h M h2.size v.aa6 ⟨Te,0,0⟩ H F ah [] ((v.aa7.take m).map zj) ⟨Te,0,0⟩ H [] bi:=(V.call E).push _;clear_value F;refine⟨by rw[zh];exact(U.get h2.size ω).trans B,?_⟩;refine ac.item (by rw[zas,zbt];omega) aA (zw y1 y2) λY bw aG aE a6 aF=>⟨Y,rfl,?_⟩;have hw:=qd ai ω;refine aE.st3 λaN aj bm aL=>⟨⟨m+1,ah,Y,aG,hw,ai,?_,?_,λj I h0=>?_⟩,by rw[hw];simp only[zag];omega⟩;rw[zai ai,zbf];exact aj;rw[E.old _ Rg.lt];exact af;rw[aL j h0,aF j ω λJ=>χ ((ac.aa7.own j J).1),U.get j ω,E.ab0.get j ω];exact fg j I h0;have ba:m=v.aa7.length:=by obtain h|h:=vH.1 z;have:=jV h;omega;simp[h5]at h
  subst ba;rw[za2]at V;obtain⟨Lf,rf⟩:=V.fin ⟨zar _,θ⟩;refine u9 Rg V.box Lf ω ?_ rf ?_;unfold MxL;rw[zv λJ=>?_];exact af;obtain h|h:=zav.1 J;cases h;have:=(V.aa7.own _ h).1;omega;rw[hS,et];have e0:=(Ka O C).2 h5;refine⟨λi g'=>i=0/\g'=g,λ_ _=>0,⟨rfl,rfl⟩,?_⟩;rintro i g' ⟨rfl,rfl⟩;refine⟨si,aa.ab1 (o:=0) (k:=3) rfl,v.aa6,λ_=>aa.ab1 (o:=0) (k:=0) rfl,λz=>?_,λz=>?_⟩;have:=jM (ny.1 z).1;rw[li,e0]at this;exact absurd this ζ;exact u9 aI bg LL ω nR (w:=.mk v.aa6 v.aa9 [] []) (zw (v:=.mk v.aa6 v.aa9 [] []) jI jI) (by rw[hS,e0];rfl)
def AZ(j:GL gl)(m:Sm v){R:Tr->Prop}(c:R (ym v)):ab4 gl 59 [up .tree v] [.tree] R:=by
 apply Ri;simp only[qw];refine yM j m ⟨λf=>?_,λf=>?_⟩;have:wm v=Tc:=ψ f
 unfold ym at c;simp_all;have i:wm v=Ta:=ψ f
 unfold ym at c;rw[zA i]at c;have e:=i;unfold wm xa at e;simp only[zaw,zG]at e;intro h M vs n ag l
 match vs,l with
 |[u],⟨hu,_⟩=>exact PX.of ((Kn (cK v) v ω (zac _) e.2 h M u ag hu).go λw h' M' q L b k=>⟨M',q,L,b,ϖ k c⟩)
end
section
open Go.RowKit
section
def ul{gl:Fr}(v:Tr)(hv:Sm v)(ht:cK v<=1000000){R:Tr->Prop}(hR:R v):ab4 gl 13 [up .tree v] [.tree] R:=by
 have am:=jr v;have ay:=hv.aa8;have aB:v.aa7.length<=1000000:=χ (we v.aa7)
 intro h M vs hM ag ha
 match vs,ha with
 |[u],⟨hu,_⟩=>
  obtain⟨sk,si,rfl,rk,ri⟩:=qh (show RdV M .tree v u from hu);have li:=(CD ri).1;apply PX.of;apply Re v.aa6 v.aa9 sk si;intro h1;have⟨k1,z1,B1⟩:=jo (g:=h1) rfl;clear_value h1;intro h2;have⟨k2,z2,R2⟩:=jo (g:=h2) rfl;clear_value h2;have B2:=B1.ab2 k2;have V:At h M h2 M:=v0 ag (k1.trans k2 ω);intro K5 aj;have N:∀(bo:Nat) (g:zc) (b:Fr) (s:Sl),At h2 M g b->Rd b (.row .str) v.aa8 [aK s]->Blk g bo #[ab9 0,ab5 ⟨#[]⟩,.slice Te 0 0,.slice Te 0 0]->h2.size<=bo->b bo=Te->CA Tp (zae 25 (ab6 ⟨bo,0,Te⟩) (.agg #[ab9 v.aa6,ab5 v.aa9,aK s,.slice Te 0 0])) g (λg'=>K5 ⟨bo,0,Te⟩ g'):=by
   intro bo g b s L rs O t nO;refine Q8 (si:=⟨Te,0,0⟩) O λg1 f1 zg O1=>?_;have L1:At h2 M g1 b:=At.stay L t nO f1 zg;apply aj;refine⟨λi g=>∃(m:Nat) (M':Fr) (zi:Sl) (bi:ac0),i=(m:Int)/\m<=DB v.aa7/\At h2 M g M'/\g1.size<=g.size/\GT g1.size g M' .tree (v.aa7.take m) zi bi/\Blk g bo #[ab9 v.aa6,ab5 v.aa9,aK s,aK zi]/\M' bo=Te/\Fr.le b M',λi _=>DB v.aa7-i.toNat,⟨0,b,⟨Te,0,0⟩,[],rfl,zar _,L1,zac _,GT.nil,O1,nO,Fr.le.refl _⟩,?_⟩;rintro i g' ⟨m,M',zi,bi,rfl,C,l,az,Q,G,ak,U⟩;have Bg:=B2.ab0 (l.ab0.get h.size ω);have Rg:=R2.ab0 (l.ab0.get h1.size ω);have ar:=O1.lt;refine⟨si,Bg.ab1 (o:=0) (k:=3) rfl,λy=>?_,λy=>?_⟩;have z:m<DB v.aa7:=χ (jM y)
   have⟨a,ck,ci,ea,ah,t1,t2⟩:=Qs l.ag (ri.mono l.le) z;refine⟨zi,G.ab1 (o:=0) (k:=3) rfl,si,Bg.ab1 (o:=0) (k:=3) rfl,a,⟨ea,ω,ω⟩,v.aa7[m].aa6,v.aa7[m].aa9,ck,ci,by rw[zag];exact ah,?_⟩;have P:=zak z;have ax:=qi P;refine(ul (gl:=gl) v.aa7[m] (hv.item P) ω (R:=λq=>q=v.aa7[m]) rfl).go (vs:=[_]) (hM.trans l.le) l.ag (zo (a:=up .tree v.aa7[m]) (zw t1 t2) qc) λw h5 Z q I S hq=>?_;subst hq;obtain⟨xk,xi,rfl,y1,y2⟩:=qh (Qr.1 S);have z5:=I.ab0.size;have e5:=I.ab0.get bo G.lt;refine⟨_,_,xk,xi,rfl,by rw[zh];exact e5,?_⟩;intro h6;have⟨k6,z6,S6⟩:=jo (g:=h6) rfl;have H:At g' M' h6 Z:=I.trans (At.push I.ag _);clear_value h6;have n5:Z bo=Te:=by rw[I.old bo G.lt];exact ak
   have Y:=Q.call H;have J:=G.ab0 (H.ab0.get bo G.lt);have A:=l.trans H;refine⟨by rw[zh];exact(k6.get bo ω).trans e5,?_⟩;refine GT.app uU ω H.ag Y ω (vs:=[ab9 v.aa7[m].aa6,ab5 v.aa7[m].aa9,aK xk,aK xi]) S6 (FG (zw y1 y2)) (by rw[zbt];omega) λs7 h7 aa r7 z7 w7 f7=>⟨s7,rfl,?_⟩;have nb:bo∉bi:=λC=>χ ((Y.own bo C).1)
   have ai:=J.ab0 (f7 bo J.lt nb);have L7:At h2 M h7 Z:=⟨⟨χ A.ab0.size,λj hj=>(f7 j ω λC=>by have:=(Y.own j C).1;have:=L1.ab0.size;omega).trans (A.ab0.get j hj)⟩,A.le,A.old,λc cs e=>by rw[f7 c (A.ag.lt e) λC=>by have:=(Y.own c C).2.2;rw[this]at e;cases e];exact A.ag c cs e⟩;rw[zh];refine jq CW A7 ai (by show 3<4;omega) rfl λh8 O8 z8 f8=>?_;have hw:=qd z ω;refine⟨⟨m+1,Z,s7,aa,hw,z,At.stay L7 t n5 f8 z8,ω,?_,O8,n5,U.trans H.le⟩,by simp only[hw,zag];omega⟩;rw[zai z];exact r7.frame (λc y=>f8 c (χ ((r7.own c y).1))) (Fr.le.refl _) (λc y=>(r7.own c y).2.2);have ae:m=DB v.aa7:=χ (jV y)
   subst ae;rw[za2]at Q;have Lf:At h M g' (MxL M' g' bi):=V.trans (At.own l λc y=>by have:=(Q.own c y).1;have:=L1.ab0.size;omega);have nR:M' h1.size=Te:=by rw[l.old _ ω];exact ag.none ω
   refine u9 Rg G Lf ω ?_ (zw (v:=v) ((rs.mono U).mono (oN l.ag _)) (Q.rd l.ag (λc y=>y) ω)) hR;unfold MxL;rw[zv λC=>by have:=(Q.own _ C).1;have:=L1.ab0.size;omega];exact nR
  have app:∀(p:n8) (g:zc),At h2 M g M->∀{K:vvv},(∀(s':Sl) (g':zc) (b:Fr),At g M g' b->Rd b (.row .str) v.aa8 [aK s']->K (aK s') g')->qq Tp (zaj #[22,22] 22 #[.slice (Td p) 0 0,aK sk]) g K:=λp g L K hK=>
   Co L.ag (olds:=[]) (news:=v.aa8) (n:=0) (p:=p) ⟨_,rfl,_,_,rfl,⟨ξ,ξ⟩,.inl rfl⟩ (rk.mono L.le) φ λs g' b V r=>hK s g' b V r
  have f:∀{g:zc} {b:Fr} (j:Nat),At h2 M g b->j<h2.size->g[j]?=h2[j]?:=λj L hj=>L.ab0.get j hj;have P0:At h2 M h2 M:=At.refl V.ag;refine⟨v.aa6,B2.ab1 (o:=0) (k:=0) rfl,v.aa9,B2.ab1 (o:=0) (k:=1) rfl,sk,B2.ab1 (o:=0) (k:=2) rfl,?_⟩;have hb:h.size<h2.size:=ω
  have box:∀{g:zc} {b:Fr},At h2 M g b->Blk (g.push (.cells #[ab9 0,ab5 ⟨#[]⟩,.slice Te 0 0,.slice Te 0 0] 25)) g.size #[ab9 0,ab5 ⟨#[]⟩,.slice Te 0 0,.slice Te 0 0]/\At h2 M (g.push (.cells #[ab9 0,ab5 ⟨#[]⟩,.slice Te 0 0,.slice Te 0 0] 25)) b/\b g.size=Te/\h2.size<=g.size:=λ {g b} L=>⟨wr _ _ _,L.trans (At.push L.ag _),L.ag.none (zac _),L.ab0.size⟩;have row:∀{g:zc} {b:Fr},At h2 M g b->At h2 M (g.push (.cells #[] 9)) b:=λ {g b} L=>L.trans (At.push L.ag _);intro ab an ac;have D:∀{bo:Nat} {g:zc} {b:Fr} {s:Sl},At h2 M g b->Rd b (.row .str) v.aa8 [aK s]->Blk g bo #[ab9 0,ab5 ⟨#[]⟩,.slice Te 0 0,.slice Te 0 0]->h2.size<=bo->b bo=Te->ab ⟨bo,0,Te⟩ s g:=λL rs O t nO=>N _ _ _ _ L rs O t nO;have T:∀{bo:Nat} {g:zc} (p:n8),At h2 M g M->Blk g bo #[ab9 0,ab5 ⟨#[]⟩,.slice Te 0 0,.slice Te 0 0]->h2.size<=bo->ac ⟨bo,0,Te⟩ ⟨Td p,0,0⟩ g:=λ {bo g} p L O t=>app p g L λs g' b l r=>by have A:=L.trans l;have hl:=O.lt;exact⟨s,rfl,f _ A hb,f _ A hb,D A r (O.ab0 (l.ab0.get bo hl)) t (by rw[l.old bo hl];exact V.ag.none t)⟩
  refine⟨?_,?_⟩;intro E;have x:At h2 M E M:=row P0;have al:E.size=h2.size+1:=zau _;refine⟨f _ x hb,f _ x hb,f _ x hb,app _ E x λs au b l r=>?_,?_⟩;have F:=x.trans l;have⟨b1,b2,b3,b4⟩:=box F;exact⟨s,rfl,f _ F hb,f _ F hb,D b2 r b1 b4 b3,f _ b2 hb,f _ b2 hb,D b2 r b1 b4 b3⟩;have⟨b1,b2,b3,b4⟩:=box x;exact⟨f _ b2 hb,f _ b2 hb,f _ b2 hb,T _ b2 b1 b4⟩;intro aA;have⟨b1,b2,b3,b4⟩:=box P0;refine⟨f _ b2 hb,f _ b2 hb,f _ b2 hb,?_⟩;intro af;have B:At h2 M af M:=row b2;exact⟨f _ B hb,f _ B hb,f _ B hb,T _ B (b1.ab2 (ur _ _ (zac _))) b4⟩
termination_by cK v
end
end
section
def Uk(b:Int)(c:Bt)(d:Sl)(e:Sl)(h:zc)(R:vvv) (H:let f:=h.push (.cells #[iV b,ab5 c,aK d,aK e] 25);let g:=f.push (.cells #[.slice Te 0 0,.slice Te 0 0] 31);∃i j k l,ze g (ab7 h) 0 (tL i j k l)/\ab3 57 #[tA i j k l] g (λm n=>∃o,m=.bool o/\((!o)=Ta->CA Tp (zae 31 (ab6 (ab7 f)) (.agg #[.slice Te 0 0,.slice Te 0 0])) n (λp=>∃q r,ze p (ab7 f) 0 [aK q,aK r]/\R (.tuple #[.agg #[aK q,aK r],iV 1]) p))/\((!o)=Tc->∃s t u v,ze n (ab7 h) 0 (tL s t u v)/\ab3 59 #[tA s t u v] n (λw x=>∃y z A B,w=tA y z A B/\ab3 58 #[.agg #[.slice Te 0 0,.slice Te 0 0],tA y z A B] x (λC D=>∃E F,C=.agg #[aK E,aK F]/\let G:=D.push (.cells #[.slice Te 0 0,.slice Te 0 0] 31);CA Tp (zae 31 (ab6 (ab7 D)) (.agg #[aK E,aK F])) G (λI=>∃J,zd I (zab (ab7 D) 0)=Td (aK J)/\(ph ((J.len:Int)>512)=Ta->CA Tp (zae 31 (ab6 (ab7 f)) (.agg #[.slice Te 0 0,.slice Te 0 0])) I (λL=>∃M N,ze L (ab7 f) 0 [aK M,aK N]/\R (.tuple #[.agg #[aK M,aK N],iV 6]) L))/\(ph ((J.len:Int)>512)=Tc->∃O P,ze I (ab7 D) 0 [aK O,aK P]/\CA Tp (zae 31 (ab6 (ab7 f)) (.agg #[aK O,aK P])) I (λQ=>∃S T,ze Q (ab7 f) 0 [aK S,aK T]/\R (.tuple #[.agg #[aK S,aK T],iV 0]) Q)))))))):ab3 15 #[.agg #[ab9 b,ab5 c,.slice d.a d.len d.cap,.slice e.a e.len e.cap]] h R:=XF ⟨[],[],[]⟩ [.cell 2 31,.tmp 3] 21 func15 H
end
section
open Go.RowKit
section
variable {M M':Fr} {lo b:Nat} {h g' g:zc} {s1 s2:Sl} {b1 b2:List Nat} {K:zc -> Prop} {v:Tr}
theorem H0{r:Bt×Int}{w:Value}(h:Yx M [.str,.int .i64] r w):w=.tuple #[ab5 r.1,ab9 r.2]:=by
 obtain⟨vs,⟨e,rest,rfl,f,i,rfl,c⟩,rfl⟩:=h;have b:e=.string r.1:=by simpa[Rd]using (J1 rfl).1 f
 rw[b,Zu c];rfl
structure PrS (lo:Nat) (h:zc) (M:Fr) (S:List (Bt×Int)) (s1 s2:Sl) (b1 b2:List Nat):Prop where
 r1:GT lo h M .str (S.map (·.1)) s1 b1
 r2:GT lo h M (.int .i64) (S.map (·.2)) s2 b2
 dj:∀c∈b1,c∉b2
theorem TbS.pr{S:List (Bt×Int)}(B:TbS lo h M b S s1 s2 b1 b2):PrS lo h M S s1 s2 b1 b2:=⟨B.r1,B.r2,B.dj⟩
theorem PrS.call{h h':zc}{S:List (Bt×Int)}(B:PrS lo h M S s1 s2 b1 b2)(L:At h M h' M'):PrS lo h' M' S s1 s2 b1 b2:=⟨B.r1.call L,B.r2.call L,B.dj⟩
section
variable {lo : Nat} {h g : zc} {M : Fr} {b : Nat} {sl sf : Sl} {b0 : List Nat} {X : List Bt} {s1 : Sl} {c1 : List Nat} {Y : List Int} {s2 : Sl} {c2 : List Nat}
theorem AdM.turn(D:AdM lo h M b sl sf b0 g X s1 c1 Y s2 c2){k l:Sl}(B:Blk g' b #[aK k,aK l])(z:g'.size=g.size)(f:∀j,j≠b->g'[j]?=g[j]?):AdM lo h M b k l b0 g' X s1 c1 Y s2 c2:=by have o:=D.gr;exact⟨B,D.r1.frame (λc i=>f c λe=>D.n1 (e ▸ i)) (Fr.le.refl _) (λc i=>(D.r1.own c i).2.2),D.r2.frame (λc i=>f c λe=>D.n2 (e ▸ i)) (Fr.le.refl _) (λc i=>(D.r2.own c i).2.2),D.dj,D.n1,D.n2,ω,D.bh,λj m h0 n=>(f j h0).trans (D.fr j m h0 n),D.w1,D.w2,λc cs e=>by rw[f c λh=>by grind [nM]];exact D.ag c cs e,D.nM,D.lb⟩
theorem AdM.st0(D:AdM lo h M b sl sf b0 g X s1 c1 Y s2 c2)(c:∀g',AdM lo h M b s1 sf b0 g' X s1 c1 Y s2 c2->K g'):CA Tp (zae 22 (.pointer (Td (zab ⟨b,0,Te⟩ 0))) (aK s1)) g K:=by rw[SW];exact jq uB vM D.box ξ rfl λg1 e i f=>c g1 (D.turn e i f)
theorem AdM.st1(D:AdM lo h M b sl sf b0 g X s1 c1 Y s2 c2)(c:∀g',AdM lo h M b sl s2 b0 g' X s1 c1 Y s2 c2->K g'):CA Tp (zae 29 (.pointer (Td (zab ⟨b,0,Te⟩ 1))) (aK s2)) g K:=by rw[zh];exact jq FU EL D.box ξ rfl λg1 e i f=>c g1 (D.turn e i f)
theorem AdM.out(D:AdM lo h M b s1 s2 b0 g X s1 c1 Y s2 c2){S:List (Bt×Int)}(e:X=S.map (·.1))(i:Y=S.map (·.2)):TbS lo g M b S s1 s2 c1 c2/\Grw h M b b0 g M (c1++c2):=by subst e;subst i;refine⟨⟨D.box,D.r1,D.r2,D.dj,D.n1,D.n2,D.nM,D.lb⟩,D.gr,Fr.le.refl _,λ_ _=>rfl,D.ag,D.fr,λc f=>?_⟩;obtain h|h:=zav.1 f;exact D.w1 c h;exact D.w2 c h
end
theorem TbS.more{S:List (Bt×Int)}(B:TbS lo h M b S s1 s2 b1 b2)(ag:AgM M h)(l:lo<=h.size)(I:S.length<=1000000){lab:Bt}{n:Int}(J:∀h' F E c1 c2,TbS lo h' M b (S++[(lab,n)]) F E c1 c2->Grw h M b (b1++b2) h' M (c1++c2)->K h'):let c:=zc2 h (.cells #[ab5 lab] 9)
 qq Tp (zaj #[22,22] 22 #[aK s1,.slice (Td (ab7 h)) 1 1]) c λv j=>∃x:Sl,v=aK x/\CA Tp (zae 22 (.pointer (Td (zab ⟨b,0,Te⟩ 0))) (aK x)) j λf=>∃y:Sl,zd f (zab ⟨b,0,Te⟩ 1)=Td (aK y) /\
  let e:=zc2 f (.cells #[ab9 n] 3)
  qq Tp (zaj #[29,29] 29 #[aK y,.slice (Td (ab7 f)) 1 1]) e λv i=>∃z:Sl,v=aK z/\CA Tp (zae 29 (.pointer (Td (zab ⟨b,0,Te⟩ 1))) (aK z)) i K:=by
 intro c;have D:=AdM.start B ag;have w:AdM lo h M b s1 s2 (b1++b2) c _ _ _ _ _ _:=D.push _;have A:Blk c h.size #[ab5 lab]:=wr _ _ _;clear_value c;refine w.lab l θ A λx j c1 r _ _=>⟨x,rfl,?_⟩;refine r.st0 λf m=>⟨s2,m.box.ab1 (o:=0) (k:=1) rfl,?_⟩;intro e;have p:AdM lo h M b x s2 (b1++b2) e _ _ _ _ _ _:=m.push _;have t:Blk e f.size #[ab9 n]:=wr _ _ _;clear_value e;refine p.lef l θ t λz i c2 q _ _=>⟨z,rfl,?_⟩;refine q.st1 λC u=>?_;have⟨H,G⟩:=u.out (S:=S++[(lab,n)]) ξ ξ;grind
theorem TbS.swap{S o:List (Bt×Int)}{s1 s2 n m:Sl}{b1 b2 c1 c2:ac0}(B:TbS lo h M b S s1 s2 b1 b2)(G:Grw h M h.size (b1++b2) g M' (c1++c2))(P:PrS lo g M' o n m c1 c2) (t:∀g',TbS lo g' M' b o n m c1 c2->Grw h M b (b1++b2) g' M' (c1++c2)->g'.size=g.size->(∀j,j≠b->g'[j]?=g[j]?)->K g'):CA Tp (zae 31 (ab6 ⟨b,0,Te⟩) (.agg #[aK n,aK m])) g K:=by
 have hb:=B.box.lt;have k:b∉b1++b2:=λw=>by obtain h|h:=zav.1 w;exact B.n1 h;exact B.n2 h
 have l:∀c∈c1++c2,c≠b:=λc i e=>by subst e;obtain h|h:=G.nw c i;exact k h;omega
 have q:M' b=Te:=by rw[G.old b hb];exact B.nM
 have r:Blk g b #[aK s1,aK s2]:=B.box.ab0 (G.fr b hb ω k);refine sZ r λg' f z p=>t g' ⟨p,P.r1.frame (λc i=>f c (l c (zap _ i))) (Fr.le.refl _) (λc i=>(P.r1.own c i).2.2),P.r2.frame (λc i=>f c (l c (zaz _ i))) (Fr.le.refl _) (λc i=>(P.r2.own c i).2.2),P.dj,λh=>l b (zap _ h) rfl,λh=>l b (zaz _ h) rfl,q,B.lb⟩ ⟨χ G.grow,G.le,G.old,λc cs e=>?_,λj x h0 u=>(f j h0).trans (G.fr j x ω u),G.nw⟩ z f;rw[f c λh=>θ];exact G.ag c cs e
theorem Grw.stay{b r:Nat}{bs bs':ac0}(G:Grw h M b bs g M' bs')(l:h.size<=r)(m:M' r=Te)(f:∀j,j≠r->g'[j]?=g[j]?)(z:g'.size=g.size):Grw h M b bs g' M' bs':= ⟨by rw[z];exact G.grow,G.le,G.old,λc cs e=>by rw[f c λh=>θ];exact G.ag c cs e,λj k h0 i=>(f j ω).trans (G.fr j k h0 i),G.nw⟩
def Dd(d:Nat):∀(l:List Tr) (k:Nat),iu d (l.take k)<=iu d l
 |[],k=>ξ
 |x::l,0=>by rw[ze3,iu];omega
 |x::l,k+1=>by rw[List.take_succ_cons,iu,iu];have:=Dd d l k;omega
def i4(v:Tr)(m n:Nat):List (Bt×Int):=if v.aa6=6 then hH (v.aa7.take m) v.aa8 n else iz (v.aa7.take m) n
theorem YB(v:Tr)(n:Nat):i4 v 0 n=[]:=by unfold i4;rw[ze3];split;rw[hH];rw[iz]
def YC(h:v.aa6=5\/v.aa6=6\/v.aa7=[])(n:Nat):ia v n=i4 v (DB v.aa7) n++[(kE v,(n:Int))]:=by rw[Ix];unfold i4;rw[za2];obtain h|h|h:=h;simp_all;simp_all;rw[h];congr 1;split;rfl;split;rfl;rw[iz]
def ZW{m:Nat}(b:m<DB v.aa7)(c:v.aa6=5\/v.aa6=6)(n:Nat):(i4 v m n).length+iI v.aa7[m]+1<=iI v:=by have e:=w3 v;unfold i4;obtain h|h:=c;rw[zv ω,zA h]at e;rw[zv ω,t6];have h1:=Dd 0 v.aa7 (m+1);have h2:=t6 (v.aa7.take (m+1)) 0;rw[Cr b,zah,t6,Zy]at h2;omega;rw[zA h]at e;rw[zA h,yY];have h1:=Dd 1 v.aa7 (m+1);grind [wU,zai]
def Hs{gl:Fr}(hg:GL gl){lo:Nat}:∀(n:Nat) (v:Tr),n<=4096->cK v<=n->Zo ib v=Ta->Sm v->∀(h:zc) (M:Fr) (S:List (Bt×Int)) (s1 s2:Sl) (b1 b2:ac0) (u:Value),AgM M h->Fr.le gl M->PrS lo h M S s1 s2 b1 b2->lo<=h.size->DB S+iI v<=100000->RdV M .tree v u ->ab3 58 #[.agg #[aK s1,aK s2],u] h λr h'=>∃y N M' c1 c2,r=.agg #[aK y,aK N]/\Grw h M h.size (b1++b2) h' M' (c1++c2)/\PrS lo h' M' (S++ia v (DB S)) y N c1 c2
 |0,v,_,hz,_,_=>χ (wa v)
 |n+1,v,hn,hz,hok,hsm=>by
  intro h M S s1 s2 b1 b2 u ag hM P az hS hu;obtain⟨sk,si,rfl,rk,ri⟩:=qh hu;have⟨li,_,_⟩:=CD ri;have⟨lk,_,_⟩:=CD rk;have o:=xp hok;have bn:v.aa7.length<=4096:=by have:=we v.aa7;rw[jr]at hz;omega
  have br:=Sk v;have D:v.aa6=5\/v.aa6=6\/v.aa7=[]:=by obtain⟨_,_,_,i⟩|⟨_,_,_,i⟩|⟨_,_,_,i⟩|⟨_,_,_,i⟩|⟨k,_⟩|⟨k,_⟩:=Cm o;grind;grind;grind;grind;exact .inl k;omega
  have own:∀c∈b1++b2,c<h.size:=λc f=>by obtain h|h:=zav.1 f;exact(P.r1.own c h).2.1;exact(P.r2.own c h).2.1
  apply zh2 s1 s2 v.aa6 v.aa9 sk si;intro h1;have⟨k1,z1,B1⟩:=jo (g:=h1) rfl;clear_value h1;intro h2;have⟨k2,z2,T2⟩:=jo (g:=h2) rfl;clear_value h2;intro J;have⟨k3,z3,R3⟩:=jo (g:=J) rfl;clear_value J;have F:At h M J M:=v0 ag (k1.trans (k2.trans k3 ω) ω);have nb:M h.size=Te:=ag.none (zac _);have nr:M h2.size=Te:=ag.none ω;have B3:TbS lo J M h.size S s1 s2 b1 b2:=⟨(B1.ab2 k2).ab2 k3,(P.call F).r1,(P.call F).r2,P.dj,λH=>χ (own _ (zap _ H)),λH=>χ (own _ (zaz _ H)),nb,az⟩;have T3:Blk J h1.size #[ab9 v.aa6,ab5 v.aa9,aK sk,aK si]:=T2.ab2 k3;have aj:=P.r1.len;rw[zas]at aj;refine⟨s1,B3.box.ab1 (o:=0) (k:=0) rfl,?_⟩;intro K7 aI;have h7:∀p:Bt,(v.aa6=5\/v.aa6=6->p=kE v)->K7 p J:=λp hl=>aI p J λaH ah=>by
   have aa:∀(lab:Bt) (g0:zc) (M0:Fr),At J M g0 M0->lab=kE v->aH lab g0:=λlab g0 M0 E al=>ah lab g0 (by
    subst al;have z0:=E.ab0.size;have B0:=B3.call E;have T0:Blk g0 h1.size #[ab9 v.aa6,ab5 v.aa9,aK sk,aK si]:=T3.ab0 (E.ab0.get _ ω);have R0:Blk g0 h2.size #[.slice Te 0 0,.slice Te 0 0]:=R3.ab0 (E.ab0.get _ ω);have bw:Fr.le gl M0:=hM.trans (F.le.trans E.le);have ar:∀{g:zc} {t:Fr} {cs:ac0},Grw g0 M0 h.size (b1++b2) g t cs->Blk g h1.size #[ab9 v.aa6,ab5 v.aa9,aK sk,aK si]:=λ {g t cs} G=>T0.ab0 (G.fr h1.size ω ω λH=>χ (own _ H));have aG:∀{g:zc} {t:Fr} {cs:ac0},Grw g0 M0 h.size (b1++b2) g t cs->Blk g h2.size #[.slice Te 0 0,.slice Te 0 0]:=λ {g t cs} G=>R0.ab0 (G.fr h2.size ω ω λH=>χ (own _ H));refine⟨λi g=>∃(m:Nat) (t:Fr) (y N:Sl) (c1 c2:ac0),i=(m:Int)/\m<=DB v.aa7/\Grw g0 M0 h.size (b1++b2) g t (c1++c2)/\TbS lo g t h.size (S++i4 v m (DB S)) y N c1 c2,λi _=>DB v.aa7-i.toNat,⟨0,M0,s1,s2,b1,b2,rfl,zar _,Grw.refl E.ag,by rw[YB,zbi];exact B0⟩,?_⟩;rintro i g ⟨m,t,y,N,c1,c2,rfl,H,G,B⟩;have gz:=G.grow;have Tg:=ar G;have ac:=B.r1.len;rw[zas,zah]at ac;refine⟨si,Tg.ab1 (o:=0) (k:=3) rfl,λf=>?_,λf=>?_⟩;have b:m<DB v.aa7:=χ (jM f)
    have ax:v.aa6=5\/v.aa6=6:=by obtain h|h|h:=D;exact .inl h;exact .inr h;rw[h]at b;exact absurd b (zcb _)
    have aS:=ZW b ax (DB S);have Z:=zak b;have bm:=qi Z;have ai:=F.le.trans (E.le.trans G.le);have⟨a,ck,ci,ea,aP,q1,q2⟩:=Qs G.ag (ri.mono ai) b;refine⟨y,B.box.ab1 (o:=0) (k:=0) rfl,y,N,B.box.ld (cs:=[aK y,aK N]),si,Tg.ab1 (o:=0) (k:=3) rfl,a,⟨ea,ω,ω⟩,v.aa7[m].aa6,v.aa7[m].aa9,ck,ci,by rw[zag];exact aP,?_⟩;refine XC.mono (Hs hg n v.aa7[m] ω ω (jm hok Z) (hsm.item Z) g t (S++i4 v m (DB S)) y N c1 c2 _ G.ag (hM.trans ai) B.pr ω φ (zw q1 q2)) ?_;rintro r d ⟨d1,d2,M2,e1,e2,rfl,G2,P2⟩;refine⟨d1,d2,rfl,?_⟩;refine B.swap G2 P2 λa6 ak au ba aZ=>?_;have z:=G.trans au;have an:=ar z;have bB:=z.grow;have hw:=qd b ω;refine⟨v.aa6,an.ab1 (o:=0) (k:=0) rfl,λj=>?_,λj=>?_⟩;have j:v.aa6=6:=ψ j
    have bj:v.aa8.length=DB v.aa7:=by unfold ib at o;rw[zaw]at o;exact(BX o.2 j).2
    have aQ:∀k∈v.aa8,Q2 (lb k)=Ta:=by unfold ib zm yj at o;simp[j]at o;exact o.1.1.1
    have A:m<DB v.aa8:=ω
    have Y:=F.le.trans (E.le.trans z.le);have⟨a2,aL,x,aO,aA⟩:=ke z.ag (rk.mono Y) A (i:=(m:Int)) rfl (L:=sk.len) rfl (Q:=λx=>x=v.aa8[m]) rfl;subst aA;refine⟨sk,an.ab1 (o:=0) (k:=2) rfl,a2,aL,v.aa8[m],aO,?_⟩;have am:=aQ _ (zak A);have aN:Sm (.mk 4 v.aa8[m] [] []):=⟨by rw[jr];simp[xc],by rw[kn];refine⟨⟨?_,zar _,λk hk=>ε hk⟩,trivial⟩;have:=hsm.key (zak A);rw[mc]at this;exact this⟩;refine(show ab4 gl 105 [up .str v.aa8[m]] [.tree] (λr=>r=.mk 4 v.aa8[m] [] [])from by apply PL;rfl).go (hM.trans Y) z.ag (zo (a:=up .str _) (GE _) qc) λw bA bq r T l I=>?_;subst I;have I:=Qr.1 l;obtain⟨xk,xi,rfl,_,_⟩:=qh I;refine⟨_,_,xk,xi,rfl,?_⟩;refine(E3 hg aN (R:=λr=>r=Jd (.mk 4 v.aa8[m] [] [])) rfl).go (hM.trans (Y.trans T.le)) T.ag (zo (a:=up .tree _) I qc) λw a7 aT r aD l I=>?_;subst I;rw[H0 l];refine⟨_,_,rfl,?_⟩;have C:=T.trans aD;have ae:=ak.call C;have V:=z.call C;have aY:=V.grow;refine⟨d1,ae.box.ab1 (o:=0) (k:=0) rfl,?_,?_⟩;have h1:=hsm.key (zak A);unfold Jd;rw[zA (zO am),Q7];show qg ((bl [107]).size+(bl (io (lb v.aa8[m])).1).size);have:=sI (lb v.aa8[m]);exact Xq φ;rw[Kq am];refine ae.more V.ag ω (by rw[zah,zah,Zy];omega) (n:=((y.len:Nat):Int)) λbu x1 O y1 y2 aV aJ=>⟨⟨m+1,aT,x1,O,y1,y2,hw,b,V.trans aJ,?_⟩,φ⟩;have e:S++i4 v (m+1) (DB S)=((S++i4 v m (DB S))++ia v.aa7[m] (S++i4 v m (DB S)).length)++[(nT v.aa8[m],((y.len:Nat):Int))]:=by unfold i4;rw[zA j,zA j,Ls b A,ac];unfold i4;rw[zA j,zah,za3,za3]
    rw[e];exact aV;have j:¬v.aa6=6:=ψ j
    refine⟨⟨m+1,M2,d1,d2,e1,e2,hw,b,z,?_⟩,φ⟩;have e:S++i4 v (m+1) (DB S)=(S++i4 v m (DB S))++ia v.aa7[m] (S++i4 v m (DB S)).length:=by unfold i4;rw[zv j,zv j,Cr b,zah,za3]
    rw[e];exact ak;have ay:m=DB v.aa7:=χ (jV f)
    subst ay;have af:=YC D (DB S);have aS:(i4 v (DB v.aa7) (DB S)).length+1=iI v:=by have:=Zy v (DB S);rw[af,zah,zcj]at this;exact this
    refine⟨y,B.box.ab1 (o:=0) (k:=0) rfl,?_⟩;refine B.more G.ag ω φ (n:=((s1.len:Nat):Int)) λbe x1 O y1 y2 q aF=>?_;have z:=G.trans aF;have aB:=aG z;refine⟨x1,O,q.box.ld (cs:=[aK x1,aK O]),?_⟩;refine sZ aB λbz U aM aU=>⟨x1,O,aU.ld (cs:=[aK x1,aK O]),x1,O,t,y1,y2,rfl,?_,?_⟩;have aE:t h2.size=Te:=by rw[z.old _ ω,E.old _ ω];exact nr
    exact(Grw.ofCall (F.trans E) z own).stay ω aE U aM;have ab:∀c∈y1++y2,c≠h2.size:=λc f e=>by obtain h|h:=z.nw c f;have:=own c h;omega;omega
    have e:S++ia v (DB S)=(S++i4 v (DB v.aa7) (DB S))++[(kE v,((s1.len:Nat):Int))]:=by rw[af,aj,za3]
    rw[e];exact⟨q.r1.frame (λc f=>U c (ab c (zap _ f))) (Fr.le.refl _) (λc f=>(q.r1.own c f).2.2),q.r2.frame (λc f=>U c (ab c (zaz _ f))) (Fr.le.refl _) (λc f=>(q.r2.own c f).2.2),q.dj⟩)
   refine⟨v.aa6,T3.ab1 (o:=0) (k:=0) rfl,v.aa6,λ_=>T3.ab1 (o:=0) (k:=0) rfl,λf=>?_,λf=>?_⟩;have⟨e5,e6⟩:=ny.1 f;have e5:v.aa6≠5:=ψ e5
   have e6:v.aa6≠6:=ψ e6
   refine⟨v.aa6,v.aa9,sk,si,T3.ld (cs:=[_,_,aK sk,aK si]),?_⟩;refine(E3 hg hsm (R:=λr=>r=Jd v) rfl).go (hM.trans F.le) F.ag (zo (a:=up .tree v) hu qc) λw a8 bg r aC l I=>?_;subst I;rw[H0 l];exact⟨_,_,rfl,aa _ _ _ aC (Iy o e5 e6)⟩;refine aa _ _ _ (At.refl F.ag) (hl ?_);obtain h|h:=vH.1 f;exact .inl (ψ h);exact .inr (ψ h)
  refine⟨v.aa6,T3.ab1 (o:=0) (k:=0) rfl,λj=>h7 _ λ_=>?_,λj=>h7 _ λh=>?_⟩;have j:v.aa6=6:=ψ j
  unfold kE;rw[zv ω,zA j];have j:¬v.aa6=6:=ψ j
  unfold kE;simp;omega
end
section
def IQ:∀(n:Nat) (v:Tr),cK v<=n->iI v+1<=2*cK v
 |0,v,h=>χ (wa v)
 |n+1,v,h=>by
  have e:∀l:List Tr,(∀x∈l,cK x<=n)->iu 0 l<=2*xc l/\iu 1 l<=2*xc l:=by
   intro l;induction l with
   |nil=>intro _;simp[iu]
   |cons x l i=>intro c;have a:=IQ n x (c x ξ);have b:=i λy f=>c y (ϑ f);rw[iu,iu,xc];omega
  have hi:=e v.aa7 λx c=>χ (qi c)
  rw[w3,jr];split;omega;split <;> omega
theorem Grw.later{h h':zc}{M M':Fr}{bs':ac0}(G:Grw h M h.size [] h' M' bs'):At h M h' M':=⟨⟨G.grow,λj b=>G.fr j b ω ξ⟩,G.le,G.old,G.ag⟩
def Ve{gl:Fr}(hg:GL gl){v:Tr}(hv:Sm v){R:(List Bt×List Int)×Int->Prop}(y:R (xr v)):ab4 gl 15 [up .tree v] [.pair (.row .str) (.row PJ),.int .i64] R:=by
 intro h M vs hM ag ha
 match vs,ha with
 |[u],⟨U,_⟩=>
  have U:RdV M .tree v u:=U;have I:=U;obtain⟨sk,si,rfl,rk,ri⟩:=qh U;apply PX.of;apply Uk v.aa6 v.aa9 sk si;intro h1;have⟨k1,z1,B1⟩:=jo (g:=h1) rfl;clear_value h1;intro h2;have⟨k2,z2,R2⟩:=jo (g:=h2) rfl;clear_value h2;have B2:=B1.ab2 k2;have aa:BT h.size h h2:=k1.trans k2 ω;have L2:At h M h2 M:=v0 ag aa;have done:∀(g:zc) (M':Fr) (t:List Bt×List Int) (e:Int) (s1 s2:Sl),At h2 M g M'->Rd M' (.row .str) t.1 [aK s1]->Rd M' (.row PJ) t.2 [aK s2]->R (t,e) ->
   CA Tp (zae 31 (ab6 (ab7 h1)) (.agg #[aK s1,aK s2])) g λg'=>∃D E:Sl,ze g' (ab7 h1) 0 [aK D,aK E]/\∃M2 q,At h M g' M2/\Yx M2 [.pair (.row .str) (.row PJ),.int .i64] q (.tuple #[.agg #[aK D,aK E],ab9 e])/\R q:=by
   intro g M' t e s1 s2 L D E S;have nR:M' h1.size=Te:=by rw[L.old _ ω];exact ag.none ω
   refine sZ (R2.ab0 (L.ab0.get _ ω)) λg' f z B=>⟨s1,s2,B.ld (cs:=[aK s1,aK s2]),M',(t,e),At.stay (L2.trans L) ω nR f z,⟨[_,_],⟨_,_,rfl,Xz D E,_,rfl,Q9 _ _⟩,rfl⟩,S⟩
  refine⟨v.aa6,v.aa9,sk,si,B2.ld (cs:=[_,_,aK sk,aK si]),?_⟩;refine(Wq hg hv (R:=λr=>r=zr v) rfl).go (vs:=[.agg #[ab9 v.aa6,ab5 v.aa9,aK sk,aK si]]) hM L2.ag (zo I qc) λw h8 M8 r A l S=>?_;subst S;refine⟨_,Jb l,λm=>?_,λm=>?_⟩
  ·have m:zr v=Tc:=ψ m
   unfold xr at y;rw[zv (υ m)]at y;exact done h8 M8 ([],[]) 1 ⟨Te,0,0⟩ ⟨Te,0,0⟩ A jI jI y
  have m:zr v=Ta:=ψ m
  unfold xr at y;rw[zA m]at y;refine⟨v.aa6,v.aa9,sk,si,(B2.ab0 (A.ab0.get _ ω)).ld (cs:=[_,_,aK sk,aK si]),?_⟩;refine(AZ hg hv (R:=λr=>r=ym v) rfl).go (vs:=[.agg #[ab9 v.aa6,ab5 v.aa9,aK sk,aK si]]) (hM.trans A.le) A.ag (zo (I.mono A.le) qc) λw x Q r n l S=>?_;subst S;have H:=Qr.1 l;obtain⟨xk,xi,rfl,y1,y2⟩:=qh H;refine⟨_,_,xk,xi,rfl,?_⟩;have hs:=Ko m;have ac:zr (ym v)=Ta:=by rw[Iu];exact m
  have⟨q1,q2,q3,q4⟩:=Zd ac;have ai:=IQ _ (ym v) (zac _);have z8:=A.ab0.size;have af:=n.ab0.size;refine XC.mono (Hs hg (lo:=x.size) (cK (ym v)) (ym v) q1 (zac _) q3 (Ky hv) x Q [] ⟨Te,0,0⟩ ⟨Te,0,0⟩ [] [] _ n.ag (hM.trans (A.le.trans n.le)) ⟨GT.nil,GT.nil,λc b=>ε b⟩ (zac _) (by simp only[zbx];omega) H) ?_;rintro w a ⟨J,V,j,c1,c2,rfl,G,P⟩;rw[zcm,zbx,hs]at P;have G:Grw x Q x.size [] a j (c1++c2):=G;have C:At h2 M a j:=(A.trans n).trans G.later;have ae:=G.grow;refine⟨J,V,rfl,?_⟩;intro F;have⟨T,ah,Z⟩:=jo (g:=F) rfl;clear_value F;refine sZ Z λi N ab O=>?_;have p:At h2 M i j:=At.stay (C.trans (v0 C.ag T)) ω (C.ag.none (zac _)) N ab;have fr:∀c,c<a.size->i[c]?=a[c]?:=λc b=>by rw[N c ω];exact T.get c b
  have D:=P.r1.frame (h':=i) (M':=j) (λc b=>fr c (P.r1.own c b).2.1) (Fr.le.refl _) λc b=>(P.r1.own c b).2.2;have E:=P.r2.frame (h':=i) (M':=j) (λc b=>fr c (P.r2.own c b).2.1) (Fr.le.refl _) λc b=>(P.r2.own c b).2.2;have Y:=P.r1.len;rw[zas,Zy]at Y;have aj:=Zy (zj v) 0;refine⟨J,O.ab1 (o:=0) (k:=0) rfl,λb=>?_,λb=>?_⟩
  ·have b:=zH b;rw[zA ω]at y;exact done i j ([],[]) 6 ⟨Te,0,0⟩ ⟨Te,0,0⟩ p jI jI y
  ·have b:=zI b;rw[zv ω]at y;refine⟨J,V,O.ld (cs:=[aK J,aK V]),?_⟩;have own:∀c∈c1++c2,h2.size<=c:=λc b=>by obtain h|h:=zav.1 b;have:=(D.own c h).1;omega;have:=(E.own c h).1;omega
   exact done i _ (oa (ia (zj v) 0)) 0 J V (At.own p own) (D.rd p.ag (λc b=>zap _ b) (by rw[zas];omega)) (E.rd p.ag (λc b=>zaz _ b) (by rw[zas];omega)) y
end
end
section
section
variable (n m : Nat) (sa sb : Nat -> Nat) (c : Nat -> Nat -> Nat)
def kC:Nat->Nat->Nat->Nat
 |0,_,_=>0
 |f+1,i,j=>
  if n<=i then(if m<=j then 0 else sb j+kC f i (j+1))
  else if m<=j then sa i+kC f (i+1) j
  else min (min (c i j+kC f (i+1) (j+1)) (sa i+kC f (i+1) j)) (sb j+kC f i (j+1))
def jQ(i j:Nat):Nat:=kC n m sa sb c (n-i+(m-j)) i j
def lu:Nat->Nat->Nat->List (Nat×Nat)
 |0,_,_=>[]
 |f+1,i,j=>
  if i<n/\j<m then
   if jQ n m sa sb c i j=c i j+jQ n m sa sb c (i+1) (j+1)then(i,j)::lu f (i+1) (j+1)
   else if jQ n m sa sb c i j=sa i+jQ n m sa sb c (i+1) j then lu f (i+1) j
   else lu f i (j+1)
  else []
def oy(i j:Nat):List (Nat×Nat):=lu n m sa sb c (n-i+(m-j)) i j
end
variable {n m : Nat} {sa sb : Nat -> Nat} {c : Nat -> Nat -> Nat}
theorem Z6:∀(f b i j:Nat),n-i+(m-j)<=f->n-i+(m-j)<=b->kC n m sa sb c f i j=kC n m sa sb c b i j
 |0,0,i,j,_,_=>rfl
 |0,b+1,i,j,h,_=>by unfold kC;grind
 |f+1,0,i,j,_,h=>by unfold kC;grind
 |f+1,b+1,i,j,h,h'=>by unfold kC;by_cases h1:n<=i;rw[zA h1,zA h1];by_cases h2:m<=j;simp_all;rw[zv h2,zv h2,Z6 f b i (j+1) ω ω];rw[zv h1,zv h1];by_cases h2:m<=j;rw[zA h2,zA h2,Z6 f b (i+1) j ω ω];rw[zv h2,zv h2,Z6 f b (i+1) j ω ω,Z6 f b i (j+1) ω ω,Z6 f b (i+1) (j+1) ω ω]
def If(i j:Nat):jQ n m sa sb c i j= if n<=i then(ite (m<=j) 0 (sb j+jQ n m sa sb c i (j+1))) else if m<=j then sa i+jQ n m sa sb c (i+1) j else min (min (c i j+jQ n m sa sb c (i+1) (j+1)) (sa i+jQ n m sa sb c (i+1) j)) (sb j+jQ n m sa sb c i (j+1)):=by
 unfold jQ;rw[Z6 _ (n-i+(m-j)+1) i j (zac _) ω];conv=>lhs;unfold kC
 by_cases h1:n<=i;rw[zA h1,zA h1];by_cases h2:m<=j;simp_all;rw[zv h2,zv h2,Z6 (n-i+(m-j)) _ i (j+1) ω (zac _)];rw[zv h1,zv h1];by_cases h2:m<=j;rw[zA h2,zA h2,Z6 (n-i+(m-j)) _ (i+1) j ω (zac _)];rw[zv h2,zv h2,Z6 (n-i+(m-j)) _ (i+1) j ω (zac _),Z6 (n-i+(m-j)) _ i (j+1) ω (zac _),Z6 (n-i+(m-j)) _ (i+1) (j+1) ω (zac _)]
theorem X0:∀(f b i j:Nat),n-i+(m-j)<=f->n-i+(m-j)<=b->lu n m sa sb c f i j=lu n m sa sb c b i j
 |0,0,i,j,_,_=>rfl
 |0,b+1,i,j,h,_=>by unfold lu;grind
 |f+1,0,i,j,_,h=>by unfold lu;grind
 |f+1,b+1,i,j,h,h'=>by unfold lu;by_cases h1:i<n/\j<m;rw[zA h1,zA h1,X0 f b (i+1) j ω ω,X0 f b i (j+1) ω ω,X0 f b (i+1) (j+1) ω ω];grind
def qmh(i j:Nat):oy n m sa sb c i j= if i<n/\j<m then if jQ n m sa sb c i j=c i j+jQ n m sa sb c (i+1) (j+1)then(i,j)::oy n m sa sb c (i+1) (j+1) else if jQ n m sa sb c i j=sa i+jQ n m sa sb c (i+1) j then oy n m sa sb c (i+1) j else oy n m sa sb c i (j+1) else []:=by
 unfold oy;rw[X0 _ (n-i+(m-j)+1) i j (zac _) ω];conv=>lhs;unfold lu
 by_cases h1:i<n/\j<m;rw[zA h1,zA h1,X0 (n-i+(m-j)) _ (i+1) j ω (zac _),X0 (n-i+(m-j)) _ i (j+1) ω (zac _),X0 (n-i+(m-j)) _ (i+1) (j+1) ω (zac _)];grind
def PB(i j n m:Nat):List (Nat×Nat)->Prop
 |[]=>True
 |p::M=>i<=p.1/\j<=p.2/\p.1<n/\p.2<m/\PB (p.1+1) (p.2+1) n m M
theorem PB.less{i j h f n m:Nat}(hi:h<=i)(k:f<=j):∀{M:List (Nat×Nat)},PB i j n m M->PB h f n m M
 |[],_=>trivial
 |_::_,⟨a,b,c,d,e⟩=>⟨ω,ω,c,d,e⟩
def xS:∀(f i j:Nat),PB i j n m (lu n m sa sb c f i j)
 |0,i,j=>trivial
 |f+1,i,j=>by unfold lu;split;rename_i h;split;exact⟨zac _,zac _,h.1,h.2,xS f _ _⟩;split;exact(xS f _ _).less (Nat.le_succ _) (zac _);exact(xS f _ _).less (zac _) (Nat.le_succ _);trivial
end
section
open Go.Lib
section
def Ye(v:Tr)(k:Bt):Tr:=v.aa7.getD (idxOfS v.aa8 k).toNat zT
def X1(v:Tr)(i:Nat):Tr:=v.aa7.getD i zT
def ik(i:Nat):Bt:=bl (Lib.itoa (i:Int))
def lw(p:List Bt):eK:=(bl xF,p,[],zT)
def ml(p:List Bt)(w:Tr):eK:=(bl qR,p,[],w)
def kM(p:List Bt)(w:Tr):eK:=(bl rz,p,[],w)
def jY(D:List Bt->Tr->Tr->List eK)(p:List Bt)(a b:Tr):List eK:=
 ((zt a.aa8).filter λk=>!b.aa8.contains k).map (λk=>lw (p++[k])) ++
  (((zt a.aa8).filter λk=>b.aa8.contains k).flatMap (λk=>D (p++[k]) (Ye a k) (Ye b k)) ++
   ((zt b.aa8).filter λk=>!a.aa8.contains k).map (λk=>ml (p++[k]) (Ye b k)))
def jZ(D:List Bt->Tr->Tr->List eK)(p:List Bt)(a b:Tr)(m:List (Nat×Nat)):List eK:=
 m.flatMap (λq=>D (p++[ik q.1]) (X1 a q.1) (X1 b q.2)) ++
  (((za7 a.aa7.length).filter λi=>!(m.map (·.1)).contains i).reverse.map (λi=>lw (p++[ik i])) ++
   ((za7 b.aa7.length).filter λi=>!(m.map (·.2)).contains i).map (λi=>ml (p++[ik i]) (X1 b i)))
section
variable (rw : List Tr -> List Tr -> Option (List (Nat × Nat)))
def kz:Nat->List Bt->Tr->Tr->List eK
 |0,_,_,_=>[]
 |f+1,p,a,b=>
  if xd a b then []
  else if a.aa6=6/\b.aa6=6 then jY (kz f) p a b
  else if a.aa6=5/\b.aa6=5 then(match rw a.aa7 b.aa7 with
   |some m=>jZ (kz f) p a b m
   |none=>[kM p b])
  else [kM p b]
end
end
section
variable {α:Type} {i:Nat} {v a b:Tr}
def DZ{α:Type}(g:α->Nat)(p:α->Bool):∀l:List α,(l.map g).sum=((l.filter p).map g).sum+((l.filter λx=>!p x).map g).sum
 |[]=>rfl
 |x::l=>by have:=DZ g p l;grind
def Ae{α:Type}(g:α->Nat)(b:∀x,1<=g x):∀l:List α,DB l<=(l.map g).sum
 |[]=>zac _
 |x::l=>by have:=Ae g b l;grind
theorem JS{α:Type}(g g':α->Nat):∀l:List α,(l.map λx=>g x+g' x).sum=(l.map g).sum+(l.map g').sum
 |[]=>rfl
 |x::l=>by have:=JS g g' l;grind
def Fi{α:Type}{g g':α->Nat}:∀{l:List α},(∀x∈l,g x<=g' x)->(l.map g).sum<=(l.map g').sum
 |[],_=>zac _
 |x::l,h=>by have:=Fi (l:=l) λy b=>h y (zan _ b);grind
theorem ve{g:α->Nat}{l b:List α}(h:l.Perm b):(l.map g).sum=(b.map g).sum:=(h.map g).sum_nat
def zX{A B:List α}(b:A.Nodup)(hb:B.Nodup)(h:∀x,x∈A↔x∈B):A.Perm B:=(List.perm_ext_iff_of_nodup b hb).2 h
theorem rQ:∀l:List Tr,xc l=(l.map cK).sum
 |[]=>rfl
 |x::l=>by rw[zbk,List.sum_cons,<-rQ l];rfl
def uN(v:Tr):1<=cK v:=by cases v;unfold cK;omega
def IT{α β:Type}{A:List α}{B:List β}{M:List (α×β)}{ga:α->Nat}{gb:β->Nat}{D:α×β->Nat}(b:α->Bool)(pb:β->Bool) (h1:(A.filter b).Perm (M.map (·.1))) (h2:(B.filter pb).Perm (M.map (·.2))) (e:∀x,1<=ga x) (hb:∀x,1<=gb x) (c:∀q∈M,D q<=ga q.1+gb q.2):(A.filter λx=>!b x).length+(M.map D).sum+(B.filter λx=>!pb x).length<=(A.map ga).sum+(B.map gb).sum:=by have s1:=DZ ga b A;have s2:=DZ gb pb B;rw[ve h1,zbo]at s1;rw[ve h2,zbo]at s2;have f:=Ae ga e (A.filter λx=>!b x);have h:=Ae gb hb (B.filter λx=>!pb x);have t:=Fi c;grind [JS]
def Qi{i j n m:Nat}:∀{M:List (Nat×Nat)},PB i j n m M->(∀q∈M,i<=q.1/\q.1<n/\j<=q.2/\q.2<m)/\(M.map (·.1)).Nodup/\(M.map (·.2)).Nodup
 |[],_=>⟨λq f=>(nomatch f),zee,zee⟩
 |p::M,⟨a,b,c,d,e⟩=>by have⟨h,u,v⟩:=Qi e;grind
theorem KU(v:Tr):(za7 (DB v.aa7)).map (X1 v)=v.aa7:=by refine List.ext_getElem ξ λi h1 h2=>?_;rw[zcx,List.getElem_range];unfold X1;simp_all
theorem Na{l:List Bt}(h:l.Nodup)(hi:i<DB l):idxOfS l l[i]=(i:Int):=by obtain⟨_,h2⟩|⟨k,h1,h2,b⟩:=Xt l[i] l 0;simp_all;unfold idxOfS;rw[h1,zax];rw[zam h2]at b;rw[(List.getElem_inj h).1 (za9 b)]
theorem Cg(c:v.aa8.Nodup)(b:v.aa8.length=DB v.aa7):v.aa8.map (Ye v)=v.aa7:=by refine List.ext_getElem (ϑ b) λi h1 h2=>?_;rw[zcx];unfold Ye;rw[Na c ω,zag,za8,zam h2];rfl
def zM(h:Zo zm v=Ta)(b:v.aa6=6):v.aa8.Nodup/\DB v.aa8=DB v.aa7:=by cases v;rename_i k s ks xs;unfold Zo at h;rw[zaw]at h;have h:=h.1;have b:k=6:=b;subst b;simp[zm,yj,Tr.aa6,Tr.aa8,Tr.aa7]at h;simp_all
def tW(c:v.aa8.Nodup)(b:v.aa8.length=DB v.aa7){k:Bt}(e:k∈v.aa8):Ye v k∈v.aa7:=by rw[<-Cg c b];grind
def re(h:i<DB v.aa7):X1 v i∈v.aa7:=by unfold X1;simp_all
theorem QC{D:List Bt->Tr->Tr->List eK}{p:List Bt}(na:a.aa8.Nodup)(c:b.aa8.Nodup)(la:a.aa8.length=DB a.aa7)(lb:b.aa8.length=DB b.aa7)(h:∀p x y,x∈a.aa7->y∈b.aa7->(D p x y).length<=cK x+cK y):(jY D p a b).length<=xc a.aa7+xc b.aa7:=by
 have f:=qz a.aa8;have pb:=qz b.aa8;have l:∀k,k∈zt a.aa8↔k∈a.aa8:=λk=>f.mem_iff;have n:∀k,k∈zt b.aa8↔k∈b.aa8:=λk=>pb.mem_iff;have H:=IT (A:=zt a.aa8) (B:=zt b.aa8) (M:=((zt a.aa8).filter λk=>b.aa8.contains k).map λk=>(k,k)) (ga:=λk=>cK (Ye a k)) (gb:=λk=>cK (Ye b k)) (D:=λq=>(D (p++[q.1]) (Ye a q.1) (Ye b q.2)).length) (λk=>b.aa8.contains k) (λk=>a.aa8.contains k) (by rw[zbo];simp only[Function.comp_def,List.map_id'];simp) (by rw[zbo];simp only[Function.comp_def,List.map_id'];refine zX ((pb.nodup_iff.2 c).filter _) ((f.nodup_iff.2 na).filter _) λx=>?_;grind) (λ_=>uN _) (λ_=>uN _) (by intro q i;obtain⟨k,e,rfl⟩:=zbr.1 i;rw[List.mem_filter,l,List.contains_iff_mem]at e;exact h _ _ _ (tW na la e.1) (tW c lb e.2));rw[ve f,ve pb]at H;have j:(a.aa8.map λk=>cK (Ye a k)).sum=xc a.aa7:=by rw[rQ,<-Cg na la,zbo];rfl
 have m:(b.aa8.map λk=>cK (Ye b k)).sum=xc b.aa7:=by rw[rQ,<-Cg c lb,zbo];rfl
 rw[j,m,zbo]at H;unfold jY;rw[zah,zah,zas,zas,List.length_flatMap];simp only[Function.comp_def]at H;omega
theorem N3{D:List Bt->Tr->Tr->List eK}{p:List Bt}{m:List (Nat×Nat)}(e:PB 0 0 (DB a.aa7) (DB b.aa7) m)(l:∀p x y,x∈a.aa7->y∈b.aa7->(D p x y).length<=cK x+cK y):(jZ D p a b m).length<=xc a.aa7+xc b.aa7:=by
 have⟨hb,f,j⟩:=Qi e;have H:=IT (A:=za7 (DB a.aa7)) (B:=za7 (DB b.aa7)) (M:=m) (ga:=λi=>cK (X1 a i)) (gb:=λi=>cK (X1 b i)) (D:=λq=>(D (p++[ik q.1]) (X1 a q.1) (X1 b q.2)).length) (λi=>(m.map (·.1)).contains i) (λi=>(m.map (·.2)).contains i) (zX (zep.filter _) f λx=>η) (zX (zep.filter _) j λx=>η) (λ_=>uN _) (λ_=>uN _) (λq c=>l _ _ _ (re (hb q c).2.1) (re (hb q c).2.2.2));have h:((za7 (DB a.aa7)).map λi=>cK (X1 a i)).sum=xc a.aa7:=by
  conv=>rhs;rw[<-KU a]
  rw[rQ,zbo];rfl
 have k:((za7 (DB b.aa7)).map λi=>cK (X1 b i)).sum=xc b.aa7:=by
  conv=>rhs;rw[<-KU b]
  rw[rQ,zbo];rfl
 rw[h,k]at H;unfold jZ;simp_all;omega
def Av{rw:List Tr->List Tr->Option (List (Nat×Nat))}(h:∀us ws m,rw us ws=Td m->PB 0 0 (DB us) (DB ws) m):∀(f:Nat) (p:List Bt) (a b:Tr),Zo zm a=Ta->Zo zm b=Ta->(kz rw f p a b).length<=cK a+cK b
 |0,p,a,b,_,_=>zar _
 |f+1,p,a,b,ha,hb=>by have l:=jr a;have tb:=jr b;have j:∀p x y,x∈a.aa7->y∈b.aa7->(kz rw f p x y).length<=cK x+cK y:=λp x y i e=>Av h f p x y (jm ha i) (jm hb e);unfold kz;split;simp;split;rename_i c;have⟨na,la⟩:=zM ha c.1;have⟨k,lb⟩:=zM hb c.2;grind [QC];grind [N3]
end
section
def vI:∀{l:List Tr} {x:Tr},x∈l->iB x<=ie l
 |y::l,x,h=>by unfold ie;obtain rfl|h:=zal.1 h;omega;have:=vI h;omega
end
end
section
open Go.Lib
variable {v:Tr} {l:List Tr} {k:Nat}
structure GV (v:Tr):Prop where
 r:zr v=Ta
 s:Sm v
def NK{v x:Tr}(h:zr v=Ta)(c:x∈v.aa7):zr x=Ta:=by unfold zr xa at h ⊢;rw[zaw,zaw]at h ⊢;have h1:=qi c;have h2:=vI c;have e:=lX v;have a:=zH h.1.1;have b:=zH h.1.2;exact⟨⟨zJ ω,zJ ω⟩,jm h.2 c⟩
theorem GV.item{v x:Tr}(H:GV v)(b:x∈v.aa7):GV x:=⟨NK H.r b,H.s.item b⟩
theorem GV.open(H:GV v):wm v=Ta:=NU H.r
theorem GV.ok(H:GV v):Zo zm v=Ta:=rU H.open
theorem GV.dp(H:GV v):iB v<=32:=by have h:=H.r;unfold zr xa at h;simp_all
theorem GV.sz(H:GV v):cK v<=4096:=MK H.open
theorem GV.len(H:GV v):v.aa7.length<=4096:=by have:=H.sz;grind [we,jr]
theorem GV.aa8(H:GV v)(b:v.aa6=6):v.aa8.Nodup/\DB v.aa8=DB v.aa7:=zM H.ok b
def Fj(v:Tr):(xr v).1.1.length<=512/\(xr v).1.2.length<=512:=by unfold xr;split;split;simp;rename_i h;have:=Zy (zj v) 0;unfold oa;simp_all;simp
def jP(l:List Tr):Nat:=(l.map λv=>(xr v).1.1.length).sum
def yr(l:List Tr):Option (List (List Bt×List Int)):=if 64<l.length\/(l.any λv=>decide ((xr v).2≠0))=Ta\/512<jP l then Te else Td (l.map λv=>(xr v).1)
def jA:Option (List (List Bt×List Int))->List (List Bt×List Int)×Int
 |some x=>(x,0)
 |none=>([],6)
def G6(b:k<DB l):jP (l.take (k+1))=jP (l.take k)+(xr l[k]).1.1.length:=by unfold jP;rw[zai b,zbf,List.sum_append];simp
def PV:jP (l.take k)<=jP l:=by
 unfold jP;conv=>rhs;rw[<-zbz k l]
 grind
theorem EQ{q:Tr->Bool}(b:k<DB l):(l.take (k+1)).any q=((l.take k).any q||q l[k]):=by rw[zai b,List.any_append];simp
def EP(b:k<DB l)(h:(xr l[k]).2≠0\/512<jP (l.take (k+1))):yr l=Te:=by unfold yr;rw[zA];obtain h|h:=h;grind;exact .inr (.inr (zda h PV))
theorem EZ(h1:l.length<=64)(h2:(l.any λv=>decide ((xr v).2≠0))=Tc)(b:jP l<=512):yr l=Td (l.map λv=>(xr v).1):=by unfold yr;simp_all
section
variable {gl : Fr}
def Kl(p:GL gl)(hb:Brn gl)(m:∀v∈l,GV v)(x:l.length<=1000000){R:List (List Bt×List Int)×Int->Prop}(h:R (jA (yr l))):ab4 gl 182 [up (.row .tree) l] [.row iW,.int .i64] R:=by
 apply zn4;refine⟨λi=>∃k:Nat,i=k/\k<=DB l,λi=>DB l-i.toNat,⟨0,rfl,zar _⟩,?_⟩;rintro i ⟨k,rfl,u⟩;refine⟨λe=>?_,λe=>?_⟩;have b:k<DB l:=by simp at e;omega
 have f:=m _ (zak b);refine⟨l[k],⟨ω,ξ⟩,?_⟩;rw[qw];refine Wp p f.s ?_;rw[f.r];grind [qd];refine⟨λc=>?_,λc=>?_⟩;have:yr l=Te:=by unfold yr;rw[zA (.inl η)]
 rw[this]at h;exact h;have c:l.length<=64:=ν c
 refine⟨λout a i=>∃k:Nat,i=k/\k<=DB l/\out=(l.take k).map (λv=>(xr v).1)/\a=512-(jP (l.take k):Int)/\jP (l.take k)<=512/\((l.take k).any λv=>decide ((xr v).2≠0))=Tc,λ_ _ i=>DB l-i.toNat,⟨0,rfl,zar _,rfl,rfl,zar _,rfl⟩,?_⟩;rintro out a i ⟨k,rfl,u,rfl,rfl,o,j⟩;refine⟨λe=>?_,λe=>?_⟩;have b:k<DB l:=by simp at e;omega
 have f:=m _ (zak b);refine⟨l[k],⟨ω,ξ⟩,?_⟩;rw[qw];refine TQ p hb f.s ?_;have w:=(Fj l[k]).1;have hL:=G6 b;rw[fK (n:=512-(jP (l.take k):Int)-((xr l[k]).1.1.length:Nat)) ω];refine⟨λt=>?_,λt=>?_⟩;have:yr l=Te:=EP b η;rw[this]at h;exact h;have q:(xr l[k]).2=0/\¬512-(jP (l.take k):Int)-((xr l[k]).1.1.length:Nat)<0:=by cases he:((xr l[k]).2 != 0);simp_all;simp_all
 rw[qd b ω];refine⟨φ,⟨k+1,rfl,b,?_,ω,ω,?_⟩,η⟩;rw[zai b,zbf];rfl;rw[EQ b,j];grind;have:k=DB l:=by simp at e;omega
 subst this;rw[za2]at o j ⊢;rw[EZ c j o]at h;exact h
def GU(q:GL gl)(o:∀v∈l,GV v)(y:l.length<=1000000){R:List (List Bt×List Int)×Int->Prop}(h:R (jA (yr l))):ab4 gl 191 [up (.row .tree) l] [.row iW,.int .i64] R:=by
 apply VD;refine⟨λi=>∃k:Nat,i=k/\k<=DB l,λi=>DB l-i.toNat,⟨0,rfl,zar _⟩,?_⟩;rintro i ⟨k,rfl,w⟩;refine⟨λe=>?_,λe=>?_⟩;have b:k<DB l:=by simp at e;omega
 have j:=o _ (zak b);refine⟨l[k],⟨ω,ξ⟩,?_⟩;rw[qw];refine Wq q j.s ?_;rw[j.r];grind [qd];refine⟨λc=>?_,λc=>?_⟩;have:yr l=Te:=by unfold yr;rw[zA (.inl η)]
 rw[this]at h;exact h;have c:l.length<=64:=ν c
 refine⟨λout f i=>∃k:Nat,i=k/\k<=DB l/\out=(l.take k).map (λv=>(xr v).1)/\f=(jP (l.take k):Int)/\jP (l.take k)<=512/\((l.take k).any λv=>decide ((xr v).2≠0))=Tc,λ_ _ i=>DB l-i.toNat,⟨0,rfl,zar _,rfl,rfl,zar _,rfl⟩,?_⟩;rintro out f i ⟨k,rfl,w,rfl,rfl,p,m⟩;refine⟨λe=>?_,λe=>?_⟩;have b:k<DB l:=by simp at e;omega
 have j:=o _ (zak b);refine⟨l[k],⟨ω,ξ⟩,?_⟩;rw[qw];refine Ve q j.s ?_;have x:=(Fj l[k]).1;have hL:=G6 b;rw[fK (n:=(jP (l.take k):Int)+((xr l[k]).1.1.length:Nat)) ω];refine⟨λu=>?_,λu=>?_⟩;have:yr l=Te:=EP b η;rw[this]at h;exact h;have t:(xr l[k]).2=0/\¬(jP (l.take k):Int)+((xr l[k]).1.1.length:Nat)>512:=by cases he:((xr l[k]).2 != 0);simp_all;simp_all
 rw[qd b ω];refine⟨φ,⟨k+1,rfl,b,?_,ω,ω,?_⟩,η⟩;rw[zai b,zbf];rfl;rw[EQ b,m];grind;have:k=DB l:=by simp at e;omega
 subst this;rw[za2]at p m ⊢;rw[EZ c m p]at h;exact h
end
end
end Go.X
