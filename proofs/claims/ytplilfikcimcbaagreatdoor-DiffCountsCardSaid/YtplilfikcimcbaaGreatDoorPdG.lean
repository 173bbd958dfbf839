/- A part of the proof: nothing is stated here for its own sake. -/
import Derived.Test.YtplilfikcimcbaaGreatDoorPdF
open _root_.Array renaming size_push->XY,toList->zcn
open _root_.Bool renaming and_comm->zdp,and_eq_true->YH,cond_true_left->zbd,eq_iff_iff->YW
open _root_.Go.Instr renaming storeAt->YG
open _root_.Int renaming toNat_natCast->XW
open _root_.Go.IntKind renaming wrap->XS
open _root_.List.Pairwise renaming nil->zdw
open _root_.List renaming all_cons->zcr,all_eq_false->zc1,all_eq_true->ZH,append_assoc->YS,drop_zero->za2,flatMap_cons->za1,getD_eq_getElem?_getD->YN,getElem?_eq_getElem->YA,getElem_mem->YI,length->ZM,length_append->XX,length_cons->YL,length_map->YF,length_nil->zag,length_singleton->ZF,length_take->ZP,map_append->ZT,mem_append->YK,mem_cons->YB,mem_cons_of_mem->XZ,mem_cons_self->YJ,mem_filter->zaq,mem_flatMap->zcf,mem_iff_getElem->zb7,mem_map->ZI,mem_of_getElem?->zbb,mem_of_mem_take->zbz,mem_range->ZR,mem_singleton->YY,nodup_cons->zaj,not_mem_nil->zcx,pairwise_cons->zam,take->zdy,take_left->zc4,take_length->YR,take_succ_eq_append_getElem->YD
open _root_.Nat renaming le_refl->XV,not_lt_zero->zao,zero_add->YP,zero_le->YT
set_option linter.unusedVariables false
set_option maxRecDepth 100000
namespace Go.X
end Go.X
namespace Go.Proofs
end Go.Proofs
open Go Go.X Go.Proofs
open _root_.Bool renaming true->Ta,false->Tc
open _root_.Option renaming some->Td,none->Te
section
namespace Go.X
open Go Go.X Go.Proofs Go.Lib Go.RowKit
section
variable {M gl:Fr} {g:zc} {l:List cR}
theorem opAt(ag:AgM M g){s:Sl}(H:Rd M (.row il) l [aK s]){k:Nat}(i:k<l.length):∃(a:Addr) (sp sf sk si:Sl),(s.a=Td a/\(0:Int)<=(k:Int)/\((k:Nat):Int)<((s.len:Nat):Int))/\zf g (a.add (((k:Nat):Int).toNat*7)) 0 (jg l[k].1 sp sf l[k].2.2.2 sk si) /\
  RdV M (.row .str) l[k].2.1 (aK sp)/\RdV M (.row .str) l[k].2.2.1 (aK sf)/\RdV M .tree l[k].2.2.2 (.agg (Js l[k].2.2.2 sk si).toArray):=by
 obtain⟨t,_,_⟩:=rowLen H;have b1:(0:Int)<=(k:Int)/\((k:Nat):Int)<((s.len:Nat):Int):=by omega
 obtain⟨b,o,cs,n,j,p⟩:=Go.X.rowAt H i;have r:RdV M il l[k] (.agg (cut cs (o+k*sz il) (sz il)).toArray):=by unfold RdV;simp only[iu,if_true];exact⟨_,rfl,p⟩
 obtain⟨sp,sf,sk,si,c,h,m,f⟩:=V6 r;have e:cut cs (o+k*7) 7=jg l[k].1 sp sf l[k].2.2.2 sk si:=by injection c with c;have:=congrArg zcn c;simpa[show sz il=7 from rfl]using this
 refine⟨⟨b,o,Te⟩,sp,sf,sk,si,⟨n,b1⟩,?_,h,m,f⟩;rw[hH,XW];exact o7 ag j (vs:=jg l[k].1 sp sf l[k].2.2.2 sk si) e
theorem Mj{b:Nat}{cs:Array Value}(B:Blk g b cs)(e:cs.size=7){s:Bt}{sp sf sk si:Sl}{v:Tr}{K:zc->Prop}(h:∀g',(∀k,k≠b->g'[k]?=g[k]?)->g'.size=g.size->Blk g' b (jg s sp sf v sk si).toArray->K g'):
  XRunU Tp (YG 50 (.pointer (Td ⟨b,0,Te⟩)) (.agg (jg s sp sf v sk si).toArray)) g K:=by
 refine mV (vs:=jg s sp sf v sk si) (by kernel_rfl) B rfl (by kernel_rfl) (by rw[e];exact XV _) (λu c=>?_) λg' f j i=>h g' i j (by rw[CK (by rw[e];rfl)]at f;exact f);simp[jg]at c;rcases c with rfl|rfl|rfl|rfl|rfl|rfl|rfl <;> rfl
def j4(l:List cR):Bt×Int:=if l.all y8 then(bl (l.flatMap jt),0)else(⟨#[]⟩,1)
theorem Iq(c:∀o∈l,OpQ o)(b:l.all y8=Ta):(l.flatMap jt).length<=l.length*200000000000:=by
 induction l with
 |nil=>simp
 |cons o l f=>rw[zcr,YH]at b;have h1:=vm b.1 (c o YJ);have h:=f (λo e=>c o (XZ _ e)) b.2;rw[za1,XX,YL];omega
theorem GU(s:Bt)(n:Int):ig M [.str,.int .i64] (s,n) (.tuple #[.string s,.int .i64 n]):=⟨[_,_],⟨_,_,rfl,rdStr _,_,rfl,jJ .i64 n⟩,rfl⟩
set_option maxHeartbeats 1000000 in
set_option maxRecDepth 100000 in
theorem HS(hg:GL gl)(hb:Brn gl)(hq:∀o∈l,OpQ o)(hn:l.length<=500){R:Bt×Int->Prop}(hR:R (j4 l)):PC Tp gl 38 [Arg.mk (.row il) l] [.str,.int .i64] R:=by
 intro h M vs hM ag ha
 match vs,ha with
 |[u],⟨hu,_⟩=>
  obtain⟨s,rfl,Q⟩:=jW hu;have Q:Rd M (.row il) l [aK s]:=Q;obtain⟨p,_,_⟩:=rowLen Q;apply PX.of;apply XI s;intro h1;have B1:Bld h1 h.size []:=Bld.new h;have k1:Keep h.size h h1:=Keep.push _ _ (XV _);have z1:h1.size=h.size+1:=XY _;clear_value h1;have ab:∀g,Keep h.size h g->l.all y8=Tc->∃M' r,Later h M g M'/\ig M' [.str,.int .i64] r (.tuple #[.string (⟨#[]⟩:Bt),.int .i64 1])/\R r:=λg k e=>by refine⟨M,j4 l,Later.same ag k,?_,hR⟩;unfold j4;rw[za (by rw[e];decide)];exact GU _ _
  refine⟨λx g=>∃n:Nat,x=(n:Int)/\n<=l.length/\Keep h.size h g/\(l.take n).all y8=Ta/\Bld g h.size ((l.take n).flatMap jt),λx _=>l.length-x.toNat,⟨0,rfl,YT _,k1,rfl,B1⟩,?_⟩;rintro x g ⟨n,rfl,au,O,c,P⟩;have zg:=O.size;have al:=P.lt;refine⟨λE=>?_,λE=>?_⟩;have b:n<l.length:=by rw[p]at E;simpa using E
  have C:=hq l[n] (YI b);obtain⟨a,sp,sf,sk,si,ea,T,r1,r2,r3⟩:=opAt (ag.keep O) Q b;refine⟨a,ea,_,sp,sf,_,_,sk,si,T,?_⟩;intro f;have V:Keep g.size g f:=Keep.push _ _ (XV _);have ai:f.size=g.size+1:=XY _;have aa:Blk f g.size (jg ⟨#[]⟩ ⟨Te,0,0⟩ ⟨Te,0,0⟩ zT ⟨Te,0,0⟩ ⟨Te,0,0⟩).toArray:=Blk.new _ _ _;clear_value f;refine Mj aa rfl λB Y am I=>?_;have J:Keep g.size g B:=⟨by omega,λj y=>by rw[Y j (by omega)];exact V.get j y⟩;have A:Keep h.size h B:=O.trans J zg;refine⟨_,sp,sf,_,_,sk,si,I.ld (cs:=jg l[n].1 sp sf l[n].2.2.2 sk si),?_⟩;have af:PC Tp gl 44 [Arg.mk il l[n]] [.bool] (λr=>r=y8 l[n]):=PU hg C.s rfl;refine af.go (vs:=[.agg (jg l[n].1 sp sf l[n].2.2.2 sk si).toArray]) hM (ag.keep A) (qk (a:=Arg.mk il l[n]) (EH r1 r2 r3) ym) λw H an r ae G t=>?_;have t:r=y8 l[n]:=t;subst t;have i:=ae.keep;have ah:=i.size;have m:Keep h.size h H:=A.trans i (by have:=A.size;omega);refine⟨y8 l[n],ib G,λS=>ab H m ?_,λS=>?_⟩;exact zc1.2 ⟨l[n],YI b,by simpa using S⟩;have z:y8 l[n]=Ta:=by simpa using S
  refine⟨_,sp,sf,_,_,sk,si,(I.ofKeep i).ld (cs:=jg l[n].1 sp sf l[n].2.2.2 sk si),?_⟩;refine TG hg hb C z hM (ag.keep m) r1 r2 r3 λD F=>⟨_,rfl,?_⟩;have ac:Bld D h.size ((l.take n).flatMap jt):=((P.keep J).keep i).keep F;have Z:Keep h.size h D:=m.trans F (by have:=m.size;omega);have fb:=Iq (l:=l.take n) (λo C=>hq o (zbz C)) c;have ar:=vm z C;have:(l.take n).length<=500:=by rw[ZP];omega
  refine Ei ac (jt l[n]) (by omega) λak L U=>⟨_,_,rfl,?_⟩;rw[qz b (by omega)];refine⟨⟨n+1,rfl,b,⟨?_,λj y=>(U.get j y).trans (Z.get j y)⟩,?_,?_⟩,by simp only[XW];omega⟩;have:=L.lt;omega;rw[yN b,c,z];rfl;rw[we _ b];exact L;have b:n=l.length:=by rw[p]at E;simp at E;omega
  subst b;rw[YR]at c P;refine Bw P λaj N=>⟨_,rfl,M,j4 l,?_,?_,hR⟩;exact Later.same ag ⟨by have:=N.size;omega,λj y=>(N.get j y).trans (O.get j y)⟩;unfold j4;rw[zb c];exact GU _ _
def w9(l:List cR):List Bt:=l.map λo=>bl (if yb o.2.1 then ic (o.2.1.map lb)else [])
theorem xB(k:GL gl)(m:∀o∈l,SL o.2.1)(r:l.length<=1000000){R:List Bt->Prop}(p:R (w9 l)):PC Tp gl 41 [Arg.mk (.row il) l] [.row .str] R:=by
 apply Ts;refine⟨λout x=>∃n:Nat,x=(n:Int)/\n<=l.length/\out=w9 (l.take n),λ_ x=>l.length-x.toNat,⟨0,rfl,YT _,rfl⟩,?_⟩;rintro out x ⟨n,rfl,i,rfl⟩;refine⟨λf=>?_,λf=>?_⟩;have b:n<l.length:=by simpa using f
 refine⟨l[n],⟨by omega,by simp[b]⟩,?_⟩;have h:∀t:Bs,t=(if yb l[n].2.1 then ic (l[n].2.1.map lb)else [])->(ZM (w9 (l.take n))+ZM ([bl t]:List Bt))*16<=140737488355328/\(∃c:Nat,(XS .i64 ((n:Int)+1))=(c:Int)/\c<=l.length/\w9 (l.take n)++[bl t]=w9 (l.take c))/\l.length-(XS .i64 ((n:Int)+1)).toNat<l.length-(n:Int).toNat:=λt j=>by rw[qz b (by omega)];refine⟨?_,⟨n+1,rfl,b,?_⟩,by simp only[XW];omega⟩;unfold w9;rw[YF,ZP,ZF];omega;unfold w9;rw[YD b,ZT,j];rfl
 refine DR k (m _ (YI b)) (λe=>?_) λe=>?_;exact h _ (by rw[zb e]);exact h _ (by rw[za (by rw[e];decide)]);have b:n=l.length:=by simp at f;omega
 subst b;rw[YR];exact p
theorem Ou(k:∀o∈l,SL o.2.1)(p:l.length<=1000000){R:List Bt->Prop}(m:R (w9 l)):PC Tp gl 42 [Arg.mk (.row il) l] [.row .str] R:=by
 apply U8;refine⟨λout x=>∃n:Nat,x=(n:Int)/\n<=l.length/\out=w9 (l.take n),λ_ x=>l.length-x.toNat,⟨0,rfl,YT _,rfl⟩,?_⟩;rintro out x ⟨n,rfl,i,rfl⟩;refine⟨λf=>?_,λf=>?_⟩;have b:n<l.length:=by simpa using f
 refine⟨l[n],⟨by omega,by simp[b]⟩,?_⟩;have h:∀t:Bs,t=(if yb l[n].2.1 then ic (l[n].2.1.map lb)else [])->(ZM (w9 (l.take n))+ZM ([bl t]:List Bt))*16<=140737488355328/\(∃c:Nat,(XS .i64 ((n:Int)+1))=(c:Int)/\c<=l.length/\w9 (l.take n)++[bl t]=w9 (l.take c))/\l.length-(XS .i64 ((n:Int)+1)).toNat<l.length-(n:Int).toNat:=λt j=>by rw[qz b (by omega)];refine⟨?_,⟨n+1,rfl,b,?_⟩,by simp only[XW];omega⟩;unfold w9;rw[YF,ZP,ZF];omega;unfold w9;rw[YD b,ZT,j];rfl
 refine GN (k _ (YI b)) (λe=>?_) λe=>?_;exact h _ (by rw[zb e]);exact h _ (by rw[za (by rw[e];decide)]);have b:n=l.length:=by simp at f;omega
 subst b;rw[YR];exact m
theorem FI{p:List Bt}(h:PS p){R:Bt->Prop}(b:R (bl (iJ p))):PC Tp gl 72 [Arg.mk (.row .str) p] [.str] R:=by apply VA;have c:=AW h;unfold iJ at b;refine GN (PS.sl h) (λe=>?_) λe=>?_;rw[zb e]at b;exact uQ (by omega) b;rw[za (by rw[e];decide)]at b;exact uQ (by simp) b
end
section
variable {gl:Fr} {l:List cR}
structure OpF (o:cR):Prop where
 p:PS o.2.1
 f:PS o.2.2.1
 v:Sm o.2.2.2
 t:i5 o.2.2.2<=200
 d:o.1.size<=100
theorem OpF.q{o:cR}(h:OpF o):OpQ o:=⟨h.p,h.f,h.v⟩
theorem R8{R:Bool->Prop}(h:∀b,(b=Ta->l.length<=30/\∀o∈l,OpF o)->R b):PC Tp gl 37 [Arg.mk (.row il) l] [.bool] R:=by
 refine PC.bd λx=>?_;have f:l.length<=140737488355328:=x ⟨.row il,l⟩ (by simp);apply MX;refine⟨λi=>∃k:Nat,i=k/\k<=l.length/\k<=40/\∀o∈l.take k,OpF o,λi=>l.length-i.toNat,⟨0,rfl,by omega,by omega,by simp⟩,?_⟩;rintro i ⟨k,rfl,G,C,h1⟩;refine⟨λu=>?_,λu=>?_⟩;have F:(k:Int)<l.length/\(k:Int)<40:=by simpa using u
 have j:k<l.length:=by omega
 have m:l[(k:Int).toNat]?=Td l[k]:=by rw[XW];exact YA j
 refine⟨l[k],⟨by omega,m⟩,DF λb1 t=>⟨l[k],λ_=>⟨by omega,m⟩,λb=>b=Ta->PS l[k].2.2.1,λ_=>DF λb f=>f,λb2 p=>⟨l[k],λ_=>⟨by omega,m⟩,λb=>b=Ta->i5 l[k].2.2.2<=200/\Sm l[k].2.2.2,λ_=>?_,λb3 w=>⟨l[k],λ_=>⟨by omega,m⟩,λz=>?_,λz=>?_⟩⟩⟩⟩;rw[j7];exact yD (by omega) λb f e=>⟨by have:=(f e).1;omega,(f e).2⟩;exact h Tc (λe=>by cases e);have D:b1=Ta/\b2=Ta/\b3=Ta/\l[k].1.size<=100:=by cases b1 <;> cases b2 <;> cases b3 <;> simp at z;exact⟨rfl,rfl,rfl,by omega⟩
 obtain⟨r,A,E,B⟩:=D;have y:=w (by rw[r,A];rfl) E;have hO:OpF l[k]:=⟨t r,p r A,y.2,y.1,B⟩;rw[eK (by omega)];refine⟨⟨k+1,by omega,by omega,by omega,λo c=>?_⟩,by simp only[XW];omega⟩;rw[YD j]at c;rcases YK.1 c with c|c;exact h1 o c;rw[YY.1 c];exact hO;refine h _ λe=>?_
 have H:(l.length:Int)<=30:=by simpa using e
 have n:k=l.length:=by
  have:¬((k:Int)<l.length/\(k:Int)<40):=by simpa using u
  omega
 subst n;rw[YR]at h1;exact⟨by omega,h1⟩
theorem Sx{v:Tr}(h:zn v=Ta):v.kind≠0:=λe=>by
 have h1:=(xj h).2.2.2;cases v with
 |mk k s ks xs=>have e:k=0:=e;subst e;unfold Zk at h1;rw[YH]at h1;exact absurd h1.1 (by unfold zl;simp[Tr.kind])
theorem Rk{v:Tr}(h:lw v=Ta):v.kind=0:=(zA h).1
set_option maxHeartbeats 1000000 in
theorem QU(N:GL gl)(O:∀o∈l,OpQ o)(hn:l.length<=500){R:Bt×Int->Prop}(A:R (j4 l)):PC Tp gl 39 [Arg.mk (.row il) l] [.str,.int .i64] R:=by
 apply PE;refine⟨λs i=>∃n:Nat,i=(n:Int)/\n<=l.length/\(l.take n).all y8=Ta/\s=bl ((l.take n).flatMap jt),λ_ i=>l.length-i.toNat,⟨0,rfl,YT _,rfl,rfl⟩,?_⟩;rintro s i ⟨n,rfl,V,j,rfl⟩;refine⟨λH=>?_,λH=>?_⟩;have c:n<l.length:=by simpa using H
 have r:0<=(n:Int)/\l[(n:Int).toNat]?=Td l[n]:=⟨by omega,by simp[c]⟩;have k:=O l[n] (YI c);have fb:=Iq (l:=l.take n) (λo k=>O o (zbz k)) j;have h5:(l.take n).length<=500:=by rw[ZP];omega
 refine⟨l[n],r,?_⟩;simp only[j7];refine T1 N k.s ⟨λB=>?_,λB=>?_⟩;have:j4 l=(⟨#[]⟩,1):=by unfold j4;rw[za];rw[ZH];intro Y;have:=Y l[n] (YI c);rw[this]at B;exact nomatch B
 rw[this]at A;exact A;have t:y8 l[n]=Ta:=by simpa using B
 obtain⟨Z,z,I⟩:=wd t;have ll:=vm t k;have qa:=od k.p;have qb:=od k.f;generalize T:(l.take n).flatMap jt=P at *;have S:∀X:Bs,bl X++l[n].1=bl (X++lb l[n].1):=λX=>by rw[<-zr,Qj]
 have G:∀X:Bs,bl X++(⟨#[32]⟩:Bt)=bl (X++[32]):=λX=>by rw[<-zr]
 have L:∀X:Bs,bl X++(⟨#[10]⟩:Bt)=bl (X++[10]):=λX=>by rw[<-zr]
 have E:∀X:Bs,X.length<=1000000000000000->zw ((bl X).size+(⟨#[32]⟩:Bt).size):=λX h=>Qf (a:=X) (b:=[32]) (by simp only[ZF];omega);have J:∀X:Bs,X.length<=1000000000000000->zw ((bl X).size+(⟨#[10]⟩:Bt).size):=λX h=>Qf (a:=X) (b:=[10]) (by simp only[ZF];omega);have next:∀X:Bs,X=P++jt l[n]->(∃C:Nat,XS .i64 ((n:Int)+1)=(C:Int)/\C<=l.length/\(l.take C).all y8=Ta/\bl X=bl ((l.take C).flatMap jt))/\l.length-(XS .i64 ((n:Int)+1)).toNat<l.length-(n:Int).toNat:=λX w=>by rw[qz c (by omega)];refine⟨⟨n+1,rfl,c,?_,?_⟩,by simp only[XW];omega⟩;rw[yN c,j,t];rfl;rw[we _ c,T,w]
 refine⟨l[n],r,?_,?_⟩;have:=Qf (a:=P) (b:=lb l[n].1) (by omega);rwa[Qj]at this;rw[S];refine⟨E _ (by rw[XX];omega),l[n],r,?_⟩;rw[G];refine FI k.p ⟨Qf (by simp only[XX,ZF];omega),?_⟩;rw[zr];intro F y;have m:∀X:Bs,(kG (lb l[n].1)=Tc/\X=P++lb l[n].1++[32]++iJ l[n].2.1\/kG (lb l[n].1)=Ta/\X=P++lb l[n].1++[32]++iJ l[n].2.1++[32]++iJ l[n].2.2.1)->F (bl X):=λX w=>by
  have lX:X.length<=200000000000000:=by rcases w with⟨_,rfl⟩|⟨_,rfl⟩ <;> (simp only[XX,ZF];omega)
  refine y _ ⟨l[n],r,λD=>⟨l[n],r,?_⟩,λD=>?_⟩;have x:jT (lb l[n].1)=Ta:=by
   cases e:jT (lb l[n].1)with
   |true=>rfl
   |false=>rw[Rk (I e)]at D;exact nomatch D
  have M:=z x;have ps:=Fe M k.v;have u:kG (lb l[n].1)=Tc:=by have:=zA x;unfold kG;refine decide_eq_false ?_;rcases this with e|e|e <;> rw[e] <;> decide
  refine PW N k.v ?_;have U:Y7 l[n].2.2.2=(bl (Qv Tc 0 l[n].2.2.2 0),0):=by unfold Y7;rw[zb M]
  rw[U];refine⟨E _ (by omega),?_⟩;rw[G];refine⟨Qf (by simp only[XX,ZF];omega),?_⟩;rw[zr];refine⟨J _ (by simp only[XX,ZF];omega),?_⟩;rw[L];refine next _ ?_
  unfold jt Y0;rw[za (by rw[u];decide),zb x,tU];rcases w with⟨_,rfl⟩|⟨e,_⟩;simp only[YS];rw[u]at e;exact nomatch e;have x:jT (lb l[n].1)=Tc:=by
   cases e:jT (lb l[n].1)with
   |false=>rfl
   |true=>exact absurd (by simpa using D) (Sx (z e))
  refine⟨J _ (by omega),?_⟩;rw[L];refine next _ ?_
  unfold jt Y0;rcases w with⟨e,rfl⟩|⟨e,rfl⟩;rw[za (by rw[e];decide),za (by rw[x];decide),Eh];simp only[YS];rw[zb e,tU];simp only[YS]
 refine⟨l[n],r,l[n],λ_=>r,?_⟩;simp only[sN];have Q:(bif decide (lb l[n].1=(#[109,111,118,101]:Array UInt8).toList)then Ta else decide (lb l[n].1=(#[99,111,112,121]:Array UInt8).toList))=kG (lb l[n].1):=by unfold kG ow rT;rw[zbd,YW];simp
 rw[Q];refine⟨λu=>⟨E _ (by simp only[XX,ZF];omega),l[n],r,?_⟩,λu=>m _ (.inl ⟨u,rfl⟩)⟩;rw[G];refine FI k.f ⟨Qf (by simp only[XX,ZF];omega),?_⟩;rw[zr];exact m _ (.inr ⟨u,rfl⟩);have c:n=l.length:=by simp at H;omega
 subst c;rw[YR]at j ⊢;unfold j4 at A;rw[zb j]at A;exact A
end
section
def d1:Tr:=.mk 3 (bl [49]) [] []
def d2:Tr:=.mk 3 (bl [50]) [] []
def d3:Tr:=.mk 3 (bl [51]) [] []
def d0:Tr:=.mk 3 (bl [48]) [] []
def dRa:Tr:=.mk 5 ⟨#[]⟩ [] [d1,d2]
def dRb:Tr:=.mk 5 ⟨#[]⟩ [] [d1,d3]
def dA:Tr:=.mk 6 ⟨#[]⟩ [⟨#[97]⟩,⟨#[98]⟩] [d1,dRa]
def dB:Tr:=.mk 6 ⟨#[]⟩ [⟨#[98]⟩,⟨#[99]⟩] [dRb,d0]
def dL:List cR:=[oU [⟨#[97]⟩],kH [⟨#[98]⟩,iQ 1] d3,oq [⟨#[99]⟩] d0]
theorem FV{a b:Bt}(h:decide (lb a<=lb b)=Ta):zq [a,b]=[a,b]:=by
 unfold zq;rw[List.mergeSort_of_pairwise];show[bl (lb a),bl (lb b)]=_;rw[Qj,Qj];refine zam.2 ⟨λy c=>?_,zam.2 ⟨λy c=>(by cases c),zdw⟩⟩;have:y=lb b:=by simpa using c
 subst this;exact h
theorem OZ:zq dA.keys=[⟨#[97]⟩,⟨#[98]⟩]:=FV (by kernel_rfl)
theorem NE:zq dB.keys=[⟨#[98]⟩,⟨#[99]⟩]:=FV (by kernel_rfl)
theorem TF:kf dRa.items dRb.items=Td [(0,0),(1,1)]:=by kernel_rfl
theorem Su:dR 32 [⟨#[98]⟩] dRa dRb=[kH [⟨#[98]⟩,iQ 1] d3]:=by show(if yw dRa dRb then []else if dRa.kind=6/\dRb.kind=6 then jO (dR 31) [⟨#[98]⟩] dRa dRb else if dRa.kind=5/\dRb.kind=5 then(match kf dRa.items dRb.items with|some m=>jR (dR 31) [⟨#[98]⟩] dRa dRb m|none=>[kH [⟨#[98]⟩] dRb])else [kH [⟨#[98]⟩] dRb])=_;rw[za (by rw[show yw dRa dRb=Tc by kernel_rfl];decide),za (by decide),zb (by decide),TF];kernel_rfl
theorem Ve:jx dA dB=dL:=by
 show(if yw dA dB then []else if dA.kind=6/\dB.kind=6 then jO (dR 32) [] dA dB else if dA.kind=5/\dB.kind=5 then(match kf dA.items dB.items with|some m=>jR (dR 32) [] dA dB m|none=>[kH [] dB])else [kH [] dB])=_;rw[za (by rw[show yw dA dB=Tc by kernel_rfl];decide),zb (by decide)];unfold jO;rw[OZ,NE];have b:([⟨#[97]⟩,⟨#[98]⟩]:List Bt).filter (λk=>!dB.keys.contains k)=[⟨#[97]⟩]:=by kernel_rfl
 have i:([⟨#[97]⟩,⟨#[98]⟩]:List Bt).filter (λk=>dB.keys.contains k)=[⟨#[98]⟩]:=by kernel_rfl
 have c:([⟨#[98]⟩,⟨#[99]⟩]:List Bt).filter (λk=>!dA.keys.contains k)=[⟨#[99]⟩]:=by kernel_rfl
 rw[b,i,c];show[oU [⟨#[97]⟩]]++((dR 32 [⟨#[98]⟩] (Jw dA ⟨#[98]⟩) (Jw dB ⟨#[98]⟩)++[])++[oq [⟨#[99]⟩] (Jw dB ⟨#[99]⟩)])=_;have h:Jw dA ⟨#[98]⟩=dRa:=by kernel_rfl
 have e:Jw dB ⟨#[98]⟩=dRb:=by kernel_rfl
 have f:Jw dB ⟨#[99]⟩=d0:=by kernel_rfl
 rw[h,e,f,Su];rfl
theorem Vk:zn dA=Ta:=by kernel_rfl
theorem Tl:zn dB=Ta:=by kernel_rfl
theorem VO:iE dA dB=(dL,0):=by unfold iE;rw[Vk,Tl,Ve];rfl
theorem Tx:j4 dL=(bl [114,101,109,111,118,101,32,34,47,97,34,10,114,101,112,108,97,99,101,32,34,47,98,47,49,34,32,51,10,97,100,100,32,34,47,99,34,32,48,10],0):=by kernel_rfl
theorem Mf:w9 dL=[⟨#[47,97]⟩,⟨#[47,98,47,49]⟩,⟨#[47,99]⟩]:=by kernel_rfl
end
section
variable {f:FuncId} {args:Array Value} {h:zc} {g:Bool} {M:Fr} {b:Nat} {s1 s2:Bt} {k:Int} {a:Sl} {l:List Tr}
theorem Es{x y:Sl}(e:aK x=aK y):x=y:=by unfold aK at e;injection e with e1 e2 e3;cases x;cases y;simp_all
theorem LY(c:g=Ta){Kt:Bool->zc->Prop}(E:XC Tp f args h λv h'=>∃r,v=.bool r/\Kt r h'):
  ∃J:Value->zc->Prop,(g=Ta->XC Tp f args h λv h'=>∃r:Bool,v=.bool r/\J (.bool r) h')/\(g=Tc->∃r:Bool,J (.bool r) h)/\(g=Ta->∀v h',J v h'->∃r:Bool,v=.bool r)/\∀r:Bool,∀h',J (.bool r) h'->Kt r h':=by
 refine⟨λv h'=>∃r,v=.bool r/\Kt r h',λ_=>XC.mono E λv h' ⟨r,e,H⟩=>⟨r,e,r,rfl,H⟩,λb=>(by rw[c]at b;cases b),λ_ v h' ⟨r,e,_⟩=>⟨r,e⟩,λr h' ⟨i,e,H⟩=>?_⟩;injection e with e;subst e;exact H
theorem Md(c:g=Ta){Kt:Sl->zc->Prop}(E:XC Tp f args h λv h'=>∃s,v=aK s/\Kt s h'):
  ∃J:Value->zc->Prop,(g=Ta->XC Tp f args h λv h'=>∃s:Sl,v=aK s/\J (aK s) h')/\(g=Tc->∃s:Sl,J (aK s) h)/\(g=Ta->∀v h',J v h'->∃s:Sl,v=aK s)/\∀s:Sl,∀h',J (aK s) h'->Kt s h':=by
 refine⟨λv h'=>∃s,v=aK s/\Kt s h',λ_=>XC.mono E λv h' ⟨s,e,H⟩=>⟨s,e,s,rfl,H⟩,λb=>(by rw[c]at b;cases b),λ_ v h' ⟨s,e,_⟩=>⟨s,e⟩,λs h' ⟨i,e,H⟩=>?_⟩;rw[Es e];exact H
theorem Si{h h1:zc}{s:Sl}(c:g=Ta){Kt:Sl->zc->Prop}(E:Kt s h1):
  ∃J:Value->zc->Prop,(g=Ta->J (aK s) h1)/\(g=Tc->∃x:Sl,J (aK x) h)/\(g=Ta->∀v h',J v h'->∃x:Sl,v=aK x)/\∀x:Sl,∀h',J (aK x) h'->Kt x h':=by
 refine⟨λv h'=>∃x,v=aK x/\Kt x h',λ_=>⟨s,rfl,E⟩,λb=>(by rw[c]at b;cases b),λ_ v h' ⟨x,e,_⟩=>⟨x,e⟩,λx h' ⟨f,e,H⟩=>?_⟩;rw[Es e];exact H
theorem MY(m:M b=Te){h f:Tr}{w1 w2:List Value}(h1:Rd M .tree h w1)(l:Rd M .tree f w2)(j:w1.length=4)(n:w2.length=4):Rd (Mx M b (w1++w2).toArray) (.row .tree) [h,f] [aK ⟨Td ⟨b,0,Te⟩,2,2⟩]:=by
 have le:Fr.le M (Mx M b (w1++w2).toArray):=λc cs e=>by unfold Mx;by_cases k:c=b;subst k;rw[m]at e;cases e;rw[za k];exact e
 refine⟨_,rfl,_,_,rfl,by simp,.inr ⟨b,0,_,rfl,by unfold Mx;rw[zb rfl],λi hi=>?_⟩⟩;have hi:i<2:=hi;rcases(by omega:i=0\/i=1)with rfl|rfl;have:cut (w1++w2).toArray (0+0*sz .tree) (sz .tree)=w1:=by show zdy 4 (List.drop 0 (w1++w2))=w1;rw[za2,<-j,zc4]
 rw[this];exact Rd.mono le h1;have:cut (w1++w2).toArray (0+1*sz .tree) (sz .tree)=w2:=by show zdy 4 (List.drop 4 (w1++w2))=w2;rw[List.drop_left' j,<-n,YR]
 rw[this];exact Rd.mono le l
theorem Rp:Rd (Mx M b #[.string s1,.string s2]) (.row .str) [s1,s2] [aK ⟨Td ⟨b,0,Te⟩,2,2⟩]:=by refine⟨_,rfl,_,_,rfl,by simp,.inr ⟨b,0,_,rfl,by unfold Mx;rw[zb rfl],λi hi=>?_⟩⟩;have hi:i<2:=hi;rcases(by omega:i=0\/i=1)with rfl|rfl <;> rfl
theorem UF{s1 s2 c:Bt}:Rd (Mx M b #[.string s1,.string s2,.string c]) (.row .str) [s1,s2,c] [aK ⟨Td ⟨b,0,Te⟩,3,3⟩]:=by refine⟨_,rfl,_,_,rfl,by simp,.inr ⟨b,0,_,rfl,by unfold Mx;rw[zb rfl],λi hi=>?_⟩⟩;have hi:i<3:=hi;rcases(by omega:i=0\/i=1\/i=2)with rfl|rfl|rfl <;> rfl
def tV(k:Int)(s:Bt)(a b:Sl):Value:=.agg #[.int .i64 k,.string s,aK a,aK b]
theorem IK{T:Tr}{s:Bt}{a b:Sl}(h:RdV M .tree T (tV k s a b)):Rd M .tree T [.int .i64 k,.string s,aK a,aK b]:=by
 unfold RdV at h;simp only[iu,if_true]at h;obtain⟨cs,e,c⟩:=h;unfold tV at e;injection e with e;have:cs=[.int .i64 k,.string s,aK a,aK b]:=by have:=congrArg zcn e;simpa using this.symm
 rw[<-this];exact c
structure T22 (gl:Fr) (h0:zc) (M0:Fr) (ob:Nat) (ok oi:Sl) (hO:zc) (E:zc->Fr->Prop) (g:zc) (M:Fr):Prop where
 hM:Fr.le gl M
 L:Later h0 M0 g M
 fr:g[ob]?=hO[ob]?
 lt:ob<g.size
 r1:RdV M .tree d1 (tV d1.kind d1.text ok oi)
 e:E g M
structure Bx22 (h0:zc) (ob:Nat) (g:zc) (M:Fr) (b:Nat):Prop where
 B:Blk g b #[.int .i64 0,.string ⟨#[]⟩,aK ⟨Te,0,0⟩,aK ⟨Te,0,0⟩]
 no:M b=Te
 ne:b≠ob
 lo:h0.size<=b
section
variable {gl : Fr} {h0 : zc} {M0 : Fr} {ob : Nat} {ok oi : Sl} {hO : zc} {E : zc -> Fr -> Prop} {g g' : zc} {M M' : Fr}
theorem T22.later(b:∀{g M g' M'},Later g M g' M'->E g M->E g' M')(t:T22 gl h0 M0 ob ok oi hO E g M)(L:Later g M g' M'):T22 gl h0 M0 ob ok oi hO E g' M':= ⟨t.hM.trans L.le,t.L.trans L,(L.keep.get _ t.lt).trans t.fr,by have:=L.keep.size;have:=t.lt;omega,t.r1.mono L.le,b L t.e⟩
theorem Bx22.later(x:Bx22 h0 ob g M b)(L:Later g M g' M'):Bx22 h0 ob g' M' b:= ⟨x.B.keep (L.keep.get _ x.B.lt),by rw[L.old b x.B.lt];exact x.no,x.ne,x.lo⟩
theorem wn(ag:AgM M g)(a b:Bt):∃M',Later g M (g.push (.cells #[.string a,.string b] 9)) M'/\RdV M' (.row .str) [a,b] (aK ⟨Td ⟨g.size,0,Te⟩,2,2⟩):= ⟨_,Later.frz ag _ _,(hG rfl).2 Rp⟩
theorem wo(ag:AgM M g){u w:Tr}{k f:Int}{s c:Bt}{a b e b':Sl}(r:RdV M .tree u (tV k s a b))(h:RdV M .tree w (tV f c e b')):
  ∃M',Later g M (g.push (.cells #[.int .i64 k,.string s,aK a,aK b,.int .i64 f,.string c,aK e,aK b'] 25)) M'/\RdV M' (.row .tree) [u,w] (aK ⟨Td ⟨g.size,0,Te⟩,2,2⟩):=
 ⟨_,Later.frz ag _ _,(hG rfl).2 (MY (w1:=[_,_,_,_]) (w2:=[_,_,_,_]) (ag.none (XV _)) (IK r) (IK h) rfl rfl)⟩
theorem Qp(t:T22 gl h0 M0 ob ok oi hO E g M):Later g M (g.push (.cells #[.int .i64 0,.string ⟨#[]⟩,.slice Te 0 0,.slice Te 0 0] 25)) M/\Bx22 h0 ob (g.push (.cells #[.int .i64 0,.string ⟨#[]⟩,.slice Te 0 0,.slice Te 0 0] 25)) M g.size:= ⟨Later.same t.L.ag (Keep.push _ _ (XV _)),Blk.new _ _ _,t.L.ag.none (XV _),by have:=t.lt;omega,t.L.keep.size⟩
theorem kI(j:GL gl)(t:T22 gl h0 M0 ob ok oi hO E g M){n:Int}{d:Tr}(h1:-1000000<=n)(i:n<=1000000)(h:Tr.mk 3 (bl (Zn (qg (Lib.itoa n)).1)) [] []=d){K:Int->Bt->Sl->Sl->zc->Prop}(l:∀g' M' a b,Later g M g' M'->RdV M' .tree d (tV d.kind d.text a b)->K d.kind d.text a b g'):
  XC Tp 51 #[.int .i64 n] g λv g'=>∃k s a b,v=tV k s a b/\K k s a b g':=by
 refine(ET j h1 i (R:=λr=>r=d) h).go t.hM t.L.ag (qk (a:=Arg.mk (.int .i64) n) (jJ _ _) ym) λw g' M' r L c e=>?_;have e:r=d:=e;subst e;have f:=Y2.1 c;obtain⟨a,b,rfl,_,_⟩:=qn f;exact⟨_,_,a,b,rfl,l g' M' a b L f⟩
theorem mU(t:T22 gl h0 M0 ob ok oi hO E g M){s:Sl}(r:RdV M (.row .tree) l (aK s)){K:Int->Bt->Sl->Sl->zc->Prop}(h:∀g' M' a b,Later g M g' M'->RdV M' .tree (.mk 5 ⟨#[]⟩ [] l) (tV 5 ⟨#[]⟩ a b)->K 5 ⟨#[]⟩ a b g'):
  XC Tp 52 #[aK s] g λv g'=>∃k s a b,v=tV k s a b/\K k s a b g':=by
 refine(TA (gl:=gl) (l:=l) (R:=λr=>r=.mk 5 ⟨#[]⟩ [] l) rfl).go t.hM t.L.ag (qk (a:=Arg.mk (.row .tree) _) r ym) λw g' M' r L c e=>?_;have e:r=.mk 5 ⟨#[]⟩ [] l:=e;subst e;have f:=Y2.1 c;obtain⟨a,b,rfl,_,_⟩:=qn f;exact⟨_,_,a,b,rfl,h g' M' a b L f⟩
theorem vd(t:T22 gl h0 M0 ob ok oi hO E g M){ks:List Bt}{s f:Sl}(j:RdV M (.row .str) ks (aK f))(r:RdV M (.row .tree) l (aK s)){K:Int->Bt->Sl->Sl->zc->Prop}(i:∀g' M' a b,Later g M g' M'->RdV M' .tree (.mk 6 ⟨#[]⟩ ks l) (tV 6 ⟨#[]⟩ a b)->K 6 ⟨#[]⟩ a b g'):
  XC Tp 47 #[aK f,aK s] g λv g'=>∃k s a b,v=tV k s a b/\K k s a b g':=by
 refine(Pj (gl:=gl) (ks:=ks) (l:=l) (R:=λr=>r=.mk 6 ⟨#[]⟩ ks l) rfl).go t.hM t.L.ag (qk (a:=Arg.mk (.row .str) _) j (qk (a:=Arg.mk (.row .tree) _) r ym)) λw g' M' r L c e=>?_;have e:r=.mk 6 ⟨#[]⟩ ks l:=e;subst e;have h:=Y2.1 c;obtain⟨a,b,rfl,_,_⟩:=qn h;exact⟨_,_,a,b,rfl,i g' M' a b L h⟩
theorem HF(t:T22 gl h0 M0 ob ok oi hO E g M)(x:Bx22 h0 ob g M b){s:Bt}{a c:Sl}{K:zc->Prop}
  (i:∀g',(∀j,j≠b->g'[j]?=g[j]?)->g'.size=g.size->Later h0 M0 g' M->Blk g' b #[.int .i64 k,.string s,aK a,aK c]->K g'):XRunU Tp (YG 25 (.pointer (Td ⟨b,0,Te⟩)) (tV k s a c)) g K:=
 mS x.B λg' f z B=>i g' f z ⟨⟨by have:=t.L.keep.size;omega,λj h=>(f j (by have:=x.lo;omega)).trans (t.L.keep.get j h)⟩,t.L.le,t.L.old,AgM.off t.L.ag λc m e=>f c λl=>by rw[l,x.no]at e;exact nomatch e⟩ B
end
theorem Ng:Tr.mk 3 (bl (Zn (qg (Lib.itoa 1)).1)) [] []=d1:=by kernel_rfl
theorem vJ:Tr.mk 3 (bl (Zn (qg (Lib.itoa 2)).1)) [] []=d2:=by kernel_rfl
theorem uZ:Tr.mk 3 (bl (Zn (qg (Lib.itoa 3)).1)) [] []=d3:=by kernel_rfl
theorem t7:Tr.mk 3 (bl (Zn (qg (Lib.itoa 0)).1)) [] []=d0:=by kernel_rfl
theorem sd{b:Bs}(c:b.length<=2048):jA (.mk 3 (bl b) [] []):=by rw[jA,iT];exact⟨⟨by rw[zk];exact c,by simp⟩,trivial⟩
theorem HA{b:Bs}(c:b.length<=2048):Sm (.mk 3 (bl b) [] []):=Sm.few (by rw[i5,iO];simp) (sd c)
theorem FX{a b:Bs}(c:a.length<=2048)(e:b.length<=2048):jA (.mk 5 ⟨#[]⟩ [] [.mk 3 (bl a) [] [],.mk 3 (bl b) [] []]):=by rw[jA,iT,iT,iT];exact⟨⟨by decide,by simp⟩,sd c,sd e,trivial⟩
theorem N6:Sm dA:=by
 refine Sm.few ?_ ?_;have:i5 dA=7:=by kernel_rfl
 omega;unfold dA;rw[jA,iT,iT,iT];exact⟨⟨by decide,by decide⟩,sd (by decide),FX (by decide) (by decide),trivial⟩
theorem WJ:Sm dB:=by
 refine Sm.few ?_ ?_;have:i5 dB=7:=by kernel_rfl
 omega;unfold dB;rw[jA,iT,iT,iT];exact⟨⟨by decide,by decide⟩,FX (by decide) (by decide),sd (by decide),trivial⟩
theorem oF{l:List Bt}(h1:decide (l.length<=200)=Ta)(b:l.all (λx=>decide ((lb x).length<=1024))=Ta):PS l:= ⟨zA h1,λx c=>zA (ZH.1 b x c)⟩
theorem vu:Sm zT:=Sm.few (by unfold zT;rw[i5,iO];simp) (by unfold zT;rw[jA,iT];exact⟨⟨by decide,by simp⟩,trivial⟩)
theorem I6:∀o∈dL,OpQ o:=λo b=>by unfold dL at b;simp only[YB,zcx,or_false]at b;rcases b with rfl|rfl|rfl;exact⟨oF (by kernel_rfl) (by kernel_rfl),oF (by kernel_rfl) (by kernel_rfl),vu⟩;exact⟨oF (by kernel_rfl) (by kernel_rfl),oF (by kernel_rfl) (by kernel_rfl),HA (by decide)⟩;exact⟨oF (by kernel_rfl) (by kernel_rfl),oF (by kernel_rfl) (by kernel_rfl),HA (by decide)⟩
def E22(e:Nat)(c b:Sl)(g:zc)(M:Fr):Prop:=Blk g e #[.int .i64 6,.string ⟨#[]⟩,aK c,aK b]/\RdV M .tree dA (tV 6 ⟨#[]⟩ c b)
theorem E22.later{c:Nat}{f b:Sl}{g g':zc}{M M':Fr}(L:Later g M g' M')(e:E22 c f b g M):E22 c f b g' M':=⟨e.1.keep (L.keep.get _ e.1.lt),e.2.mono L.le⟩
def iZ(_:zc)(_:Fr):Prop:=True
end
end Go.X
end
section
namespace Go.X
open Go Go.X Go.Proofs Go.Lib Go.RowKit
set_option maxHeartbeats 4000000 in
set_option maxRecDepth 100000 in
section
theorem IV{gl:Fr}(hg:GL gl)(hb:Brn gl){R:Bool->Prop}(hR:R Ta):PC Tp gl 30 [] [.bool] R:=by
 intro h M vs hM ag ha
 match vs,ha with
 |[],_=>
 apply PX.of
 apply LM
 refine(ET hg (n:=1) (by decide) (by decide) (R:=λr=>r=d1) Ng).go hM ag (qk (a:=Arg.mk (.int .i64) 1) (jJ _ _) ym) λw F M2 r H Z hr=>?_
 have hr:r=d1:=hr
 subst hr
 have r1:=Y2.1 Z
 obtain⟨ok,oi,rfl,_,_⟩:=qn r1
 refine⟨_,_,ok,oi,rfl,?_⟩
 intro h7
 have k7:Keep F.size F h7:=Keep.push _ _ (XV _)
 have z7:h7.size=F.size+1:=XY _
 have b7:Blk h7 F.size #[.int .i64 0,.string ⟨#[]⟩,aK ⟨Te,0,0⟩,aK ⟨Te,0,0⟩]:=Blk.new _ _ _
 clear_value h7
 refine mS b7 λh8 f8 z8 b8=>?_
 have Y:Later F M2 h8 M2:=Later.same H.ag ⟨by omega,λj hj=>by rw[f8 j (by omega)];exact k7.get j hj⟩
 have co:=H.trans Y
 intro cF ck
 have kA:∀{g:zc} {Mg:Fr} {V:Nat} {ak ai:Sl},T22 gl h M F.size ok oi h8 iZ g Mg->Blk g V #[.int .i64 6,.string ⟨#[]⟩,aK ak,aK ai]->V≠F.size->RdV Mg .tree dA (tV 6 ⟨#[]⟩ ak ai)->cF ⟨V,0,Te⟩ g:=by
  intro Q bn V ak ai am cB da rA
  refine ck _ _ ?_
  intro cw cq
  have B1:Blk Q F.size #[.int .i64 d1.kind,.string d1.text,aK ok,aK oi]:=b8.keep am.fr
  have J:T22 gl h M F.size ok oi Q (E22 V ak ai) Q bn:=⟨am.hM,am.L,rfl,am.lt,am.r1,cB,rA⟩
  have kB:∀{g:zc} {Mg:Fr} {bb:Nat} {bk bi:Sl},T22 gl h M F.size ok oi Q (E22 V ak ai) g Mg->Blk g bb #[.int .i64 6,.string ⟨#[]⟩,aK bk,aK bi]->RdV Mg .tree dB (tV 6 ⟨#[]⟩ bk bi)->cw ⟨bb,0,Te⟩ g:=by
   intro cM cG bb bk bi ah cz rB
   refine cq _ _ ⟨_,_,ak,ai,ah.e.1.ld (cs:=[.int .i64 6,.string ⟨#[]⟩,aK ak,aK ai]),_,_,bk,bi,cz.ld (cs:=[.int .i64 6,.string ⟨#[]⟩,aK bk,aK bi]),?_⟩
   have di:∀{v:Tr},decide (bR v<=100)=Ta->ka 1048576 v->Sm v:=λh1 F=>⟨by have:=zA h1;omega,F⟩
   refine(yZ hg hb (x:=dA) (y:=dB) N6 WJ (R:=λr=>r=(dL,0)) VO).go ah.hM ah.L.ag (qk (a:=Arg.mk .tree dA) ah.e.2 (qk (a:=Arg.mk .tree dB) rB ym)) λw cZ dh r bq Z hr=>?_
   have hr:r=(dL,0):=hr
   subst hr
   obtain⟨us,⟨x1,cH,rfl,q1,x2,rfl,q2⟩,rfl⟩:=Z
   obtain⟨sl,rfl,rl⟩:=jW q1
   rw[hG rfl]at q2
   have e2:x2=.int .i64 0:=by simpa[Rd]using q2
   subst e2
   obtain⟨bz,_,_⟩:=rowLen rl
   have cC:sl.len=3:=bz
   refine⟨sl,_,rfl,?_⟩
   have L0:=ah.L.trans bq
   refine(HS hg hb (l:=dL) I6 (by decide) (R:=λr=>r=_) Tx).go (ah.hM.trans bq.le) bq.ag (qk (a:=Arg.mk (.row il) dL) q1 ym) λw df cY r bm Z hr=>?_
   have hr:r=(bl [114,101,109,111,118,101,32,34,47,97,34,10,114,101,112,108,97,99,101,32,34,47,98,47,49,34,32,51,10,97,100,100,32,34,47,99,34,32,48,10],0):=hr
   subst hr
   obtain⟨us,⟨x1,cH,rfl,q3,x2,rfl,q4⟩,rfl⟩:=Z
   rw[oB q3]
   rw[hG rfl]at q4
   have e4:x2=.int .i64 0:=by simpa[Rd]using q4
   subst e4
   refine⟨_,_,rfl,?_⟩
   have cu:(bif (bif (bif ((0:Int)==0)then((((sl.len:Nat):Int):Int)==3)else Tc)then((0:Int)==0)else Tc)then(((bl [114,101,109,111,118,101,32,34,47,97,34,10,114,101,112,108,97,99,101,32,34,47,98,47,49,34,32,51,10,97,100,100,32,34,47,99,34,32,48,10]:Bt)).toList==((⟨#[114,101,109,111,118,101,32,34,47,97,34,10,114,101,112,108,97,99,101,32,34,47,98,47,49,34,32,51,10,97,100,100,32,34,47,99,34,32,48,10]⟩:Bt):Bt).toList)else Tc)=Ta:=by
    rw[cC]
    kernel_rfl
   have bE:=L0.trans bm
   rw[cu]
   refine Md rfl ?_
   refine(xB hg (l:=dL) (λo ho=>(I6 o ho).s.p) (by decide) (R:=λr=>r=_) Mf).go (hM.trans bE.le) bm.ag (qk (a:=Arg.mk (.row il) dL) (q1.mono bm.le) ym) λw aj bM r bO Z hr=>?_
   have hr:r=[⟨#[47,97]⟩,⟨#[47,98,47,49]⟩,⟨#[47,99]⟩]:=hr
   subst hr
   obtain⟨sp,rfl,rp⟩:=jW (Y2.1 Z)
   refine⟨sp,rfl,?_⟩
   refine Si (s:=⟨Td ⟨aj.size,0,Te⟩,3,3⟩) (h1:=aj.push (.cells #[.string ⟨#[47,97]⟩,.string ⟨#[47,98,47,49]⟩,.string ⟨#[47,99]⟩] 9)) rfl ?_
   have bg:Later aj bM (aj.push (.cells #[.string ⟨#[47,97]⟩,.string ⟨#[47,98,47,49]⟩,.string ⟨#[47,99]⟩] 9)) (Mx bM aj.size #[.string ⟨#[47,97]⟩,.string ⟨#[47,98,47,49]⟩,.string ⟨#[47,99]⟩]):=Later.frz bO.ag _ _
   have bN:=(bE.trans bO).trans bg
   refine LY rfl ?_
   refine(JA (gl:=gl) (a:=[⟨#[47,97]⟩,⟨#[47,98,47,49]⟩,⟨#[47,99]⟩]) (b:=[⟨#[47,97]⟩,⟨#[47,98,47,49]⟩,⟨#[47,99]⟩]) (by decide) (R:=λr=>r=Ta) λr hr=>hr.2 rfl).go (hM.trans bN.le) bg.ag (qk (a:=Arg.mk (.row .str) _) ((hG rfl).2 (rp.mono bg.le)) (qk (a:=Arg.mk (.row .str) _) ((hG rfl).2 UF) ym)) λw cT cE r cA Z hr=>⟨r,ib Z,?_⟩
   have hr:r=Ta:=hr
   subst hr
   exact⟨cE,Ta,bN.trans cA,Y2.2 (rdBool _),hR⟩
  refine⟨_,_,ok,oi,B1.ld (cs:=[.int .i64 d1.kind,.string d1.text,aK ok,aK oi]),?_⟩
  intro bD bI bH bQ bG bL cc bF bT cg bB bZ bA bJ cy cd bu
  have k:∀{g g':zc} {m aA:Fr},T22 gl h M F.size ok oi Q (E22 V ak ai) g m->Later g m g' aA->T22 gl h M F.size ok oi Q (E22 V ak ai) g' aA:=λt L=>t.later E22.later L
  have aG:∀{g:zc} {m:Fr} {A:Nat} {a c:Sl},T22 gl h M F.size ok oi Q (E22 V ak ai) g m->Bx22 h F.size g m A->A≠V->RdV m .tree dB (tV 6 ⟨#[]⟩ a c)->bD ⟨A,0,Te⟩ 6 ⟨#[]⟩ a c g:=λ {g m A a c} t x nx r=>
   HF t x λg' f z L B=>kB ⟨t.hM,L,(f _ (λe=>x.ne e.symm)).trans t.fr,by have:=t.lt;omega,t.r1,t.e.1.keep (f _ (λe=>nx e.symm)),t.e.2⟩ B r
  have az:∀{g:zc} {m:Fr} {A:Nat} {si:Sl} {sk:Sl},T22 gl h M F.size ok oi Q (E22 V ak ai) g m->Bx22 h F.size g m A->A≠V->RdV m (.row .tree) [dRb,d0] (aK si)->RdV m (.row .str) [⟨#[98]⟩,⟨#[99]⟩] (aK sk)->bI ⟨A,0,Te⟩ si sk g:=by
   intro g m A si sk t x nx ri N
   refine vd t N ri λg1 m a1 b1 u v1=>?_
   exact aG (k t u) (x.later u) nx v1
  have aO:∀{g:zc} {m:Fr} {si:Sl} {sk:Sl},T22 gl h M F.size ok oi Q (E22 V ak ai) g m->RdV m (.row .tree) [dRb,d0] (aK si)->RdV m (.row .str) [⟨#[98]⟩,⟨#[99]⟩] (aK sk)->bH si sk g:=by
   intro g m si sk t ri N
   refine⟨?_,?_⟩
   ·refine vd t N ri λg1 m a1 b1 u v1=>?_
    have⟨H,x2⟩:=Qp (k t u)
    exact aG (k (k t u) H) x2 (Nat.ne_of_gt (k t u).e.1.lt) v1
   ·have⟨L3,x3⟩:=Qp t
    exact az (k t L3) x3 (Nat.ne_of_gt t.e.1.lt) ri N
  have aC:∀{g:zc} {m:Fr} {A:Nat} {aa:Int} {ab:Bt} {ae ac:Sl} {C:Int} {D:Bt} {arr E:Sl} {sk:Sl},T22 gl h M F.size ok oi Q (E22 V ak ai) g m->Bx22 h F.size g m A->A≠V->RdV m .tree d0 (tV aa ab ae ac)->RdV m .tree dRb (tV C D arr E)->RdV m (.row .str) [⟨#[98]⟩,⟨#[99]⟩] (aK sk)->bQ ⟨A,0,Te⟩ aa ab ae ac C D arr E sk g:=by
   intro g m A aa ab ae ac C D arr E sk t x nx r0 rr N
   have⟨m,u,i1⟩:=wo t.L.ag rr r0
   exact az (k t u) (x.later u) nx i1 (N.mono u.le)
  have aT:∀{g:zc} {m:Fr} {A:Nat} {si:Sl},T22 gl h M F.size ok oi Q (E22 V ak ai) g m->Bx22 h F.size g m A->A≠V->RdV m (.row .tree) [dRb,d0] (aK si)->bG ⟨A,0,Te⟩ si g:=by
   intro g m A si t x nx ri
   have⟨m,u,k1⟩:=wn t.L.ag ⟨#[98]⟩ ⟨#[99]⟩
   exact az (k t u) (x.later u) nx (ri.mono u.le) k1
  have aS:∀{g:zc} {m:Fr} {aa:Int} {ab:Bt} {ae ac:Sl} {C:Int} {D:Bt} {arr E:Sl} {sk:Sl},T22 gl h M F.size ok oi Q (E22 V ak ai) g m->RdV m .tree d0 (tV aa ab ae ac)->RdV m .tree dRb (tV C D arr E)->RdV m (.row .str) [⟨#[98]⟩,⟨#[99]⟩] (aK sk)->bL aa ab ae ac C D arr E sk g:=by
   intro g m aa ab ae ac C D arr E sk t r0 rr N
   refine⟨?_,?_⟩
   ·have⟨m,u,i1⟩:=wo t.L.ag rr r0
    exact aO (k t u) i1 (N.mono u.le)
   ·have⟨H,x2⟩:=Qp t
    exact aC (k t H) x2 (Nat.ne_of_gt t.e.1.lt) r0 rr N
  have an:∀{g:zc} {m:Fr} {A:Nat} {C:Int} {D:Bt} {arr E:Sl} {sk:Sl},T22 gl h M F.size ok oi Q (E22 V ak ai) g m->Bx22 h F.size g m A->A≠V->RdV m .tree dRb (tV C D arr E)->RdV m (.row .str) [⟨#[98]⟩,⟨#[99]⟩] (aK sk)->cc ⟨A,0,Te⟩ C D arr E sk g:=by
   intro g m A C D arr E sk t x nx rr N
   refine kI hg t (by decide) (by decide) t7 λg1 m a1 b1 u v1=>?_
   exact aC (k t u) (x.later u) nx v1 (rr.mono u.le) (N.mono u.le)
  have aH:∀{g:zc} {m:Fr} {A:Nat} {aa:Int} {ab:Bt} {ae ac:Sl} {C:Int} {D:Bt} {arr E:Sl},T22 gl h M F.size ok oi Q (E22 V ak ai) g m->Bx22 h F.size g m A->A≠V->RdV m .tree d0 (tV aa ab ae ac)->RdV m .tree dRb (tV C D arr E)->bF ⟨A,0,Te⟩ aa ab ae ac C D arr E g:=by
   intro g m A aa ab ae ac C D arr E t x nx r0 rr
   refine⟨?_,?_⟩
   ·have⟨m,u,k1⟩:=wn t.L.ag ⟨#[98]⟩ ⟨#[99]⟩
    exact aC (k t u) (x.later u) nx (r0.mono u.le) (rr.mono u.le) k1
   ·have⟨M2,H,i2⟩:=wo t.L.ag rr r0
    exact aT (k t H) (x.later H) nx i2
  have aI:∀{g:zc} {m:Fr} {C:Int} {D:Bt} {arr E:Sl} {sk:Sl},T22 gl h M F.size ok oi Q (E22 V ak ai) g m->RdV m .tree dRb (tV C D arr E)->RdV m (.row .str) [⟨#[98]⟩,⟨#[99]⟩] (aK sk)->bT C D arr E sk g:=by
   intro g m C D arr E sk t rr N
   refine⟨?_,?_⟩
   ·refine kI hg t (by decide) (by decide) t7 λg1 m a1 b1 u v1=>?_
    exact aS (k t u) v1 (rr.mono u.le) (N.mono u.le)
   ·have⟨H,x2⟩:=Qp t
    exact an (k t H) x2 (Nat.ne_of_gt t.e.1.lt) rr N
  have ax:∀{g:zc} {m:Fr} {A:Nat} {sj:Sl} {sk:Sl},T22 gl h M F.size ok oi Q (E22 V ak ai) g m->Bx22 h F.size g m A->A≠V->RdV m (.row .tree) [d1,d3] (aK sj)->RdV m (.row .str) [⟨#[98]⟩,⟨#[99]⟩] (aK sk)->cg ⟨A,0,Te⟩ sj sk g:=by
   intro g m A sj sk t x nx rj N
   refine mU t rj λg1 m a1 b1 u v1=>?_
   exact an (k t u) (x.later u) nx v1 (N.mono u.le)
  have aV:∀{g:zc} {m:Fr} {A:Nat} {C:Int} {D:Bt} {arr E:Sl},T22 gl h M F.size ok oi Q (E22 V ak ai) g m->Bx22 h F.size g m A->A≠V->RdV m .tree dRb (tV C D arr E)->bB ⟨A,0,Te⟩ C D arr E g:=by
   intro g m A C D arr E t x nx rr
   refine⟨?_,?_⟩
   ·have⟨m,u,k1⟩:=wn t.L.ag ⟨#[98]⟩ ⟨#[99]⟩
    exact an (k t u) (x.later u) nx (rr.mono u.le) k1
   ·refine kI hg t (by decide) (by decide) t7 λg2 M2 a2 b2 H v2=>?_
    exact aH (k t H) (x.later H) nx v2 (rr.mono H.le)
  have aZ:∀{g:zc} {m:Fr} {sj:Sl} {sk:Sl},T22 gl h M F.size ok oi Q (E22 V ak ai) g m->RdV m (.row .tree) [d1,d3] (aK sj)->RdV m (.row .str) [⟨#[98]⟩,⟨#[99]⟩] (aK sk)->bZ sj sk g:=by
   intro g m sj sk t rj N
   refine⟨?_,?_⟩
   ·refine mU t rj λg1 m a1 b1 u v1=>?_
    exact aI (k t u) v1 (N.mono u.le)
   ·have⟨H,x2⟩:=Qp t
    exact ax (k t H) x2 (Nat.ne_of_gt t.e.1.lt) rj N
  have ar:∀{g:zc} {m:Fr} {A:Nat} {P:Int} {O:Bt} {T S:Sl} {sk:Sl},T22 gl h M F.size ok oi Q (E22 V ak ai) g m->Bx22 h F.size g m A->A≠V->RdV m .tree d3 (tV P O T S)->RdV m (.row .str) [⟨#[98]⟩,⟨#[99]⟩] (aK sk)->bA ⟨A,0,Te⟩ P O T S sk g:=by
   intro g m A P O T S sk t x nx r3 N
   have⟨m,u,i1⟩:=wo t.L.ag t.r1 r3
   exact ax (k t u) (x.later u) nx i1 (N.mono u.le)
  have aD:∀{g:zc} {m:Fr} {A:Nat} {sj:Sl},T22 gl h M F.size ok oi Q (E22 V ak ai) g m->Bx22 h F.size g m A->A≠V->RdV m (.row .tree) [d1,d3] (aK sj)->bJ ⟨A,0,Te⟩ sj g:=by
   intro g m A sj t x nx rj
   refine⟨?_,?_⟩
   ·have⟨m,u,k1⟩:=wn t.L.ag ⟨#[98]⟩ ⟨#[99]⟩
    exact ax (k t u) (x.later u) nx (rj.mono u.le) k1
   ·refine mU t rj λg2 M2 a2 b2 H v2=>?_
    exact aV (k t H) (x.later H) nx v2
  have ca:∀{g:zc} {m:Fr} {P:Int} {O:Bt} {T S:Sl} {sk:Sl},T22 gl h M F.size ok oi Q (E22 V ak ai) g m->RdV m .tree d3 (tV P O T S)->RdV m (.row .str) [⟨#[98]⟩,⟨#[99]⟩] (aK sk)->cy P O T S sk g:=by
   intro g m P O T S sk t r3 N
   refine⟨?_,?_⟩
   ·have⟨m,u,i1⟩:=wo t.L.ag t.r1 r3
    exact aZ (k t u) i1 (N.mono u.le)
   ·have⟨H,x2⟩:=Qp t
    exact⟨(k t H).fr,ar (k t H) x2 (Nat.ne_of_gt t.e.1.lt) r3 N⟩
  have aN:∀{g:zc} {m:Fr} {A:Nat} {sk:Sl},T22 gl h M F.size ok oi Q (E22 V ak ai) g m->Bx22 h F.size g m A->A≠V->RdV m (.row .str) [⟨#[98]⟩,⟨#[99]⟩] (aK sk)->cd ⟨A,0,Te⟩ sk g:=by
   intro g m A sk t x nx N
   refine kI hg t (by decide) (by decide) uZ λg1 m a1 b1 u v1=>?_
   exact⟨(k t u).fr,ar (k t u) (x.later u) nx v1 (N.mono u.le)⟩
  have a6:∀{g:zc} {m:Fr} {A:Nat} {P:Int} {O:Bt} {T S:Sl},T22 gl h M F.size ok oi Q (E22 V ak ai) g m->Bx22 h F.size g m A->A≠V->RdV m .tree d3 (tV P O T S)->bu ⟨A,0,Te⟩ P O T S g:=by
   intro g m A P O T S t x nx r3
   refine⟨?_,?_⟩
   ·have⟨m,u,k1⟩:=wn t.L.ag ⟨#[98]⟩ ⟨#[99]⟩
    exact⟨(k t u).fr,ar (k t u) (x.later u) nx (r3.mono u.le) k1⟩
   ·have⟨M2,H,i2⟩:=wo t.L.ag t.r1 r3
    exact aD (k t H) (x.later H) nx i2
  refine⟨?_,?_,?_⟩
  ·have⟨m,u,k1⟩:=wn J.L.ag ⟨#[98]⟩ ⟨#[99]⟩
   refine⟨(k J u).fr,?_,?_⟩
   ·refine kI hg (k J u) (by decide) (by decide) uZ λg2 M2 a2 b2 H v2=>?_
    exact⟨(k (k J u) H).fr,ca (k (k J u) H) v2 (k1.mono H.le)⟩
   ·have⟨L3,x3⟩:=Qp (k J u)
    exact⟨(k (k J u) L3).fr,aN (k (k J u) L3) x3 (Nat.ne_of_gt (k J u).e.1.lt) k1⟩
  ·refine kI hg J (by decide) (by decide) uZ λg4 M4 a4 b4 G v4=>?_
   refine⟨(k J G).fr,?_,?_,?_⟩
   ·have⟨M5,L5,k5⟩:=wn (k J G).L.ag ⟨#[98]⟩ ⟨#[99]⟩
    exact⟨(k (k J G) L5).fr,ca (k (k J G) L5) (v4.mono L5.le) k5⟩
   ·have⟨M6,L6,i6⟩:=wo (k J G).L.ag (k J G).r1 v4
    refine⟨?_,?_,?_⟩
    ·have⟨M7,L7,k7⟩:=wn (k (k J G) L6).L.ag ⟨#[98]⟩ ⟨#[99]⟩
     exact aZ (k (k (k J G) L6) L7) (i6.mono L7.le) k7
    ·refine mU (k (k J G) L6) i6 λg8 M8 a8 b8 Y v8=>?_
     refine⟨?_,?_,?_⟩
     ·have⟨M9,L9,k9⟩:=wn (k (k (k J G) L6) Y).L.ag ⟨#[98]⟩ ⟨#[99]⟩
      exact aI (k (k (k (k J G) L6) Y) L9) (v8.mono L9.le) k9
     ·refine kI hg (k (k (k J G) L6) Y) (by decide) (by decide) t7 λc8 bn cP de U bj=>?_
      refine⟨?_,?_,?_⟩
      ·have⟨M11,L11,k11⟩:=wn (k (k (k (k J G) L6) Y) U).L.ag ⟨#[98]⟩ ⟨#[99]⟩
       exact aS (k (k (k (k (k J G) L6) Y) U) L11) (bj.mono L11.le) ((v8.mono U.le).mono L11.le) k11
      ·have⟨M12,L12,i12⟩:=wo (k (k (k (k J G) L6) Y) U).L.ag (v8.mono U.le) bj
       refine⟨?_,?_⟩
       ·have⟨cG,L13,k13⟩:=wn (k (k (k (k (k J G) L6) Y) U) L12).L.ag ⟨#[98]⟩ ⟨#[99]⟩
        exact aO (k (k (k (k (k (k J G) L6) Y) U) L12) L13) (i12.mono L13.le) k13
       ·have⟨L14,x14⟩:=Qp (k (k (k (k (k J G) L6) Y) U) L12)
        exact aT (k (k (k (k (k (k J G) L6) Y) U) L12) L14) x14 (Nat.ne_of_gt (k (k (k (k (k J G) L6) Y) U) L12).e.1.lt) i12
      ·have⟨L15,x15⟩:=Qp (k (k (k (k J G) L6) Y) U)
       exact aH (k (k (k (k (k J G) L6) Y) U) L15) x15 (Nat.ne_of_gt (k (k (k (k J G) L6) Y) U).e.1.lt) bj (v8.mono U.le)
     ·have⟨L16,x16⟩:=Qp (k (k (k J G) L6) Y)
      exact aV (k (k (k (k J G) L6) Y) L16) x16 (Nat.ne_of_gt (k (k (k J G) L6) Y).e.1.lt) v8
    ·have⟨L17,x17⟩:=Qp (k (k J G) L6)
     exact aD (k (k (k J G) L6) L17) x17 (Nat.ne_of_gt (k (k J G) L6).e.1.lt) i6
   ·have⟨af,x18⟩:=Qp (k J G)
    exact⟨(k (k J G) af).fr,a6 (k (k J G) af) x18 (Nat.ne_of_gt (k J G).e.1.lt) v4⟩
  ·have⟨L19,x19⟩:=Qp J
   refine⟨(k J L19).fr,?_,?_⟩
   ·have⟨M20,L20,k20⟩:=wn (k J L19).L.ag ⟨#[98]⟩ ⟨#[99]⟩
    exact⟨(k (k J L19) L20).fr,aN (k (k J L19) L20) (x19.later L20) (Nat.ne_of_gt J.e.1.lt) k20⟩
   ·refine kI hg (k J L19) (by decide) (by decide) uZ λcQ dl c7 cV be cv=>?_
    exact⟨(k (k J L19) be).fr,a6 (k (k J L19) be) (x19.later be) (Nat.ne_of_gt J.e.1.lt) cv⟩

 have I:T22 gl h M F.size ok oi h8 iZ h8 M2:=⟨hM.trans co.le,co,rfl,by omega,r1,trivial⟩
 refine⟨_,_,ok,oi,b8.ld (cs:=[.int .i64 d1.kind,.string d1.text,aK ok,aK oi]),_,_,ok,oi,b8.ld (cs:=[.int .i64 d1.kind,.string d1.text,aK ok,aK oi]),?_⟩
 intro bP bw cp bU br cm bV cn cj bY b6 bS b9 bC
 have i:∀{g g':zc} {m aA:Fr},T22 gl h M F.size ok oi h8 iZ g m->Later g m g' aA->T22 gl h M F.size ok oi h8 iZ g' aA:=λt L=>t.later (λ_ _=>trivial) L
 have aL:∀{g:zc} {m:Fr} {A:Nat} {a c:Sl},T22 gl h M F.size ok oi h8 iZ g m->Bx22 h F.size g m A->RdV m .tree dA (tV 6 ⟨#[]⟩ a c)->bP ⟨A,0,Te⟩ 6 ⟨#[]⟩ a c g:=λ {g m A a c} t x r=>
  HF t x λg' f z L B=>kA ⟨t.hM,L,(f _ (λe=>x.ne e.symm)).trans t.fr,by have:=t.lt;omega,t.r1,trivial⟩ B x.ne r
 have aB:∀{g:zc} {m:Fr} {A:Nat} {si:Sl} {sk:Sl},T22 gl h M F.size ok oi h8 iZ g m->Bx22 h F.size g m A->RdV m (.row .tree) [d1,dRa] (aK si)->RdV m (.row .str) [⟨#[97]⟩,⟨#[98]⟩] (aK sk)->bw ⟨A,0,Te⟩ si sk g:=by
  intro g m A si sk t x ri N
  refine vd t N ri λg1 m a1 b1 u v1=>?_
  exact aL (i t u) (x.later u) v1
 have aQ:∀{g:zc} {m:Fr} {si:Sl} {sk:Sl},T22 gl h M F.size ok oi h8 iZ g m->RdV m (.row .tree) [d1,dRa] (aK si)->RdV m (.row .str) [⟨#[97]⟩,⟨#[98]⟩] (aK sk)->cp si sk g:=by
  intro g m si sk t ri N
  refine⟨?_,?_⟩
  ·refine vd t N ri λg1 m a1 b1 u v1=>?_
   have⟨H,x2⟩:=Qp (i t u)
   exact aL (i (i t u) H) x2 v1
  ·have⟨L3,x3⟩:=Qp t
   exact aB (i t L3) x3 ri N
 have ay:∀{g:zc} {m:Fr} {A:Nat} {C:Int} {D:Bt} {arr E:Sl} {sk:Sl},T22 gl h M F.size ok oi h8 iZ g m->Bx22 h F.size g m A->RdV m .tree dRa (tV C D arr E)->RdV m (.row .str) [⟨#[97]⟩,⟨#[98]⟩] (aK sk)->bU ⟨A,0,Te⟩ C D arr E sk g:=by
  intro g m A C D arr E sk t x rr N
  have⟨m,u,i1⟩:=wo t.L.ag t.r1 rr
  exact aB (i t u) (x.later u) i1 (N.mono u.le)
 have aM:∀{g:zc} {m:Fr} {A:Nat} {si:Sl},T22 gl h M F.size ok oi h8 iZ g m->Bx22 h F.size g m A->RdV m (.row .tree) [d1,dRa] (aK si)->br ⟨A,0,Te⟩ si g:=by
  intro g m A si t x ri
  have⟨m,u,k1⟩:=wn t.L.ag ⟨#[97]⟩ ⟨#[98]⟩
  exact aB (i t u) (x.later u) (ri.mono u.le) k1
 have aJ:∀{g:zc} {m:Fr} {C:Int} {D:Bt} {arr E:Sl} {sk:Sl},T22 gl h M F.size ok oi h8 iZ g m->RdV m .tree dRa (tV C D arr E)->RdV m (.row .str) [⟨#[97]⟩,⟨#[98]⟩] (aK sk)->cm C D arr E sk g:=by
  intro g m C D arr E sk t rr N
  refine⟨?_,?_⟩
  ·have⟨m,u,i1⟩:=wo t.L.ag t.r1 rr
   exact aQ (i t u) i1 (N.mono u.le)
  ·have⟨H,x2⟩:=Qp t
   exact⟨(i t H).fr,ay (i t H) x2 rr N⟩
 have au:∀{g:zc} {m:Fr} {A:Nat} {sj:Sl} {sk:Sl},T22 gl h M F.size ok oi h8 iZ g m->Bx22 h F.size g m A->RdV m (.row .tree) [d1,d2] (aK sj)->RdV m (.row .str) [⟨#[97]⟩,⟨#[98]⟩] (aK sk)->bV ⟨A,0,Te⟩ sj sk g:=by
  intro g m A sj sk t x rj N
  refine mU t rj λg1 m a1 b1 u v1=>?_
  exact⟨(i t u).fr,ay (i t u) (x.later u) v1 (N.mono u.le)⟩
 have aE:∀{g:zc} {m:Fr} {A:Nat} {C:Int} {D:Bt} {arr E:Sl},T22 gl h M F.size ok oi h8 iZ g m->Bx22 h F.size g m A->RdV m .tree dRa (tV C D arr E)->cn ⟨A,0,Te⟩ C D arr E g:=by
  intro g m A C D arr E t x rr
  refine⟨?_,?_⟩
  ·have⟨m,u,k1⟩:=wn t.L.ag ⟨#[97]⟩ ⟨#[98]⟩
   exact⟨(i t u).fr,ay (i t u) (x.later u) (rr.mono u.le) k1⟩
  ·have⟨M2,H,i2⟩:=wo t.L.ag t.r1 rr
   exact aM (i t H) (x.later H) i2
 have aP:∀{g:zc} {m:Fr} {sj:Sl} {sk:Sl},T22 gl h M F.size ok oi h8 iZ g m->RdV m (.row .tree) [d1,d2] (aK sj)->RdV m (.row .str) [⟨#[97]⟩,⟨#[98]⟩] (aK sk)->cj sj sk g:=by
  intro g m sj sk t rj N
  refine⟨?_,?_⟩
  ·refine mU t rj λg1 m a1 b1 u v1=>?_
   exact⟨(i t u).fr,aJ (i t u) v1 (N.mono u.le)⟩
  ·have⟨H,x2⟩:=Qp t
   exact⟨(i t H).fr,au (i t H) x2 rj N⟩
 have al:∀{g:zc} {m:Fr} {A:Nat} {P:Int} {O:Bt} {T S:Sl} {sk:Sl},T22 gl h M F.size ok oi h8 iZ g m->Bx22 h F.size g m A->RdV m .tree d2 (tV P O T S)->RdV m (.row .str) [⟨#[97]⟩,⟨#[98]⟩] (aK sk)->bY ⟨A,0,Te⟩ P O T S sk g:=by
  intro g m A P O T S sk t x r3 N
  have⟨m,u,i1⟩:=wo t.L.ag t.r1 r3
  exact⟨(i t u).fr,au (i t u) (x.later u) i1 (N.mono u.le)⟩
 have aU:∀{g:zc} {m:Fr} {A:Nat} {sj:Sl},T22 gl h M F.size ok oi h8 iZ g m->Bx22 h F.size g m A->RdV m (.row .tree) [d1,d2] (aK sj)->b6 ⟨A,0,Te⟩ sj g:=by
  intro g m A sj t x rj
  refine⟨?_,?_⟩
  ·have⟨m,u,k1⟩:=wn t.L.ag ⟨#[97]⟩ ⟨#[98]⟩
   exact⟨(i t u).fr,au (i t u) (x.later u) (rj.mono u.le) k1⟩
  ·refine mU t rj λg2 M2 a2 b2 H v2=>?_
   exact⟨(i t H).fr,aE (i t H) (x.later H) v2⟩
 have aY:∀{g:zc} {m:Fr} {P:Int} {O:Bt} {T S:Sl} {sk:Sl},T22 gl h M F.size ok oi h8 iZ g m->RdV m .tree d2 (tV P O T S)->RdV m (.row .str) [⟨#[97]⟩,⟨#[98]⟩] (aK sk)->bS P O T S sk g:=by
  intro g m P O T S sk t r3 N
  refine⟨?_,?_⟩
  ·have⟨m,u,i1⟩:=wo t.L.ag t.r1 r3
   exact⟨(i t u).fr,aP (i t u) i1 (N.mono u.le)⟩
  ·have⟨H,x2⟩:=Qp t
   exact⟨(i t H).fr,(i t H).fr,al (i t H) x2 r3 N⟩
 have aF:∀{g:zc} {m:Fr} {A:Nat} {sk:Sl},T22 gl h M F.size ok oi h8 iZ g m->Bx22 h F.size g m A->RdV m (.row .str) [⟨#[97]⟩,⟨#[98]⟩] (aK sk)->b9 ⟨A,0,Te⟩ sk g:=by
  intro g m A sk t x N
  refine kI hg t (by decide) (by decide) vJ λg1 m a1 b1 u v1=>?_
  exact⟨(i t u).fr,(i t u).fr,al (i t u) (x.later u) v1 (N.mono u.le)⟩
 have a7:∀{g:zc} {m:Fr} {A:Nat} {P:Int} {O:Bt} {T S:Sl},T22 gl h M F.size ok oi h8 iZ g m->Bx22 h F.size g m A->RdV m .tree d2 (tV P O T S)->bC ⟨A,0,Te⟩ P O T S g:=by
  intro g m A P O T S t x r3
  refine⟨?_,?_⟩
  ·have⟨m,u,k1⟩:=wn t.L.ag ⟨#[97]⟩ ⟨#[98]⟩
   exact⟨(i t u).fr,(i t u).fr,al (i t u) (x.later u) (r3.mono u.le) k1⟩
  ·have⟨M2,H,i2⟩:=wo t.L.ag t.r1 r3
   exact⟨(i t H).fr,aU (i t H) (x.later H) i2⟩
 refine⟨?_,?_,?_⟩
 ·have⟨m,u,k1⟩:=wn I.L.ag ⟨#[97]⟩ ⟨#[98]⟩
  refine⟨(i I u).fr,(i I u).fr,?_,?_⟩
  ·refine kI hg (i I u) (by decide) (by decide) vJ λg2 M2 a2 b2 H v2=>?_
   exact⟨(i (i I u) H).fr,(i (i I u) H).fr,aY (i (i I u) H) v2 (k1.mono H.le)⟩
  ·have⟨L3,x3⟩:=Qp (i I u)
   exact⟨(i (i I u) L3).fr,(i (i I u) L3).fr,aF (i (i I u) L3) x3 k1⟩
 ·refine kI hg I (by decide) (by decide) vJ λg4 M4 a4 b4 G v4=>?_
  refine⟨(i I G).fr,(i I G).fr,?_,?_,?_⟩
  ·have⟨M5,L5,k5⟩:=wn (i I G).L.ag ⟨#[97]⟩ ⟨#[98]⟩
   exact⟨(i (i I G) L5).fr,(i (i I G) L5).fr,aY (i (i I G) L5) (v4.mono L5.le) k5⟩
  ·have⟨M6,L6,i6⟩:=wo (i I G).L.ag (i I G).r1 v4
   refine⟨(i (i I G) L6).fr,?_,?_,?_⟩
   ·have⟨M7,L7,k7⟩:=wn (i (i I G) L6).L.ag ⟨#[97]⟩ ⟨#[98]⟩
    exact⟨(i (i (i I G) L6) L7).fr,aP (i (i (i I G) L6) L7) (i6.mono L7.le) k7⟩
   ·refine mU (i (i I G) L6) i6 λg8 M8 a8 b8 Y v8=>?_
    refine⟨(i (i (i I G) L6) Y).fr,?_,?_,?_⟩
    ·have⟨M9,L9,k9⟩:=wn (i (i (i I G) L6) Y).L.ag ⟨#[97]⟩ ⟨#[98]⟩
     exact⟨(i (i (i (i I G) L6) Y) L9).fr,aJ (i (i (i (i I G) L6) Y) L9) (v8.mono L9.le) k9⟩
    ·have⟨bn,U,i10⟩:=wo (i (i (i I G) L6) Y).L.ag (i (i (i I G) L6) Y).r1 v8
     refine⟨?_,?_⟩
     ·have⟨M11,L11,k11⟩:=wn (i (i (i (i I G) L6) Y) U).L.ag ⟨#[97]⟩ ⟨#[98]⟩
      exact aQ (i (i (i (i (i I G) L6) Y) U) L11) (i10.mono L11.le) k11
     ·have⟨L12,x12⟩:=Qp (i (i (i (i I G) L6) Y) U)
      exact aM (i (i (i (i (i I G) L6) Y) U) L12) x12 i10
    ·have⟨L13,x13⟩:=Qp (i (i (i I G) L6) Y)
     exact⟨(i (i (i (i I G) L6) Y) L13).fr,aE (i (i (i (i I G) L6) Y) L13) x13 v8⟩
   ·have⟨L14,x14⟩:=Qp (i (i I G) L6)
    exact⟨(i (i (i I G) L6) L14).fr,aU (i (i (i I G) L6) L14) x14 i6⟩
  ·have⟨L15,x15⟩:=Qp (i I G)
   exact⟨(i (i I G) L15).fr,(i (i I G) L15).fr,a7 (i (i I G) L15) x15 v4⟩
 ·have⟨L16,x16⟩:=Qp I
  refine⟨(i I L16).fr,(i I L16).fr,?_,?_⟩
  ·have⟨M17,L17,k17⟩:=wn (i I L16).L.ag ⟨#[97]⟩ ⟨#[98]⟩
   exact⟨(i (i I L16) L17).fr,(i (i I L16) L17).fr,aF (i (i I L16) L17) (x16.later L17) k17⟩
  ·refine kI hg (i I L16) (by decide) (by decide) vJ λcO dm cL dd af cJ=>?_
   exact⟨(i (i I L16) af).fr,(i (i I L16) af).fr,a7 (i (i I L16) af) (x16.later af) cJ⟩
end
end Go.X
end
section
namespace Go.X
open Go Go.X Go.Proofs Go.Lib Go.RowKit
section
theorem R0{gl:Fr}(f:GL gl)(m:Brn gl){l:List cR}{R:Bool->Prop}(n:R Ta):PC Tp gl 6 [Arg.mk (.row il) l] [.bool] R:=by
 apply Y6;refine IV f m ?_;refine R8 λb i=>⟨λ_=>n,λy=>?_⟩;have k:b=Ta:=by simpa using y
 obtain⟨B,u⟩:=i k;have h:∀o∈l,OpQ o:=λo c=>(u o c).q;refine HS f m h (by omega) (QU f h (by omega) ?_);have e:(bif (bif Ta then(((j4 l).1:Bt).toList==((j4 l).1:Bt).toList)else Tc)then(((j4 l).2:Int)==(j4 l).2)else Tc)=Ta:=by simp
 simp only[e];refine⟨λr=>r=w9 l,λ_=>xB f (λo c=>(h o c).s.p) (by omega) rfl,λA z=>⟨λr=>r=w9 l,λ_=>Ou (λo c=>(h o c).s.p) (by omega) rfl,λC w=>⟨λr=>r=Ta,λ_=>?_,λt j=>?_⟩⟩⟩;rw[z trivial,w trivial];exact JA (by unfold w9;rw[YF];omega) λr x=>x.2 rfl;rw[j trivial];exact n
end
section
variable {v a b:Tr}
def SQ(p:List Bt):Prop:=∀s∈p,(lb s).length<=1048576
theorem SQ.snoc{p:List Bt}(h:SQ p){s:Bt}(c:(lb s).length<=1048576):SQ (p++[s]):=λx b=>by rcases YK.1 b with b|b;exact h x b;rw[YY.1 b];exact c
def SmB(v:Tr):Prop:=Sm v/\bR v<=1000000
theorem Px:SmB zT:=⟨vu,by unfold zT;rw[bR,Zz];omega⟩
theorem SmB.item{v x:Tr}(h:SmB v)(b:x∈v.items):SmB x:=⟨h.1.item b,by have:=qp b;have:=h.2;omega⟩
theorem SmB.len(h:SmB v):v.items.length<=1000000:=by have:=h.2;have:=Zc v.items;have:=wy v;omega
theorem uw{l:List Tr}(h:∀x∈l,SmB x)(i:Nat):SmB (l.getD i zT):=by
 rw[YN];cases e:l[i]? with
 |none=>exact Px
 |some x=>exact h x (zbb e)
theorem wO{i:Nat}(hi:i<=1000000):(lb (iQ i)).length<=1048576:=by unfold iQ;rw[ww];have:=Go.X.itoa_len (i:Int);omega
theorem Gk(b:Sm v){k:Bt}(c:k∈v.keys):(lb k).length<=1048576:=by rw[Yv];exact((n3 _ v).1 b.tx).1.2.2 k c
def OQ(n:Nat)(o:cR):Prop:=SQ o.2.1/\o.2.1.length<=n/\o.2.2.1=[]/\Sm o.2.2.2
theorem GQ{rw:List Tr->List Tr->Option (List (Nat×Nat))}(y:∀us ws m,rw us ws=Td m->Rising 0 0 us.length ws.length m):∀(f:Nat) (p:List Bt) (a b:Tr),SmB a->SmB b->SQ p->∀o∈jK rw f p a b,OQ (p.length+f) o
 |0,p,a,b,_,_,_,o,c=>nomatch c
 |f+1,p,a,b,ha,hb,hp,o,c=>by
  have L:∀i,SmB (iK a i):=uw λx j=>ha.item j;have w:∀i,SmB (iK b i):=uw λx j=>hb.item j;have H:∀k,SmB (Jw a k):=λk=>uw (λx j=>ha.item j) _;have t:∀k,SmB (Jw b k):=λk=>uw (λx j=>hb.item j) _;have ln:∀s:Bt,(p++[s]).length=p.length+1:=λs=>by simp
  have sub:∀s u v,(lb s).length<=1048576->SmB u->SmB v->o∈jK rw f (p++[s]) u v->OQ (p.length+(f+1)) o:=λs u v J C E h=>by obtain⟨h1,z,D,A⟩:=GQ y f (p++[s]) u v C E (hp.snoc J) o h;exact⟨h1,by rw[ln]at z;omega,D,A⟩
  have r:∀k∈zq a.keys,(lb k).length<=1048576:=λk e=>Gk ha.1 ((qy a.keys).mem_iff.1 e);have F:∀k∈zq b.keys,(lb k).length<=1048576:=λk e=>Gk hb.1 ((qy b.keys).mem_iff.1 e);have l:o∈[kH p b]->OQ (p.length+(f+1)) o:=λh=>by rw[YY.1 h];exact⟨hp,by show p.length<=_;omega,rfl,hb.1⟩
  unfold jK at c;split at c;exact nomatch c;split at c;unfold jO at c;rcases YK.1 c with c|c;obtain⟨k,e,rfl⟩:=ZI.1 c;exact⟨hp.snoc (r k (zaq.1 e).1),by show(p++[k]).length<=_;rw[ln];omega,rfl,vu⟩;rcases YK.1 c with c|c;obtain⟨k,e,h⟩:=zcf.1 c;exact sub k _ _ (r k (zaq.1 e).1) (H k) (t k) h;obtain⟨k,e,rfl⟩:=ZI.1 c;exact⟨hp.snoc (F k (zaq.1 e).1),by show(p++[k]).length<=_;rw[ln];omega,rfl,(t k).1⟩;split at c;split at c;rename_i m B;have n:=(Zx (y _ _ _ B)).1;have la:=ha.len;have I:=hb.len;unfold jR at c;rcases YK.1 c with c|c;obtain⟨q,G,h⟩:=zcf.1 c;exact sub _ _ _ (wO (by have:=n q G;omega)) (L q.1) (w q.2) h;rcases YK.1 c with c|c;obtain⟨i,hi,rfl⟩:=ZI.1 c;exact⟨hp.snoc (wO (by have:=ZR.1 (zaq.1 (List.mem_reverse.1 hi)).1;omega)),by show(p++[_]).length<=_;rw[ln];omega,rfl,vu⟩;obtain⟨i,hi,rfl⟩:=ZI.1 c;exact⟨hp.snoc (wO (by have:=ZR.1 (zaq.1 hi).1;omega)),by show(p++[_]).length<=_;rw[ln];omega,rfl,(w i).1⟩;exact l c;exact l c
theorem JO(e:Sm a)(f:Sm b):∀o∈(iE a b).1,OQ 33 o:=λo c=>by unfold iE at c;split at c;rename_i h;rw[YH]at h;have:=GQ Qx 33 [] a b ⟨e,by have:=GV.sz ⟨h.1,e⟩;omega⟩ ⟨f,by have:=GV.sz ⟨h.2,f⟩;omega⟩ (λs i=>nomatch i) o c;rwa[zag,YP]at this;exact nomatch c
theorem OQ.sl{o:cR}(h:OQ 33 o):SL o.2.1:=⟨by have:=h.2.1;omega,h.1⟩
theorem Vg(c:Sm a)(e:Sm b):(iE a b).1.length<=8192:=by unfold iE;split;rename_i h;rw[YH]at h;exact wG ⟨h.1,c⟩ ⟨h.2,e⟩;simp
theorem BW(h:(iE a b).2≠0):iE a b=([],1)/\(zn a&&zn b)=Tc:=by unfold iE at h ⊢;split;rename_i c;rw[zb c]at h;exact absurd rfl h;rename_i c;exact⟨rfl,by simpa using c⟩
theorem IP(h:(iE a b).2=0):zn a=Ta/\zn b=Ta/\(iE a b).1=jx a b:=by unfold iE at h ⊢;split;rename_i c;rw[YH]at c;exact⟨c.1,c.2,rfl⟩;rename_i c;rw[za c]at h;exact nomatch h
theorem JC(ga:GV a)(gb:GV b):jx a b=[]↔yw a b=Ta:= ⟨λh=>HM Qx 33 [] a b (by have:=ga.dp;omega) ga.ok gb.ok h,λh=>TL h⟩
theorem IN(k:v.keys.Nodup)(l:v.keys.length=v.items.length){j:Nat}(h1:j<v.keys.length)(h:j<v.items.length):Jw v v.keys[j]=v.items[j]:=by rcases pq v.keys[j] v.keys 0 with⟨_,e⟩|⟨b,c,i,f⟩;exact absurd (YI h1) e;have:b=j:=(List.getElem?_inj i k).1 (by rw[f,YA h1]);unfold Jw idxOfS;rw[c,YP,XW,this,YN,YA h];rfl
theorem Ey{b:Tr}(l:b.keys.length=b.items.length):∀{ks:List Bt} {xs:List Tr},ku ks xs b=Ta->∀(i:Nat) (h1:i<ks.length) (c:i<xs.length),ks[i]∈b.keys/\yw xs[i] (Jw b ks[i])=Ta
 |[],_,_,i,h1,_=>absurd h1 (zao _)
 |_::_,[],_,i,_,c=>absurd c (zao _)
 |k::ks,x::xs,h,i,h1,c=>by
  unfold ku at h;rw[YH]at h;cases i with
  |succ i=>exact Ey l h.2 i (Nat.lt_of_succ_lt_succ h1) (Nat.lt_of_succ_lt_succ c)
  |zero=>
   show k∈b.keys/\yw x (Jw b k)=Ta;have h:=h.1;rcases pq k b.keys 0 with⟨f,_⟩|⟨j,f,n,m⟩;have e:idxOfS b.keys k=-1:=f;rw[e]at h;split at h;simp at h;exact nomatch h;have e:idxOfS b.keys k=(j:Int):=by unfold idxOfS;rw[f,YP]
   rw[e,XW,YA (by omega:j<b.items.length)]at h;refine⟨zbb m,?_⟩;unfold Jw;rw[e,XW,YN,YA (by omega:j<b.items.length)];have h:(decide (0<=(j:Int))&&yw x b.items[j])=Ta:=h;rw[YH]at h;exact h.2
theorem G3:∀{xs ys:List Tr},kv xs ys=Ta->∀(i:Nat) (h1:i<xs.length) (b:i<ys.length),yw xs[i] ys[i]=Ta
 |[],_,_,i,h1,_=>absurd h1 (zao _)
 |_::_,[],_,i,_,b=>absurd b (zao _)
 |x::xs,y::ys,h,i,h1,b=>by
  unfold kv at h;rw[YH]at h;cases i with
  |succ i=>exact G3 h.2 i (Nat.lt_of_succ_lt_succ h1) (Nat.lt_of_succ_lt_succ b)
  |zero=>exact h.1
theorem BE:∀(n:Nat) (a b:Tr),bR a<=n->Zk zl a=Ta->Zk zl b=Ta->yw a b=Ta->yw b a=Ta
 |0,a,b,hn,_,_,_=>by have:=wy a;omega
 |n+1,a,b,hn,ha,hb,h=>by
  have w:∀x y,x∈a.items->y∈b.items->yw x y=Ta->yw y x=Ta:=λx y e C=>BE n x y (by have:=qp e;omega) (jf ha e) (jf hb C);rw[Wz]at h ⊢;simp only[YH,zv]at h ⊢;obtain⟨h1,D,u,p⟩:=h;refine⟨h1.symm,D.symm,u.symm,?_⟩;by_cases f:a.kind=6;rw[zb f]at p;rw[zb (h1 ▸ f)];obtain⟨na,la⟩:=nF ha f;obtain⟨E,lb⟩:=nF hb (h1 ▸ f);have l:=Ey lb p;have sub:∀k∈a.keys,k∈b.keys:=λk o=>by obtain⟨i,hi,rfl⟩:=zb7.1 o;exact(l i hi (by omega)).1
  refine yT la lb λj t B=>?_;have o:b.keys[j]∈a.keys:=by
   refine Classical.byContradiction λr=>?_;have:=w3 (xs:=b.keys[j]::a.keys) (ys:=b.keys) (zaj.2 ⟨r,na⟩) λx e=>by rcases YB.1 e with rfl|e;exact YI t;exact sub x e
   rw[YL]at this;omega
  refine⟨o,?_⟩;obtain⟨i,m,z⟩:=zb7.1 o;have c:i<a.items.length:=by omega
  have A:=(l i m c).2;rw[z,IN E lb t B]at A;rw[<-z,IN na la m c];exact w _ _ (YI c) (YI B) A;rw[za f]at p;rw[za (h1 ▸ f)];exact zO u.symm λi m c=>w _ _ (YI c) (YI m) (G3 p i c m)
theorem BU:(iE a b).2=if zn a&&zn b then 0 else 1:=by unfold iE;split <;> rfl
set_option maxHeartbeats 1000000 in
theorem N2{gl:Fr}(k:GL gl)(n:Brn gl){R:Bool->Prop}(w:R Ta):PC Tp gl 7 [Arg.mk .tree a,Arg.mk .tree b] [.bool] R:=by
 apply Ju;simp only[j7];refine IV k n ?_;refine yD (by omega) λb1 x=>⟨λr=>r=Ta->(i5 b:Int)<=120/\Sm b,λ_=>yD (by omega) λb2 i=>i,λb2 i=>⟨λ_=>w,λj=>?_⟩⟩;have Q:b1=Ta/\b2=Ta:=by cases b1 <;> cases b2 <;> simp at j;exact⟨rfl,rfl⟩
 obtain⟨C,H⟩:=Q;obtain⟨T,sa⟩:=x C;obtain⟨V,sb⟩:=i C H;refine yZ k n sa sb (yZ k n sb sa ?_);refine xB k (λo I=>(JO sa sb o I).sl) (by have:=Vg sa sb;omega) ?_;have t:(iE b a).2=(iE a b).2:=by rw[BU,BU,zdp]
 have B:(w9 (iE a b).1).length=(iE a b).1.length:=by unfold w9;rw[YF]
 refine⟨λj=>?_,λj=>?_⟩;have E:(iE a b).2≠0:=by simpa using j
 have h1:=(BW E).1;have F:=(BW (a:=b) (b:=a) (by rw[t];exact E)).1;rw[h1,F];exact w;have hz:(iE a b).2=0:=by simpa using j
 obtain⟨N,L,y⟩:=IP hz;obtain⟨_,_,O⟩:=IP (t.trans hz);have ga:GV a:=⟨N,sa⟩;have gb:GV b:=⟨L,sb⟩;rw[y,O,t,hz];rw[y]at B;have Y:(jx a b).length<=bR a+bR b:=te Qx 33 [] a b ga.ok gb.ok;have Z:(jx b a).length<=bR b+bR a:=te Qx 33 [] b a gb.ok ga.ok;have D:=ga.sz;have A:=gb.sz;have sz:∀v:Tr,bR v<=4096->PC Tp gl 43 [Arg.mk .tree v] [.int .i64] (λr=>r=(bR v:Int)):=λv h=>wV v (by omega) rfl;refine⟨λr=>r=(bR a:Int),λ_=>sz a D,λU u=>⟨λr=>r=(bR b:Int),λ_=>sz b A,λP f=>?_⟩⟩;have u:=u rfl;have f:=f rfl;subst u f;refine⟨λr=>r=(bR a:Int),λ_=>sz a D,λJ c=>⟨λr=>r=(bR b:Int),λ_=>sz b A,λG e=>?_⟩⟩;have w1:XS .i64 ((bR a:Int)+(bR b:Int))=(bR a:Int)+(bR b:Int):=eK (by omega);have m:decide ((((jx a b).length:Nat):Int)<=XS .i64 ((bR a:Int)+(bR b:Int)))=Ta:=zH (by rw[w1];omega);rw[m]at c e ⊢;have c:=c rfl;have e:=e rfl;subst c e;have p:decide ((((jx b a).length:Nat):Int)<=XS .i64 ((bR a:Int)+(bR b:Int)))=Ta:=zH (by rw[w1];omega);have d3:((((w9 (jx a b)).length:Nat):Int)==(((jx a b).length:Nat):Int))=Ta:=by rw[B];simp
 have S:((((((jx a b).length:Nat):Int):Int)==0)==(((((jx b a).length:Nat):Int):Int)==0))=Ta:=by
  have M:jx a b=[]↔jx b a=[]:=by rw[JC ga gb,JC gb ga];exact⟨λh=>BE _ a b (XV _) ga.ok gb.ok h,λh=>BE _ b a (XV _) gb.ok ga.ok h⟩
  have z:∀l:List cR,(((l.length:Nat):Int)==0)=decide (l=[]):=λl=>by rw[YW];simp
  rw[z,z,Bool.beq_eq_decide_eq];simp[M]
 rw[p,d3,S];exact w
end
end Go.X
end
