/- A part of the proof: nothing is stated here for its own sake. -/
import Derived.Test.YtlpdhcjkhfkfmaaGreatDoorPmE
open _root_.Array renaming size_push->NN,size_setIfInBounds->O3
open _root_.Bool renaming and_eq_true->NP,and_eq_true_iff->OC
open _root_.Int renaming toNat_natCast->NE
open _root_.List renaming getElem?_eq_getElem->NL,getElem?_eq_some_iff->Ou,getElem?_map->OM,length->OA,length_eq_zero_iff->Ov,length_map->NM,length_nil->OE,length_pos_iff->PQ,mem_singleton->OO,nil_append->OU
open _root_.Nat renaming add_assoc->QZ,add_zero->Pw,le_refl->ND,mul_le_mul->Pz,zero_add->NZ,zero_le->NV
set_option linter.unusedVariables false
set_option maxRecDepth 100000
namespace Go.X
end Go.X
namespace Go.Proofs
end Go.Proofs
open Go Go.X Go.Proofs
open _root_.Bool renaming true->Ta,false->Tc
open _root_.Option renaming some->Td,none->Te
section
namespace Go.X
open Go Go.X Go.Proofs Go.RowKit
section
variable {gl:Fr} {R:Bool -> Prop}
theorem F4{e:Int}{s t:dt}{m:List bK}(j:m.length<=1000000):(qb e s t m).1.length<=100000/\(qb e s t m).2.1.length<=100000/\(qb e s t m).2.2.1.length<=1000000:=by
 cases hr:zo s t m with
 |false=>rw[Yo hr];exact⟨NV _,NV _,NV _⟩
 |true=>
  obtain⟨c,b⟩:zd s=Ta/\zd t=Ta:=by have:=hr;unfold zo at this;rw[NP,NP]at this;exact this.1
  obtain⟨c1,c2,i,l⟩:=x5 (e:=e) hr;obtain⟨k,n,_⟩:=zh c;obtain⟨f,h,_⟩:=zh b;omega
theorem wd{m:List bK}(n:m.length<=100000){R:List bK->Prop}(o:R (xh m)):PC Tp gl 19 [aM m] [.row (.pair (.int .i64) (.int .i64))] R:=by
 intro h M vs p ag e
 match vs,e with
 |[u],⟨hu,_⟩=>obtain⟨sm,rfl,f⟩:=eQ (show RdV M (.row dR) m u from hu);apply PX.of;refine pQ ag f n λg' s b cs C i k=>?_;obtain⟨c,j,l⟩:=C.frzP (Later.same ag k) (by unfold xh Qf;rw[List.length_mergeSort,NM];omega) i;exact⟨c,_,j,dJ.2 ((Qs rfl).2 l),o⟩
theorem p8{a b:Bool}{n:Nat}(h:(bif (!(bif a then b else Tc))then Ta else decide (((n:Nat):Int)>100))=Tc):n<=100:=by have:=zE (gq.1 h).2;omega
set_option maxRecDepth 100000 in
theorem GJ(y:GL gl)(z:Brn gl){s t:dt}{m:List bK}(w:R Ta):PC Tp gl 3 [aT s,aT t,aM m] [.bool] R:=by apply Qh;refine(Yt y z).mono λr x=>?_;obtain rfl:r=Ta:=x;refine Zm (most:=60) (by decide) λB _=>⟨λ_=>True,λ_=>Zm (most:=60) (by decide) λ_ _=>trivial,λF _=>⟨λ_=>w,λA=>?_⟩⟩;have G:=p8 A;rw[OU];refine⟨by rw[OE];omega,?_⟩;obtain⟨D,E,C⟩:=F4 (e:=1) (s:=s) (t:=t) (m:=m) (by omega);refine Qu (s:=s) (t:=t) (by omega) (Fw (s:=s) (t:=t) (by omega) (nz (s:=s) (t:=t) (by omega) (yD (s:=s) (t:=t) (by omega) ?_)));simp only[beq_self_eq_true,zI];refine⟨λr=>r=Ta,λ_=>uQ (by omega) λr h=>h.2 rfl,λp n=>?_⟩;obtain rfl:p=Ta:=n (by simp);refine⟨λr=>r=Ta,λ_=>uQ (by omega) λr h=>h.2 rfl,λq l=>?_⟩;obtain rfl:q=Ta:=l (by simp);refine⟨λr=>r=Ta,λ_=>x7 (by omega) λr h=>h.2 rfl,λc k=>?_⟩;obtain rfl:c=Ta:=k (by simp);refine⟨λr=>r=zo s t m,λ_=>Yr (s:=s) (t:=t) (by omega) rfl,λj f=>?_⟩;obtain rfl:j=zo s t m:=f (by simp);refine⟨λr=>r=zo s t m,λ_=>zU (s:=s) (t:=t) (by omega) rfl,λu o=>?_⟩;obtain rfl:u=zo s t m:=o (by simp);refine⟨λr=>r=Ta,λ_=>x7 (by omega) λr h=>h.2 rfl,λi b=>?_⟩;obtain rfl:i=Ta:=b (by simp);simpa using w
set_option maxRecDepth 100000 in
theorem Dr(x:GL gl)(y:Brn gl){s t:dt}{m:List bK}(j:R Ta):PC Tp gl 4 [aT s,aT t,aM m] [.bool] R:=by
 apply Qa;refine(Yt x y).mono λr b=>?_;obtain rfl:r=Ta:=b;refine Zm (most:=60) (by decide) λC _=>⟨λ_=>True,λ_=>Zm (most:=60) (by decide) λ_ _=>trivial,λD _=>⟨λ_=>j,λA=>?_⟩⟩;have G:=p8 A;refine nz (s:=s) (t:=t) (by omega) (Qu (s:=s) (t:=t) (by omega) ⟨λf=>?_,λf=>?_⟩);have b:zo s t m=Tc:=by
  cases e:zo s t m with
  |false=>rfl
  |true=>rw[(x5 (e:=1) e).1]at f;cases f
 refine⟨λr=>r=Tc,λ_=>Yr (s:=s) (t:=t) (by omega) b,λw q=>?_⟩;have z:(yh 1 s t m).2=(qb 1 s t m).2.2.2:=rfl;rw[z]at q ⊢;obtain rfl:w=Tc:=q (by simp);simpa using j;have b:zo s t m=Ta:=by
  cases e:zo s t m with
  |true=>rfl
  |false=>rw[Yo e]at f;simp at f
 obtain⟨p,o⟩:zd s=Ta/\zd t=Ta:=by have:=b;unfold zo at this;rw[NP,NP]at this;exact this.1
 obtain⟨c1,c2,F,I⟩:=x5 (e:=1) b;have u:=se (e:=1) (s:=s) (t:=t) (m:=m) (by omega);obtain⟨H,J,_⟩:=zh p;obtain⟨B,E,_⟩:=zh o;have c:=congrArg Prod.fst u;simp only[]at c;rw[c,dI (n:=s.1.length) (by omega) (by omega),dI (n:=t.1.length) (by omega) (by omega),zG (show((OA (qb 1 s t m).2.2.1:Nat):Int)<=((OA m:Nat):Int)by omega),show(yh 1 s t m).2=0 from c1];simp only[beq_self_eq_true,zI];refine⟨λr=>r=Ta,λ_=>xj (t:=s) p,λk h=>?_⟩;obtain rfl:k=Ta:=h (by simp);refine⟨λr=>r=Ta,λ_=>xj (t:=t) o,λl i=>?_⟩;obtain rfl:l=Ta:=i (by simp);simpa using j
set_option maxRecDepth 100000 in
theorem Mw(o:GL gl)(p:Brn gl){s t:dt}{m:List bK}(k:R Ta):PC Tp gl 6 [aT s,aT t,aM m] [.bool] R:=by
 apply Qz;refine(Yt o p).mono λr c=>?_;obtain rfl:r=Ta:=c;refine Zm (most:=40) (by decide) λz _=>⟨λ_=>True,λ_=>Zm (most:=40) (by decide) λ_ _=>trivial,λA _=>⟨λ_=>k,λu=>?_⟩⟩;have B:=p8 u;refine nI (s:=s) (t:=t) (Lj (s:=s) (t:=t) ?_);cases c:zd s&&zd t with
 |false=>
  have q:Xc 1 s t=([],1):=by unfold Xc;rw[c];rfl
  have y:fO 1 s t=(0,1):=by unfold fO;rw[c];rfl
  rw[q,y];exact⟨λ_=>k,λh=>(by cases h)⟩
 |true=>
  obtain⟨f,l⟩:=OC.1 c;obtain⟨b1,b2,b3⟩:=pE (e:=1) f l;have w:(Xc 1 s t).2=0:=by rw[sd f l]
  have x:(fO 1 s t).2=0:=by unfold fO;rw[c];rfl
  have n:(Xc 1 s t).1.length<=512:=by have:=(x5 (e:=1) b1).2.1;have:=(zh f).2.1;have:=(zh f).1;omega
  rw[w];refine⟨λh=>(by cases h),λ_=>Qu (s:=s) (t:=t) (by omega) (Qu (s:=s) (t:=t) (by omega) ?_)⟩;rw[b2,x];refine⟨λr=>r=Ta,λ_=>Yr (s:=s) (t:=t) (by omega) b1,λj i=>?_⟩;obtain rfl:j=Ta:=i rfl;have b:(bif ((yh 1 s t m).2 != 0)then Ta else decide ((yh 1 s t m).1>=(fO 1 s t).1))=Ta:=by
   rw[il];cases e:zo s t m with
   |true=>exact .inr (zG (b3 m e))
   |false=>
    left;have:(yh 1 s t m).2=1:=by unfold yh;rw[Yo e]
    rw[this];rfl
  rw[b];simp only[beq_self_eq_true,zI];exact k
set_option maxRecDepth 100000 in
theorem Is(D:GL gl)(F:Brn gl){s t u:dt}(q:R Ta):PC Tp gl 7 [aT s,aT t,aT u] [.bool] R:=by
 apply Q0;refine(Yt D F).mono λr l=>?_;obtain rfl:r=Ta:=l;refine Zm (most:=30) (by decide) λV _=>⟨λ_=>True,λ_=>Zm (most:=30) (by decide) λ_ _=>trivial,λr4 _=>⟨λ_=>True,λ_=>Zm (most:=30) (by decide) λ_ _=>trivial,λr6 _=>⟨λ_=>q,λ_=>?_⟩⟩⟩;refine nI (s:=s) (t:=t) (nI (s:=t) (t:=u) ⟨λ_=>q,λN=>?_⟩);have f:∀a b:dt,(Xc 1 a b).2=0->zd a=Ta/\zd b=Ta:=λa b h=>by
  cases l:zd a&&zd b with
  |false=>
   have I:Xc 1 a b=([],1):=by unfold Xc;rw[l];rfl
   rw[I]at h;cases h
  |true=>exact OC.1 l
 obtain⟨L,P⟩:=gq.1 N;obtain⟨k,c⟩:=f s t (by simpa using L);obtain⟨_,y⟩:=f t u (by simpa using P);obtain⟨i,M,_⟩:=pE (e:=1) k c;obtain⟨j,G,_⟩:=pE (e:=1) c y;obtain⟨m,B⟩:∃m,m=(Xc 1 s t).1:=⟨_,rfl⟩;obtain⟨n,A⟩:∃n,n=(Xc 1 t u).1:=⟨_,rfl⟩;rw[<-B]at i M;rw[<-A]at j G;rw[<-B,<-A];have lm:=(x5 (e:=1) i).2.1;have ln:=(x5 (e:=1) j).2.1;obtain⟨Q,T,_⟩:=zh k;obtain⟨C,H,_⟩:=zh c;obtain⟨l5,Z,_⟩:=zh y;obtain⟨E,S⟩:=JZ (e:=1) i j;obtain⟨O,k2⟩:=ML (e:=1) i;have lo:=rO m n;have lo2:m.length*n.length<=512*512:=Pz (by omega) (by omega);have lb:(xh m).length=m.length:=by unfold xh Qf;rw[List.length_mergeSort,NM]
 have z:∀{a b:dt} {m:List bK},zo a b m=Ta->(yh 1 a b m).2=0/\0<=(yh 1 a b m).1/\(yh 1 a b m).1<=3000000:=λ {a b m} h=>by
  obtain⟨c1,c2,c3,c4⟩:=x5 (e:=1) h;obtain⟨k,c⟩:zd a=Ta/\zd b=Ta:=by have:=h;unfold zo at this;rw[NP,NP]at this;exact this.1
  obtain⟨Q,T,_⟩:=zh k;obtain⟨C,H,_⟩:=zh c;refine⟨c1,?_,?_⟩ <;> unfold yh <;> simp only[] <;> omega
 obtain⟨U,Y,z3⟩:=z i;obtain⟨J,y2,y3⟩:=z j;refine uv (by omega) (by omega) (wd (by omega) (Qu (s:=s) (t:=t) (by omega) (Qu (s:=t) (t:=u) (by omega) (Qu (s:=s) (t:=u) (by omega) (Qu (s:=t) (t:=s) (by omega) ?_)))));rw[O,U,J,E,wrap64 (n:=(yh 1 s t m).1+(yh 1 t u n).1) (by omega) (by omega),zG S];simp only[beq_self_eq_true,zI];refine⟨λr=>r=m,λ_=>wd (by omega) k2,λw o=>?_⟩;obtain rfl:w=m:=o (by simp);refine⟨λr=>r=Ta,λ_=>x7 (by omega) λr h=>h.2 rfl,λx p=>?_⟩;obtain rfl:x=Ta:=p (by simp);exact q
end
section
variable {gl:Fr}
theorem KH{M:Fr}{h:za}(ag:AgM M h){m:List bK}{s:Sl}(H:Rd M (.row dR) m [aK s]):Arr h.size h s.a (yq m):=by
 by_cases h0:m=[];exact .inl (by rw[h0];rfl);have t:0<m.length:=PQ.2 h0;obtain⟨b,o,cs,j,r,_⟩:=Go.X.rowAt H t;refine .inr ⟨b,o,j,ag.lt r,λi v hi=>?_⟩;have p:i<m.length*2:=by have:=(Ou.1 hi).1;rwa[yi]at this
 obtain⟨x,u,cs',c,n,e⟩:=Go.X.rowAt H (k:=i / 2) (by omega);rw[j]at c;injection c with c;injection c with e6 e7;subst e6;subst e7;have e:=vr e;rw[show sz dR=2 from rfl]at e;have l:i=i / 2*2+i % 2:=by omega
 rw[l,Ys (by omega) (by omega)]at hi;rw[l,<-QZ];have:=ox e (q:=i % 2) (by omega);refine pR ag n (o:=o+i / 2*2+i % 2) (v:=v) ?_;refine Xe rfl λq w=>?_;have f:q=0:=by omega
 subst f;rw[Pw,this];rw[show m[i / 2]=m[i / 2]from rfl]at hi;exact hi
set_option maxRecDepth 100000 in
set_option maxHeartbeats 4000000 in
theorem JL(hg:GL gl)(hb:Brn gl){m n:List bK}:PC Tp gl 5 [aM m,aM n] [.bool] (λr=>r=Ta):=by
 intro h M vs hM ag N
 match vs,N with
 |[u,v],⟨hu,hv,_⟩=>
  obtain⟨sm,rfl,rm⟩:=eQ (show RdV M (.row dR) m u from hu);obtain⟨sn,rfl,rn⟩:=eQ (show RdV M (.row dR) n v from hv);obtain⟨lm,_,_⟩:=rowLen rm;obtain⟨ln,_,_⟩:=rowLen rn;have ret:∀(g:za) (M':Fr),Later h M g M'->∃M' r,Later h M g M'/\dX M' [.bool] r (.bool Ta)/\r=Ta:=λg M' L=>⟨M',Ta,L,⟨[_],⟨_,rfl,rdBool _⟩,rfl⟩,rfl⟩;apply PX.of;apply Qg sm sn;refine(Yt hg hb).go (vs:=[]) hM ag yc λw y M2 r L2 f l=>?_;subst l;refine⟨_,d4 f,λ_=>ret y M2 L2,λhc=>?_⟩;obtain⟨aj,ax⟩:=gq.1 hc;have hm:m.length<=100:=by have:=zE aj;omega
  have hn:n.length<=100:=by have:=zE ax;omega
  intro h4;have L4:Later y M2 h4 M2:=Later.push L2.ag _;have z4:h4.size=y.size+1:=NN _;have e4:h4[y.size]?=Td (.cells #[] 41):=qq _ _;clear_value h4;have ap:=L2.trans L4;have O4:Owns h4 y.size 41 2 ⟨Td ⟨y.size,0,Te⟩,0,0⟩ []:=⟨rfl,.inr ⟨y.size,0,#[],rfl,ND _,e4,ND _,NV _,rfl,rfl⟩⟩;refine j3 iO O4 (src:=sm) (KH L4.ag (rm.mono ap.le)) (by rw[yi,lm]) qV (by show(0+sm.len)*16<=_;omega) (by show 0+sm.len<=_;omega) (by omega) λs' h6 l6 O6 f6 z6 w6=>⟨s',rfl,?_⟩;rw[OU]at O6;have ai:Keep y.size y h6:=⟨by omega,λj hj=>by rw[f6 j (by omega) λp hp=>by injection hp with hp;subst hp;show j≠y.size;omega];exact L4.keep.get j hj⟩;obtain⟨M6,L6,R6⟩:=Owns.frzP (Later.same L2.ag ai) O6 (ND _) (by omega);have aa:=L2.trans L6;refine pQ L6.ag R6 (by omega) λh9 t b cs E O k9=>⟨t,rfl,?_⟩;have L9:Later h6 M6 h9 M6:=Later.same L6.ag k9;have U:=aa.trans L9;have ah:M6 b=Te:=L6.ag.none O;have lb:(xh m).length=m.length:=by unfold xh Qf;rw[List.length_mergeSort,NM]
  have Z:t.len=m.length:=by rw[E.ln,NM,lb]
  obtain⟨b,cs,E,ab,O,J⟩:∃b cs,CR h9 2 ((xh m).map du) t b cs/\M6 b=Te/\h6.size<=b/\(0<m.length->b<h9.size):=⟨b,cs,E,ah,O,λh0=>(E.blk (by intro e;have:=congrArg OA e;rw[NM,lb,OE]at this;omega)).2.lt⟩;refine(uv (gl:=gl) (m:=m) (n:=n) (by omega) (by omega) (R:=λr=>r=Jp m n) rfl).go (vs:=[aK s',aK sn]) (hM.trans U.le) L9.ag (zw (a:=aM m) ((Qs rfl).2 R6) (zw (a:=aM n) ((Qs rfl).2 (rn.mono U.le)) yc)) λw aG aH r S f l=>?_;subst l;obtain⟨xo,rfl,az⟩:=eQ (dJ.1 f);refine⟨xo,rfl,?_⟩;have H:=U.trans S;refine FH S.ag (rm.mono H.le) (by omega) λD z xr A aA=>⟨xr,rfl,?_⟩;have I:=H.trans A;have C:=S.trans A;have V:CR D 2 ((xh m).map du) t b cs:=E.frame λB=>C.keep.get b (by rcases E.ro.at_ with⟨h1,y⟩|⟨_,y,_⟩;exfalso;rcases B with B|B;have:=E.ln;rw[h1]at this;exact B (Ov.1 this.symm);exact B y;exact y.lt);obtain⟨Mu,ar,af,Ru⟩:∃Mu,AgM Mu D/\Fr.le z Mu/\Rd Mu (.row dR) (xh m) [aK t]:=by
   by_cases h0:xh m=[];refine⟨z,A.ag,Fr.le.refl _,?_⟩;rw[h0];have:t.len=0:=by rw[Z,<-lb,h0];rfl
   refine⟨_,rfl,t.a,t.cap,?_,⟨by simp,by simp⟩,.inl rfl⟩;show aK t=_;unfold aK;rw[this];rfl;obtain⟨N,hB⟩:=V.blk (by simpa using h0);have ae:b<h9.size:=J (by rw[<-lb];exact PQ.2 h0);have ac:z b=Te:=by rw[C.old b ae];exact ab
   have aF:=V.ro.le;refine⟨MxL z D [b],MxL.ag A.ag [b],λc x e=>?_,_,rfl,t.a,t.cap,?_,⟨by omega,by omega⟩,.inr ⟨b,0,cs,N,MxL.at (by simp) hB,λi hi=>?_⟩⟩;unfold MxL;rw[zv (by intro B;rw[OO.1 B,ac]at e;cases e)];exact e;show aK t=_;unfold aK;rw[Z,lb];obtain⟨_,e⟩:=V.el i (du (xh m)[i]) (by rw[OM,NL hi];rfl);show Rd _ dR (xh m)[i] (cut cs (0+i*2) 2);rw[NZ,e];exact⟨[_],[_],rfl,rfl,rfl⟩
  refine(x7 (gl:=gl) (a:=xh m) (b:=xh m) (by omega) (R:=λr=>r=Ta) λr l=>l.2 rfl).go (vs:=[aK t,aK xr]) ((hM.trans I.le).trans af) ar (zw (a:=aM _) ((Qs rfl).2 Ru) (zw (a:=aM _) ((Qs rfl).2 (aA.mono af)) yc)) λw am aL r aB f l=>?_;subst l;refine⟨_,d4 f,?_⟩;have o:Later D z am z:=Later.same A.ag aB.keep;have q:=I.trans o;refine vO rfl ?_;refine(K5 (gl:=gl) (m:=m) (n:=n) (by omega) (by omega) (R:=λr=>r=Jp m n) rfl).go (vs:=[aK sm,aK sn]) (hM.trans q.le) o.ag (zw (a:=aM m) ((Qs rfl).2 (rm.mono q.le)) (zw (a:=aM n) ((Qs rfl).2 (rn.mono q.le)) yc)) λw aJ aE r F f l=>?_;subst l;obtain⟨xq,rfl,al⟩:=eQ (dJ.1 f);refine⟨xq,rfl,?_⟩;have G:=q.trans F;have lo:=rO m n;have lo2:m.length*n.length<=100*100:=Pz hm hn;refine lW rfl ?_;refine(x7 (gl:=gl) (a:=Jp m n) (b:=Jp m n) (by omega) (R:=λr=>r=Ta) λr l=>l.2 rfl).go (vs:=[aK xo,aK xq]) (hM.trans G.le) F.ag (zw (a:=aM _) ((Qs rfl).2 (az.mono ((A.trans o).trans F).le)) (zw (a:=aM _) ((Qs rfl).2 al) yc)) λw Y Q r T f l=>?_;subst l;refine⟨_,d4 f,?_⟩;have k:=G.trans T;have s:=((C.trans o).trans F).trans T;have aI:=s.keep.size;have P:0<m.length->Blk Y b cs/\t.a=Td ⟨b,0,Te⟩/\Q b=Te:=λh0=>by obtain⟨N,hB⟩:=E.blk (by intro e;have:=congrArg OA e;rw[NM,lb,OE]at this;omega);exact⟨hB.keep (s.keep.get _ (J h0)),N,by rw[s.old b (J h0)];exact ab⟩
  refine⟨λi g=>∃c:Nat,i=(c:Int)/\c<=m.length/\g.size=Y.size/\(∀j,(j=b->m.length=0)->g[j]?=Y[j]?)/\(0<m.length->∃cs',Blk g b cs'/\cs'.size=cs.size),λi _=>m.length-i.toNat,⟨0,rfl,NV _,rfl,λ_ _=>rfl,λh0=>⟨cs,(P h0).1,rfl⟩⟩,?_⟩;rintro i g ⟨c,rfl,hc,zg,fg,Bg⟩;rw[Z];refine⟨λB=>?_,λB=>?_⟩;have B:c<m.length:=by have:=dE B;omega
  obtain⟨cs',B',zc⟩:=Bg (by omega);obtain⟨_,N,_⟩:=P (by omega);have aD:=(E.el c (du ((xh m)[c]'(by omega))) (by rw[OM,NL (by omega)];rfl)).1;refine⟨_,⟨N,by omega,by omega⟩,?_⟩;rw[dV,dV,NE,NZ,Pw];refine Wu pv (by kernel_rfl) B' (by omega) rfl λg' aC z' f'=>⟨⟨c+1,by rw[zf (by omega)],B,by omega,λj hj=>?_,λh0=>⟨_,aC,by rw[O3];exact zc⟩⟩,by rw[zf (by omega)];exact i5 (by omega) (by omega) (by omega)⟩;rw[f' j (λe=>by have:=hj e;omega)];exact fg j hj;have agg:AgM Q g:=AgM.off T.ag λc' x e=>fg c' λay=>by by_cases h0:0<m.length;rw[ay,(P h0).2.2]at e;cases e;omega
  have Lg:Later h M g Q:=by refine⟨⟨by have:=k.keep.size;omega,λj hj=>?_⟩,k.le,k.old,agg⟩;rw[fg j λe=>by have:=aa.keep.size;omega];exact k.keep.get j hj
  refine lW rfl ?_;refine(x7 (gl:=gl) (a:=m) (b:=m) (by omega) (R:=λr=>r=Ta) λr l=>l.2 rfl).go (vs:=[aK s',aK sm]) (hM.trans k.le) agg (zw (a:=aM _) ((Qs rfl).2 (R6.mono (L9.trans s).le)) (zw (a:=aM _) ((Qs rfl).2 (rm.mono k.le)) yc)) λw ak au r an f l=>?_;subst l;exact⟨_,d4 f,ret ak au (Lg.trans an)⟩
theorem CM(f:GL gl)(c:Brn gl){m n:List bK}{R:Bool->Prop}(e:R Ta):PC Tp gl 5 [aM m,aM n] [.bool] R:= (JL f c).mono λr b=>by have b:r=Ta:=b;rw[b];exact e
end
end Go.X
end
