/- A part of the proof: nothing is stated here for its own sake. -/
import Derived.Test.YtplilfikcimcbaaGreatDoorPiE
import Derived.Lib.Overlaps
open _root_.Array renaming size_push->zau
open _root_.Bool renaming and_eq_true->zaw,eq_iff_iff->zbd
open _root_.Go.Builtin renaming append_->zaj
open _root_.Go.Instr renaming storeAt->zae
open _root_.Int renaming toNat_natCast->zag
open _root_.List.Pairwise renaming nil->zfc
open _root_.List renaming all_eq_true->zbl,getElem?_eq_some_iff->zbb,getElem_mem->zak,length->zbu,length_append->zah,length_map->zas,length_pos_iff->zb4,length_take->zbt,mem_append->zav,mem_filter->zds,mem_map->zbr,mem_of_getElem?->zdc,mem_range->zcs,mem_singleton->zbh,pairwise_cons->zb2,take_length->za2,take_succ_eq_append_getElem->zai
open _root_.Nat renaming le_refl->zac,zero_add->zax,zero_le->zar
open _root_.Go.Value renaming string->za0
open _root_.Go.X.Arg renaming mk->up
open _root_.Go.X.At renaming same->v0
open _root_.List renaming length->DB
set_option linter.all false
set_option maxRecDepth 1000000
set_option maxHeartbeats 20000000
namespace Go.X
end Go.X
namespace Go.Proofs
end Go.Proofs
open Go Go.X Go.Proofs
open _root_.Bool renaming true->Ta,false->Tc
open _root_.Option renaming some->Td,none->Te
namespace Go.X
section
open Go.Lib Go.RowKit
section
variable {h:zc} {K:Value -> zc -> Prop} {gl:Fr} {o:eK}
def UR:∀{h:zc} {b:Nat} {xs:List Bt} {cs:ac2},Blk h b cs->cs.toList.take (DB xs)=xs.map za0->∀(j:Nat) x,xs[j]?=Td x->zd h ⟨b,0+j,Te⟩=Td (ab5 x):=λ {h b xs cs} H e j x c=>by refine H.cell ?_;have f:j<DB xs:=(zbb.1 c).1;have:=congrArg (λl=>l[j]?) e;grind
def Ol{b c:Nat}{xs:List Bt}{cs:ac2}(H:Blk h b cs)(e:cs.toList.take (DB xs)=xs.map za0)(n:xs.length<=c)(p:xs.length<=1000){sep:Bt}{l:Bs}(i:Lib.join (xs.map lb) (lb sep)=l)(o:l.length<=140737488355328)(m:∀g,BT h.size h g->K (ab5 (bl l)) g):ab3 127 #[.slice (Td ⟨b,0,Te⟩) (DB xs) c,ab5 sep] h K:=by
 refine XC.of_calls λB d=>?_;have hb:=H.lt;refine(NL b 0 c xs sep (mk B d h) (λj x k=>UR H e j x k) hb ω n θ).mono ?_;rintro e w' ⟨rfl,f⟩;refine⟨_,rfl,f.os,f.tape,f.output,?_⟩;have:(⟨(Lib.join (xs.map (·.data.toList)) sep.data.toList).toArray⟩:Bt)=bl l:=by show bl (Lib.join (xs.map lb) (lb sep))=bl l;rw[i]
 rw[this];exact m _ ⟨f.size,f.block⟩
def ka(p:List Bt):Bs:=(io (if Y2 p then jp (p.map lb)else [])).1
theorem GA{p:List Bt}(h:PS p):(jp (p.map lb)).length<=409800:=by
 have h1:=JY (l:=p.map lb) (m:=1024) λx c=>by obtain⟨s,b,rfl⟩:=zbr.1 c;exact h.s s b
 rw[zas]at h1;have:=h.n;omega
theorem xV{p:List Bt}(h:PS p):(ka p).length<=2500000:=by unfold ka;grind [GA,sI]
def NV(c:GL gl)(hb:Brn gl){p:List Bt}(h:PS p){R:Bt->Prop}(b:R (bl (ka p))):ab4 gl 124 [up (.row .str) p] [.str] R:=by apply PM;have f:=GA h;unfold ka at b;refine Hx c (PS.sl h) (λe=>?_) λe=>?_;rw[zA e]at b;exact G8 c hb ω b;rw[zv (by rw[e];decide)]at b;exact G8 c hb ξ b
structure OpQ (o:eK):Prop where
 p:PS o.2.1
 f:PS o.2.2.1
 v:Sm o.2.2.2
theorem OpQ.s(h:OpQ o):OpS o:=⟨PS.sl h.p,PS.sl h.f,h.v⟩
def mj(s:Bs):Bool:=decide (s=qR\/s=rz\/s=BN)
def pB(s:Bs):Bool:=decide (s=wV\/s=yZ)
def lY(o:eK):List Bs:=lb o.1::ka o.2.1::(if pB (lb o.1)then [ka o.2.2.1]else if mj (lb o.1)then [Y5 Tc 0 o.2.2.2 0]else [])
def lI(o:eK):Bs:=Lib.join (lY o) [32]++[10]
def Gq(h:Zm o=Ta):((lb o.1).length<=7)/\(mj (lb o.1)=Ta->zr o.2.2.2=Ta)/\(mj (lb o.1)=Tc->pT o.2.2.2=Ta):=by unfold Zm at h;simp only[zaw]at h;have⟨h1,_,_,_,c⟩:=h;unfold lm at h1 c;unfold mj;split at h1;rename_i b;rw[zA b]at c;refine⟨?_,λ_=>c,λe=>?_⟩;obtain e|e|e:=b <;> rw[e] <;> decide;simp_all;rename_i b;rw[zv b]at c;refine⟨?_,λe=>absurd (zH e) b,λ_=>?_⟩;split at h1;rename_i f;obtain e|e:=f <;> rw[e] <;> decide;have:lb o.1=xF:=zH h1;rw[this];decide;grind
def WK{v:Tr}(h:zr v=Ta)(b:Sm v):(Y5 Tc 0 v 0).length<=100000000000:=by have h1:=xN (ln:=Tc) (N:=0) ω (cK v) v 0 (zac _) b (χ ((Zd h).2.1));have:=(Zd h).1;omega
theorem TR(a b:Bs):Lib.join [a,b] [32]=a++[32]++b:=by simp[Lib.join,List.intercalate]
theorem I6(a b c:Bs):Lib.join [a,b,c] [32]=a++[32]++b++[32]++c:=by simp[Lib.join,List.intercalate]
def Dg(h:Zm o=Ta)(c:OpQ o):(lI o).length<=200000000000:=by have⟨h1,h2,_⟩:=Gq h;have a:=xV c.p;have b:=xV c.f;have i:=mc o.1;unfold lI lY;split;rw[I6];simp;omega;split;rename_i e;have:=WK (h2 e) c.v;rw[I6];simp;omega;rw[TR];simp;omega
def ER:zy Tp 124=Ta:=κ
def qey(hg:GL gl)(hb:Brn gl)(O:OpQ o)(hr:Zm o=Ta){M:Fr}(hM:Fr.le gl M)(ag:AgM M h){sp sf sk si:Sl}(rp:RdV M (.row .str) o.2.1 (aK sp))(rf:RdV M (.row .str) o.2.2.1 (aK sf))(rv:RdV M .tree o.2.2.2 (.agg (Y6 o.2.2.2 sk si).toArray))(hK:∀g,BT h.size h g->K (ab5 (bl (lI o))) g):ab3 69 #[.agg (j6 o.1 sp sf o.2.2.2 sk si).toArray] h K:=by
 have⟨hn,hv,_⟩:=Gq hr;have qa:=xV O.p;have qb:=xV O.f;apply Ou o.1 sp sf o.2.2.2.aa6 o.2.2.2.aa9 sk si;intro h1;have⟨k1,z1,b1⟩:=jo (g:=h1) rfl;clear_value h1;refine⟨o.1,b1.ab1 (o:=0) (k:=0) rfl,sp,b1.ab1 (o:=0) (k:=1) rfl,ER,?_⟩;have hq:∀{p},PS p->ab4 gl 124 [up (.row .str) p] [.str] (λr=>r=bl (ka p)):=λ {p} hp=>NV hg hb hp rfl;refine(hq O.p).go (vs:=[aK sp]) hM (ag.ab0 k1) (zo rp qc) λw h5 M5 r H q m=>?_;have m:r=bl (ka o.2.1):=m;subst m;have Z:=H.ab0;have z5:=Z.size;refine⟨bl (ka o.2.1),kW q,Z.get _ (by grind [zh]),?_⟩;intro z;have⟨Y,z7,b7⟩:=jo (g:=z) rfl;clear_value z;have K7:BT h.size h z:=(k1.trans Z ω).trans Y ω;have B7:Blk z h.size (j6 o.1 sp sf o.2.2.2 sk si).toArray:=(b1.ab2 Z).ab2 Y;intro T Q;have fin:∀(g:zc) (b c:Nat) (xs:List Bt) (cs:ac2),BT h.size h g->Blk g b cs->cs.toList.take (DB xs)=xs.map za0->DB xs<=c->xs.map lb=lY o->T ⟨Td ⟨b,0,Te⟩,DB xs,c⟩ g:=λg b c xs cs L B e hc hw=>by
  refine Q _ g ?_;have hl:=Dg hr O;have aj:xs.length<=3:=by have:=congrArg zbu hw;rw[zas]at this;rw[this];unfold lY;split;simp;split <;> simp
  have al:(lI o).length=(Lib.join (lY o) [32]).length+1:=by unfold lI;rw[zah];rfl
  refine Ol B e hc ω (l:=Lib.join (lY o) [32]) (ϕ hw) ω λg2 k2=>⟨_,rfl,?_,?_⟩;grind [Xq];have:bl (Lib.join (lY o) [32])++(⟨#[10]⟩:Bt)=bl (lI o):=by rw[show(⟨#[10]⟩:Bt)=bl [10]from rfl,qo];rfl
  rw[this];exact hK g2 (L.trans k2 L.size)
 refine⟨o.1,B7.ab1 (o:=0) (k:=0) rfl,?_⟩;intro af F;simp only[Ig]at F ⊢;have A:∀(g D:zc) (t:Bs) (K:vvv),BT z.size z g->D=g.push (.cells #[ab5 (bl t)] 9)->lY o=[lb o.1,ka o.2.1,t]->(∀x I,T x I->K (aK x) I)->qq Tp (zaj #[22,22] 22 #[.slice (Td (ab7 h5)) 2 2,.slice (Td (ab7 g)) 1 1]) D K:=λg D t K L e3 hw S=>by
  have k3:BT g.size g D:=by rw[e3];exact BT.push _ _ (zac _)
  have b3:Blk D g.size #[ab5 (bl t)]:=by rw[e3];exact Blk.new _ _ _
  have z3:D.size=g.size+1:=by rw[e3];exact zau _
  have zg:=L.size;have B3:=(b7.ab2 L).ab2 k3;refine Cf pM (p:=(ab7 h5)) (n:=2) (olds:=[ab5 o.1,ab5 (bl (ka o.2.1))]) ξ (λj v hj=>?_) (src:=⟨Td (ab7 g),1,1⟩) (N:=D.size) (news:=[ab5 (bl t)]) ?_ rfl ξ ξ (λh0=>absurd h0 (show¬(1:Nat)=0 by decide)) λc I aa _ hc hB ht k4=>?_;rw[Jk,zax];exact B3.cell η;refine .inr ⟨g.size,0,rfl,ω,λi v hv=>b3.cell ?_⟩;grind;exact S ⟨Td (ab7 D),3,c⟩ I (fin I D.size c [o.1,bl (ka o.2.1),bl t] aa ((K7.trans L ω).trans (k3.trans k4 ω) ω) hB ht hc η)
 have E:∀b,b=pB (lb o.1)->af b z:=λb y=>by
  refine F b z ⟨λu=>?_,λu=>?_⟩;have hf:pB (lb o.1)=Ta:=y ▸ u;refine⟨sf,B7.ab1 (o:=0) (k:=2) rfl,ER,?_⟩;refine(hq O.f).go (vs:=[aK sf]) (hM.trans H.le) (H.ag.ab0 Y) (zo (rf.mono H.le) qc) λw ae ak r ah q m=>?_;have m:r=bl (ka o.2.2.1):=m;subst m;refine⟨_,kW q,?_⟩;refine A ae _ (ka o.2.2.1) _ ah.ab0 rfl (by unfold lY;rw[zA hf]) λx I S=>⟨x,rfl,S⟩;have hf:pB (lb o.1)=Tc:=y ▸ u;intro ai V;have J:∀b,b=mj (lb o.1)->ai b z:=λb y=>by
   refine V b z ⟨λu=>?_,λu=>?_⟩;have U:mj (lb o.1)=Ta:=y ▸ u;have rt:=hv U;refine⟨_,_,sk,si,(by refine⟨?_,?_,?_,?_,trivial⟩ <;> (rw[Jk,Jk];exact B7.cell rfl)),?_⟩;have hC:ab4 gl 126 [up .tree o.2.2.2] [.str,.int .i64] (λr=>r=Jd o.2.2.2):=Jv hg hb O.v rfl;refine hC.go (vs:=[.agg (Y6 o.2.2.2 sk si).toArray]) (hM.trans H.le) (H.ag.ab0 Y) (zo (rv.mono H.le) qc) λw ab an r ac q m=>?_;have m:r=Jd o.2.2.2:=m;have m:r=(bl (Y5 Tc 0 o.2.2.2 0),0):=by rw[m];unfold Jd;rw[zA rt]
   subst m;obtain⟨us,⟨x1,am,rfl,r1,x2,rfl,r2⟩,rfl⟩:=q;rw[w5 r1];rw[J1 rfl]at r2;have e2:x2=.int .i64 0:=by simpa[Rd]using r2
   subst e2;refine⟨_,_,rfl,?_⟩;refine A ab _ (Y5 Tc 0 o.2.2.2 0) _ ac.ab0 rfl (by unfold lY;grind) λx I S=>⟨x,rfl,S⟩;have U:mj (lb o.1)=Tc:=y ▸ u;refine fin z h5.size 2 [o.1,bl (ka o.2.1)] _ K7 b7 rfl (zac _) ?_;unfold lY;grind
  refine⟨λu=>?_,λu=>⟨λP=>?_,λP=>?_⟩⟩;refine J _ ?_;unfold mj qR;grind;refine J _ ?_;unfold mj rz;grind;refine J _ ?_;have e1:=zI u;have e2:=zI P;unfold mj;refine zbd.2 ⟨λG=>zJ (.inr (.inr (zH G))),λG=>?_⟩;obtain C|C|C:=zH G;exact absurd C e1;exact absurd C e2;exact zJ C
 refine⟨λu=>?_,λu=>?_⟩;refine E _ ?_;unfold pB wV;grind;refine E _ ?_;have e1:=zI u;unfold pB;refine zbd.2 ⟨λG=>zJ (.inr (zH G)),λG=>?_⟩;obtain C|C:=zH G;exact absurd C e1;exact zJ C
end
section
variable {M gl:Fr} {g:zc} {l:List eK}
def opAt(ag:AgM M g){s:Sl}(H:Rd M (.row iq) l [aK s]){k:Nat}(i:k<DB l):∃(a:Addr) (sp sf sk si:Sl),(s.a=Td a/\(0:Int)<=(k:Int)/\((k:Nat):Int)<((s.len:Nat):Int))/\ze g (a.add (((k:Nat):Int).toNat*7)) 0 (j6 l[k].1 sp sf l[k].2.2.2 sk si) /\ RdV M (.row .str) l[k].2.1 (aK sp)/\RdV M (.row .str) l[k].2.2.1 (aK sf)/\RdV M .tree l[k].2.2.2 (.agg (Y6 l[k].2.2.2 sk si).toArray):=by
 have⟨r,_,_⟩:=CD H;have b1:(0:Int)<=(k:Int)/\((k:Nat):Int)<((s.len:Nat):Int):=ω
 have⟨b,o,cs,n,j,p⟩:=Go.X.aa2 H i;have q:RdV M iq l[k] (.agg (cut cs (o+k*sz iq) (sz iq)).toArray):=by unfold RdV;simp only[ig,if_true];exact⟨_,rfl,p⟩
 have⟨sp,sf,sk,si,c,h,m,f⟩:=ZZ q;have e:cut cs (o+k*7) 7=j6 l[k].1 sp sf l[k].2.2.2 sk si:=by injection c with c;have:=congrArg Array.toList c;simpa[show sz iq=7 from rfl]using this
 refine⟨⟨b,o,Te⟩,sp,sf,sk,si,⟨n,b1⟩,?_,h,m,f⟩;rw[Jk,zag];exact oP ag j (vs:=j6 l[k].1 sp sf l[k].2.2.2 sk si) e
def qjr{b:Nat}{cs:ac2}(B:Blk g b cs)(e:cs.size=7){s:Bt}{sp sf sk si:Sl}{v:Tr}{K:zc->Prop}(h:∀g',(∀k,k≠b->g'[k]?=g[k]?)->g'.size=g.size->Blk g' b (j6 s sp sf v sk si).toArray->K g'):CA Tp (zae 50 (ab6 ⟨b,0,Te⟩) (.agg (j6 s sp sf v sk si).toArray)) g K:=by refine X9 (vs:=j6 s sp sf v sk si) κ B rfl κ (by rw[e];exact zac _) (λu c=>?_) λg' f j i=>h g' i j (by rw[Hv (π e)]at f;exact f);simp[j6]at c;obtain rfl|rfl|rfl|rfl|rfl|rfl|rfl:=c <;> rfl
def pX(l:List eK):Bt×Int:=if l.all Zm then(bl (l.flatMap lI),0)else(⟨#[]⟩,1)
def PZ(c:∀o∈l,OpQ o)(b:l.all Zm=Ta):(l.flatMap lI).length<=DB l*200000000000:=by
 induction l with
 |nil=>simp
 |cons o l f=>rw[List.all_cons,zaw]at b;have h1:=Dg b.1 (c o List.mem_cons_self);have h2:=f (λo e=>c o (List.mem_cons_of_mem _ e)) b.2;rw[List.flatMap_cons,zah,List.length_cons];omega
def GI(s:Bt)(n:Int):Yx M [.str,.int .i64] (s,n) (.tuple #[ab5 s,ab9 n]):=⟨[_,_],⟨_,_,rfl,GE _,_,rfl,Q9 .i64 n⟩,rfl⟩
def VF(hg:GL gl)(hb:Brn gl)(hq:∀o∈l,OpQ o)(hn:l.length<=500){R:Bt×Int->Prop}(hR:R (pX l)):ab4 gl 38 [up (.row iq) l] [.str,.int .i64] R:=by
 intro h M vs hM ag ha
 match vs,ha with
 |[u],⟨hu,_⟩=>
  obtain⟨s,rfl,P⟩:=jU hu;have P:Rd M (.row iq) l [aK s]:=P;have⟨m,_,_⟩:=CD P;apply PX.of;apply zn6 s;intro h1;have B1:Bld h1 h.size []:=Bld.new h;have⟨k1,z1,_⟩:=jo (g:=h1) rfl;clear_value h1;have aa:∀g,BT h.size h g->l.all Zm=Tc->∃M' r,At h M g M'/\Yx M' [.str,.int .i64] r (.tuple #[ab5 (⟨#[]⟩:Bt),ab9 1])/\R r:=λg k e=>by refine⟨M,pX l,v0 ag k,?_,hR⟩;unfold pX;rw[zv (by rw[e];decide)];exact GI _ _
  refine⟨λx g=>∃n:Nat,x=(n:Int)/\n<=DB l/\BT h.size h g/\(l.take n).all Zm=Ta/\Bld g h.size ((l.take n).flatMap lI),λx _=>DB l-x.toNat,⟨0,rfl,zar _,k1,rfl,B1⟩,?_⟩;rintro x g ⟨n,rfl,ar,N,c,O⟩;have zg:=N.size;have ak:=O.lt;refine⟨λD=>?_,λD=>?_⟩;have b:n<DB l:=by rw[m]at D;simpa using D
  have B:=hq l[n] (zak b);have⟨a,sp,sf,sk,si,ea,S,r1,r2,r3⟩:=opAt (ag.ab0 N) P b;refine⟨a,ea,_,sp,sf,_,_,sk,si,S,?_⟩;intro z;have⟨U,ah,Z⟩:=jo (g:=z) rfl;clear_value z;refine qjr Z rfl λA V al H=>?_;have I:BT g.size g A:=⟨ω,λj q=>by rw[V j ω];exact U.get j q⟩;have y:BT h.size h A:=N.trans I zg;refine⟨_,sp,sf,_,_,sk,si,H.ld (cs:=j6 l[n].1 sp sf l[n].2.2.2 sk si),?_⟩;have ae:ab4 gl 44 [up iq l[n]] [.bool] (λr=>r=Zm l[n]):=R4 hg B.s rfl;refine ae.go (vs:=[.agg (j6 l[n].1 sp sf l[n].2.2.2 sk si).toArray]) hM (ag.ab0 y) (zo (a:=up iq l[n]) (HS r1 r2 r3) qc) λw G am r ac F p=>?_;have p:r=Zm l[n]:=p;subst p;have f:=ac.ab0;have af:=f.size;have i:BT h.size h G:=y.trans f (χ y.size);refine⟨Zm l[n],Jb F,λQ=>aa G i ?_,λQ=>?_⟩;exact List.all_eq_false.2 ⟨l[n],zak b,ψ Q⟩;have t:Zm l[n]=Ta:=ψ Q
  refine⟨_,sp,sf,_,_,sk,si,(H.ab2 f).ld (cs:=j6 l[n].1 sp sf l[n].2.2.2 sk si),?_⟩;refine qey hg hb B t hM (ag.ab0 i) r1 r2 r3 λC E=>⟨_,rfl,?_⟩;have ab:Bld C h.size ((l.take n).flatMap lI):=((O.ab0 I).ab0 f).ab0 E;have Y:BT h.size h C:=i.trans E (χ i.size);have fb:=PZ (l:=l.take n) (λo B=>hq o (List.mem_of_mem_take B)) c;have an:=Dg t B;have:(l.take n).length<=500:=by rw[zbt];omega
  refine IZ ab (lI l[n]) ω λaj J T=>⟨_,_,rfl,?_⟩;rw[qd b ω];refine⟨⟨n+1,rfl,b,⟨?_,λj q=>(T.get j q).trans (Y.get j q)⟩,?_,?_⟩,by simp only[zag];omega⟩;have:=J.lt;omega;rw[Oc b,c,t];rfl;rw[xt _ b];exact J;have b:n=DB l:=by rw[m]at D;simp at D;omega
  subst b;rw[za2]at c O;refine Dz O λai L=>⟨_,rfl,M,pX l,?_,?_,hR⟩;exact v0 ag ⟨χ L.size,λj q=>(L.get j q).trans (N.get j q)⟩;unfold pX;rw[zA c];exact GI _ _
def nZ(l:List eK):List Bt:=l.map λo=>bl (if Y2 o.2.1 then jp (o.2.1.map lb)else [])
def ZL(k:GL gl)(m:∀o∈l,SL o.2.1)(q:l.length<=1000000){R:List Bt->Prop}(p:R (nZ l)):ab4 gl 41 [up (.row iq) l] [.row .str] R:=by
 apply V6;refine⟨λout x=>∃n:Nat,x=(n:Int)/\n<=DB l/\out=nZ (l.take n),λ_ x=>DB l-x.toNat,⟨0,rfl,zar _,rfl⟩,?_⟩;rintro out x ⟨n,rfl,i,rfl⟩;refine⟨λf=>?_,λf=>?_⟩;have b:n<DB l:=ψ f
 refine⟨l[n],⟨ω,ϑ b⟩,?_⟩;have h:∀t:Bs,t=(ite (Y2 l[n].2.1) (jp (l[n].2.1.map lb)) [])->(zbu (nZ (l.take n))+zbu ([bl t]:List Bt))*16<=140737488355328/\(∃c:Nat,(w6 ((n:Int)+1))=(c:Int)/\c<=DB l/\nZ (l.take n)++[bl t]=nZ (l.take c))/\DB l-(w6 ((n:Int)+1)).toNat<DB l-(n:Int).toNat:=λt j=>by rw[qd b ω];refine⟨?_,⟨n+1,rfl,b,?_⟩,by simp only[zag];omega⟩;unfold nZ;rw[zas,zbt,List.length_singleton];omega;unfold nZ;rw[zai b,List.map_append,j];rfl
 refine Hx k (m _ (zak b)) (λe=>?_) λe=>?_;exact h _ (by rw[zA e]);exact h _ (by rw[zv (by rw[e];decide)]);have b:n=DB l:=by simp at f;omega
 subst b;rw[za2];exact p
end
section
def d1:Tr:=.mk 3 (bl [49]) [] []
def d2:Tr:=.mk 3 (bl [50]) [] []
def d3:Tr:=.mk 3 (bl [51]) [] []
def d0:Tr:=.mk 3 (bl [48]) [] []
def dRa:Tr:=.mk 5 ⟨#[]⟩ [] [d1,d2]
def dRb:Tr:=.mk 5 ⟨#[]⟩ [] [d1,d3]
def dA:Tr:=.mk 6 ⟨#[]⟩ [⟨#[97]⟩,⟨#[98]⟩] [d1,dRa]
def dB:Tr:=.mk 6 ⟨#[]⟩ [⟨#[98]⟩,⟨#[99]⟩] [dRb,d0]
def dL:List eK:=[lw [⟨#[97]⟩],kM [⟨#[98]⟩,ik 1] d3,ml [⟨#[99]⟩] d0]
def HE{a b:Bt}(h:decide (lb a<=lb b)=Ta):zt [a,b]=[a,b]:=by
 unfold zt;rw[List.mergeSort_of_pairwise];show[bl (lb a),bl (lb b)]=_;rw[Xl,Xl];refine zb2.2 ⟨λy c=>?_,zb2.2 ⟨λy c=>(ε c),zfc⟩⟩;have:y=lb b:=ψ c
 subst this;exact h
theorem T5:zt dA.aa8=[⟨#[97]⟩,⟨#[98]⟩]:=HE κ
theorem Pk:zt dB.aa8=[⟨#[98]⟩,⟨#[99]⟩]:=HE κ
theorem VO:jL dRa.aa7 dRb.aa7=Td [(0,0),(1,1)]:=κ
theorem WQ:dR 32 [⟨#[98]⟩] dRa dRb=[kM [⟨#[98]⟩,ik 1] d3]:=by show(ite (xd dRa dRb) [] (ite (dRa.aa6=6/\dRb.aa6=6) (jY (dR 31) [⟨#[98]⟩] dRa dRb) (ite (dRa.aa6=5/\dRb.aa6=5) (match jL dRa.aa7 dRb.aa7 with|some m=>jZ (dR 31) [⟨#[98]⟩] dRa dRb m|none=>[kM [⟨#[98]⟩] dRb]) [kM [⟨#[98]⟩] dRb])))=_;rw[zv (by rw[show xd dRa dRb=Tc by kernel_rfl];decide),zv ζ,zA ζ,VO];kernel_rfl
theorem dAB:pD dA dB=dL:=by
 show(ite (xd dA dB) [] (ite (dA.aa6=6/\dB.aa6=6) (jY (dR 32) [] dA dB) (ite (dA.aa6=5/\dB.aa6=5) (match jL dA.aa7 dB.aa7 with|some m=>jZ (dR 32) [] dA dB m|none=>[kM [] dB]) [kM [] dB])))=_;rw[zv (by rw[show xd dA dB=Tc by kernel_rfl];decide),zA ζ];unfold jY;rw[T5,Pk];have b:([⟨#[97]⟩,⟨#[98]⟩]:List Bt).filter (λk=>!dB.aa8.contains k)=[⟨#[97]⟩]:=κ
 have i:([⟨#[97]⟩,⟨#[98]⟩]:List Bt).filter (λk=>dB.aa8.contains k)=[⟨#[98]⟩]:=κ
 have c:([⟨#[98]⟩,⟨#[99]⟩]:List Bt).filter (λk=>!dA.aa8.contains k)=[⟨#[99]⟩]:=κ
 rw[b,i,c];show[lw [⟨#[97]⟩]]++((dR 32 [⟨#[98]⟩] (Ye dA ⟨#[98]⟩) (Ye dB ⟨#[98]⟩)++[])++[ml [⟨#[99]⟩] (Ye dB ⟨#[99]⟩)])=_;have h:Ye dA ⟨#[98]⟩=dRa:=κ
 have e:Ye dB ⟨#[98]⟩=dRb:=κ
 have f:Ye dB ⟨#[99]⟩=d0:=κ
 rw[h,e,f,WQ];rfl
theorem SX:zr dA=Ta:=κ
theorem SO:zr dB=Ta:=κ
def Rc:iA dA dB=(dL,0):=by unfold iA;rw[SX,SO,dAB];rfl
def YO:pX dL=(bl [114,101,109,111,118,101,32,34,47,97,34,10,114,101,112,108,97,99,101,32,34,47,98,47,49,34,32,51,10,97,100,100,32,34,47,99,34,32,48,10],0):=κ
def NJ:nZ dL=[⟨#[47,97]⟩,⟨#[47,98,47,49]⟩,⟨#[47,99]⟩]:=κ
end
section
variable {f:FuncId} {args:Array Value} {h:zc} {g:Bool} {M:Fr} {b:Nat} {s1 s2:Bt} {k:Int} {a:Sl} {l:List Tr}
theorem KW{x y:Sl}(e:aK x=aK y):x=y:=by unfold aK at e;injection e with e1 e2 e3;cases x;cases y;simp_all
def OM(c:g=Ta){Kt:Bool->zc->Prop}(E:ab3 f args h λv h'=>∃r,v=.bool r/\Kt r h'):∃J:vvv,(g=Ta->ab3 f args h λv h'=>∃r:Bool,v=.bool r/\J (ab8 r) h')/\(g=Tc->∃r:Bool,J (ab8 r) h)/\(g=Ta->∀v h',J v h'->∃r:Bool,v=.bool r)/\∀r:Bool,∀h',J (ab8 r) h'->Kt r h':=by refine⟨λv h'=>∃r,v=.bool r/\Kt r h',λ_=>XC.mono E λv h' ⟨r,e,H⟩=>⟨r,e,r,rfl,H⟩,λi=>θ,λ_ v h' ⟨r,e,_⟩=>⟨r,e⟩,λr h' ⟨b,e,H⟩=>?_⟩;simp_all
def Un(b:g=Ta){Kt:Sl->zc->Prop}(E:ab3 f args h λv h'=>∃s,v=aK s/\Kt s h'):∃J:vvv,(g=Ta->ab3 f args h λv h'=>∃s:Sl,v=aK s/\J (aK s) h')/\(g=Tc->∃s:Sl,J (aK s) h)/\(g=Ta->∀v h',J v h'->∃s:Sl,v=aK s)/\∀s:Sl,∀h',J (aK s) h'->Kt s h':=by refine⟨λv h'=>∃s,v=aK s/\Kt s h',λ_=>XC.mono E λv h' ⟨s,e,H⟩=>⟨s,e,s,rfl,H⟩,λi=>θ,λ_ v h' ⟨s,e,_⟩=>⟨s,e⟩,λs h' ⟨c,e,H⟩=>?_⟩;rw[KW e];exact H
def Rn{h h1:zc}{s:Sl}(b:g=Ta){Kt:Sl->zc->Prop}(E:Kt s h1):∃J:vvv,(g=Ta->J (aK s) h1)/\(g=Tc->∃x:Sl,J (aK x) h)/\(g=Ta->∀v h',J v h'->∃x:Sl,v=aK x)/\∀x:Sl,∀h',J (aK x) h'->Kt x h':=by refine⟨λv h'=>∃x,v=aK x/\Kt x h',λ_=>⟨s,rfl,E⟩,λf=>θ,λ_ v h' ⟨x,e,_⟩=>⟨x,e⟩,λx h' ⟨c,e,H⟩=>?_⟩;rw[KW e];exact H
def ML(hb:M b=Te){h f:Tr}{w1 w2:ac1}(h1:Rd M .tree h w1)(h2:Rd M .tree f w2)(j:w1.length=4)(k:w2.length=4):Rd (Mx M b (w1++w2).toArray) (.row .tree) [h,f] [aK ⟨Td ⟨b,0,Te⟩,2,2⟩]:=by
 have le:Fr.le M (Mx M b (w1++w2).toArray):=λc cs e=>by unfold Mx;grind
 refine⟨_,rfl,_,_,rfl,ξ,.inr ⟨b,0,_,rfl,by unfold Mx;rw[zA rfl],λi hi=>?_⟩⟩;have hi:i<2:=hi;rcases(ω:i=0\/i=1)with rfl|rfl;have:cut (w1++w2).toArray (0+0*sz .tree) (sz .tree)=w1:=by show List.take 4 (List.drop 0 (w1++w2))=w1;rw[List.drop_zero,<-j,List.take_left]
 rw[this];exact Rd.mono le h1;have:cut (w1++w2).toArray (0+1*sz .tree) (sz .tree)=w2:=by show List.take 4 (List.drop 4 (w1++w2))=w2;rw[List.drop_left' j,<-k,za2]
 rw[this];exact Rd.mono le h2
def Va:Rd (Mx M b #[ab5 s1,ab5 s2]) (.row .str) [s1,s2] [aK ⟨Td ⟨b,0,Te⟩,2,2⟩]:=by refine⟨_,rfl,_,_,rfl,ξ,.inr ⟨b,0,_,rfl,by unfold Mx;rw[zA rfl],λi hi=>?_⟩⟩;have hi:i<2:=hi;rcases(ω:i=0\/i=1)with rfl|rfl <;> rfl
def Od{s1 s2 c:Bt}:Rd (Mx M b #[ab5 s1,ab5 s2,ab5 c]) (.row .str) [s1,s2,c] [aK ⟨Td ⟨b,0,Te⟩,3,3⟩]:=by refine⟨_,rfl,_,_,rfl,ξ,.inr ⟨b,0,_,rfl,by unfold Mx;rw[zA rfl],λi hi=>?_⟩⟩;have hi:i<3:=hi;rcases(ω:i=0\/i=1\/i=2)with rfl|rfl|rfl <;> rfl
def tV(k:Int)(s:Bt)(a b:Sl):Value:=.agg #[.int .i64 k,.string s,aK a,aK b]
def Ke{T:Tr}{s:Bt}{a b:Sl}(h:RdV M .tree T (tV k s a b)):Rd M .tree T [ab9 k,ab5 s,aK a,aK b]:=by unfold RdV at h;simp only[ig,if_true]at h;have⟨cs,e,c⟩:=h;unfold tV at e;simp_all
structure T22 (gl:Fr) (h0:zc) (M0:Fr) (ob:Nat) (ok oi:Sl) (hO:zc) (E:zc->Fr->Prop) (g:zc) (M:Fr):Prop where
 hM:Fr.le gl M
 L:At h0 M0 g M
 fr:g[ob]?=hO[ob]?
 lt:ob<g.size
 r1:RdV M .tree d1 (tV d1.aa6 d1.aa9 ok oi)
 e:E g M
structure RC (h0:zc) (ob:Nat) (g:zc) (M:Fr) (b:Nat):Prop where
 B:Blk g b #[.int .i64 0,.string ⟨#[]⟩,aK ⟨Te,0,0⟩,aK ⟨Te,0,0⟩]
 no:M b=Te
 ne:b≠ob
 lo:h0.size<=b
section
variable {gl : Fr} {h0 : zc} {M0 : Fr} {ob : Nat} {ok oi : Sl} {hO : zc} {E : zc -> Fr -> Prop} {g g' : zc} {M M' : Fr}
theorem T22.later(b:∀{g M g' M'},At g M g' M'->E g M->E g' M')(t:T22 gl h0 M0 ob ok oi hO E g M)(L:At g M g' M'):T22 gl h0 M0 ob ok oi hO E g' M':= ⟨t.hM.trans L.le,t.L.trans L,(L.ab0.get _ t.lt).trans t.fr,by have:=L.ab0.size;have:=t.lt;omega,t.r1.mono L.le,b L t.e⟩
theorem RC.later(x:RC h0 ob g M b)(L:At g M g' M'):RC h0 ob g' M' b:= ⟨x.B.ab0 (L.ab0.get _ x.B.lt),by rw[L.old b x.B.lt];exact x.no,x.ne,x.lo⟩
def xb(ag:AgM M g)(a b:Bt):∃M',At g M (g.push (.cells #[ab5 a,ab5 b] 9)) M'/\RdV M' (.row .str) [a,b] (aK ⟨Td (ab7 g),2,2⟩):= ⟨_,At.frz ag _ _,(J1 rfl).2 Va⟩
def xe(ag:AgM M g){u w:Tr}{k f:Int}{s c:Bt}{a b e b':Sl}(r:RdV M .tree u (tV k s a b))(h:RdV M .tree w (tV f c e b')):∃M',At g M (g.push (.cells #[ab9 k,ab5 s,aK a,aK b,ab9 f,ab5 c,aK e,aK b'] 25)) M'/\RdV M' (.row .tree) [u,w] (aK ⟨Td (ab7 g),2,2⟩):=
 ⟨_,At.frz ag _ _,(J1 rfl).2 (ML (w1:=[_,_,_,_]) (w2:=[_,_,_,_]) (ag.none (zac _)) (Ke r) (Ke h) rfl rfl)⟩
def Yg(t:T22 gl h0 M0 ob ok oi hO E g M):At g M (g.push (.cells #[ab9 0,ab5 ⟨#[]⟩,.slice Te 0 0,.slice Te 0 0] 25)) M/\RC h0 ob (g.push (.cells #[ab9 0,ab5 ⟨#[]⟩,.slice Te 0 0,.slice Te 0 0] 25)) M g.size:= ⟨v0 t.L.ag (BT.push _ _ (zac _)),Blk.new _ _ _,t.L.ag.none (zac _),χ t.lt,t.L.ab0.size⟩
def kY(i:GL gl)(t:T22 gl h0 M0 ob ok oi hO E g M){n:Int}{d:Tr}(h1:-1000000<=n)(h2:n<=1000000)(h:Tr.mk 3 (bl (Qa (qm (Lib.itoa n)).1)) [] []=d){K:Int->Bt->Sl->Sl->zc->Prop}(j:∀g' M' a b,At g M g' M'->RdV M' .tree d (tV d.aa6 d.aa9 a b)->K d.aa6 d.aa9 a b g'):ab3 51 #[ab9 n] g λv g'=>∃k s a b,v=tV k s a b/\K k s a b g':=by refine(G7 i h1 h2 (R:=λr=>r=d) h).go t.hM t.L.ag (zo (a:=up PJ n) (Q9 _ _) qc) λw g' M' r L c e=>?_;have e:r=d:=e;subst e;have f:=Qr.1 c;obtain⟨a,b,rfl,_,_⟩:=qh f;exact⟨_,_,a,b,rfl,j g' M' a b L f⟩
def nt(t:T22 gl h0 M0 ob ok oi hO E g M){s:Sl}(r:RdV M (.row .tree) l (aK s)){K:Int->Bt->Sl->Sl->zc->Prop}(h:∀g' M' a b,At g M g' M'->RdV M' .tree (.mk 5 ⟨#[]⟩ [] l) (tV 5 ⟨#[]⟩ a b)->K 5 ⟨#[]⟩ a b g'):ab3 52 #[aK s] g λv g'=>∃k s a b,v=tV k s a b/\K k s a b g':=by refine(RR (gl:=gl) (l:=l) (R:=λr=>r=.mk 5 ⟨#[]⟩ [] l) rfl).go t.hM t.L.ag (zo (a:=up (.row .tree) _) r qc) λw g' M' r L c e=>?_;have e:r=.mk 5 ⟨#[]⟩ [] l:=e;subst e;have f:=Qr.1 c;obtain⟨a,b,rfl,_,_⟩:=qh f;exact⟨_,_,a,b,rfl,h g' M' a b L f⟩
def uj(t:T22 gl h0 M0 ob ok oi hO E g M){ks:List Bt}{s f:Sl}(j:RdV M (.row .str) ks (aK f))(r:RdV M (.row .tree) l (aK s)){K:Int->Bt->Sl->Sl->zc->Prop}(i:∀g' M' a b,At g M g' M'->RdV M' .tree (.mk 6 ⟨#[]⟩ ks l) (tV 6 ⟨#[]⟩ a b)->K 6 ⟨#[]⟩ a b g'):ab3 47 #[aK f,aK s] g λv g'=>∃k s a b,v=tV k s a b/\K k s a b g':=by refine(qlm (gl:=gl) (ks:=ks) (l:=l) (R:=λr=>r=.mk 6 ⟨#[]⟩ ks l) rfl).go t.hM t.L.ag (zo (a:=up (.row .str) _) j (zo (a:=up (.row .tree) _) r qc)) λw g' M' r L c e=>?_;have e:r=.mk 6 ⟨#[]⟩ ks l:=e;subst e;have h:=Qr.1 c;obtain⟨a,b,rfl,_,_⟩:=qh h;exact⟨_,_,a,b,rfl,i g' M' a b L h⟩
def E0(t:T22 gl h0 M0 ob ok oi hO E g M)(x:RC h0 ob g M b){s:Bt}{a c:Sl}{K:zc->Prop}(i:∀g',(∀j,j≠b->g'[j]?=g[j]?)->g'.size=g.size->At h0 M0 g' M->Blk g' b #[ab9 k,ab5 s,aK a,aK c]->K g'):CA Tp (zae 25 (ab6 ⟨b,0,Te⟩) (tV k s a c)) g K:=
 Q8 x.B λg' f z B=>i g' f z ⟨⟨χ t.L.ab0.size,λj h=>(f j (χ x.lo)).trans (t.L.ab0.get j h)⟩,t.L.le,t.L.old,AgM.off t.L.ag λc m e=>f c λl=>by rw[l,x.no]at e;exact nomatch e⟩ B
end
def VG:Tr.mk 3 (bl (Qa (qm (Lib.itoa 1)).1)) [] []=d1:=κ
def vO:Tr.mk 3 (bl (Qa (qm (Lib.itoa 2)).1)) [] []=d2:=κ
def vZ:Tr.mk 3 (bl (Qa (qm (Lib.itoa 3)).1)) [] []=d3:=κ
def uY:Tr.mk 3 (bl (Qa (qm (Lib.itoa 0)).1)) [] []=d0:=κ
def tM{b:Bs}(hb:b.length<=2048):iT (.mk 3 (bl b) [] []):=by rw[iT,jC];simp_all[zn]
def Fe{b:Bs}(hb:b.length<=2048):Sm (.mk 3 (bl b) [] []):=Sm.few (by rw[iK,iN];simp) (tM hb)
def JB{a b:Bs}(c:a.length<=2048)(hb:b.length<=2048):iT (.mk 5 ⟨#[]⟩ [] [.mk 3 (bl a) [] [],.mk 3 (bl b) [] []]):=by rw[iT,jC,jC,jC];exact⟨⟨ζ,ξ⟩,tM c,tM hb,trivial⟩
def NM:Sm dA:=by
 refine Sm.few ?_ ?_;have:iK dA=7:=κ
 omega;unfold dA;rw[iT,jC,jC,jC];exact⟨⟨ζ,ζ⟩,tM ζ,JB ζ ζ,trivial⟩
def qo6:Sm dB:=by
 refine Sm.few ?_ ?_;have:iK dB=7:=κ
 omega;unfold dB;rw[iT,jC,jC,jC];exact⟨⟨ζ,ζ⟩,JB ζ ζ,tM ζ,trivial⟩
def pz{l:List Bt}(h1:decide (DB l<=200)=Ta)(h2:l.all (λx=>decide ((lb x).length<=1024))=Ta):PS l:= ⟨zH h1,λx b=>zH (zbl.1 h2 x b)⟩
def En:∀o∈dL,OpQ o:=λo b=>by unfold dL at b;simp only[List.mem_cons,List.not_mem_nil,or_false]at b;obtain rfl|rfl|rfl:=b;exact⟨pz κ κ,pz κ κ,ue⟩;exact⟨pz κ κ,pz κ κ,Fe ζ⟩;exact⟨pz κ κ,pz κ κ,Fe ζ⟩
def E22(e:Nat)(c b:Sl)(g:zc)(M:Fr):Prop:=Blk g e #[.int .i64 6,.string ⟨#[]⟩,aK c,aK b]/\RdV M .tree dA (tV 6 ⟨#[]⟩ c b)
theorem E22.later{c:Nat}{f b:Sl}{g g':zc}{M M':Fr}(L:At g M g' M')(e:E22 c f b g M):E22 c f b g' M':=⟨e.1.ab0 (L.ab0.get _ e.1.lt),e.2.mono L.le⟩
def jc(_:zc)(_:Fr):Prop:=True
end
end
section
open Go.Lib Go.RowKit
section
def ZM{gl:Fr}(hg:GL gl)(hb:Brn gl){R:ad2}(hR:R Ta):ab4 gl 30 [] [.bool] R:=by
 intro h M vs hM ag ha
 match vs,ha with
 |[],_=>
 apply PX.of
 apply Uq
 refine(G7 hg (n:=1) ζ ζ (R:=λr=>r=d1) VG).go hM ag (zo (a:=up PJ 1) (Q9 _ _) qc) λw h2 M2 r F V hr=>?_
 have hr:r=d1:=hr
 subst hr
 have r1:=Qr.1 V
 obtain⟨ok,oi,rfl,_,_⟩:=qh r1
 refine⟨_,_,ok,oi,rfl,?_⟩
 intro h7
 have⟨k7,z7,b7⟩:=jo (g:=h7) rfl
 clear_value h7
 refine Q8 b7 λh8 f8 z8 b8=>?_
 have U:At h2 M2 h8 M2:=v0 F.ag ⟨ω,λj hj=>by rw[f8 j ω];exact k7.get j hj⟩
 have cp:=F.trans U
 intro cG cm
 have kA:∀{g:zc} {Mg:Fr} {T:Nat} {ak Z:Sl},T22 gl h M h2.size ok oi h8 jc g Mg->Blk g T #[ab9 6,ab5 ⟨#[]⟩,aK ak,aK Z]->T≠h2.size->RdV Mg .tree dA (tV 6 ⟨#[]⟩ ak Z)->cG ⟨T,0,Te⟩ g:=by
  intro O bn T ak Z am cC dd rA
  refine cm _ _ ?_
  intro cy cu
  have B1:Blk O h2.size #[ab9 d1.aa6,ab5 d1.aa9,aK ok,aK oi]:=b8.ab0 am.fr
  have H:T22 gl h M h2.size ok oi O (E22 T ak Z) O bn:=⟨am.hM,am.L,rfl,am.lt,am.r1,cC,rA⟩
  have kB:∀{g:zc} {Mg:Fr} {bb:Nat} {bk bi:Sl},T22 gl h M h2.size ok oi O (E22 T ak Z) g Mg->Blk g bb #[ab9 6,ab5 ⟨#[]⟩,aK bk,aK bi]->RdV Mg .tree dB (tV 6 ⟨#[]⟩ bk bi)->cy ⟨bb,0,Te⟩ g:=by
   intro cO cH bb bk bi ah cA rB
   refine cu _ _ ⟨_,_,ak,Z,ah.e.1.ld (cs:=[ab9 6,ab5 ⟨#[]⟩,aK ak,aK Z]),_,_,bk,bi,cA.ld (cs:=[ab9 6,ab5 ⟨#[]⟩,aK bk,aK bi]),?_⟩
   have dl:∀{v:Tr},decide (cK v<=100)=Ta->kn 1048576 v->Sm v:=λh1 h2=>⟨χ (zH h1),h2⟩
   refine(ZR hg hb (x:=dA) (y:=dB) NM qo6 (R:=λr=>r=(dL,0)) Rc).go ah.hM ah.L.ag (zo (a:=up .tree dA) ah.e.2 (zo (a:=up .tree dB) rB qc)) λw c7 di r bq V hr=>?_
   have hr:r=(dL,0):=hr
   subst hr
   obtain⟨us,⟨x1,cJ,rfl,q1,x2,rfl,q2⟩,rfl⟩:=V
   obtain⟨sl,rfl,rl⟩:=jU q1
   rw[J1 rfl]at q2
   have e2:x2=.int .i64 0:=by simpa[Rd]using q2
   subst e2
   have⟨bz,_,_⟩:=CD rl
   have cE:sl.len=3:=bz
   refine⟨sl,_,rfl,?_⟩
   have L0:=ah.L.trans bq
   refine(VF hg hb (l:=dL) En ζ (R:=λr=>r=_) YO).go (ah.hM.trans bq.le) bq.ag (zo (a:=up (.row iq) dL) q1 qc) λw dh cZ r bm V hr=>?_
   have hr:r=(bl [114,101,109,111,118,101,32,34,47,97,34,10,114,101,112,108,97,99,101,32,34,47,98,47,49,34,32,51,10,97,100,100,32,34,47,99,34,32,48,10],0):=hr
   subst hr
   obtain⟨us,⟨x1,cJ,rfl,q3,x2,rfl,q4⟩,rfl⟩:=V
   rw[w5 q3]
   rw[J1 rfl]at q4
   have e4:x2=.int .i64 0:=by simpa[Rd]using q4
   subst e4
   refine⟨_,_,rfl,?_⟩
   have cv:(cond (cond (cond ((0:Int)==0) ((((sl.len:Nat):Int):Int)==3) Tc) ((0:Int)==0) Tc) (((bl [114,101,109,111,118,101,32,34,47,97,34,10,114,101,112,108,97,99,101,32,34,47,98,47,49,34,32,51,10,97,100,100,32,34,47,99,34,32,48,10]:Bt)).toList==((ad9:Bt):Bt).toList) Tc)=Ta:=by
    rw[cE]
    kernel_rfl
   have bE:=L0.trans bm
   rw[cv]
   refine Un rfl ?_
   refine(ZL hg (l:=dL) (λo ho=>(En o ho).s.p) ζ (R:=λr=>r=_) NJ).go (hM.trans bE.le) bm.ag (zo (a:=up (.row iq) dL) (q1.mono bm.le) qc) λw aj bM r bO V hr=>?_
   have hr:r=[⟨#[47,97]⟩,⟨#[47,98,47,49]⟩,⟨#[47,99]⟩]:=hr
   subst hr
   obtain⟨sp,rfl,rp⟩:=jU (Qr.1 V)
   refine⟨sp,rfl,?_⟩
   refine Rn (s:=⟨Td (ab7 aj),3,3⟩) (h1:=aj.push (.cells #[ab5 ⟨#[47,97]⟩,ab5 ⟨#[47,98,47,49]⟩,ab5 ⟨#[47,99]⟩] 9)) rfl ?_
   have bg:At aj bM (aj.push (.cells #[ab5 ⟨#[47,97]⟩,ab5 ⟨#[47,98,47,49]⟩,ab5 ⟨#[47,99]⟩] 9)) (Mx bM aj.size #[ab5 ⟨#[47,97]⟩,ab5 ⟨#[47,98,47,49]⟩,ab5 ⟨#[47,99]⟩]):=At.frz bO.ag _ _
   have bN:=(bE.trans bO).trans bg
   refine OM rfl ?_
   refine(Ds (gl:=gl) (a:=[⟨#[47,97]⟩,⟨#[47,98,47,49]⟩,⟨#[47,99]⟩]) (b:=[⟨#[47,97]⟩,⟨#[47,98,47,49]⟩,⟨#[47,99]⟩]) ζ (R:=λr=>r=Ta) λr hr=>hr.2 rfl).go (hM.trans bN.le) bg.ag (zo (a:=up (.row .str) _) ((J1 rfl).2 (rp.mono bg.le)) (zo (a:=up (.row .str) _) ((J1 rfl).2 Od) qc)) λw cV cF r cB V hr=>⟨r,Jb V,?_⟩
   have hr:r=Ta:=hr
   subst hr
   exact⟨cF,Ta,bN.trans cB,Qr.2 (GS _),hR⟩
  refine⟨_,_,ok,oi,B1.ld (cs:=[ab9 d1.aa6,ab5 d1.aa9,aK ok,aK oi]),?_⟩
  intro bD bI bH bQ bG bL cc bF bT cj bB bZ bA bJ cz cg bu
  have k:∀{g g':zc} {m aA:Fr},T22 gl h M h2.size ok oi O (E22 T ak Z) g m->At g m g' aA->T22 gl h M h2.size ok oi O (E22 T ak Z) g' aA:=λt L=>t.later E22.later L
  have aG:∀{g:zc} {m:Fr} {u:Nat} {a c:Sl},T22 gl h M h2.size ok oi O (E22 T ak Z) g m->RC h h2.size g m u->u≠T->RdV m .tree dB (tV 6 ⟨#[]⟩ a c)->bD ⟨u,0,Te⟩ 6 ⟨#[]⟩ a c g:=λ {g m u a c} t x Y r=>
   E0 t x λg' f z L B=>kB ⟨t.hM,L,(f _ (λe=>x.ne e.symm)).trans t.fr,χ t.lt,t.r1,t.e.1.ab0 (f _ (λe=>Y e.symm)),t.e.2⟩ B r
  have az:∀{g:zc} {m:Fr} {u:Nat} {si:Sl} {sk:Sl},T22 gl h M h2.size ok oi O (E22 T ak Z) g m->RC h h2.size g m u->u≠T->RdV m (.row .tree) [dRb,d0] (aK si)->RdV m (.row .str) [⟨#[98]⟩,⟨#[99]⟩] (aK sk)->bI ⟨u,0,Te⟩ si sk g:=by
   intro g m u si sk t x Y ri I
   refine uj t I ri λg1 m a1 b1 q v1=>?_
   exact aG (k t q) (x.later q) Y v1
  have aO:∀{g:zc} {m:Fr} {si:Sl} {sk:Sl},T22 gl h M h2.size ok oi O (E22 T ak Z) g m->RdV m (.row .tree) [dRb,d0] (aK si)->RdV m (.row .str) [⟨#[98]⟩,⟨#[99]⟩] (aK sk)->bH si sk g:=by
   intro g m si sk t ri I
   refine⟨?_,?_⟩
   ·refine uj t I ri λg1 m a1 b1 q v1=>?_
    have⟨F,x2⟩:=Yg (k t q)
    exact aG (k (k t q) F) x2 (Nat.ne_of_gt (k t q).e.1.lt) v1
   ·have⟨L3,x3⟩:=Yg t
    exact az (k t L3) x3 (Nat.ne_of_gt t.e.1.lt) ri I
  have aC:∀{g:zc} {m:Fr} {u:Nat} {aa:Int} {ab:Bt} {ae ac:Sl} {A:Int} {C:Bt} {arr D:Sl} {sk:Sl},T22 gl h M h2.size ok oi O (E22 T ak Z) g m->RC h h2.size g m u->u≠T->RdV m .tree d0 (tV aa ab ae ac)->RdV m .tree dRb (tV A C arr D)->RdV m (.row .str) [⟨#[98]⟩,⟨#[99]⟩] (aK sk)->bQ ⟨u,0,Te⟩ aa ab ae ac A C arr D sk g:=by
   intro g m u aa ab ae ac A C arr D sk t x Y r0 rr I
   have⟨m,q,i1⟩:=xe t.L.ag rr r0
   exact az (k t q) (x.later q) Y i1 (I.mono q.le)
  have aT:∀{g:zc} {m:Fr} {u:Nat} {si:Sl},T22 gl h M h2.size ok oi O (E22 T ak Z) g m->RC h h2.size g m u->u≠T->RdV m (.row .tree) [dRb,d0] (aK si)->bG ⟨u,0,Te⟩ si g:=by
   intro g m u si t x Y ri
   have⟨m,q,k1⟩:=xb t.L.ag ⟨#[98]⟩ ⟨#[99]⟩
   exact az (k t q) (x.later q) Y (ri.mono q.le) k1
  have aS:∀{g:zc} {m:Fr} {aa:Int} {ab:Bt} {ae ac:Sl} {A:Int} {C:Bt} {arr D:Sl} {sk:Sl},T22 gl h M h2.size ok oi O (E22 T ak Z) g m->RdV m .tree d0 (tV aa ab ae ac)->RdV m .tree dRb (tV A C arr D)->RdV m (.row .str) [⟨#[98]⟩,⟨#[99]⟩] (aK sk)->bL aa ab ae ac A C arr D sk g:=by
   intro g m aa ab ae ac A C arr D sk t r0 rr I
   refine⟨?_,?_⟩
   ·have⟨m,q,i1⟩:=xe t.L.ag rr r0
    exact aO (k t q) i1 (I.mono q.le)
   ·have⟨F,x2⟩:=Yg t
    exact aC (k t F) x2 (Nat.ne_of_gt t.e.1.lt) r0 rr I
  have an:∀{g:zc} {m:Fr} {u:Nat} {A:Int} {C:Bt} {arr D:Sl} {sk:Sl},T22 gl h M h2.size ok oi O (E22 T ak Z) g m->RC h h2.size g m u->u≠T->RdV m .tree dRb (tV A C arr D)->RdV m (.row .str) [⟨#[98]⟩,⟨#[99]⟩] (aK sk)->cc ⟨u,0,Te⟩ A C arr D sk g:=by
   intro g m u A C arr D sk t x Y rr I
   refine kY hg t ζ ζ uY λg1 m a1 b1 q v1=>?_
   exact aC (k t q) (x.later q) Y v1 (rr.mono q.le) (I.mono q.le)
  have aH:∀{g:zc} {m:Fr} {u:Nat} {aa:Int} {ab:Bt} {ae ac:Sl} {A:Int} {C:Bt} {arr D:Sl},T22 gl h M h2.size ok oi O (E22 T ak Z) g m->RC h h2.size g m u->u≠T->RdV m .tree d0 (tV aa ab ae ac)->RdV m .tree dRb (tV A C arr D)->bF ⟨u,0,Te⟩ aa ab ae ac A C arr D g:=by
   intro g m u aa ab ae ac A C arr D t x Y r0 rr
   refine⟨?_,?_⟩
   ·have⟨m,q,k1⟩:=xb t.L.ag ⟨#[98]⟩ ⟨#[99]⟩
    exact aC (k t q) (x.later q) Y (r0.mono q.le) (rr.mono q.le) k1
   ·have⟨M2,F,i2⟩:=xe t.L.ag rr r0
    exact aT (k t F) (x.later F) Y i2
  have aI:∀{g:zc} {m:Fr} {A:Int} {C:Bt} {arr D:Sl} {sk:Sl},T22 gl h M h2.size ok oi O (E22 T ak Z) g m->RdV m .tree dRb (tV A C arr D)->RdV m (.row .str) [⟨#[98]⟩,⟨#[99]⟩] (aK sk)->bT A C arr D sk g:=by
   intro g m A C arr D sk t rr I
   refine⟨?_,?_⟩
   ·refine kY hg t ζ ζ uY λg1 m a1 b1 q v1=>?_
    exact aS (k t q) v1 (rr.mono q.le) (I.mono q.le)
   ·have⟨F,x2⟩:=Yg t
    exact an (k t F) x2 (Nat.ne_of_gt t.e.1.lt) rr I
  have ax:∀{g:zc} {m:Fr} {u:Nat} {sj:Sl} {sk:Sl},T22 gl h M h2.size ok oi O (E22 T ak Z) g m->RC h h2.size g m u->u≠T->RdV m (.row .tree) [d1,d3] (aK sj)->RdV m (.row .str) [⟨#[98]⟩,⟨#[99]⟩] (aK sk)->cj ⟨u,0,Te⟩ sj sk g:=by
   intro g m u sj sk t x Y rj I
   refine nt t rj λg1 m a1 b1 q v1=>?_
   exact an (k t q) (x.later q) Y v1 (I.mono q.le)
  have aV:∀{g:zc} {m:Fr} {u:Nat} {A:Int} {C:Bt} {arr D:Sl},T22 gl h M h2.size ok oi O (E22 T ak Z) g m->RC h h2.size g m u->u≠T->RdV m .tree dRb (tV A C arr D)->bB ⟨u,0,Te⟩ A C arr D g:=by
   intro g m u A C arr D t x Y rr
   refine⟨?_,?_⟩
   ·have⟨m,q,k1⟩:=xb t.L.ag ⟨#[98]⟩ ⟨#[99]⟩
    exact an (k t q) (x.later q) Y (rr.mono q.le) k1
   ·refine kY hg t ζ ζ uY λg2 M2 a2 b2 F v2=>?_
    exact aH (k t F) (x.later F) Y v2 (rr.mono F.le)
  have aZ:∀{g:zc} {m:Fr} {sj:Sl} {sk:Sl},T22 gl h M h2.size ok oi O (E22 T ak Z) g m->RdV m (.row .tree) [d1,d3] (aK sj)->RdV m (.row .str) [⟨#[98]⟩,⟨#[99]⟩] (aK sk)->bZ sj sk g:=by
   intro g m sj sk t rj I
   refine⟨?_,?_⟩
   ·refine nt t rj λg1 m a1 b1 q v1=>?_
    exact aI (k t q) v1 (I.mono q.le)
   ·have⟨F,x2⟩:=Yg t
    exact ax (k t F) x2 (Nat.ne_of_gt t.e.1.lt) rj I
  have ar:∀{g:zc} {m:Fr} {u:Nat} {N:Int} {J:Bt} {Q P:Sl} {sk:Sl},T22 gl h M h2.size ok oi O (E22 T ak Z) g m->RC h h2.size g m u->u≠T->RdV m .tree d3 (tV N J Q P)->RdV m (.row .str) [⟨#[98]⟩,⟨#[99]⟩] (aK sk)->bA ⟨u,0,Te⟩ N J Q P sk g:=by
   intro g m u N J Q P sk t x Y r3 I
   have⟨m,q,i1⟩:=xe t.L.ag t.r1 r3
   exact ax (k t q) (x.later q) Y i1 (I.mono q.le)
  have aD:∀{g:zc} {m:Fr} {u:Nat} {sj:Sl},T22 gl h M h2.size ok oi O (E22 T ak Z) g m->RC h h2.size g m u->u≠T->RdV m (.row .tree) [d1,d3] (aK sj)->bJ ⟨u,0,Te⟩ sj g:=by
   intro g m u sj t x Y rj
   refine⟨?_,?_⟩
   ·have⟨m,q,k1⟩:=xb t.L.ag ⟨#[98]⟩ ⟨#[99]⟩
    exact ax (k t q) (x.later q) Y (rj.mono q.le) k1
   ·refine nt t rj λg2 M2 a2 b2 F v2=>?_
    exact aV (k t F) (x.later F) Y v2
  have ca:∀{g:zc} {m:Fr} {N:Int} {J:Bt} {Q P:Sl} {sk:Sl},T22 gl h M h2.size ok oi O (E22 T ak Z) g m->RdV m .tree d3 (tV N J Q P)->RdV m (.row .str) [⟨#[98]⟩,⟨#[99]⟩] (aK sk)->cz N J Q P sk g:=by
   intro g m N J Q P sk t r3 I
   refine⟨?_,?_⟩
   ·have⟨m,q,i1⟩:=xe t.L.ag t.r1 r3
    exact aZ (k t q) i1 (I.mono q.le)
   ·have⟨F,x2⟩:=Yg t
    exact⟨(k t F).fr,ar (k t F) x2 (Nat.ne_of_gt t.e.1.lt) r3 I⟩
  have aN:∀{g:zc} {m:Fr} {u:Nat} {sk:Sl},T22 gl h M h2.size ok oi O (E22 T ak Z) g m->RC h h2.size g m u->u≠T->RdV m (.row .str) [⟨#[98]⟩,⟨#[99]⟩] (aK sk)->cg ⟨u,0,Te⟩ sk g:=by
   intro g m u sk t x Y I
   refine kY hg t ζ ζ vZ λg1 m a1 b1 q v1=>?_
   exact⟨(k t q).fr,ar (k t q) (x.later q) Y v1 (I.mono q.le)⟩
  have a6:∀{g:zc} {m:Fr} {u:Nat} {N:Int} {J:Bt} {Q P:Sl},T22 gl h M h2.size ok oi O (E22 T ak Z) g m->RC h h2.size g m u->u≠T->RdV m .tree d3 (tV N J Q P)->bu ⟨u,0,Te⟩ N J Q P g:=by
   intro g m u N J Q P t x Y r3
   refine⟨?_,?_⟩
   ·have⟨m,q,k1⟩:=xb t.L.ag ⟨#[98]⟩ ⟨#[99]⟩
    exact⟨(k t q).fr,ar (k t q) (x.later q) Y (r3.mono q.le) k1⟩
   ·have⟨M2,F,i2⟩:=xe t.L.ag t.r1 r3
    exact aD (k t F) (x.later F) Y i2
  refine⟨?_,?_,?_⟩
  ·have⟨m,q,k1⟩:=xb H.L.ag ⟨#[98]⟩ ⟨#[99]⟩
   refine⟨(k H q).fr,?_,?_⟩
   ·refine kY hg (k H q) ζ ζ vZ λg2 M2 a2 b2 F v2=>?_
    exact⟨(k (k H q) F).fr,ca (k (k H q) F) v2 (k1.mono F.le)⟩
   ·have⟨L3,x3⟩:=Yg (k H q)
    exact⟨(k (k H q) L3).fr,aN (k (k H q) L3) x3 (Nat.ne_of_gt (k H q).e.1.lt) k1⟩
  ·refine kY hg H ζ ζ vZ λg4 M4 a4 b4 E v4=>?_
   refine⟨(k H E).fr,?_,?_,?_⟩
   ·have⟨M5,L5,k5⟩:=xb (k H E).L.ag ⟨#[98]⟩ ⟨#[99]⟩
    exact⟨(k (k H E) L5).fr,ca (k (k H E) L5) (v4.mono L5.le) k5⟩
   ·have⟨M6,L6,i6⟩:=xe (k H E).L.ag (k H E).r1 v4
    refine⟨?_,?_,?_⟩
    ·have⟨M7,L7,k7⟩:=xb (k (k H E) L6).L.ag ⟨#[98]⟩ ⟨#[99]⟩
     exact aZ (k (k (k H E) L6) L7) (i6.mono L7.le) k7
    ·refine nt (k (k H E) L6) i6 λg8 M8 a8 b8 U v8=>?_
     refine⟨?_,?_,?_⟩
     ·have⟨M9,L9,k9⟩:=xb (k (k (k H E) L6) U).L.ag ⟨#[98]⟩ ⟨#[99]⟩
      exact aI (k (k (k (k H E) L6) U) L9) (v8.mono L9.le) k9
     ·refine kY hg (k (k (k H E) L6) U) ζ ζ uY λda bn cQ df S bj=>?_
      refine⟨?_,?_,?_⟩
      ·have⟨M11,X,k11⟩:=xb (k (k (k (k H E) L6) U) S).L.ag ⟨#[98]⟩ ⟨#[99]⟩
       exact aS (k (k (k (k (k H E) L6) U) S) X) (bj.mono X.le) ((v8.mono S.le).mono X.le) k11
      ·have⟨M12,K,i12⟩:=xe (k (k (k (k H E) L6) U) S).L.ag (v8.mono S.le) bj
       refine⟨?_,?_⟩
       ·have⟨cH,L13,k13⟩:=xb (k (k (k (k (k H E) L6) U) S) K).L.ag ⟨#[98]⟩ ⟨#[99]⟩
        exact aO (k (k (k (k (k (k H E) L6) U) S) K) L13) (i12.mono L13.le) k13
       ·have⟨L14,x14⟩:=Yg (k (k (k (k (k H E) L6) U) S) K)
        exact aT (k (k (k (k (k (k H E) L6) U) S) K) L14) x14 (Nat.ne_of_gt (k (k (k (k (k H E) L6) U) S) K).e.1.lt) i12
      ·have⟨L15,x15⟩:=Yg (k (k (k (k H E) L6) U) S)
       exact aH (k (k (k (k (k H E) L6) U) S) L15) x15 (Nat.ne_of_gt (k (k (k (k H E) L6) U) S).e.1.lt) bj (v8.mono S.le)
     ·have⟨d,x16⟩:=Yg (k (k (k H E) L6) U)
      exact aV (k (k (k (k H E) L6) U) d) x16 (Nat.ne_of_gt (k (k (k H E) L6) U).e.1.lt) v8
    ·have⟨W,x17⟩:=Yg (k (k H E) L6)
     exact aD (k (k (k H E) L6) W) x17 (Nat.ne_of_gt (k (k H E) L6).e.1.lt) i6
   ·have⟨af,x18⟩:=Yg (k H E)
    exact⟨(k (k H E) af).fr,a6 (k (k H E) af) x18 (Nat.ne_of_gt (k H E).e.1.lt) v4⟩
  ·have⟨w,x19⟩:=Yg H
   refine⟨(k H w).fr,?_,?_⟩
   ·have⟨M20,L20,k20⟩:=xb (k H w).L.ag ⟨#[98]⟩ ⟨#[99]⟩
    exact⟨(k (k H w) L20).fr,aN (k (k H w) L20) (x19.later L20) (Nat.ne_of_gt H.e.1.lt) k20⟩
   ·refine kY hg (k H w) ζ ζ vZ λcT dm c8 cY be cw=>?_
    exact⟨(k (k H w) be).fr,a6 (k (k H w) be) (x19.later be) (Nat.ne_of_gt H.e.1.lt) cw⟩

 have G:T22 gl h M h2.size ok oi h8 jc h8 M2:=⟨hM.trans cp.le,cp,rfl,ω,r1,trivial⟩
 refine⟨_,_,ok,oi,b8.ld (cs:=[ab9 d1.aa6,ab5 d1.aa9,aK ok,aK oi]),_,_,ok,oi,b8.ld (cs:=[ab9 d1.aa6,ab5 d1.aa9,aK ok,aK oi]),?_⟩
 intro bP bw cq bU br cn bV co ck bY b6 bS b9 bC
 have i:∀{g g':zc} {m aA:Fr},T22 gl h M h2.size ok oi h8 jc g m->At g m g' aA->T22 gl h M h2.size ok oi h8 jc g' aA:=λt L=>t.later (λ_ _=>trivial) L
 have aL:∀{g:zc} {m:Fr} {u:Nat} {a c:Sl},T22 gl h M h2.size ok oi h8 jc g m->RC h h2.size g m u->RdV m .tree dA (tV 6 ⟨#[]⟩ a c)->bP ⟨u,0,Te⟩ 6 ⟨#[]⟩ a c g:=λ {g m u a c} t x r=>
  E0 t x λg' f z L B=>kA ⟨t.hM,L,(f _ (λe=>x.ne e.symm)).trans t.fr,χ t.lt,t.r1,trivial⟩ B x.ne r
 have aB:∀{g:zc} {m:Fr} {u:Nat} {si:Sl} {sk:Sl},T22 gl h M h2.size ok oi h8 jc g m->RC h h2.size g m u->RdV m (.row .tree) [d1,dRa] (aK si)->RdV m (.row .str) [⟨#[97]⟩,⟨#[98]⟩] (aK sk)->bw ⟨u,0,Te⟩ si sk g:=by
  intro g m u si sk t x ri I
  refine uj t I ri λg1 m a1 b1 q v1=>?_
  exact aL (i t q) (x.later q) v1
 have aQ:∀{g:zc} {m:Fr} {si:Sl} {sk:Sl},T22 gl h M h2.size ok oi h8 jc g m->RdV m (.row .tree) [d1,dRa] (aK si)->RdV m (.row .str) [⟨#[97]⟩,⟨#[98]⟩] (aK sk)->cq si sk g:=by
  intro g m si sk t ri I
  refine⟨?_,?_⟩
  ·refine uj t I ri λg1 m a1 b1 q v1=>?_
   have⟨F,x2⟩:=Yg (i t q)
   exact aL (i (i t q) F) x2 v1
  ·have⟨L3,x3⟩:=Yg t
   exact aB (i t L3) x3 ri I
 have ay:∀{g:zc} {m:Fr} {u:Nat} {A:Int} {C:Bt} {arr D:Sl} {sk:Sl},T22 gl h M h2.size ok oi h8 jc g m->RC h h2.size g m u->RdV m .tree dRa (tV A C arr D)->RdV m (.row .str) [⟨#[97]⟩,⟨#[98]⟩] (aK sk)->bU ⟨u,0,Te⟩ A C arr D sk g:=by
  intro g m u A C arr D sk t x rr I
  have⟨m,q,i1⟩:=xe t.L.ag t.r1 rr
  exact aB (i t q) (x.later q) i1 (I.mono q.le)
 have aM:∀{g:zc} {m:Fr} {u:Nat} {si:Sl},T22 gl h M h2.size ok oi h8 jc g m->RC h h2.size g m u->RdV m (.row .tree) [d1,dRa] (aK si)->br ⟨u,0,Te⟩ si g:=by
  intro g m u si t x ri
  have⟨m,q,k1⟩:=xb t.L.ag ⟨#[97]⟩ ⟨#[98]⟩
  exact aB (i t q) (x.later q) (ri.mono q.le) k1
 have aJ:∀{g:zc} {m:Fr} {A:Int} {C:Bt} {arr D:Sl} {sk:Sl},T22 gl h M h2.size ok oi h8 jc g m->RdV m .tree dRa (tV A C arr D)->RdV m (.row .str) [⟨#[97]⟩,⟨#[98]⟩] (aK sk)->cn A C arr D sk g:=by
  intro g m A C arr D sk t rr I
  refine⟨?_,?_⟩
  ·have⟨m,q,i1⟩:=xe t.L.ag t.r1 rr
   exact aQ (i t q) i1 (I.mono q.le)
  ·have⟨F,x2⟩:=Yg t
   exact⟨(i t F).fr,ay (i t F) x2 rr I⟩
 have au:∀{g:zc} {m:Fr} {u:Nat} {sj:Sl} {sk:Sl},T22 gl h M h2.size ok oi h8 jc g m->RC h h2.size g m u->RdV m (.row .tree) [d1,d2] (aK sj)->RdV m (.row .str) [⟨#[97]⟩,⟨#[98]⟩] (aK sk)->bV ⟨u,0,Te⟩ sj sk g:=by
  intro g m u sj sk t x rj I
  refine nt t rj λg1 m a1 b1 q v1=>?_
  exact⟨(i t q).fr,ay (i t q) (x.later q) v1 (I.mono q.le)⟩
 have aE:∀{g:zc} {m:Fr} {u:Nat} {A:Int} {C:Bt} {arr D:Sl},T22 gl h M h2.size ok oi h8 jc g m->RC h h2.size g m u->RdV m .tree dRa (tV A C arr D)->co ⟨u,0,Te⟩ A C arr D g:=by
  intro g m u A C arr D t x rr
  refine⟨?_,?_⟩
  ·have⟨m,q,k1⟩:=xb t.L.ag ⟨#[97]⟩ ⟨#[98]⟩
   exact⟨(i t q).fr,ay (i t q) (x.later q) (rr.mono q.le) k1⟩
  ·have⟨M2,F,i2⟩:=xe t.L.ag t.r1 rr
   exact aM (i t F) (x.later F) i2
 have aP:∀{g:zc} {m:Fr} {sj:Sl} {sk:Sl},T22 gl h M h2.size ok oi h8 jc g m->RdV m (.row .tree) [d1,d2] (aK sj)->RdV m (.row .str) [⟨#[97]⟩,⟨#[98]⟩] (aK sk)->ck sj sk g:=by
  intro g m sj sk t rj I
  refine⟨?_,?_⟩
  ·refine nt t rj λg1 m a1 b1 q v1=>?_
   exact⟨(i t q).fr,aJ (i t q) v1 (I.mono q.le)⟩
  ·have⟨F,x2⟩:=Yg t
   exact⟨(i t F).fr,au (i t F) x2 rj I⟩
 have al:∀{g:zc} {m:Fr} {u:Nat} {N:Int} {J:Bt} {Q P:Sl} {sk:Sl},T22 gl h M h2.size ok oi h8 jc g m->RC h h2.size g m u->RdV m .tree d2 (tV N J Q P)->RdV m (.row .str) [⟨#[97]⟩,⟨#[98]⟩] (aK sk)->bY ⟨u,0,Te⟩ N J Q P sk g:=by
  intro g m u N J Q P sk t x r3 I
  have⟨m,q,i1⟩:=xe t.L.ag t.r1 r3
  exact⟨(i t q).fr,au (i t q) (x.later q) i1 (I.mono q.le)⟩
 have aU:∀{g:zc} {m:Fr} {u:Nat} {sj:Sl},T22 gl h M h2.size ok oi h8 jc g m->RC h h2.size g m u->RdV m (.row .tree) [d1,d2] (aK sj)->b6 ⟨u,0,Te⟩ sj g:=by
  intro g m u sj t x rj
  refine⟨?_,?_⟩
  ·have⟨m,q,k1⟩:=xb t.L.ag ⟨#[97]⟩ ⟨#[98]⟩
   exact⟨(i t q).fr,au (i t q) (x.later q) (rj.mono q.le) k1⟩
  ·refine nt t rj λg2 M2 a2 b2 F v2=>?_
   exact⟨(i t F).fr,aE (i t F) (x.later F) v2⟩
 have aY:∀{g:zc} {m:Fr} {N:Int} {J:Bt} {Q P:Sl} {sk:Sl},T22 gl h M h2.size ok oi h8 jc g m->RdV m .tree d2 (tV N J Q P)->RdV m (.row .str) [⟨#[97]⟩,⟨#[98]⟩] (aK sk)->bS N J Q P sk g:=by
  intro g m N J Q P sk t r3 I
  refine⟨?_,?_⟩
  ·have⟨m,q,i1⟩:=xe t.L.ag t.r1 r3
   exact⟨(i t q).fr,aP (i t q) i1 (I.mono q.le)⟩
  ·have⟨F,x2⟩:=Yg t
   exact⟨(i t F).fr,(i t F).fr,al (i t F) x2 r3 I⟩
 have aF:∀{g:zc} {m:Fr} {u:Nat} {sk:Sl},T22 gl h M h2.size ok oi h8 jc g m->RC h h2.size g m u->RdV m (.row .str) [⟨#[97]⟩,⟨#[98]⟩] (aK sk)->b9 ⟨u,0,Te⟩ sk g:=by
  intro g m u sk t x I
  refine kY hg t ζ ζ vO λg1 m a1 b1 q v1=>?_
  exact⟨(i t q).fr,(i t q).fr,al (i t q) (x.later q) v1 (I.mono q.le)⟩
 have a7:∀{g:zc} {m:Fr} {u:Nat} {N:Int} {J:Bt} {Q P:Sl},T22 gl h M h2.size ok oi h8 jc g m->RC h h2.size g m u->RdV m .tree d2 (tV N J Q P)->bC ⟨u,0,Te⟩ N J Q P g:=by
  intro g m u N J Q P t x r3
  refine⟨?_,?_⟩
  ·have⟨m,q,k1⟩:=xb t.L.ag ⟨#[97]⟩ ⟨#[98]⟩
   exact⟨(i t q).fr,(i t q).fr,al (i t q) (x.later q) (r3.mono q.le) k1⟩
  ·have⟨M2,F,i2⟩:=xe t.L.ag t.r1 r3
   exact⟨(i t F).fr,aU (i t F) (x.later F) i2⟩
 refine⟨?_,?_,?_⟩
 ·have⟨m,q,k1⟩:=xb G.L.ag ⟨#[97]⟩ ⟨#[98]⟩
  refine⟨(i G q).fr,(i G q).fr,?_,?_⟩
  ·refine kY hg (i G q) ζ ζ vO λg2 M2 a2 b2 F v2=>?_
   exact⟨(i (i G q) F).fr,(i (i G q) F).fr,aY (i (i G q) F) v2 (k1.mono F.le)⟩
  ·have⟨L3,x3⟩:=Yg (i G q)
   exact⟨(i (i G q) L3).fr,(i (i G q) L3).fr,aF (i (i G q) L3) x3 k1⟩
 ·refine kY hg G ζ ζ vO λg4 M4 a4 b4 E v4=>?_
  refine⟨(i G E).fr,(i G E).fr,?_,?_,?_⟩
  ·have⟨M5,L5,k5⟩:=xb (i G E).L.ag ⟨#[97]⟩ ⟨#[98]⟩
   exact⟨(i (i G E) L5).fr,(i (i G E) L5).fr,aY (i (i G E) L5) (v4.mono L5.le) k5⟩
  ·have⟨M6,L6,i6⟩:=xe (i G E).L.ag (i G E).r1 v4
   refine⟨(i (i G E) L6).fr,?_,?_,?_⟩
   ·have⟨M7,L7,k7⟩:=xb (i (i G E) L6).L.ag ⟨#[97]⟩ ⟨#[98]⟩
    exact⟨(i (i (i G E) L6) L7).fr,aP (i (i (i G E) L6) L7) (i6.mono L7.le) k7⟩
   ·refine nt (i (i G E) L6) i6 λg8 M8 a8 b8 U v8=>?_
    refine⟨(i (i (i G E) L6) U).fr,?_,?_,?_⟩
    ·have⟨M9,L9,k9⟩:=xb (i (i (i G E) L6) U).L.ag ⟨#[97]⟩ ⟨#[98]⟩
     exact⟨(i (i (i (i G E) L6) U) L9).fr,aJ (i (i (i (i G E) L6) U) L9) (v8.mono L9.le) k9⟩
    ·have⟨bn,S,i10⟩:=xe (i (i (i G E) L6) U).L.ag (i (i (i G E) L6) U).r1 v8
     refine⟨?_,?_⟩
     ·have⟨M11,X,k11⟩:=xb (i (i (i (i G E) L6) U) S).L.ag ⟨#[97]⟩ ⟨#[98]⟩
      exact aQ (i (i (i (i (i G E) L6) U) S) X) (i10.mono X.le) k11
     ·have⟨K,x12⟩:=Yg (i (i (i (i G E) L6) U) S)
      exact aM (i (i (i (i (i G E) L6) U) S) K) x12 i10
    ·have⟨L13,x13⟩:=Yg (i (i (i G E) L6) U)
     exact⟨(i (i (i (i G E) L6) U) L13).fr,aE (i (i (i (i G E) L6) U) L13) x13 v8⟩
   ·have⟨L14,x14⟩:=Yg (i (i G E) L6)
    exact⟨(i (i (i G E) L6) L14).fr,aU (i (i (i G E) L6) L14) x14 i6⟩
  ·have⟨L15,x15⟩:=Yg (i G E)
   exact⟨(i (i G E) L15).fr,(i (i G E) L15).fr,a7 (i (i G E) L15) x15 v4⟩
 ·have⟨d,x16⟩:=Yg G
  refine⟨(i G d).fr,(i G d).fr,?_,?_⟩
  ·have⟨M17,W,k17⟩:=xb (i G d).L.ag ⟨#[97]⟩ ⟨#[98]⟩
   exact⟨(i (i G d) W).fr,(i (i G d) W).fr,aF (i (i G d) W) (x16.later W) k17⟩
  ·refine kY hg (i G d) ζ ζ vO λcP dq cM de af cL=>?_
   exact⟨(i (i G d) af).fr,(i (i G d) af).fr,a7 (i (i G d) af) (x16.later af) cL⟩
end
end
section
open Go.Lib Go.RowKit
variable {v a b:Tr} {o:eK}
def SQ(p:List Bt):Prop:=∀s∈p,(lb s).length<=1048576
theorem SQ.snoc{p:List Bt}(h:SQ p){s:Bt}(c:(lb s).length<=1048576):SQ (p++[s]):=λx b=>by obtain b|b:=zav.1 b;exact h x b;rw[zbh.1 b];exact c
def SmB(v:Tr):Prop:=Sm v/\cK v<=1000000
def QD:SmB zT:=⟨ue,by unfold zT;rw[cK,xc];omega⟩
theorem SmB.item{v x:Tr}(h:SmB v)(b:x∈v.aa7):SmB x:=⟨h.1.item b,by have:=qi b;have:=h.2;omega⟩
theorem SmB.len(h:SmB v):v.aa7.length<=1000000:=by have:=h.2;have:=we v.aa7;have:=jr v;omega
def uI{l:List Tr}(h:∀x∈l,SmB x)(i:Nat):SmB (l.getD i zT):=by
 rw[List.getD_eq_getElem?_getD];cases e:l[i]? with
 |none=>exact QD
 |some x=>exact h x (zdc e)
def Ar{i:Nat}(hi:i<=1000000):(lb (ik i)).length<=1048576:=by unfold ik;rw[Zn];have:=Go.X.RM (i:Int);omega
def FK(b:Sm v){k:Bt}(c:k∈v.aa8):(lb k).length<=1048576:=by rw[mc];exact((nF _ v).1 b.tx).1.2.2 k c
def OQ(n:Nat)(o:eK):Prop:=SQ o.2.1/\o.2.1.length<=n/\o.2.2.1=[]/\Sm o.2.2.2
def Li{rw:List Tr->List Tr->Option (List (Nat×Nat))}(y:∀us ws m,rw us ws=Td m->PB 0 0 (DB us) (DB ws) m):∀(f:Nat) (p:List Bt) (a b:Tr),SmB a->SmB b->SQ p->∀o∈kz rw f p a b,OQ (DB p+f) o
 |0,p,a,b,_,_,_,o,c=>nomatch c
 |f+1,p,a,b,ha,hb,hp,o,c=>by
  have J:∀i,SmB (X1 a i):=uI λx j=>ha.item j;have w:∀i,SmB (X1 b i):=uI λx j=>hb.item j;have G:∀k,SmB (Ye a k):=λk=>uI (λx j=>ha.item j) _;have t:∀k,SmB (Ye b k):=λk=>uI (λx j=>hb.item j) _;have ln:∀s:Bt,(p++[s]).length=DB p+1:=λs=>ξ
  have sub:∀s u v,(lb s).length<=1048576->SmB u->SmB v->o∈kz rw f (p++[s]) u v->OQ (DB p+(f+1)) o:=λs u v I B D h=>by have⟨h1,h2,C,z⟩:=Li y f (p++[s]) u v B D (hp.snoc I) o h;exact⟨h1,by rw[ln]at h2;omega,C,z⟩
  have r:∀k∈zt a.aa8,(lb k).length<=1048576:=λk e=>FK ha.1 ((qz a.aa8).mem_iff.1 e);have E:∀k∈zt b.aa8,(lb k).length<=1048576:=λk e=>FK hb.1 ((qz b.aa8).mem_iff.1 e);have l:o∈[kM p b]->OQ (DB p+(f+1)) o:=λh=>by rw[zbh.1 h];exact⟨hp,by show (DB p)<=_;omega,rfl,hb.1⟩
  unfold kz at c;split at c;exact nomatch c;split at c;unfold jY at c;obtain c|c:=zav.1 c;obtain⟨k,e,rfl⟩:=zbr.1 c;exact⟨hp.snoc (r k (zds.1 e).1),by show(p++[k]).length<=_;rw[ln];omega,rfl,ue⟩;obtain c|c:=zav.1 c;have⟨k,e,h⟩:=List.mem_flatMap.1 c;exact sub k _ _ (r k (zds.1 e).1) (G k) (t k) h;obtain⟨k,e,rfl⟩:=zbr.1 c;exact⟨hp.snoc (E k (zds.1 e).1),by show(p++[k]).length<=_;rw[ln];omega,rfl,(t k).1⟩;split at c;split at c;rename_i m A;have n:=(Qi (y _ _ _ A)).1;have la:=ha.len;have H:=hb.len;unfold jZ at c;obtain c|c:=zav.1 c;have⟨q,F,h⟩:=List.mem_flatMap.1 c;exact sub _ _ _ (Ar (χ (n q F))) (J q.1) (w q.2) h;obtain c|c:=zav.1 c;obtain⟨i,hi,rfl⟩:=zbr.1 c;exact⟨hp.snoc (Ar (χ (zcs.1 (zds.1 (List.mem_reverse.1 hi)).1))),by show(p++[_]).length<=_;rw[ln];omega,rfl,ue⟩;obtain⟨i,hi,rfl⟩:=zbr.1 c;exact⟨hp.snoc (Ar (χ (zcs.1 (zds.1 hi).1))),by show(p++[_]).length<=_;rw[ln];omega,rfl,(w i).1⟩;exact l c;exact l c
def TG(e:Sm a)(hb:Sm b):∀o∈(iA a b).1,OQ 33 o:=λo c=>by unfold iA at c;split at c;rename_i h;rw[zaw]at h;have:=Li Wr 33 [] a b ⟨e,χ (GV.sz ⟨h.1,e⟩)⟩ ⟨hb,χ (GV.sz ⟨h.2,hb⟩)⟩ (λs f=>nomatch f) o c;rwa[List.length_nil,zax]at this;exact nomatch c
theorem OQ.sl(h:OQ 33 o):SL o.2.1:=⟨χ h.2.1,h.1⟩
theorem OQ.s(h:OQ 33 o):OpS o:=⟨h.sl,by rw[h.2.2.1];exact⟨ξ,ξ⟩,h.2.2.2⟩
def Tm(c:Sm a)(hb:Sm b):(iA a b).1.length<=8192:=by unfold iA;split;rename_i h;rw[zaw]at h;exact BI ⟨h.1,c⟩ ⟨h.2,hb⟩;simp
end
section
def Ha{M:Fr}{r:Tr}{w:Value}(h:Yx M [.tree] r w):∃sk si:Sl,w=.agg #[ab9 r.aa6,ab5 r.aa9,aK sk,aK si]/\RdV M .tree r (.agg (Y6 r sk si).toArray):=by have h:=Qr.1 h;have⟨sk,si,e,_⟩:=qh h;exact⟨sk,si,e,by rw[e]at h;exact h⟩
end
section
open Go.Lib Go.RowKit
def GQ{gl:Fr}{v:Tr}{m:Int}(c:0<=m/\m<=1000){R:ad2}(h:∀b,(b=Ta->(iK v:Int)<=m/\iT v)->R b):ab4 gl 12 [up .tree v,up PJ m] [.bool] R:=by
 apply Oj;rw[qw];refine FO v m 0 c ω λr h1 h2 f=>⟨λb=>b=Ta->iT v,λ_=>E2 v λb hb=>hb,λb hb=>h _ λe=>?_⟩;cases hr:decide (r>=0)with
 |false=>rw[hr]at e;cases e
 |true=>
  rw[hr,zK]at e;have h0:0<=r:=ν hr
  have:=f h0;exact⟨ω,hb hr e⟩
end
section
open Go.Lib
mutual
theorem Ly:∀v:Tr,iK v=cK v+nW v
 |.mk k s ks xs=>by rw[iK,cK,nW,Ii xs];omega
theorem Ii:∀l:List Tr,iN l=xc l+lM l
 |[]=>by rw[iN,xc,lM]
 |x::l=>by rw[iN,xc,lM,Ly x,Ii l];omega
end
end
section
open Go.Lib Go.RowKit
section
variable {v:Tr}
mutual
def jH:Tr->Prop | .mk k _ _ xs=>tg k xs
def tg(k:Int):List Tr->Prop | []=>True|x::l=>(jH x/\(k=5->iK x<=8))/\tg k l
end
theorem Bh{k:Int}:∀{l:List Tr},tg k l↔∀x∈l,jH x/\(k=5->iK x<=8)
 |[]=>by simp[tg]
 |x::l=>by rw[tg,Bh (l:=l)];simp
def EU{v x:Tr}(h:jH v)(b:x∈v.aa7):jH x/\(v.aa6=5->iK x<=8):=by cases v;rw[jH]at h;exact Bh.1 h x b
def qjy(h:∀x∈v.aa7,jH x/\(v.aa6=5->iK x<=8)):jH v:=by cases v;rw[jH];exact Bh.2 h
def HU{gl:Fr}:∀(n:Nat) (v:Tr),cK v<=n->Sm v->∀{R:ad2},(∀r,(r=Ta->jH v)->R r)->ab4 gl 32 [up .tree v] [.bool] R
 |0,v,h,_,R,_=>χ (wa v)
 |n+1,v,h,sv,R,hR=>by
  apply ZH;have hz:v.aa7.length<=1000000000000:=sv.aa7;refine⟨λi=>∃k:Nat,i=(k:Int)/\k<=DB v.aa7/\∀x∈v.aa7.take k,jH x/\(v.aa6=5->iK x<=8),λi=>DB v.aa7-i.toNat,⟨0,rfl,zar _,ξ⟩,?_⟩;rintro i ⟨k,rfl,y,f⟩;refine⟨λm=>?_,λm=>?_⟩;have c:k<DB v.aa7:=χ (zH m)
  have o:0<=(k:Int)/\v.aa7[(k:Int).toNat]?=Td v.aa7[k]:=⟨ω,ϑ c⟩;have p:=zak c;refine⟨v.aa7[k],o,?_⟩;simp only[qw];refine HU n v.aa7[k] (χ (qi p)) (sv.item p) λr t=>?_;refine⟨v.aa7[k],λ_=>o,?_⟩;refine⟨λb=>b=Ta->(iK v.aa7[k]:Int)<=8/\iT v.aa7[k],λ_=>GQ ω λb hb=>hb,λb hb=>⟨λ_=>hR Tc (λh=>nomatch h),λj=>?_⟩⟩;rw[qd c ω];refine⟨⟨k+1,rfl,c,λx e=>?_⟩,by simp only[zag];omega⟩;rw[zai c,zav]at e;obtain e|e:=e;exact f x e;rw[zbh.1 e];have u:r=Ta:=by cases r <;> simp at j ⊢
  subst u;refine⟨t rfl,λw=>?_⟩;have q:(v.aa6==5)=Ta:=by simp[w]
  rw[q]at j hb;have l:b=Ta:=ψ j
  have:=(hb (by rfl) l).1;omega;have c:k=DB v.aa7:=χ (zI m)
  subst c;rw[za2]at f;exact hR Ta λ_=>qjy f
def qe8{gl:Fr}(i:GL gl){a b:Tr}(sa:Sm a)(sb:Sm b)(na:jH a)(t:jH b){R:List eK×Int->Prop}(e:R (iA a b)):ab4 gl 34 [up .tree a,up .tree b] [.row iq,.int .i64] R:=by
 apply Tn;simp only[qw];refine Wq i sa (Wq i sb ⟨λf=>?_,λf=>?_⟩);unfold iA at e;have:(zr a&&zr b)=Tc:=by cases h1:zr a <;> cases h2:zr b <;> rw[h1,h2]at f <;> simp at f ⊢
 rw[this]at e;exact e;obtain⟨o,rb⟩:zr a=Ta/\zr b=Ta:=by cases h1:zr a <;> cases h2:zr b <;> rw[h1,h2]at f <;> simp at f ⊢
 have ga:GV a:=⟨o,sa⟩;have gb:GV b:=⟨rb,sb⟩;refine Hi i jH (λv m x c=>(EU m c).1) (λv w m p n l j k R e=>?_) 33 a b [] (χ ga.dp) na t ga gb ξ ?_;have h:∀u:Tr,jH u->u.aa6=5->GV u->∀x∈u.aa7,iI (zj x)<=30:=λu q n y x c=>by have z:=(EU q c).2 n;rw[Mo _ x (zac _) (Tq (y.item c).r).1,<-Ly];omega
 exact TO i (λx c=>j.item c) (λx c=>k.item c) (χ j.len) (χ k.len) (h v m n j) (h w p l k) e;unfold iA at e;rw[o,rb]at e;exact e
end
section
variable {M:Fr}
def ZS{r:List eK×Int}{w:Value}(h:Yx M [.row iq,.int .i64] r w):∃s:Sl,w=.tuple #[aK s,ab9 r.2]/\Rd M (.row iq) r.1 [aK s]:=by obtain⟨us,⟨f,c,rfl,h1,e,rfl,h2⟩,rfl⟩:=h;obtain⟨s,rfl,b⟩:=jU h1;rw[Zu h2];exact⟨s,rfl,b⟩
def xB{g:zc}(ag:AgM M g){b:Nat}{a:Tr}{sk si:Sl}(e:M b=Td (zl a.aa6 a.aa9 sk si).toArray):ze g ⟨b,0,Te⟩ 0 [ab9 a.aa6,ab5 a.aa9,aK sk,aK si]:=oP (vs:=zl a.aa6 a.aa9 sk si) ag e rfl
end
section
variable {h g:zc} {M gl:Fr}
def JZ{M0 M:Fr}(L:At h M0 g M){v:Tr}{sk si:Sl}{K:zc->Prop}(e:∀g' M',At h M0 g' M'->At g M g' M'->M' g.size=Td (zl v.aa6 v.aa9 sk si).toArray->K g'):CA Tp (zae 25 (ab6 (ab7 g)) (.agg #[ab9 v.aa6,ab5 v.aa9,aK sk,aK si])) (g.push (.cells #[ab9 0,ab5 ⟨#[]⟩,.slice Te 0 0,.slice Te 0 0] 25)) K:=by have k:BT g.size g (g.push (.cells #[ab9 0,ab5 ⟨#[]⟩,.slice Te 0 0,.slice Te 0 0] 25)):=BT.push _ _ (zac _);have z:=zau (Obj.cells #[ab9 0,ab5 ⟨#[]⟩,.slice Te 0 0,.slice Te 0 0] 25) (xs:=g);refine Q8 (Blk.new _ _ _) λg' f j B=>?_;have L':At g M g' M:=v0 L.ag ⟨ω,λc i=>(f c ω).trans (k.get c i)⟩;have b:At g M g' (MxL M g' [g.size]):=At.own L' ξ;exact e g' _ (L.trans b) b (MxL.at ξ B)
def HM{b:Nat}{cs:ac2}(B:Blk g b cs){k:Nat}{p:eK×DAx}(e:cut cs (k*7) 7=dC p):zd g (((⟨b,0,Te⟩:Addr).add ((((k:Nat):Int).toNat)*7)).add 1)=Td (aK p.2.sp)/\ze g (((⟨b,0,Te⟩:Addr).add ((((k:Nat):Int).toNat)*7)).add 3) 0 (Y6 p.1.2.2.2 p.2.sk p.2.si):=by have h2:ze g ⟨b,k*7,Te⟩ 0 (dC p):=ow B (i:=0) e;rw[zag];simp only[ze,dC,j6,Y6,Jk,Nat.add_assoc,Nat.reduceAdd,zax,Nat.add_zero]at h2 ⊢;simp_all
def qfa(o:GL gl)(hb:Brn gl){x y:Tr}(q:Sm x)(n:Sm y){i f:Value}(l:Fr.le gl M)(ag:AgM M h)(r:RdV M .tree x i)(j:RdV M .tree y f){K:vvv} (t:∀(g:zc) (b:DA) (so:Sl) (rb:Nat) (cs:ac2),BT h.size h g->AgM M g->Sh h.size g M b so rb cs->b.map (·.1)=(iA x y).1->K (.tuple #[aK so,ab9 (iA x y).2]) g):ab3 33 #[i,f] h K:=by
 refine Hl o hb q n l ag r j (λe g k=>?_) λm p g b so rb cs k agg D e=>?_;have c:iA x y=([],1):=by unfold iA;rw[e];rfl
 have:=t g [] ⟨Te,0,0⟩ 0 #[] k (ag.ab0 k) Sh.nil (π c);rw[c]at this;exact this;have c:iA x y=(pD x y,0):=by unfold iA;rw[m,p];rfl
 grind
structure Spl (g0:zc) (ns:DA) (k:Nat) (g:zc):Prop where
 sz:g0.size<=g.size
 fr:∀c,c<g0.size->(∀p∈ns,¬dO p c)->g[c]?=g0[c]?
 nx:∀j p,k<=j->ns[j]?=Td p->∀c,dO p c->g[c]?=g0[c]?
def z3y(hg:GL gl)(hb:Brn gl){a b:Tr}{R:ad2}(hR:R Ta):ab4 gl 5 [up .tree a,up .tree b] [.bool] R:=by
 intro h M vs hM ag ha;obtain⟨u,v,rfl,aG,aQ⟩:∃u v,vs=[u,v]/\RdV M .tree a u/\RdV M .tree b v:=by
  match vs,ha with
  |[u,v],⟨h1,h2,_⟩=>grind
 have aF:=aG;have aO:=aQ;obtain⟨ak,V,rfl,bI,bH⟩:=qh aG;obtain⟨bk,bi,rfl,bY,bU⟩:=qh aQ;apply PX.of;apply X5 a.aa6 a.aa9 ak V b.aa6 b.aa9 bk bi;intro h1 h2;obtain⟨J,Y,ma,mb⟩:∃J,At h M h2 J/\J h.size=Td (zl a.aa6 a.aa9 ak V).toArray/\J h1.size=Td (zl b.aa6 b.aa9 bk bi).toArray:=by have L1:At h M h1 (Mx M h.size (zl a.aa6 a.aa9 ak V).toArray):=At.frz ag _ 25;have L2:At h1 _ h2 (Mx _ h1.size (zl b.aa6 b.aa9 bk bi).toArray):=At.frz L1.ag _ 25;exact⟨_,L1.trans L2,L2.le _ _ (vY ..),vY ..⟩
 clear_value h2 h1;have mE:∀{g Mg},At h2 J g Mg->ze g (ab7 h) 0 [ab9 a.aa6,ab5 a.aa9,aK ak,aK V]:=λL=>xB L.ag (L.le _ _ ma);have F:∀{g Mg},At h2 J g Mg->ze g (ab7 h1) 0 [ab9 b.aa6,ab5 b.aa9,aK bk,aK bi]:=λL=>xB L.ag (L.le _ _ mb);have fin:∀{g Mg},At h2 J g Mg->∃M' r,At h M g M'/\Yx M' [.bool] r (ab8 Ta)/\R r:=λL=>⟨_,Ta,Y.trans L,Qr.2 (GS Ta),hR⟩;have E:=hM.trans Y.le;have O:∀{Mg},Fr.le J Mg->RdV Mg .tree a (.agg #[ab9 a.aa6,ab5 a.aa9,aK ak,aK V]):=λl=>aF.mono (Y.le.trans l);have Q:∀{Mg},Fr.le J Mg->RdV Mg .tree b (.agg #[ab9 b.aa6,ab5 b.aa9,aK bk,aK bi]):=λl=>aO.mono (Y.le.trans l);refine(ZM hg hb (R:=λr=>r=Ta) rfl).go (vs:=[]) E Y.ag qc λw g3 M3 r L3 m hr=>?_;have hr:r=Ta:=hr;subst hr;refine⟨Ta,Jb m,_,_,ak,V,mE L3,?_⟩;have am:∀x:Tr,ab4 gl 31 [up .tree x] [.bool] (λr=>r=Ta->(iK x:Int)<=40/\iT x):=λx=>by apply Sf;simp only[qw];exact GQ ω λb hb=>hb
 have aT:∀x:Tr,Sm x->ab4 gl 32 [up .tree x] [.bool] (λr=>r=Ta->jH x):=λx sx=>HU _ x (zac _) sx λr hr=>hr;refine(am a).go (vs:=[_]) (E.trans L3.le) L3.ag (zo (O L3.le) qc) λw g4 M4 r1 L4 m bC=>?_
 replace L4:=L3.trans L4
 refine⟨r1,Jb m,_,_,bk,bi,λ_=>F L4,λv g=>∃Mg,At h2 J g Mg/\∃r,v=.bool r/\(r1=Ta->r=Ta->(iK b:Int)<=40/\iT b),λy=>?_,λy=>⟨Tc,M4,L4,Tc,rfl,λ_ h=>nomatch h⟩,λy v g ⟨_,_,r,e,_⟩=>⟨r,e⟩,?_⟩;refine(am b).go (vs:=[_]) (E.trans L4.le) L4.ag (zo (Q L4.le) qc) λw g5 M5 r2 L5 m ay=>?_;exact⟨r2,Jb m,M5,L4.trans L5,r2,rfl,λ_=>ay⟩;rintro r2 g5 ⟨M5,L5,bZ,e,ay⟩;cases e;have aE:(cond r1 r2 Tc)=Ta->Sm a/\Sm b:=λy=>by grind [Sm.few]
 refine⟨_,_,ak,V,λ_=>mE L5,λv g=>∃Mg,At h2 J g Mg/\∃r,v=.bool r/\((cond r1 r2 Tc)=Ta->r=Ta->jH a),λy=>?_,λy=>⟨Tc,M5,L5,Tc,rfl,λ_ h=>nomatch h⟩,λy v g ⟨_,_,r,e,_⟩=>⟨r,e⟩,?_⟩;refine(aT a (aE y).1).go (vs:=[_]) (E.trans L5.le) L5.ag (zo (O L5.le) qc) λw g6 M6 r3 L6 m az=>?_;exact⟨r3,Jb m,M6,L5.trans L6,r3,rfl,λ_=>az⟩;rintro r3 g6 ⟨M6,L6,bO,e,az⟩;cases e;refine⟨_,_,bk,bi,λ_=>F L6,λv g=>∃Mg,At h2 J g Mg/\∃r,v=.bool r/\((cond (cond r1 r2 Tc) r3 Tc)=Ta->r=Ta->jH b),λy=>?_,λy=>⟨Tc,M6,L6,Tc,rfl,λ_ h=>nomatch h⟩,λy v g ⟨_,_,r,e,_⟩=>⟨r,e⟩,?_⟩;have bj:(cond r1 r2 Tc)=Ta:=by cases h:(cond r1 r2 Tc) <;> rw[h]at y <;> simp at y ⊢
 refine(aT b (aE bj).2).go (vs:=[_]) (E.trans L6.le) L6.ag (zo (Q L6.le) qc) λw g7 M7 r4 L7 m aC=>?_;exact⟨r4,Jb m,M7,L6.trans L7,r4,rfl,λ_=>aC⟩;rintro r4 g7 ⟨M7,L7,bT,e,aC⟩;cases e;refine⟨λ_=>fin L7,λy=>?_⟩;obtain⟨c1,c2,c3,c4⟩:r1=Ta/\r2=Ta/\r3=Ta/\r4=Ta:=θ
 subst c1 c2 c3 c4;have⟨sa,sb⟩:=aE rfl;have na:=az rfl rfl;have nb:=aC rfl rfl;refine⟨_,_,ak,V,mE L7,?_⟩;refine(ul a sa (by have:=uL a;have:=(bC rfl).1;omega) (R:=λr=>r=a) rfl).go (vs:=[_]) (E.trans L7.le) L7.ag (zo (O L7.le) qc) λw g8 M8 r L8 m hr=>?_;have hr:r=a:=hr;subst hr
 replace L8:=L7.trans L8
 obtain⟨wk,wi,rfl,bA⟩:=Ha m;refine⟨_,_,wk,wi,rfl,JZ L8 λg9 M9 L9 bn mw=>?_⟩;refine⟨_,_,bk,bi,F L9,?_⟩;refine(ul b sb (by have:=uL b;have:=(ay rfl rfl).1;omega) (R:=λr=>r=b) rfl).go (vs:=[_]) (E.trans L9.le) L9.ag (zo (Q L9.le) qc) λw bQ bS s aJ m hs=>?_;have hs:s=b:=hs;subst hs;have aP:=L9.trans aJ;obtain⟨ok,oi,rfl,bg⟩:=Ha m;refine⟨_,_,ok,oi,rfl,JZ aP λaH aA B Z mo=>?_⟩;have an:=aJ.trans Z;have bz:=an.le _ _ mw;have aV:=bA.mono (bn.le.trans an.le);have aL:=bg.mono Z.le;refine⟨_,_,ak,V,mE B,_,_,bk,bi,F B,?_⟩;refine qfa hg hb sa sb (E.trans B.le) B.ag (O B.le) (Q B.le) λbB N so rb cs aZ bF D eD=>?_;have T:At h2 J bB aA:=B.trans (v0 B.ag aZ);refine⟨so,_,rfl,_,_,ak,V,mE T,_,_,bk,bi,F T,?_⟩;refine(qe8 hg sa sb na nb (R:=λq=>q=iA r s) rfl).go (vs:=[_,_]) (E.trans T.le) T.ag (zo (O T.le) (zo (Q T.le) qc)) λw af I q ab m C=>?_;have C:q=iA r s:=C;subst C;obtain⟨sm,rfl,rm⟩:=ZS m;refine⟨sm,_,rfl,?_⟩
 replace D:=D.call ab
 have t:At aH aA af I:=(v0 B.ag aZ).trans ab;have aS:=TG sa sb;have bD:=Tm sa sb;have hn:N.length<=1000000:=by have:=congrArg zbu eD;rw[zas]at this;omega
 have LF:At aH aA af (MxL I af (mR N so rb)):=At.own t λc y=>(D.own (te.1 y)).1;have rl:=D.rd ab.ag hn;rw[eD]at rl;refine(TD (a:=(iA r s).1) (b:=(iA r s).1) (λo ho=>(aS o ho).s) ω (R:=λr=>r=Ta) λr hr=>hr.2 rfl).go (vs:=[aK so,aK sm]) (E.trans (B.le.trans LF.le)) LF.ag (zo ((J1 rfl).2 rl) (zo ((J1 rfl).2 (rm.mono (oN ab.ag _))) qc)) λw G b6 q bm m C=>?_;have C:q=Ta:=C;subst C;refine⟨Ta,Jb m,?_⟩;have aj:At af I G I:=v0 ab.ag bm.ab0
 replace D:=D.call aj
 have A:At h2 J G I:=(B.trans t).trans aj;have a7:=t.le _ _ bz;have bw:=t.le _ _ mo;have bE:=D.len;have ah:∀{g'},N≠[]->(∀c,c<G.size->(∀q∈N,¬dO q c)->g'[c]?=G[c]?)->so.a=Td ⟨rb,0,Te⟩/\Blk g' rb cs:=λ {g'} U f=>by
  have⟨ea,aY⟩:=D.cr.blk (ψ U);have aI:so.cap≠0:=by have:=D.cr.ro.le;have:=zb4.2 U;omega
  exact⟨ea,aY.ab0 (f rb (D.lb aI).2.1 λq C=>D.nb q C)⟩
 refine⟨λi g=>∃k:Nat,i=(k:Int)/\k<=DB N/\Spl G N k g,λi _=>DB N-i.toNat,⟨0,rfl,zar _,zac _,λ_ _ _=>rfl,λ_ _ _ _ _ _=>rfl⟩,?_⟩;rintro i g ⟨k,rfl,hk,S⟩;refine⟨λy=>?_,λy=>?_⟩;have ax:k<DB N:=χ (zH y)
 obtain⟨p,hp⟩:∃p,N[k]?=Td p:=⟨N[k],List.getElem?_eq_getElem ax⟩;have ac:=zdc hp;have U:N≠[]:=λe=>θ
 have⟨ea,B0⟩:=ah U S.fr;have el:=(D.cr.el k (dC p) θ).2;have P:=D.nd p ac;have aB:so.a=Td (⟨rb,0,Te⟩:Addr)/\(0:Int)<=(k:Int)/\((k:Nat):Int)<((so.len:Nat):Int):=⟨ea,ω,ω⟩;refine⟨⟨rb,0,Te⟩,aB,_,_,p.2.sk,p.2.si,(HM B0 el).2,?_⟩;refine OH _ p.1.2.2.2 (zac _) (P.val.frame (h':=g) λc y=>S.nx k p (zac _) hp c (.inr y)) λar bu=>⟨rfl,?_⟩;have sz:=S.sz;have bN:=bu.1;have own:∀{p' c},p'∈N->dO p' c->c<G.size:=λhm hd=>(D.own (.inr ⟨_,hm,hd⟩)).2.1;have pl:=P.path.1;have pn:=P.path.2.2.1;refine⟨λq g'=>∃n:Nat,q=(n:Int)/\n<=DB p.1.2.1/\ar.size<=g'.size/\(∀c,c<ar.size->c∉p.2.bp->g'[c]?=ar[c]?)/\(p.1.2.1≠[]->∃pb d,p.2.sp.a=Td ⟨pb,0,Te⟩/\Blk g' pb d/\DB p.1.2.1<=d.size/\pb∈p.2.bp),λq _=>DB p.1.2.1-q.toNat,⟨0,rfl,zar _,zac _,λ_ _ _=>rfl,λbG=>?_⟩,?_⟩;obtain⟨h0,_⟩|⟨pb,a6,bq,ae,Bp,ec⟩:=P.path.2.2.2;simp_all;have hm:pb∈p.2.bp:=υ bq
 have a8:=own ac (.inl hm);refine⟨pb,a6,ae,Bp.ab0 ((bu.2 pb ω (P.dj pb hm)).trans (S.nx k p (zac _) hp pb (.inl hm))),?_,hm⟩;have:=congrArg zbu ec;unfold X.cut at this;grind;rintro q g' ⟨n,rfl,hn,z,fr,br⟩;have aa:∀c,c<G.size->(∀q∈N,¬dO q c)->g'[c]?=G[c]?:=λc y no=>(fr c ω λh=>no p ac (.inl h)).trans ((bu.2 c ω λh=>no p ac (.inr h)).trans (S.fr c y no));have q1:=(HM (ah U aa).2 el).1;refine⟨⟨rb,0,Te⟩,aB,p.2.sp,q1,λy=>?_,λy=>?_⟩;have aM:n<DB p.1.2.1:=χ (zH y)
 have⟨pb,d,ae,B',hs,hm⟩:=br λe=>η
 refine⟨⟨rb,0,Te⟩,aB,p.2.sp,q1,⟨pb,0,Te⟩,⟨ae,ω,ω⟩,?_⟩;rw[rW];refine jq Lz κ B' ω rfl λg3 B3 z3 f3=>?_;rw[qd aM ω];exact⟨⟨n+1,rfl,aM,ω,λc y aU=>(f3 c λe=>aU (e ▸ hm)).trans (fr c y aU),λ_=>⟨pb,_,ae,B3,η,hm⟩⟩,φ⟩;rw[qd ax ω];refine⟨⟨k+1,rfl,ax,ω,aa,λj p' hj au c y=>?_⟩,η⟩;have ba:=zdc au;have a8:=own ba y;have no:¬dO p c:=λhd=>χ (D.dj k j p p' c hp au hd y)
 exact(fr c ω λh=>no (.inl h)).trans ((bu.2 c ω λh=>no (.inr h)).trans (S.nx j p' ω au c y));have aD:AgM I g:=AgM.off A.ag λc cc e=>S.fr c (A.ag.lt e) λq C hd=>by rw[(D.own (.inr ⟨q,C,hd⟩)).2.2]at e;exact nomatch e
 have b7:=B.ab0.size;have bP:=A.ab0.size;have Lg:At h2 J g I:=⟨⟨χ S.sz,λc y=>(S.fr c ω λq C hd=>χ ((D.own (.inr ⟨q,C,hd⟩)).1)).trans (A.ab0.get c y)⟩,A.le,A.old,aD⟩;have al:=E.trans A.le;have hG:(cond (cond Ta Ta Tc) ((iA r s).2==(iA r s).2) Tc)=Ta:=ξ
 refine⟨_,_,ak,V,λ_=>mE Lg,_,_,wk,wi,λ_=>xB aD a7,?_⟩;refine Hq hG (Kt:=λr g'=>_) ?_;refine(um r r (R:=λq=>q=Ta) λq C=>C.2 rfl).go (vs:=[_,_]) al aD (zo (O A.le) (zo (aV.mono t.le) qc)) λw bM bL q H m C=>?_;have C:q=Ta:=C;subst C;have aN:(cond (cond (cond Ta Ta Tc) ((iA r s).2==(iA r s).2) Tc) Ta Tc)=Ta:=ξ
 refine⟨Ta,Jb m,_,_,bk,bi,λ_=>F (Lg.trans H),_,_,ok,oi,λ_=>xB H.ag (H.le _ _ bw),?_⟩;refine Hq aN (Kt:=λr g'=>_) ?_;refine(um s s (R:=λq=>q=Ta) λq C=>C.2 rfl).go (vs:=[_,_]) (al.trans H.le) H.ag (zo (Q (A.le.trans H.le)) (zo (aL.mono (t.le.trans H.le)) qc)) λw bJ bV q be m C=>?_;have C:q=Ta:=C;subst C;refine⟨Ta,Jb m,?_⟩;rw[aN];exact fin (Lg.trans (H.trans be))
end
end
end Go.X
