/- A part of the proof: nothing is stated here for its own sake. -/
import Derived.Test.YtplilfikcimcbaaGreatDoorPfE
import Derived.Shelf.Strings.OnBuilder
import Derived.Lib.Overlaps
open _root_.Go.Addr renaming add->zab
open _root_.Array renaming ext'->zfb,getElem?_push->ze0,getElem?_toList->zbh,size_push->zaf,size_setIfInBounds->zbg,toList->zdu
open _root_.Bool renaming and_eq_true->zam,cond_false_right->zem,eq_iff_iff->zbe
open _root_.Go.Builtin renaming append_->zao,clear_->zer,copy_->zd9,firstCells->zc3,zeroCells->zb7
open _root_.Go.Instr renaming storeAt->zag
open _root_.Int renaming toNat_natCast->zae,toNat_zero->zdz
open _root_.Go.IntKind renaming wrap->zaa
open _root_.List.Sublist renaming refl->zd8
open _root_.List renaming all_cons->zdf,all_eq_true->za7,append_assoc->za9,append_nil->zbs,drop_drop->zdh,drop_eq_getElem_cons->zbt,drop_eq_nil_of_le->zce,drop_length->zec,drop_take->ze7,drop_zero->zcm,eq_nil_of_length_eq_zero->zbb,ext_getElem->zdw,ext_getElem?->zbd,flatMap_cons->zcd,getD_eq_getElem?_getD->zar,getElem?_eq_getElem->zai,getElem?_eq_some_iff->za5,getElem?_map->zcc,getElem?_take->zbk,getElem_append_left->zcp,getElem_append_right->zcx,getElem_map->zb3,getElem_mem->zak,getElem_of_mem->zdj,length->zcf,length_append->zah,length_cons->zaw,length_drop->zb8,length_map->zap,length_nil->zb5,length_pos_iff->zb9,length_singleton->zcu,length_take->zbl,map_append->zbc,map_congr_left->zbx,map_cons->za1,map_drop->zff,map_id->zfl,map_map->zav,map_take->ze3,mem_append->zaj,mem_cons->zan,mem_cons_of_mem->za3,mem_cons_self->za2,mem_filter->zbv,mem_flatMap->zbw,mem_map->zay,mem_of_getElem?->zcg,mem_of_mem_drop->zde,mem_of_mem_take->zcq,mem_or_eq_of_mem_set->zd1,mem_range->zbn,mem_singleton->za6,nil_append->zck,nodup_append->zb2,nodup_cons->zbq,pairwise_cons->zcy,range->zaq,range_succ->zej,size_toArray->zeo,take_append_drop->zca,take_length->zba,take_of_length_le->zbu,take_succ_eq_append_getElem->zal,take_take->zet,take_zero->zeu
open _root_.List.cons renaming injEq->zc9
open _root_.Nat renaming le_refl->zac,min_eq_left->zda,mul_le_mul_right->za8,mul_one->zbm,one_mul->zd6,sub_self->ze9,sub_zero->zdo,zero_add->zas,zero_le->za0
open _root_.Option renaming bind_some->zcr,map_some->zd2
open _root_.Option.some renaming inj->zbi
open _root_.Go.Proofs.Tryz renaming underlying5->zex
open _root_.Go.Value renaming agg->zfo,string->zaz
open _root_.Go.Value.slice renaming injEq->zbo
set_option linter.unusedVariables false
set_option maxRecDepth 100000
namespace Go.X
end Go.X
namespace Go.Proofs
end Go.Proofs
open Go Go.X Go.Proofs
open _root_.Bool renaming true->Ta,false->Tc
open _root_.Option renaming some->Td,none->Te
namespace Go.X
section
open Go.Lib Go.RowKit
section
variable {i n:Nat}
theorem PK:zo Tp 243=Ta:=by kernel_rfl
theorem yt{v:Tr}(h:i<v.items.length):w7 v i=v.items[i]:=by unfold w7;simp_all
theorem EZ{l:List Nat}(h:n<l.length):(l.take (n+1)).contains i=if i=l[n]then Ta else(l.take n).contains i:=by rw[zal h,zbe,List.contains_iff_mem,zaj,za6];grind
theorem CL{n k:Nat}(h:k<n):(zaq n).reverse[k]'(by simpa using h)=n-1-k:=by simp
theorem xD{na na':DA}{L:List cK}(e:na'.map (·.1)=na.map (·.1)++L):na'.length=na.length+L.length:=by have:=congrArg zcf e;grind
set_option maxHeartbeats 4000000 in
set_option maxRecDepth 100000 in
theorem Pf{gl:Fr}(hg:GL gl){lo db f:Nat}{p:List Bt}{x y:Tr}(gx:GV x)(gy:GV y)(hp:p.length<=900000) (ih:∀s u v,u∈x.items->v∈y.items->tY gl lo db f (p++[s]) u v) {m:List (Nat×Nat)} (hm:∀q∈m,q.1<x.items.length/\q.2<y.items.length) (nm:m.length<=1000000) {M:Fr} {h:zc} {na:DA} {so:Sl} {b:Nat} {cs:Array Value} (hM:Fr.le gl M) (D:Df lo M db h na so b cs) {bp:List Nat} {sp:Sl} (P:OPath h p bp sp) (hP:∀c∈bp,lo<=c/\M c=Te/\¬iq na so b c/\c≠db) {ux uy:Value} (hx:RdV M .tree x ux) (hy:RdV M .tree y uy) {sm:Sl} (rm:Rd M (.row jR) (m.map nQ) [aK sm]) (hN:na.length+(iR (dR f) p x y m).length<=1000000) {K:Value->zc->Prop} (hK:∀g,Dn lo M db h na so b (iR (dR f) p x y m) iS g->K (.tuple #[]) g):
  XC Tp 117 #[.pointer (Td ⟨db,0,Te⟩),aK sp,ux,uy,aK sm] h K:=by
 have lx:=gx.len;have ly:=gy.len;obtain⟨xk,z,rfl,cE,aI⟩:=qp hx;obtain⟨yk,J,rfl,cj,ar⟩:=qp hy;obtain⟨cd,_,_⟩:=rowLen aI;obtain⟨cm,_,_⟩:=rowLen ar;obtain⟨an,_,_⟩:=rowLen rm;rw[zap]at an;rw[T1]at hN hK;rw[zah,zah]at hN;apply N4 (Td ⟨db,0,Te⟩) sp x.kind x.text xk z y.kind y.text yk J sm;intro h1 h2 h3 h4 h5;have z1:h1.size=h.size+1:=zaf _;have z2:h2.size=h1.size+1:=zaf _;have z3:h3.size=h2.size+1:=zaf _;have z4:h4.size=h3.size+1:=zaf _;have z5:h5.size=h4.size+1:=zaf _;have k1:Keep h.size h h1:=Keep.push _ _ (zac _);have k2:Keep h1.size h1 h2:=Keep.push _ _ (zac _);have k3:Keep h2.size h2 h3:=Keep.push _ _ (zac _);have k4:Keep h3.size h3 h4:=Keep.push _ _ (zac _);have k5:Keep h4.size h4 h5:=Keep.push _ _ (zac _);have b1:Blk h1 h.size #[.pointer (Td ⟨db,0,Te⟩)]:=Blk.new _ _ _;have b2:Blk h2 h1.size #[aK sp]:=Blk.new _ _ _;have b3:Blk h3 h2.size (zj x.kind x.text xk z).toArray:=Blk.new _ _ _;have b4:Blk h4 h3.size (zj y.kind y.text yk J).toArray:=Blk.new _ _ _;have b5:Blk h5 h4.size #[.nilFunc]:=Blk.new _ _ _;clear_value h1 h2 h3 h4 h5;refine xu (by kernel_rfl) (by kernel_rfl) b5 (by simp) rfl λA B6 z6 f6=>?_;have K5:Keep h.size h h5:=(((k1.trans k2 (by omega)).trans k3 (by omega)).trans k4 (by omega)).trans k5 (by omega);have K6:Keep h.size h A:=⟨by omega,λj I=>(f6 j (by omega)).trans (K5.get j I)⟩;have C1:Blk A h.size #[.pointer (Td ⟨db,0,Te⟩)]:=((((b1.ofKeep k2).ofKeep k3).ofKeep k4).ofKeep k5).keep (f6 _ (by omega));have C2:Blk A h1.size #[aK sp]:=(((b2.ofKeep k3).ofKeep k4).ofKeep k5).keep (f6 _ (by omega));have C3:Blk A h2.size (zj x.kind x.text xk z).toArray:=((b3.ofKeep k4).ofKeep k5).keep (f6 _ (by omega));have C4:Blk A h3.size (zj y.kind y.text yk J).toArray:=(b4.ofKeep k5).keep (f6 _ (by omega));have C5:Blk A h4.size #[.func (.func 186) #[] #[.pointer (Td ⟨h1.size,0,Te⟩)]]:=B6;have ax:=Au P;refine⟨z,C3.cellAdd (o:=0) (k:=3) rfl,J,C4.cellAdd (o:=0) (k:=3) rfl,?_⟩;intro bG cy br bJ bU bj;have am:∀(t C:Nat) (g0:zc),Keep A.size A g0->A.size<=t->A.size<=C->t≠C->BolB g0 t z.len (λ_=>Tc)->BolB g0 C J.len (λ_=>Tc) ->
   bG ⟨Td ⟨t,0,Te⟩,z.len,z.len⟩ ⟨Td ⟨C,0,Te⟩,J.len,J.len⟩ ⟨Td ⟨t,0,Te⟩,z.len,z.len⟩ g0:=by
  intro t C g0 k0 cz cp aH G B2;have z0:=k0.size;have K0:Keep h.size h g0:=K6.trans k0 (by omega);have bY:t<g0.size:=Blk.lt G;have bZ:C<g0.size:=Blk.lt B2;refine⟨λi g=>∃(n:Nat) (hB:zc),i=(n:Int)/\n<=m.length/\hB.size=g0.size/\(∀j,j≠t->j≠C->hB[j]?=g0[j]?)/\BolB hB t z.len (λi=>((m.map (·.1)).take n).contains i)/\BolB hB C J.len (λi=>((m.map (·.2)).take n).contains i)/\Dn lo M db hB na so b ((m.take n).flatMap (sF (dR f) p x y)) iS g,λi _=>m.length-i.toNat,⟨0,g0,rfl,za0 _,rfl,λ_ _ _=>rfl,G.ext λ_ _=>rfl,B2.ext λ_ _=>rfl,Dn.refl (D.keep K0)⟩,?_⟩;rintro i g ⟨n,hB,rfl,hn,zB,fB,F1,F2,H⟩;have hz:=H.sz;have loc:∀{j},h.size<=j->j<hB.size->g[j]?=hB[j]?:=λS E=>Dn.loc D H S E;have aB:∀{j},j<A.size->(h.size<=j\/j∈bp)->g[j]?=A[j]?:=λ {j} S E=>by rcases E with E|E;exact(loc E (by omega)).trans ((fB j (by omega) (by omega)).trans (k0.get j S));exact(H.old (by omega) (hP j E).2.2.1 (hP j E).2.2.2).trans ((fB j (by omega) (by omega)).trans (k0.get j S))
  have P6:OPath A p bp sp:=P.frame λc r=>K6.get c (ax c r);have Pg:OPath g p bp sp:=P6.frame λc r=>aB (by grind) (.inr r);refine⟨λr=>?_,λr=>?_⟩;have l:n<m.length:=by rw[an]at r;simpa using r
  obtain⟨hA,au⟩:=hm m[n] (zak l);obtain⟨a,ea,ld⟩:=MO H.ag rm l;refine⟨a,ea,_,_,ld,?_⟩;intro ah;have ca:ah.size=g.size+1:=zaf _;have be:Keep g.size g ah:=Keep.push _ _ (zac _);have bC:Blk ah g.size #[.int .i64 0,.int .i64 0]:=Blk.new _ _ _;clear_value ah;refine KT bC λaf bm cq aC=>?_;have ai:Keep g.size g af:=⟨by omega,λj I=>by rw[bm j (by omega)];exact be.get j I⟩;have bz:=H.kp ai;refine⟨_,aC.cellAdd (o:=0) (k:=0) rfl,_,aC.cellAdd (o:=0) (k:=1) rfl,⟨t,0,Te⟩,⟨rfl,by omega,by grind⟩,?_⟩;rw[ic,zae,zbm,zas];have bS:BolB af t z.len (λi=>((m.map (·.1)).take n).contains i):=F1.keep ((ai.get t (by omega)).trans (loc (by omega) (by omega)));have bg:BolB af C J.len (λi=>((m.map (·.2)).take n).contains i):=F2.keep ((ai.get C (by omega)).trans (loc (by omega) (by omega)));refine bS.set (by omega) λcu G1 bM ak=>?_;obtain⟨cc,bD,cn,bO,bL⟩:=bz.poke D (by omega) (by omega) bM ak;refine⟨⟨C,0,Te⟩,⟨rfl,by omega,by grind⟩,ak _ (by grind [zf]),?_⟩;rw[ic,zae,zbm,zas];refine(bg.keep (ak C (λe=>aH e.symm))).set (by omega) λF G2 z65 aV=>?_;obtain⟨bu,a6,cB,aS,bi⟩:=bD.poke D (by omega) (by omega) z65 aV;have f5:∀{j},j<af.size->j≠t->j≠C->F[j]?=af[j]?:=λ {j} _ E q3=>(aV j q3).trans (ak j E);have aa:∀{j},j<A.size->(h.size<=j\/j∈bp)->F[j]?=A[j]?:=λ {j} S E=>(f5 (by omega) (by omega) (by omega)).trans ((ai.get j (by omega)).trans (aB S E));have aE:Blk F g.size #[.int .i64 (m[n].1:Int),.int .i64 (m[n].2:Int)]:=aC.keep (f5 (by omega) (by omega) (by omega));have ae:=a6.ag;obtain⟨a1,bB,bV,e1,aM,r1,r2⟩:=Jt ae aI hA;obtain⟨a2,aA,aD,e2,aj,r3,r4⟩:=Jt ae ar au;refine⟨_,(C1.keep (aa (by omega) (.inl (by omega)))).cell rfl,_,(C5.keep (aa (by omega) (.inl (by omega)))).cell rfl,_,aE.cellAdd (o:=0) (k:=0) rfl,z,(C3.keep (aa (by omega) (.inl (by omega)))).cellAdd (o:=0) (k:=3) rfl,_,aE.cellAdd (o:=0) (k:=0) rfl,a1,⟨e1,by omega,by omega⟩,_,_,bB,bV,by rw[zae];exact aM,J,(C4.keep (aa (by omega) (.inl (by omega)))).cellAdd (o:=0) (k:=3) rfl,_,aE.cellAdd (o:=0) (k:=1) rfl,a2,⟨e2,by omega,by omega⟩,_,_,aA,aD,by rw[zae];exact aj,?_⟩;have bq:OPath F p bp sp:=P6.frame λc r=>aa (by grind) (.inr r);have aO:∀{g':zc} {a:Addr},Keep F.size F g'->(∃v,zd F a=Td v)->g'[a.block]?=F[a.block]?:=λ {g' a} k ⟨v,hv⟩=>by
   refine k.get _ ?_;have:(F[a.block]?).isSome:=by
    unfold zd at hv;cases hq:F[a.block]? with
    |none=>grind
    |some o=>rfl
   grind
  refine sT hg hM ae (C2.keep (aa (by omega) (.inl (by omega)))) bq (by omega) (i:=m[n].1) (by omega) λbQ s' bn Q hb bN=>⟨s',rfl,?_,Q.get _ (by grind [zf]),Q.get _ (by grind [zf]),?_,Q.get _ (by grind [zf]),Q.get _ (by grind [zf]),Q.get _ (by grind),?_⟩;rw[zae];exact aO Q ⟨_,aj.1⟩;rw[zae];exact aO Q ⟨_,aM.1⟩;obtain⟨na',so',b',cs',V,e',aZ,_,ay⟩:=a6.go Q;have tl:=wv (sF (dR f) p x y) m (n+1);rw[xe _ l,zah]at tl;have ab:sF (dR f) p x y m[n]=dR f (p++[J6 m[n].1]) x.items[m[n].1] y.items[m[n].2]:=by unfold sF;rw[yt hA,yt au]
  rw[ab]at tl;have nl:=xD e';refine ih (J6 m[n].1) x.items[m[n].1] y.items[m[n].2] (zak hA) (zak au) M bQ na' so' b' cs' [bn] s' _ _ _ hM V bN (λc r=>by rw[za6.1 r];exact aZ _ hb) (qe r1 r2) (qe r3 r4) (by omega) λg2 H2=>⟨rfl,?_⟩;rw[je l (by omega)];refine⟨⟨n+1,bu,rfl,l,by omega,λj S E=>(aS j E).trans ((bO j S).trans (fB j S E)),?_,?_,?_⟩,by simp;omega⟩;refine(G1.keep ((aS t aH).trans bL)).ext λj _=>?_;rw[EZ (by grind),zb3];refine(G2.keep bi).ext λj _=>?_;rw[EZ (by grind),zb3];rw[xe _ l,ab];refine ay _ _ g2 (λc r=>?_) H2;rw[za6.1 r];omega;have l:n=m.length:=by rw[an]at r;simp at r;omega
  subst l;rw[zba]at H;have F1:BolB hB t z.len (λi=>(m.map (·.1)).contains i):=F1.ext λj _=>by rw[zbu (by simp)]
  have F2:BolB hB C J.len (λi=>(m.map (·.2)).contains i):=F2.ext λj _=>by rw[zbu (by simp)]
  apply Q1 ⟨Td ⟨t,0,Te⟩,z.len,z.len⟩;intro w;have cA:w.size=g.size+1:=zaf _;have bH:Keep g.size g w:=Keep.push _ _ (zac _);have aJ:Blk w g.size #[aK ⟨Td ⟨t,0,Te⟩,z.len,z.len⟩]:=Blk.new _ _ _;clear_value w;refine⟨_,rfl,_,_,rfl,PK,λrec HY=>?_⟩;obtain⟨hD,Z⟩:∃hD:zc,hD=((w.push (.deferred (Td []))).push (.loop (rec .ready Te))):=⟨_,rfl⟩;have kD:Keep w.size w hD:=by rw[Z];exact(Keep.push _ _ (zac _)).trans (Keep.push _ _ (by simp)) (zac _)
  have zD:hD.size=w.size+2:=by rw[Z,zaf,zaf]
  have DD:hD[w.size]?=Td (.deferred (Td [])):=by rw[Z,ze0,zv (by simp)];exact yc _ _
  have LD:hD[w.size+1]?=Td (.loop (rec .ready Te)):=by rw[Z];have:=yc (w.push (.deferred (Td []))) (.loop (rec .ready Te));rw[zaf]at this;exact this
  rw[<-Z];clear Z;have Y:Keep g.size g hD:=bH.trans kD (by omega);obtain⟨na',so',b',cs',V,e',aZ,a8,ay⟩:=H.go (g2:=g) ⟨zac _,λ_ _=>rfl⟩;have bP:=V.keep Y;have nl:=xD e';have T:∀{j},(h.size<=j/\j<hB.size\/j∈bp)->j<g.size/\¬iq na' so' b' j/\j≠db:=λ {j} I=>by rcases I with⟨S,E⟩|q;exact⟨by omega,a8 j E (D.fresh S).2.2.1,(D.fresh S).2.2.2⟩;grind
  have ac:∀{j},j<A.size->(h.size<=j\/j∈bp)->hD[j]?=A[j]?:=λ {j} S E=>(Y.get j (by omega)).trans (aB S E);have ba:BolB hD t z.len (λi=>(m.map (·.1)).contains i):=F1.keep ((Y.get t (by omega)).trans (loc (by omega) (by omega)));have bT:BolB hD C J.len (λi=>(m.map (·.2)).contains i):=F2.keep ((Y.get C (by omega)).trans (loc (by omega) (by omega)));have rl:((zaq x.items.length).reverse).length=x.items.length:=by simp
  apply Qf;refine⟨⟨Td ⟨t,0,Te⟩,z.len,z.len⟩,(aJ.ofKeep kD).cell rfl,λi g2=>∃n:Nat,i=(x.items.length:Int)-1-n/\n<=x.items.length/\Dn lo M db hD na' so' b' (((zaq x.items.length).reverse.take n).flatMap (kV p m)) iS g2,λi _=>(i+1).toNat,⟨0,?_,za0 _,Dn.refl bP⟩,?_⟩;grind [io];rintro i g2 ⟨n,rfl,hn,H2⟩;have bE:=H2.sz;have al:∀{j},(h.size<=j/\j<hB.size\/j∈bp)->g2[j]?=hD[j]?:=λ {j} I=>by obtain⟨S,E,q3⟩:=T I;exact H2.old (by omega) E q3
  refine⟨λr=>?_,λr=>?_⟩;have l:n<x.items.length:=by have:=zH r;omega
  have ei:((x.items.length:Int)-1-n)=((x.items.length-1-n:Nat):Int):=by omega
  have cl:zd g2 ⟨g.size,0,Te⟩=Td (aK ⟨Td ⟨t,0,Te⟩,z.len,z.len⟩):=((aJ.ofKeep kD).keep (H2.old (by omega) (V.fresh (zac _)).2.2.1 (V.fresh (zac _)).2.2.2)).cell rfl;refine⟨⟨Td ⟨t,0,Te⟩,z.len,z.len⟩,cl,⟨t,0,Te⟩,⟨rfl,by omega,by grind⟩,(m.map (·.1)).contains (x.items.length-1-n),?_,?_⟩;rw[ei,ic,zae,zbm,zas];exact(ba.keep (al (.inl ⟨by omega,by omega⟩))).cell (by omega);have tl:=wv (kV p m) (zaq x.items.length).reverse (n+1);rw[xe _ (by omega),CL l]at tl;rw[ei];refine HY ((H2.old (by omega) (V.fresh (by omega)).2.2.1 (V.fresh (by omega)).2.2.2).trans LD) ?_;refine Tu hg (i:=x.items.length-1-n) hp (by omega) hM V H2 Y.size (C1.keep (ac (by omega) (.inl (by omega)))) (C5.keep (ac (by omega) (.inl (by omega)))) (C2.keep (ac (by omega) (.inl (by omega)))) (P6.frame λc r=>ac (by have:=ax c r;omega) (.inr r)) (λj I=>?_) (by omega) (by omega) LD (by omega) λg3 N=>⟨Ta,rfl,(λhx=>by cases hx),λ_=>⟨⟨n+1,?_,l,?_⟩,?_⟩⟩;rcases I with rfl|rfl|rfl|I;exact T (.inl ⟨by omega,by omega⟩);exact T (.inl ⟨by omega,by omega⟩);exact T (.inl ⟨by omega,by omega⟩);exact T (.inr I);rw[io (by omega)];omega;rw[xe _ (by omega),CL l];exact N;rw[io (by omega)];simp;have l:n=x.items.length:=by have:=zI r;omega
  subst l;rw[zbu (by omega)]at H2;refine .inl ⟨(H2.old (by omega) (V.fresh (by omega)).2.2.1 (V.fresh (by omega)).2.2.2).trans LD,?_⟩;obtain⟨hE,N,zE,fE,lE⟩:=H2.poke V (o:=w.size+1) (by omega) (by omega) (g':=g2.setIfInBounds (w.size+1) (.loop (rec .exhausted Te))) zbg λj I=>zq I;generalize g2.setIfInBounds (w.size+1) (.loop (rec .exhausted Te))=gE at N lE ⊢;refine⟨λi g3=>∃n:Nat,i=(n:Int)/\n<=y.items.length/\Dn lo M db hE na' so' b' ((zaq x.items.length).reverse.flatMap (kV p m)++((zaq y.items.length).take n).flatMap (mD p y m)) iS g3,λi _=>y.items.length-i.toNat,⟨0,rfl,za0 _,by simpa using N⟩,?_⟩;clear N H2 bE al;rintro i g3 ⟨n,rfl,hn,N⟩;have cg:=N.sz;have L:∀{j},j<A.size->(h.size<=j\/j∈bp)->g3[j]?=A[j]?:=λ {j} S E=>by obtain⟨p1,p2,p3⟩:=T (j:=j) (E.imp (λq=>⟨q,by omega⟩) id);exact(N.old (by omega) p2 p3).trans ((fE j (by omega)).trans (ac S E))
  have bA:BolB g3 C J.len (λi=>(m.map (·.2)).contains i):=by obtain⟨p1,p2,p3⟩:=T (j:=C) (.inl ⟨by omega,by omega⟩);exact bT.keep ((N.old (by omega) p2 p3).trans (fE C (by omega)))
  refine⟨λr=>?_,λr=>?_⟩;have l:n<y.items.length:=by have h':=zH r;have h2:(n:Int)<((J.len:Nat):Int):=h';omega
  refine⟨⟨C,0,Te⟩,⟨rfl,by omega,by grind⟩,(m.map (·.2)).contains n,?_,?_⟩;rw[ic,zae,zbm,zas];exact bA.cell (by omega);have rn:(zaq y.items.length)[n]'(by simpa using l)=n:=by simp
  have tl:=wv (mD p y m) (zaq y.items.length) (n+1);rw[xe _ (by simpa using l),rn,zah]at tl;refine⟨λhx=>?_,λhx=>?_⟩;have ab:mD p y m n=[(⟨#[97,100,100]⟩,p++[J6 n],[],y.items[n])]:=by unfold mD;rw[zv (by grind),yt l];rfl
  have gu:GV y.items[n]:=gy.item (zak l);obtain⟨a2,aA,aD,e2,aj,r3,r4⟩:=Jt N.ag ar l;have G:=C1.keep (L (by omega) (.inl (by omega)));have B5:=C5.keep (L (by omega) (.inl (by omega)));refine⟨_,G.cell rfl,J,(C4.keep (L (by omega) (.inl (by omega)))).cellAdd (o:=0) (k:=3) rfl,a2,⟨e2,by omega,by omega⟩,_,_,aA,aD,by rw[zae];exact aj,_,B5.cell rfl,?_⟩;refine nh hg gu.s gu.open hM N.ag (qe r3 r4) λb6 bs ck ci B ot aF=>⟨_,_,ck,ci,rfl,B.get _ B5.lt,B.get _ G.lt,?_⟩;have b9:=B.size;have P3:OPath g3 p bp sp:=P6.frame λc r=>L (by have:=ax c r;omega) (.inr r);have aL:=Au P3;have B2:=C2.keep (L (by omega) (.inl (by omega)));refine sT hg hM (N.ag.keep B) (B2.ofKeep B) (P3.frame λc r=>B.get c (aL c r)) (by omega) (i:=n) (by omega) λb8 s' bn U hb aY=>⟨s',rfl,(U.get _ (by grind)).trans (B.get _ G.lt),?_⟩;have b7:=U.size;obtain⟨na2,so2,b2,cC,D2,a7,aN,_,bI⟩:=N.go (B.trans U (by omega));have bF:=xD a7;rw[zah]at bF;have aP:=ot.lt;have co:=wv (mD p y m) (zaq y.items.length) n;refine rX D2 aY (ot.frame λc r=>U.get c (aP c r)) (λc r=>?_) (λc r aQ=>?_) (by omega) _ λg4 H4=>⟨rfl,?_⟩;rcases r with r|r;rw[za6.1 r];exact aN _ (by omega);exact aN _ (by have:=aF c r;omega);rw[za6.1 r]at aQ;have:=aP bn aQ;omega;rw[je l (by omega)];refine⟨⟨n+1,rfl,l,?_⟩,by simp;omega⟩;rw[xe _ (by simpa using l),rn,ab,<-za9];refine bI _ _ g4 (λc r=>?_) H4;rcases r with r|r;rw[za6.1 r];omega;have:=aF c r;omega;have ab:mD p y m n=[]:=by unfold mD;rw[zA (by simpa using hx)]
  rw[je l (by omega)];refine⟨⟨n+1,rfl,l,?_⟩,by simp;omega⟩;rw[xe _ (by simpa using l),rn,ab,zbs];exact N;have l:n=y.items.length:=by have h':=zI r;have h2:¬(n:Int)<((J.len:Nat):Int):=h';omega
  subst l;rw[zbu (by simp)]at N;refine⟨(N.old (by omega) (V.fresh (by omega)).2.2.1 (V.fresh (by omega)).2.2.2).trans ((fE _ (by omega)).trans DD),?_⟩;obtain⟨hF,H4,zF,fF,_⟩:=N.poke V (o:=w.size) (by omega) (by omega) (g':=g3.setIfInBounds w.size (.deferred Te)) zbg λj I=>zq I;have kF:Keep g.size g hF:=⟨by omega,λj I=>(fF j (by omega)).trans ((fE j (by omega)).trans (Y.get j I))⟩;have H5:=ay _ iS _ (λc r=>nomatch r) (H4.frm kF);have kB:Keep h.size h hB:=⟨by omega,λj I=>(fB j (by omega) (by omega)).trans (K0.get j I)⟩;exact hK _ (H5.frm kB)
 have az:∀(t:Nat) (g:zc),Keep A.size A g->A.size<=t->BolB g t z.len (λ_=>Tc)->br ⟨Td ⟨t,0,Te⟩,z.len,z.len⟩ ⟨Td ⟨t,0,Te⟩,z.len,z.len⟩ g:=λt g k ho G=>by have:=Blk.lt G;have:=k.size;exact o5 (by omega) λg' B2 O z'=>⟨_,rfl,am t g.size g' (k.trans O (by omega)) ho (by omega) (by omega) (G.keep (O.get _ (by omega))) B2⟩
 have aT:∀(t:Nat) (g:zc),Keep A.size A g->A.size<=t->BolB g t z.len (λ_=>Tc)->bJ ⟨Td ⟨t,0,Te⟩,z.len,z.len⟩ g:=λt g k ho G=>⟨az t g k ho G,az t g k ho G⟩;have aU:∀(C:Nat) (g:zc),Keep A.size A g->A.size<=C->BolB g C J.len (λ_=>Tc)->bU ⟨Td ⟨C,0,Te⟩,J.len,J.len⟩ g:=λC g k ho B2=>by have:=Blk.lt B2;have:=k.size;exact o5 (by omega) λg' G O z'=>⟨_,rfl,am g.size C g' (k.trans O (by omega)) (by omega) ho (by omega) G (B2.keep (O.get _ (by omega)))⟩
 have aG:bj A:=⟨o5 (by omega) λg' G O z'=>⟨_,rfl,aT _ g' O (zac _) G⟩,o5 (by omega) λg' B2 O z'=>⟨_,rfl,aU _ g' O (zac _) B2⟩⟩;refine⟨⟨rfl,o5 (by omega) λg' G O z'=>⟨_,rfl,O.get _ (by rw[zf];show h3.size<_;omega),aT _ g' O (zac _) G,O.get _ (by rw[zf];show h3.size<_;omega),az _ g' O (zac _) G⟩,aG⟩,rfl,aG,o5 (by omega) λg' B2 O z'=>⟨_,rfl,O.get _ (by rw[zf];show h2.size<_;omega),aU _ g' O (zac _) B2⟩⟩
end
section
variable {M:Fr}
theorem Dn.back{lo db b:Nat}{M M':Fr}{h g:zc}{na:DA}{so:Sl}{L:List cK}{X:Nat->Prop}(H:Dn lo M' db h na so b L X g)(le:Fr.le M M'):Dn lo M db h na so b L X g:=by obtain⟨na',so',b',cs',D,T,e⟩:=H;exact⟨na',so',b',cs',D.back (λb c e=>D.ag b c (le b c e)) le,T,e⟩
theorem Ec{b c:Nat}:∀{m:List (Nat×Nat)} {i j:Nat},Rising i j b c m->i<=b->m.length+i<=b
 |[],i,j,_,hi=>by simpa using hi
 |q::m,i,j,h,hi=>by have h1:=(j3 h).1 q za2;have:=Ec (m:=m) (i:=q.1+1) (j:=q.2+1) h.2.2.2.2 (by omega);rw[zaw];omega
theorem Lw{b e:Nat}{m:List (Nat×Nat)}(h:Rising 0 0 b e m):(∀q∈m,q.1<b/\q.2<e)/\m.length<=b:= ⟨λq c=>⟨((j3 h).1 q c).2.1,((j3 h).1 q c).2.2.2⟩,Ec h (za0 _)⟩
theorem Gi{l:List pn}{i j:Int}{v:Value}(h:J4 M [.row jR,.int .i64,.int .i64] (l,i,j) v):∃s:Sl,v=.tuple #[aK s,.int .i64 i,.int .i64 j]/\Rd M (.row jR) l [aK s]:=by
 obtain⟨us,⟨t,o,rfl,f,m,e,rfl,c,k,rfl,b⟩,rfl⟩:=h;obtain⟨s,rfl,r⟩:=Xq f;rw[Y9 rfl]at c b;have q:m=.int .i64 i:=by simpa[Rd]using c
 have n:k=.int .i64 j:=by simpa[Rd]using b
 subst q;subst n;exact⟨s,rfl,r⟩
set_option maxHeartbeats 1000000 in
set_option maxRecDepth 100000 in
theorem DK{gl:Fr}(T:GL gl)(hb:Brn gl){lo db:Nat}:∀(f:Nat) (p:List Bt) (x y:Tr),cR x<=f->GV x->GV y->p.length+f<=900000->tY gl lo db f p x y
 |0,p,x,y,hf,_,_,_=>by have:=j8 x;omega
 |f+1,p,x,y,hf,gx,gy,hp=>by
  intro M h na so b cs bp sp ux uy K V D P hP hx hy hN hK;have ih:∀s u v,u∈x.items->v∈y.items->tY gl lo db f (p++[s]) u v:=λs u v hu hv=>by refine DK T hb f _ u v ?_ (gx.item hu) (gy.item hv) ?_;have:=Q0 hu;have:=j8 x;omega;rw[zah,zcu];omega
  have Q:=hx;have I:=hy;obtain⟨J,F,rfl,aD,ai⟩:=qp hx;obtain⟨E,C,rfl,aA,aj⟩:=qp hy;have lx:=gx.len;have ly:=gy.len;have t:dR (f+1) p x y=if ji x y then []else if x.kind=6/\y.kind=6 then iT (dR f) p x y else if x.kind=5/\y.kind=5 then(match jU x.items y.items with|some m=>iR (dR f) p x y m|none=>[Qz p y])else [Qz p y]:=rfl;apply MX (Td ⟨db,0,Te⟩) sp x.kind x.text J F y.kind y.text E C;intro h1 N;have z1:h1.size=h.size+1:=zaf _;have z2:N.size=h1.size+1:=zaf _;have k1:Keep h.size h h1:=Keep.push _ _ (zac _);have k2:Keep h1.size h1 N:=Keep.push _ _ (zac _);have b1:Blk h1 h.size (zj x.kind x.text J F).toArray:=Blk.new _ _ _;have b2:Blk N h1.size (zj y.kind y.text E C).toArray:=Blk.new _ _ _;have ac:=b1.ofKeep k2;clear_value h1 N;have K2:Keep h.size h N:=k1.trans k2 (by omega);have G:=Au P;intro K4 ak;have rep:∀Y,Keep N.size N Y->dR (f+1) p x y=[Qz p y]->K4 Y:=λY k3 e=>ak Y ⟨_,_,E,C,(b2.ofKeep k3).ld (cs:=zj y.kind y.text E C),by
   have K3:Keep h.size h Y:=K2.trans k3 (by omega);refine nh T gy.s gy.open V (D.ag.keep K3) I λan bs ck ci ah ot ae=>⟨_,_,ck,ci,rfl,?_⟩;have O:Keep h.size h an:=K3.trans ah K3.size;have az:=K3.size;have nb:∀c∈bs,h.size<=c:=λc i=>by have:=ae c i;omega
   refine rX (D.keep O) (P.frame λc i=>O.get c (G c i)) ot (λc i=>?_) (λc i hb=>?_) ?_ _ λg H=>⟨rfl,hK g ?_⟩;rcases i with i|i;exact hP c i;exact D.fresh (nb c i);have:=G c i;have:=nb c hb;omega;rw[e]at hN;simp only[zaw]at hN;omega;rw[e];refine(H.frm O).mono λc i=>?_
   rcases i with i|i;exact .inl i;exact .inr (nb c i)⟩
  refine⟨_,_,J,F,ac.ld (cs:=zj x.kind x.text J F),_,_,E,C,b2.ld (cs:=zj y.kind y.text E C),?_⟩;have hS:PC Tp gl 46 [Arg.mk .tree x,Arg.mk .tree y] [.bool] (λr=>r=ji x y):=wD T gx.s gy.s (by rw[gx.open,gy.open];rfl);refine hS.go (vs:=[.agg #[.int .i64 x.kind,.string x.text,aK J,aK F],.agg #[.int .i64 y.kind,.string y.text,aK E,aK C]]) V (D.ag.keep K2) (zr Q (zr I qj)) λw L ay r ar j S=>?_;have S:r=ji x y:=S;subst S;have A:=ar.keep;have aB:=A.size;have n:Keep h.size h L:=K2.trans A (by omega);have q:=D.keep n;have ab:OPath L p bp sp:=P.frame λc i=>n.get c (G c i);have Z:=ac.ofKeep A;have B2:=b2.ofKeep A;refine⟨ji x y,Xh j,λhs=>hK _ ?_,λhs=>?_⟩;rw[t,zA hs];exact(Dn.refl q).frm n;rw[zv (by rw[hs];decide)]at t;refine⟨x.kind,Z.cellAdd (o:=0) (k:=0) rfl,y.kind,λ_=>B2.cellAdd (o:=0) (k:=0) rfl,λz=>?_,λz=>?_⟩;obtain⟨kx,ky⟩:x.kind=6/\y.kind=6:=by
   cases e:(x.kind==6)with
   |true=>rw[e]at z;exact⟨by simpa using e,by simpa using z⟩
   |false=>rw[e]at z;exact nomatch z
  rw[zA ⟨kx,ky⟩]at t;refine⟨_,_,J,F,Z.ld (cs:=zj x.kind x.text J F),_,_,E,C,B2.ld (cs:=zj y.kind y.text E C),?_⟩;refine TT T gx gy kx ky (by omega) ih V q ab hP Q I (by rw[<-t];exact hN) λg H=>⟨rfl,hK g ?_⟩;rw[t];exact(H.frm n).mono λc i=>nomatch i;have au:¬(x.kind=6/\y.kind=6):=λ⟨e1,e2⟩=>by rw[e1,e2]at z;exact nomatch z
  rw[zv au]at t;refine⟨x.kind,Z.cellAdd (o:=0) (k:=0) rfl,y.kind,λ_=>B2.cellAdd (o:=0) (k:=0) rfl,λz=>?_,λz=>?_⟩;obtain⟨kx,ky⟩:x.kind=5/\y.kind=5:=by
   cases e:(x.kind==5)with
   |true=>rw[e]at z;exact⟨by simpa using e,by simpa using z⟩
   |false=>rw[e]at z;exact nomatch z
  rw[zA ⟨kx,ky⟩]at t;refine⟨F,Z.cellAdd (o:=0) (k:=3) rfl,C,B2.cellAdd (o:=0) (k:=3) rfl,?_⟩;have al:PC Tp gl 116 [Arg.mk (.row .tree) x.items,Arg.mk (.row .tree) y.items] [.row jR,.int .i64,.int .i64] (λr=>r=m5 x.items y.items):=Mu T hb (λv hv=>gx.item hv) (λv hv=>gy.item hv) (by omega) (by omega) rfl;refine al.go (vs:=[aK F,aK C]) V q.ag (zr (a:=Arg.mk (.row .tree) _) ((Y9 rfl).2 ai) (zr (a:=Arg.mk (.row .tree) _) ((Y9 rfl).2 aj) qj)) λw aa U r l j S=>?_;have S:r=m5 x.items y.items:=S;subst S;cases e:jU x.items y.items with
  |none=>rw[e]at t;rw[Rr e]at j;obtain⟨s,rfl,rs⟩:=Gi j;exact⟨s,_,_,rfl,(λh=>nomatch h),λ_=>rep aa (A.trans l.keep (by omega)) t⟩
  |some m=>
   rw[e]at t;have t:dR (f+1) p x y=iR (dR f) p x y m:=t;obtain⟨c,ec⟩:=QG e;rw[ec]at j;obtain⟨s,rfl,rs⟩:=Gi j;have B:=l.keep;have aC:=B.size;refine⟨s,_,_,rfl,λ_=>?_,(λh=>nomatch h)⟩;have am:=uL _ _ _ e;obtain⟨m1,m2⟩:=Lw am;have old:∀c,c<L.size->M c=Te->U c=Te:=λc i e=>by rw[l.old c i];exact e
   have ax:Df lo U db aa na so b cs:=(q.keep B).mem l.ag l.le (λc i=>old c (q.ds.own i).2.1 (q.ds.own i).2.2) (old db q.box.lt q.nM);refine⟨_,_,J,F,(Z.ofKeep B).ld (cs:=zj x.kind x.text J F),_,_,E,C,(B2.ofKeep B).ld (cs:=zj y.kind y.text E C),?_⟩;refine Pf T gx gy (by omega) ih m1 (by omega) (V.trans l.le) ax (ab.frame λc i=>B.get c (by have:=G c i;have:=n.size;omega)) (λc i=>⟨(hP c i).1,old c (by have:=G c i;have:=n.size;omega) (hP c i).2.1,(hP c i).2.2⟩) (Q.mono l.le) (I.mono l.le) rs (by rw[<-t];exact hN) λg H=>⟨rfl,hK g ?_⟩;rw[t];exact((H.back l.le).frm (n.trans B n.size)).mono λc i=>nomatch i
  have af:¬(x.kind=5/\y.kind=5):=λ⟨e1,e2⟩=>by rw[e1,e2]at z;exact nomatch z
  rw[zv af]at t;exact rep L A t
end
section
variable {gl:Fr} {x y:Tr}
def ke(a b:Tr):List cK:=dR 33 [] a b
theorem Bj{a b:Tr}(ga:GV a)(gb:GV b):(ke a b).length<=8192:=by have:=FQ uL 33 [] a b ga.ok gb.ok;have:=ga.sz;have:=gb.sz;show(iB jU 33 [] a b).length<=8192;omega
set_option maxHeartbeats 1000000 in
set_option maxRecDepth 100000 in
theorem XD(S:GL gl)(hb:Brn gl)(sx:Sm x)(Z:Sm y){h:zc}{M:Fr}{ux uy:Value}(P:Fr.le gl M)(ag:AgM M h)(hx:RdV M .tree x ux)(hy:RdV M .tree y uy){K:Value->zc->Prop} (D:(zh x&&zh y)=Tc->∀g,Keep h.size h g->K (.tuple #[.slice Te 0 0,.int .i64 1]) g) (Q:zh x=Ta->zh y=Ta->∀(g:zc) (na:DA) (so:Sl) (b:Nat) (cs:Array Value),Keep h.size h g->AgM M g->DStp h.size g M na so b cs->na.map (·.1)=ke x y->K (.tuple #[aK so,.int .i64 0]) g):
  XC Tp 33 #[ux,uy] h K:=by
 have E:=hx;have G:=hy;obtain⟨z,u,rfl,aj,ac⟩:=qp hx;obtain⟨t,A,rfl,af,ae⟩:=qp hy;apply KF x.kind x.text z u y.kind y.text t A;intro h1 B;have z1:h1.size=h.size+1:=zaf _;have z2:B.size=h1.size+1:=zaf _;have k1:Keep h.size h h1:=Keep.push _ _ (zac _);have k2:Keep h1.size h1 B:=Keep.push _ _ (zac _);have b1:Blk h1 h.size (zj x.kind x.text z u).toArray:=Blk.new _ _ _;have b2:Blk B h1.size (zj y.kind y.text t A).toArray:=Blk.new _ _ _;have F:=b1.ofKeep k2;clear_value h1 B;have K2:Keep h.size h B:=k1.trans k2 (by omega);refine⟨_,_,z,u,F.ld (cs:=zj x.kind x.text z u),?_⟩;have Y:PC Tp gl 49 [Arg.mk .tree x] [.bool] (λr=>r=zh x):=xc S sx rfl;have V:PC Tp gl 49 [Arg.mk .tree y] [.bool] (λr=>r=zh y):=xc S Z rfl;refine Y.go (vs:=[.agg #[.int .i64 x.kind,.string x.text,aK z,aK u]]) P (ag.keep K2) (zr E qj) λw h8 M8 r N l m=>?_;have m:r=zh x:=m;subst m;have J:=N.keep;have z8:=J.size;have B2:=b2.ofKeep J;refine⟨zh x,Xh l,_,_,t,A,λ_=>B2.ld (cs:=zj y.kind y.text t A),λv g=>Keep h8.size h8 g/\∃r,v=.bool r/\(zh x=Ta->r=zh y),λf=>?_,λf=>⟨Tc,Keep.refl _ _,Tc,rfl,λe=>by rw[e]at f;exact nomatch f⟩,λf v g ⟨_,r,e,_⟩=>⟨r,e⟩,?_⟩;refine V.go (vs:=[.agg #[.int .i64 y.kind,.string y.text,aK t,aK A]]) (P.trans N.le) N.ag (zr (G.mono N.le) qj) λw h9 M9 r L9 l m=>?_;have m:r=zh y:=m;subst m;exact⟨_,Xh l,L9.keep,_,rfl,λ_=>rfl⟩;rintro r h15 ⟨n,r',e,m⟩;cases e;have ab:=n.size;have I:Keep h.size h h15:=(K2.trans J (by omega)).trans n (by omega);refine⟨λf=>D ?_ h15 I,λf=>?_⟩;cases e:zh x with
 |false=>rfl
 |true=>rw[e]at f;rw[<-m e];simpa using f
 have L:zh x=Ta:=by
  cases e:zh x with
  |true=>rfl
  |false=>rw[e]at f;exact nomatch f
 have ry:zh y=Ta:=by rw[L]at f;rw[<-m L];simpa using f
 have gx:GV x:=⟨L,sx⟩;have gy:GV y:=⟨ry,Z⟩;intro i;have q:Keep h15.size h15 i:=Keep.push _ _ (zac _);have ah:i.size=h15.size+1:=zaf _;have O:Blk i h15.size #[aK ⟨Te,0,0⟩]:=Blk.new _ _ _;clear_value i;have C:Keep h.size h i:=I.trans q (by omega);have no:∀c,¬iq [] ⟨Te,0,0⟩ 0 c:=λc f=>by rcases f with⟨h0,_⟩|⟨p,hp,_⟩;exact h0 rfl;exact nomatch hp
 have T:Df h.size M h15.size i [] ⟨Te,0,0⟩ 0 #[]:=⟨ag.keep C,O,DStp.nil,no _,by omega,by
  cases e:M h15.size with
  |none=>rfl
  |some c=>have:=ag.lt e;omega⟩
 refine⟨_,_,z,u,(((F.ofKeep J).ofKeep n).ofKeep q).ld (cs:=zj x.kind x.text z u),_,_,t,A,((B2.ofKeep n).ofKeep q).ld (cs:=zj y.kind y.text t A),?_⟩;have ai:=gx.dp;have aa:=Bj gx gy;refine DK S hb 33 [] x y (by omega) gx gy (by simp) M i [] ⟨Te,0,0⟩ 0 #[] [] ⟨Te,0,0⟩ _ _ _ P T OPath.nil (λc f=>nomatch f) E G (by show 0+(ke x y).length<=1000000;omega) λg H=>⟨rfl,?_⟩;obtain⟨na',so',b',cs',U,T',e'⟩:=H;exact⟨so',U.box.cellAdd (o:=0) (k:=0) rfl,Q L ry g na' so' b' cs' ⟨by have:=T'.sz;omega,λj hj=>(T'.fr j (by omega) (no j) (by omega)).trans (C.get j hj)⟩ U.ag U.ds e'⟩
def jA(x y:Tr):List cK×Int:=if zh x&&zh y then(ke x y,0)else([],1)
theorem CJ(w:GL gl)(t:Brn gl)(m:Sm x)(n:Sm y){R:List cK×Int->Prop}(o:R (jA x y)):PC Tp gl 33 [Arg.mk .tree x,Arg.mk .tree y] [.row X0,.int .i64] R:=by
 intro h M vs r ag z;obtain⟨u,v,rfl,f,i⟩:∃u v,vs=[u,v]/\RdV M .tree x u/\RdV M .tree y v:=by
  match vs,z with
  |[u,v],⟨h1,h2,_⟩=>exact⟨u,v,rfl,h1,h2⟩
 apply PX.of;refine XD w t m n r ag f i (λe g k=>?_) λj l g na so b cs k agg D e=>?_;refine⟨M,jA x y,Later.same ag k,?_,o⟩;unfold jA;rw[e];exact⟨[_,_],⟨_,_,rfl,(Y9 rfl).2 (⟨_,rfl,Te,0,rfl,⟨by simp,by simp⟩,.inl rfl⟩:Rd M (.row X0) [] [aK ⟨Te,0,0⟩]),_,rfl,Ja .i64 1⟩,rfl⟩;have q:na.length<=1000000:=by have:=congrArg zcf e;rw[zap]at this;have:=Bj ⟨j,m⟩ ⟨l,n⟩;omega
 have rd:=D.rd agg q;refine⟨MxL M g (mQ na so b),jA x y,MxL.later ag k λc A=>?_,?_,o⟩;exact(D.own (uT.1 A)).1;unfold jA;rw[j,l,<-e];exact⟨[_,_],⟨_,_,rfl,(Y9 rfl).2 rd,_,rfl,Ja .i64 0⟩,rfl⟩
end
end
section
open Go.Shelf Go.RowKit
def If:Go.Shelf.Ren:=⟨fun|156=>127|165=>202|166=>68|169=>70|240=>123|241=>257|276=>195|277=>308|n=>n,fun|31=>22|9=>9|3=>3|4=>4|0=>0|20=>20|72=>89|76=>92|70=>86|37=>87|75=>91|127=>133|164=>199|5=>5|80=>95|n=>n,fun|n=>n⟩
theorem Kw:Go.Proofs.Lays.n156 Tp If:=by constructor <;> intros <;> kernel_rfl
theorem Lb:Builder.Extra Tp If:={
 sizeBuilder:=by kernel_rfl
 liesBuilder:=by kernel_rfl
 t5:=zex
 a5:=Tryz.isAgg5
 z5:=Tryz.sizeOf5
 v5:=Tryz.zeroValue5
 infoByte:=by kernel_rfl
 cellsByte:=by kernel_rfl
 sizeByte:=by kernel_rfl
 neB5:=by decide }
theorem Ot(bk o c:Nat)(xs:List Bt)(sep:Bt)(w:World) (b:∀(j:Nat) x,xs[j]?=Td x->w.cell? ⟨bk,o+j,Te⟩=Td (.string x)) (i:bk<w.heap.size) (k:xs.length<=140737488355328) (f:xs.length<=c) (h:(Lib.join (xs.map (·.data.toList)) sep.data.toList).length<=140737488355328): Calls Tp 127 #[.slice (Td ⟨bk,o,Te⟩) xs.length c,.string sep] w λe w'=>e=.returned (.string ⟨(Lib.join (xs.map (·.data.toList)) sep.data.toList).toArray⟩)/\Below w.heap.size w w':=Any.strings_Join Kw Lb bk o c xs sep w b i k f h
end
section
open Go.Lib Go.RowKit
section
variable {h:zc} {K:Value -> zc -> Prop} {gl:Fr} {o:cK}
theorem V3:∀{h:zc} {b:Nat} {xs:List Bt} {cs:Array Value},Blk h b cs->cs.toList.take xs.length=xs.map zaz->∀(j:Nat) x,xs[j]?=Td x->zd h ⟨b,0+j,Te⟩=Td (.string x):=λ {h b xs cs} H e j x c=>by refine H.cell ?_;have f:j<xs.length:=(za5.1 c).1;have:=congrArg (λl=>l[j]?) e;simp only[zbk,zA f,zcc,c,zd2]at this;rw[zas,<-zbh];exact this
theorem RQ{b c:Nat}{xs:List Bt}{cs:Array Value}(H:Blk h b cs)(e:cs.toList.take xs.length=xs.map zaz)(q:xs.length<=c)(r:xs.length<=1000){sep:Bt}{l:Bs}(i:Lib.join (xs.map lb) (lb sep)=l)(m:l.length<=140737488355328)
  (o:∀g,Keep h.size h g->K (.string (bl l)) g):XC Tp 127 #[.slice (Td ⟨b,0,Te⟩) xs.length c,.string sep] h K:=by
 refine XC.of_calls λB d=>?_;have k:=H.lt;refine(Ot b 0 c xs sep (mk B d h) (λj x n=>V3 H e j x n) k (by omega) q (by show(Lib.join (xs.map lb) (lb sep)).length<=_;rw[i];exact m)).mono ?_;rintro e w' ⟨rfl,f⟩;refine⟨_,rfl,f.os,f.tape,f.output,?_⟩;have:(⟨(Lib.join (xs.map (·.data.toList)) sep.data.toList).toArray⟩:Bt)=bl l:=by show bl (Lib.join (xs.map lb) (lb sep))=bl l;rw[i]
 rw[this];exact o _ ⟨f.size,f.block⟩
def jB(p:List Bt):Bs:=(iO (if wn p then iX (p.map lb)else [])).1
theorem Gc{p:List Bt}(h:PS p):(iX (p.map lb)).length<=409800:=by
 have h1:=Iw (l:=p.map lb) (m:=1024) λx c=>by obtain⟨s,b,rfl⟩:=zay.1 c;exact h.s s b
 rw[zap]at h1;have:=h.n;omega
theorem tT{p:List Bt}(h:PS p):(jB p).length<=2500000:=by unfold jB;have:=Gc h;split;have:=qW (iX (p.map lb));omega;have:=qW [];simp only[zb5]at this;omega
theorem OP(c:GL gl)(f:Brn gl){p:List Bt}(h:PS p){R:Bt->Prop}(b:R (bl (jB p))):PC Tp gl 124 [Arg.mk (.row .str) p] [.str] R:=by apply OD;have i:=Gc h;unfold jB at b;refine EP c (PS.sl h) (λe=>?_) λe=>?_;rw[zA e]at b;exact GU c f (by omega) b;rw[zv (by rw[e];decide)]at b;exact GU c f (by simp) b
structure OpQ (o:cK):Prop where
 p:PS o.2.1
 f:PS o.2.2.1
 v:Sm o.2.2.2
theorem OpQ.s(h:OpQ o):OpS o:=⟨PS.sl h.p,PS.sl h.f,h.v⟩
def lF(s:Bs):Bool:=decide (s=mS\/s=wq\/s=nn)
def pM(s:Bs):Bool:=decide (s=mV\/s=oA)
def Xm(o:cK):List Bs:=lb o.1::jB o.2.1::(if pM (lb o.1)then [jB o.2.2.1]else if lF (lb o.1)then [J5 Tc 0 o.2.2.2 0]else [])
def lr(o:cK):Bs:=Lib.join (Xm o) [32]++[10]
theorem HR(h:qm o=Ta):((lb o.1).length<=7)/\(lF (lb o.1)=Ta->zh o.2.2.2=Ta)/\(lF (lb o.1)=Tc->ng o.2.2.2=Ta):=by unfold qm at h;simp only[zam]at h;obtain⟨h1,_,_,_,b⟩:=h;unfold xb at h1 b;unfold lF;split at h1;rename_i c;rw[zA c]at b;refine⟨?_,λ_=>b,λe=>?_⟩;rcases c with e|e|e <;> rw[e] <;> decide;rw[zJ c]at e;exact nomatch e;rename_i c;rw[zv c]at b;refine⟨?_,λe=>absurd (zH e) c,λ_=>?_⟩;split at h1;rename_i f;rcases f with e|e <;> rw[e] <;> decide;have:lb o.1=Y4:=zH h1;rw[this];decide;split at b <;> exact b
theorem Ru{v:Tr}(h:zh v=Ta)(b:Sm v):(J5 Tc 0 v 0).length<=100000000000:=by have h1:=v7 (ln:=Tc) (N:=0) (by omega) (aR v) v 0 (zac _) b (by have:=(Yp h).2.1;omega);have:=(Yp h).1;omega
theorem Kp(a b:Bs):Lib.join [a,b] [32]=a++[32]++b:=by simp[Lib.join,List.intercalate]
theorem JL(a b c:Bs):Lib.join [a,b,c] [32]=a++[32]++b++[32]++c:=by simp[Lib.join,List.intercalate]
theorem yK(h:qm o=Ta)(c:OpQ o):(lr o).length<=200000000000:=by obtain⟨h1,i,_⟩:=HR h;have a:=tT c.p;have b:=tT c.f;have j:=nv o.1;unfold lr Xm;split;rw[JL];simp;omega;split;rename_i e;have:=Ru (i e) c.v;rw[JL];simp;omega;rw[Kp];simp;omega
theorem G3:zo Tp 124=Ta:=by kernel_rfl
set_option maxHeartbeats 1000000 in
set_option maxRecDepth 100000 in
theorem Kf(hg:GL gl)(hb:Brn gl)(Q:OpQ o)(hr:qm o=Ta){M:Fr}(hM:Fr.le gl M)(ag:AgM M h){sp sf sk si:Sl}(rp:RdV M (.row .str) o.2.1 (aK sp))(rf:RdV M (.row .str) o.2.2.1 (aK sf))(rv:RdV M .tree o.2.2.2 (.agg (zm o.2.2.2 sk si).toArray))
  (hK:∀g,Keep h.size h g->K (.string (bl (lr o))) g):XC Tp 69 #[.agg (zy o.1 sp sf o.2.2.2 sk si).toArray] h K:=by
 obtain⟨hn,hv,_⟩:=HR hr;have qa:=tT Q.p;have qb:=tT Q.f;apply SJ o.1 sp sf o.2.2.2.kind o.2.2.2.text sk si;intro h1;have k1:Keep h.size h h1:=Keep.push _ _ (zac _);have z1:h1.size=h.size+1:=zaf _;have b1:Blk h1 h.size (zy o.1 sp sf o.2.2.2 sk si).toArray:=Blk.new _ _ _;clear_value h1;refine⟨o.1,b1.cellAdd (o:=0) (k:=0) rfl,sp,b1.cellAdd (o:=0) (k:=1) rfl,G3,?_⟩;have hq:∀{p},PS p->PC Tp gl 124 [Arg.mk (.row .str) p] [.str] (λr=>r=bl (jB p)):=λ {p} hp=>OP hg hb hp rfl;refine(hq Q.p).go (vs:=[aK sp]) hM (ag.keep k1) (zr rp qj) λw I M5 r J u m=>?_;have m:r=bl (jB o.2.1):=m;subst m;have k5:=J.keep;have z5:=k5.size;refine⟨bl (jB o.2.1),lG u,k5.get _ (by rw[zf];show h.size<_;omega),?_⟩;intro y;have Y:Keep I.size I y:=Keep.push _ _ (zac _);have z7:y.size=I.size+1:=zaf _;have b7:Blk y I.size #[.string o.1,.string (bl (jB o.2.1))]:=Blk.new _ _ _;clear_value y;have K7:Keep h.size h y:=(k1.trans k5 (by omega)).trans Y (by omega);have B7:Blk y h.size (zy o.1 sp sf o.2.2.2 sk si).toArray:=(b1.ofKeep k5).ofKeep Y;intro U S;have fin:∀(g:zc) (b c:Nat) (xs:List Bt) (cs:Array Value),Keep h.size h g->Blk g b cs->cs.toList.take xs.length=xs.map zaz->xs.length<=c->xs.map lb=Xm o->U ⟨Td ⟨b,0,Te⟩,xs.length,c⟩ g:=λg b c xs cs P B e hc hw=>by
  refine S _ g ?_;have hl:=yK hr Q;have aj:xs.length<=3:=by have:=congrArg zcf hw;rw[zap]at this;rw[this];unfold Xm;split;simp;split <;> simp
  have al:(lr o).length=(Lib.join (Xm o) [32]).length+1:=by unfold lr;rw[zah];rfl
  refine RQ B e hc (by omega) (l:=Lib.join (Xm o) [32]) (by rw[hw]) (by omega) λg2 k2=>⟨_,rfl,?_,?_⟩;exact oy (a:=Lib.join (Xm o) [32]) (b:=[10]) (by simp only[zcu];omega);have:bl (Lib.join (Xm o) [32])++(⟨#[10]⟩:Bt)=bl (lr o):=by rw[show(⟨#[10]⟩:Bt)=bl [10]from rfl,wj];rfl
  rw[this];exact hK g2 (P.trans k2 P.size)
 refine⟨o.1,B7.cellAdd (o:=0) (k:=0) rfl,?_⟩;intro af G;simp only[xF]at G ⊢;have A:∀(g F:zc) (t:Bs) (K:Value->zc->Prop),Keep y.size y g->F=g.push (.cells #[.string (bl t)] 9)->Xm o=[lb o.1,jB o.2.1,t]->(∀x L,U x L->K (aK x) L)->qu Tp (zao #[22,22] 22 #[.slice (Td ⟨I.size,0,Te⟩) 2 2,.slice (Td ⟨g.size,0,Te⟩) 1 1]) F K:=λg F t K P e3 hw T=>by
  have k3:Keep g.size g F:=by rw[e3];exact Keep.push _ _ (zac _)
  have b3:Blk F g.size #[.string (bl t)]:=by rw[e3];exact Blk.new _ _ _
  have z3:F.size=g.size+1:=by rw[e3];exact zaf _
  have zg:=P.size;have B3:=(b7.ofKeep P).ofKeep k3;refine Ib Wt (p:=⟨I.size,0,Te⟩) (n:=2) (olds:=[.string o.1,.string (bl (jB o.2.1))]) (by simp) (λj v hj=>?_) (src:=⟨Td ⟨g.size,0,Te⟩,1,1⟩) (N:=F.size) (news:=[.string (bl t)]) ?_ rfl (by simp) (by simp) (λh0=>absurd h0 (show¬(1:Nat)=0 by decide)) λc L aa _ hc hB ht k4=>?_;rw[ic,zas];exact B3.cell (by rw[<-zbh];exact hj);refine .inr ⟨g.size,0,rfl,by omega,λi v hv=>b3.cell ?_⟩;rw[zas,<-zbh];exact hv;exact T ⟨Td ⟨F.size,0,Te⟩,3,c⟩ L (fin L F.size c [o.1,bl (jB o.2.1),bl t] aa ((K7.trans P (by omega)).trans (k3.trans k4 (by omega)) (by have:=K7.size;omega)) hB ht hc (by rw[hw];simp[yo]))
 have last:∀b,b=pM (lb o.1)->af b y:=λb z=>by
  refine G b y ⟨λq=>?_,λq=>?_⟩;have Z:pM (lb o.1)=Ta:=z ▸ q;refine⟨sf,B7.cellAdd (o:=0) (k:=2) rfl,G3,?_⟩;refine(hq Q.f).go (vs:=[aK sf]) (hM.trans J.le) (J.ag.keep Y) (zr (rf.mono J.le) qj) λw ae ak r ah u m=>?_;have m:r=bl (jB o.2.2.1):=m;subst m;refine⟨_,lG u,?_⟩;refine A ae _ (jB o.2.2.1) _ ah.keep rfl (by unfold Xm;rw[zA Z]) λx L T=>⟨x,rfl,T⟩;have Z:pM (lb o.1)=Tc:=z ▸ q;intro ai V;have O:∀b,b=lF (lb o.1)->ai b y:=λb z=>by
   refine V b y ⟨λq=>?_,λq=>?_⟩;have E:lF (lb o.1)=Ta:=z ▸ q;have rt:=hv E;refine⟨_,_,sk,si,(by refine⟨?_,?_,?_,?_,trivial⟩ <;> (rw[ic,ic];exact B7.cell rfl)),?_⟩;have hC:PC Tp gl 126 [Arg.mk .tree o.2.2.2] [.str,.int .i64] (λr=>r=jc o.2.2.2):=Gr hg hb Q.v rfl;refine hC.go (vs:=[.agg (zm o.2.2.2 sk si).toArray]) (hM.trans J.le) (J.ag.keep Y) (zr (rv.mono J.le) qj) λw ab an r ac u m=>?_;have m:r=jc o.2.2.2:=m;have m:r=(bl (J5 Tc 0 o.2.2.2 0),0):=by rw[m];unfold jc;rw[zA rt]
   subst m;obtain⟨us,⟨x1,am,rfl,r1,x2,rfl,r2⟩,rfl⟩:=u;rw[Ze r1];rw[Y9 rfl]at r2;have e2:x2=.int .i64 0:=by simpa[Rd]using r2
   subst e2;refine⟨_,_,rfl,?_⟩;refine A ab _ (J5 Tc 0 o.2.2.2 0) _ ac.keep rfl (by unfold Xm;rw[zv (by rw[Z];decide),zA E]) λx L T=>⟨x,rfl,T⟩;have E:lF (lb o.1)=Tc:=z ▸ q;refine fin y I.size 2 [o.1,bl (jB o.2.1)] _ K7 b7 rfl (zac _) ?_;unfold Xm;rw[zv (by rw[Z];decide),zv (by rw[E];decide)];simp[yo]
  refine⟨λq=>?_,λq=>⟨λC=>?_,λC=>?_⟩⟩;refine O _ ?_;unfold lF mS;rw[q];exact(zJ (.inl (zH q))).symm;refine O _ ?_;unfold lF wq;rw[C];exact(zJ (.inr (.inl (zH C)))).symm;refine O _ ?_;have e1:=zI q;have e2:=zI C;unfold lF;refine zbe.2 ⟨λH=>zJ (.inr (.inr (zH H))),λH=>?_⟩;rcases zH H with D|D|D;exact absurd D e1;exact absurd D e2;exact zJ D
 refine⟨λq=>?_,λq=>?_⟩;refine last _ ?_;unfold pM mV;rw[q];exact(zJ (.inl (zH q))).symm;refine last _ ?_;have e1:=zI q;unfold pM;refine zbe.2 ⟨λH=>zJ (.inr (zH H)),λH=>?_⟩;rcases zH H with D|D;exact absurd D e1;exact zJ D
end
section
variable {M gl:Fr} {g:zc} {l:List cK}
theorem opAt(ag:AgM M g){s:Sl}(H:Rd M (.row X0) l [aK s]){k:Nat}(i:k<l.length):∃(a:Addr) (sp sf sk si:Sl),(s.a=Td a/\(0:Int)<=(k:Int)/\((k:Nat):Int)<((s.len:Nat):Int))/\ze g (a.add (((k:Nat):Int).toNat*7)) 0 (zy l[k].1 sp sf l[k].2.2.2 sk si) /\
  RdV M (.row .str) l[k].2.1 (aK sp)/\RdV M (.row .str) l[k].2.2.1 (aK sf)/\RdV M .tree l[k].2.2.2 (.agg (zm l[k].2.2.2 sk si).toArray):=by
 obtain⟨t,_,_⟩:=rowLen H;have b1:(0:Int)<=(k:Int)/\((k:Nat):Int)<((s.len:Nat):Int):=by omega
 obtain⟨b,o,cs,n,j,q⟩:=Go.X.rowAt H i;have r:RdV M X0 l[k] (.agg (cut cs (o+k*sz X0) (sz X0)).toArray):=by unfold RdV;simp only[hY,if_true];exact⟨_,rfl,q⟩
 obtain⟨sp,sf,sk,si,c,h,m,f⟩:=ma r;have e:cut cs (o+k*7) 7=zy l[k].1 sp sf l[k].2.2.2 sk si:=by injection c with c;have:=congrArg zdu c;simpa[show sz X0=7 from rfl]using this
 refine⟨⟨b,o,Te⟩,sp,sf,sk,si,⟨n,b1⟩,?_,h,m,f⟩;rw[ic,zae];exact nP ag j (vs:=zy l[k].1 sp sf l[k].2.2.2 sk si) e
theorem KC{b:Nat}{cs:Array Value}(B:Blk g b cs)(e:cs.size=7){s:Bt}{sp sf sk si:Sl}{v:Tr}{K:zc->Prop}(h:∀g',(∀k,k≠b->g'[k]?=g[k]?)->g'.size=g.size->Blk g' b (zy s sp sf v sk si).toArray->K g'):
  XRunU Tp (zag 50 (.pointer (Td ⟨b,0,Te⟩)) (.agg (zy s sp sf v sk si).toArray)) g K:=by
 refine Zg (vs:=zy s sp sf v sk si) (by kernel_rfl) B rfl (by kernel_rfl) (by rw[e];exact zac _) (λu c=>?_) λg' f j i=>h g' i j (by rw[vO (by rw[e];rfl)]at f;exact f);simp[zy]at c;rcases c with rfl|rfl|rfl|rfl|rfl|rfl|rfl <;> rfl
def oL(l:List cK):Bt×Int:=if l.all qm then(bl (l.flatMap lr),0)else(⟨#[]⟩,1)
theorem Uh(c:∀o∈l,OpQ o)(b:l.all qm=Ta):(l.flatMap lr).length<=l.length*200000000000:=by
 induction l with
 |nil=>simp
 |cons o l f=>rw[zdf,zam]at b;have h1:=yK b.1 (c o za2);have h:=f (λo e=>c o (za3 _ e)) b.2;rw[zcd,zah,zaw];omega
theorem Gp(s:Bt)(n:Int):J4 M [.str,.int .i64] (s,n) (.tuple #[.string s,.int .i64 n]):=⟨[_,_],⟨_,_,rfl,rdStr _,_,rfl,Ja .i64 n⟩,rfl⟩
set_option maxHeartbeats 1000000 in
set_option maxRecDepth 100000 in
theorem Pp(hg:GL gl)(hb:Brn gl)(hq:∀o∈l,OpQ o)(hn:l.length<=500){R:Bt×Int->Prop}(hR:R (oL l)):PC Tp gl 38 [Arg.mk (.row X0) l] [.str,.int .i64] R:=by
 intro h M vs hM ag ha
 match vs,ha with
 |[u],⟨hu,_⟩=>
  obtain⟨s,rfl,Q⟩:=Xq hu;have Q:Rd M (.row X0) l [aK s]:=Q;obtain⟨q,_,_⟩:=rowLen Q;apply PX.of;apply Sg s;intro h1;have B1:Bld h1 h.size []:=Bld.new h;have k1:Keep h.size h h1:=Keep.push _ _ (zac _);have z1:h1.size=h.size+1:=zaf _;clear_value h1;have ab:∀g,Keep h.size h g->l.all qm=Tc->∃M' r,Later h M g M'/\J4 M' [.str,.int .i64] r (.tuple #[.string (⟨#[]⟩:Bt),.int .i64 1])/\R r:=λg k e=>by refine⟨M,oL l,Later.same ag k,?_,hR⟩;unfold oL;rw[zv (by rw[e];decide)];exact Gp _ _
  refine⟨λx g=>∃n:Nat,x=(n:Int)/\n<=l.length/\Keep h.size h g/\(l.take n).all qm=Ta/\Bld g h.size ((l.take n).flatMap lr),λx _=>l.length-x.toNat,⟨0,rfl,za0 _,k1,rfl,B1⟩,?_⟩;rintro x g ⟨n,rfl,au,O,c,P⟩;have zg:=O.size;have al:=P.lt;refine⟨λE=>?_,λE=>?_⟩;have b:n<l.length:=by rw[q]at E;simpa using E
  have C:=hq l[n] (zak b);obtain⟨a,sp,sf,sk,si,ea,T,r1,r2,r3⟩:=opAt (ag.keep O) Q b;refine⟨a,ea,_,sp,sf,_,_,sk,si,T,?_⟩;intro f;have V:Keep g.size g f:=Keep.push _ _ (zac _);have ai:f.size=g.size+1:=zaf _;have aa:Blk f g.size (zy ⟨#[]⟩ ⟨Te,0,0⟩ ⟨Te,0,0⟩ zT ⟨Te,0,0⟩ ⟨Te,0,0⟩).toArray:=Blk.new _ _ _;clear_value f;refine KC aa rfl λB Y am I=>?_;have J:Keep g.size g B:=⟨by omega,λj y=>by rw[Y j (by omega)];exact V.get j y⟩;have A:Keep h.size h B:=O.trans J zg;refine⟨_,sp,sf,_,_,sk,si,I.ld (cs:=zy l[n].1 sp sf l[n].2.2.2 sk si),?_⟩;have af:PC Tp gl 44 [Arg.mk X0 l[n]] [.bool] (λr=>r=qm l[n]):=DU hg C.s rfl;refine af.go (vs:=[.agg (zy l[n].1 sp sf l[n].2.2.2 sk si).toArray]) hM (ag.keep A) (zr (a:=Arg.mk X0 l[n]) (EF r1 r2 r3) qj) λw H an r ae G t=>?_;have t:r=qm l[n]:=t;subst t;have i:=ae.keep;have ah:=i.size;have m:Keep h.size h H:=A.trans i (by have:=A.size;omega);refine⟨qm l[n],Xh G,λS=>ab H m ?_,λS=>?_⟩;exact List.all_eq_false.2 ⟨l[n],zak b,by simpa using S⟩;have z:qm l[n]=Ta:=by simpa using S
  refine⟨_,sp,sf,_,_,sk,si,(I.ofKeep i).ld (cs:=zy l[n].1 sp sf l[n].2.2.2 sk si),?_⟩;refine Kf hg hb C z hM (ag.keep m) r1 r2 r3 λD F=>⟨_,rfl,?_⟩;have ac:Bld D h.size ((l.take n).flatMap lr):=((P.keep J).keep i).keep F;have Z:Keep h.size h D:=m.trans F (by have:=m.size;omega);have fb:=Uh (l:=l.take n) (λo C=>hq o (zcq C)) c;have ar:=yK z C;have:(l.take n).length<=500:=by rw[zbl];omega
  refine Hb ac (lr l[n]) (by omega) λak L U=>⟨_,_,rfl,?_⟩;rw[je b (by omega)];refine⟨⟨n+1,rfl,b,⟨?_,λj y=>(U.get j y).trans (Z.get j y)⟩,?_,?_⟩,by simp only[zae];omega⟩;have:=L.lt;omega;rw[VW b,c,z];rfl;rw[xe _ b];exact L;have b:n=l.length:=by rw[q]at E;simp at E;omega
  subst b;rw[zba]at c P;refine Ar P λaj N=>⟨_,rfl,M,oL l,?_,?_,hR⟩;exact Later.same ag ⟨by have:=N.size;omega,λj y=>(N.get j y).trans (O.get j y)⟩;unfold oL;rw[zA c];exact Gp _ _
def nA(l:List cK):List Bt:=l.map λo=>bl (if wn o.2.1 then iX (o.2.1.map lb)else [])
theorem R9(k:GL gl)(m:∀o∈l,SL o.2.1)(r:l.length<=1000000){R:List Bt->Prop}(q:R (nA l)):PC Tp gl 41 [Arg.mk (.row X0) l] [.row .str] R:=by
 apply V4;refine⟨λout x=>∃n:Nat,x=(n:Int)/\n<=l.length/\out=nA (l.take n),λ_ x=>l.length-x.toNat,⟨0,rfl,za0 _,rfl⟩,?_⟩;rintro out x ⟨n,rfl,i,rfl⟩;refine⟨λf=>?_,λf=>?_⟩;have b:n<l.length:=by simpa using f
 refine⟨l[n],⟨by omega,by simp[b]⟩,?_⟩;have h:∀t:Bs,t=(if wn l[n].2.1 then iX (l[n].2.1.map lb)else [])->(zcf (nA (l.take n))+zcf ([bl t]:List Bt))*16<=140737488355328/\(∃c:Nat,(w6 ((n:Int)+1))=(c:Int)/\c<=l.length/\nA (l.take n)++[bl t]=nA (l.take c))/\l.length-(w6 ((n:Int)+1)).toNat<l.length-(n:Int).toNat:=λt j=>by rw[je b (by omega)];refine⟨?_,⟨n+1,rfl,b,?_⟩,by simp only[zae];omega⟩;unfold nA;rw[zap,zbl,zcu];omega;unfold nA;rw[zal b,zbc,j];rfl
 refine EP k (m _ (zak b)) (λe=>?_) λe=>?_;exact h _ (by rw[zA e]);exact h _ (by rw[zv (by rw[e];decide)]);have b:n=l.length:=by simp at f;omega
 subst b;rw[zba];exact q
end
section
def d1:Tr:=.mk 3 (bl [49]) [] []
def d2:Tr:=.mk 3 (bl [50]) [] []
def d3:Tr:=.mk 3 (bl [51]) [] []
def d0:Tr:=.mk 3 (bl [48]) [] []
def dRa:Tr:=.mk 5 ⟨#[]⟩ [] [d1,d2]
def dRb:Tr:=.mk 5 ⟨#[]⟩ [] [d1,d3]
def dA:Tr:=.mk 6 ⟨#[]⟩ [⟨#[97]⟩,⟨#[98]⟩] [d1,dRa]
def dB:Tr:=.mk 6 ⟨#[]⟩ [⟨#[98]⟩,⟨#[99]⟩] [dRb,d0]
def dL:List cK:=[Yv [⟨#[97]⟩],Qz [⟨#[98]⟩,J6 1] d3,Qy [⟨#[99]⟩] d0]
theorem Gd{a b:Bt}(h:decide (lb a<=lb b)=Ta):zl [a,b]=[a,b]:=by
 unfold zl;rw[List.mergeSort_of_pairwise];show[bl (lb a),bl (lb b)]=_;rw[jp,jp];refine zcy.2 ⟨λy c=>?_,zcy.2 ⟨λy c=>(by cases c),List.Pairwise.nil⟩⟩;have:y=lb b:=by simpa using c
 subst this;exact h
theorem KQ:zl dA.keys=[⟨#[97]⟩,⟨#[98]⟩]:=Gd (by kernel_rfl)
theorem Tz:zl dB.keys=[⟨#[98]⟩,⟨#[99]⟩]:=Gd (by kernel_rfl)
theorem Pq:jU dRa.items dRb.items=Td [(0,0),(1,1)]:=by kernel_rfl
theorem Uq:dR 32 [⟨#[98]⟩] dRa dRb=[Qz [⟨#[98]⟩,J6 1] d3]:=by show(if ji dRa dRb then []else if dRa.kind=6/\dRb.kind=6 then iT (dR 31) [⟨#[98]⟩] dRa dRb else if dRa.kind=5/\dRb.kind=5 then(match jU dRa.items dRb.items with|some m=>iR (dR 31) [⟨#[98]⟩] dRa dRb m|none=>[Qz [⟨#[98]⟩] dRb])else [Qz [⟨#[98]⟩] dRb])=_;rw[zv (by rw[show ji dRa dRb=Tc by kernel_rfl];decide),zv (by decide),zA (by decide),Pq];kernel_rfl
theorem WV:ke dA dB=dL:=by
 show(if ji dA dB then []else if dA.kind=6/\dB.kind=6 then iT (dR 32) [] dA dB else if dA.kind=5/\dB.kind=5 then(match jU dA.items dB.items with|some m=>iR (dR 32) [] dA dB m|none=>[Qz [] dB])else [Qz [] dB])=_;rw[zv (by rw[show ji dA dB=Tc by kernel_rfl];decide),zA (by decide)];unfold iT;rw[KQ,Tz];have b:([⟨#[97]⟩,⟨#[98]⟩]:List Bt).filter (λk=>!dB.keys.contains k)=[⟨#[97]⟩]:=by kernel_rfl
 have i:([⟨#[97]⟩,⟨#[98]⟩]:List Bt).filter (λk=>dB.keys.contains k)=[⟨#[98]⟩]:=by kernel_rfl
 have c:([⟨#[98]⟩,⟨#[99]⟩]:List Bt).filter (λk=>!dA.keys.contains k)=[⟨#[99]⟩]:=by kernel_rfl
 rw[b,i,c];show[Yv [⟨#[97]⟩]]++((dR 32 [⟨#[98]⟩] (ym dA ⟨#[98]⟩) (ym dB ⟨#[98]⟩)++[])++[Qy [⟨#[99]⟩] (ym dB ⟨#[99]⟩)])=_;have h:ym dA ⟨#[98]⟩=dRa:=by kernel_rfl
 have e:ym dB ⟨#[98]⟩=dRb:=by kernel_rfl
 have f:ym dB ⟨#[99]⟩=d0:=by kernel_rfl
 rw[h,e,f,Uq];rfl
theorem SO:zh dA=Ta:=by kernel_rfl
theorem T5:zh dB=Ta:=by kernel_rfl
theorem SN:jA dA dB=(dL,0):=by unfold jA;rw[SO,T5,WV];rfl
theorem Vy:oL dL=(bl [114,101,109,111,118,101,32,34,47,97,34,10,114,101,112,108,97,99,101,32,34,47,98,47,49,34,32,51,10,97,100,100,32,34,47,99,34,32,48,10],0):=by kernel_rfl
theorem Kx:nA dL=[⟨#[47,97]⟩,⟨#[47,98,47,49]⟩,⟨#[47,99]⟩]:=by kernel_rfl
end
section
variable {f:FuncId} {args:Array Value} {h:zc} {g:Bool} {M:Fr} {b:Nat} {s1 s2:Bt} {k:Int} {a:Sl} {l:List Tr}
theorem Gy{x y:Sl}(e:aK x=aK y):x=y:=by unfold aK at e;injection e with e1 e2 e3;cases x;cases y;simp_all
theorem KI(i:g=Ta){b:Bool->zc->Prop}(E:XC Tp f args h λv h'=>∃r,v=.bool r/\b r h'):
  ∃J:Value->zc->Prop,(g=Ta->XC Tp f args h λv h'=>∃r:Bool,v=.bool r/\J (.bool r) h')/\(g=Tc->∃r:Bool,J (.bool r) h)/\(g=Ta->∀v h',J v h'->∃r:Bool,v=.bool r)/\∀r:Bool,∀h',J (.bool r) h'->b r h':=by
 refine⟨λv h'=>∃r,v=.bool r/\b r h',λ_=>XC.mono E λv h' ⟨r,e,H⟩=>⟨r,e,r,rfl,H⟩,λc=>(by rw[i]at c;cases c),λ_ v h' ⟨r,e,_⟩=>⟨r,e⟩,λr h' ⟨j,e,H⟩=>?_⟩;injection e with e;subst e;exact H
theorem MS(i:g=Ta){b:Sl->zc->Prop}(E:XC Tp f args h λv h'=>∃s,v=aK s/\b s h'):
  ∃J:Value->zc->Prop,(g=Ta->XC Tp f args h λv h'=>∃s:Sl,v=aK s/\J (aK s) h')/\(g=Tc->∃s:Sl,J (aK s) h)/\(g=Ta->∀v h',J v h'->∃s:Sl,v=aK s)/\∀s:Sl,∀h',J (aK s) h'->b s h':=by
 refine⟨λv h'=>∃s,v=aK s/\b s h',λ_=>XC.mono E λv h' ⟨s,e,H⟩=>⟨s,e,s,rfl,H⟩,λc=>(by rw[i]at c;cases c),λ_ v h' ⟨s,e,_⟩=>⟨s,e⟩,λs h' ⟨j,e,H⟩=>?_⟩;rw[Gy e];exact H
theorem Ny{h h1:zc}{s:Sl}(f:g=Ta){b:Sl->zc->Prop}(E:b s h1):
  ∃J:Value->zc->Prop,(g=Ta->J (aK s) h1)/\(g=Tc->∃x:Sl,J (aK x) h)/\(g=Ta->∀v h',J v h'->∃x:Sl,v=aK x)/\∀x:Sl,∀h',J (aK x) h'->b x h':=by
 refine⟨λv h'=>∃x,v=aK x/\b x h',λ_=>⟨s,rfl,E⟩,λc=>(by rw[f]at c;cases c),λ_ v h' ⟨x,e,_⟩=>⟨x,e⟩,λx h' ⟨i,e,H⟩=>?_⟩;rw[Gy e];exact H
theorem Rh(m:M b=Te){h f:Tr}{w1 w2:List Value}(h1:Rd M .tree h w1)(l:Rd M .tree f w2)(j:w1.length=4)(n:w2.length=4):Rd (Mx M b (w1++w2).toArray) (.row .tree) [h,f] [aK ⟨Td ⟨b,0,Te⟩,2,2⟩]:=by
 have le:Fr.le M (Mx M b (w1++w2).toArray):=λc cs e=>by unfold Mx;by_cases k:c=b;subst k;rw[m]at e;cases e;rw[zv k];exact e
 refine⟨_,rfl,_,_,rfl,by simp,.inr ⟨b,0,_,rfl,by unfold Mx;rw[zA rfl],λi hi=>?_⟩⟩;have hi:i<2:=hi;rcases(by omega:i=0\/i=1)with rfl|rfl;have:cut (w1++w2).toArray (0+0*sz .tree) (sz .tree)=w1:=by show List.take 4 (List.drop 0 (w1++w2))=w1;rw[zcm,<-j,List.take_left]
 rw[this];exact Rd.mono le h1;have:cut (w1++w2).toArray (0+1*sz .tree) (sz .tree)=w2:=by show List.take 4 (List.drop 4 (w1++w2))=w2;rw[List.drop_left' j,<-n,zba]
 rw[this];exact Rd.mono le l
theorem My:Rd (Mx M b #[.string s1,.string s2]) (.row .str) [s1,s2] [aK ⟨Td ⟨b,0,Te⟩,2,2⟩]:=by refine⟨_,rfl,_,_,rfl,by simp,.inr ⟨b,0,_,rfl,by unfold Mx;rw[zA rfl],λi hi=>?_⟩⟩;have hi:i<2:=hi;rcases(by omega:i=0\/i=1)with rfl|rfl <;> rfl
theorem Kk{s1 s2 c:Bt}:Rd (Mx M b #[.string s1,.string s2,.string c]) (.row .str) [s1,s2,c] [aK ⟨Td ⟨b,0,Te⟩,3,3⟩]:=by refine⟨_,rfl,_,_,rfl,by simp,.inr ⟨b,0,_,rfl,by unfold Mx;rw[zA rfl],λi hi=>?_⟩⟩;have hi:i<3:=hi;rcases(by omega:i=0\/i=1\/i=2)with rfl|rfl|rfl <;> rfl
def tV(k:Int)(s:Bt)(a b:Sl):Value:=.agg #[.int .i64 k,.string s,aK a,aK b]
theorem Cq{T:Tr}{s:Bt}{a b:Sl}(h:RdV M .tree T (tV k s a b)):Rd M .tree T [.int .i64 k,.string s,aK a,aK b]:=by
 unfold RdV at h;simp only[hY,if_true]at h;obtain⟨cs,e,c⟩:=h;unfold tV at e;injection e with e;have:cs=[.int .i64 k,.string s,aK a,aK b]:=by have:=congrArg zdu e;simpa using this.symm
 rw[<-this];exact c
structure T22 (gl:Fr) (h0:zc) (M0:Fr) (ob:Nat) (ok oi:Sl) (hO:zc) (E:zc->Fr->Prop) (g:zc) (M:Fr):Prop where
 hM:Fr.le gl M
 L:Later h0 M0 g M
 fr:g[ob]?=hO[ob]?
 lt:ob<g.size
 r1:RdV M .tree d1 (tV d1.kind d1.text ok oi)
 e:E g M
structure Bx22 (h0:zc) (ob:Nat) (g:zc) (M:Fr) (b:Nat):Prop where
 B:Blk g b #[.int .i64 0,.string ⟨#[]⟩,aK ⟨Te,0,0⟩,aK ⟨Te,0,0⟩]
 no:M b=Te
 ne:b≠ob
 lo:h0.size<=b
section
variable {gl : Fr} {h0 : zc} {M0 : Fr} {ob : Nat} {ok oi : Sl} {hO : zc} {E : zc -> Fr -> Prop} {g g' : zc} {M M' : Fr}
theorem T22.later(b:∀{g M g' M'},Later g M g' M'->E g M->E g' M')(t:T22 gl h0 M0 ob ok oi hO E g M)(L:Later g M g' M'):T22 gl h0 M0 ob ok oi hO E g' M':= ⟨t.hM.trans L.le,t.L.trans L,(L.keep.get _ t.lt).trans t.fr,by have:=L.keep.size;have:=t.lt;omega,t.r1.mono L.le,b L t.e⟩
theorem Bx22.later(x:Bx22 h0 ob g M b)(L:Later g M g' M'):Bx22 h0 ob g' M' b:= ⟨x.B.keep (L.keep.get _ x.B.lt),by rw[L.old b x.B.lt];exact x.no,x.ne,x.lo⟩
theorem wz(ag:AgM M g)(a b:Bt):∃M',Later g M (g.push (.cells #[.string a,.string b] 9)) M'/\RdV M' (.row .str) [a,b] (aK ⟨Td ⟨g.size,0,Te⟩,2,2⟩):= ⟨_,Later.frz ag _ _,(Y9 rfl).2 My⟩
theorem w5(ag:AgM M g){u w:Tr}{k f:Int}{s c:Bt}{a b e b':Sl}(r:RdV M .tree u (tV k s a b))(h:RdV M .tree w (tV f c e b')):
  ∃M',Later g M (g.push (.cells #[.int .i64 k,.string s,aK a,aK b,.int .i64 f,.string c,aK e,aK b'] 25)) M'/\RdV M' (.row .tree) [u,w] (aK ⟨Td ⟨g.size,0,Te⟩,2,2⟩):=
 ⟨_,Later.frz ag _ _,(Y9 rfl).2 (Rh (w1:=[_,_,_,_]) (w2:=[_,_,_,_]) (ag.none (zac _)) (Cq r) (Cq h) rfl rfl)⟩
theorem Q2(t:T22 gl h0 M0 ob ok oi hO E g M):Later g M (g.push (.cells #[.int .i64 0,.string ⟨#[]⟩,.slice Te 0 0,.slice Te 0 0] 25)) M/\Bx22 h0 ob (g.push (.cells #[.int .i64 0,.string ⟨#[]⟩,.slice Te 0 0,.slice Te 0 0] 25)) M g.size:= ⟨Later.same t.L.ag (Keep.push _ _ (zac _)),Blk.new _ _ _,t.L.ag.none (zac _),by have:=t.lt;omega,t.L.keep.size⟩
theorem ku(j:GL gl)(t:T22 gl h0 M0 ob ok oi hO E g M){n:Int}{d:Tr}(h1:-1000000<=n)(i:n<=1000000)(h:Tr.mk 3 (bl (Xi (ye (Lib.itoa n)).1)) [] []=d){K:Int->Bt->Sl->Sl->zc->Prop}(l:∀g' M' a b,Later g M g' M'->RdV M' .tree d (tV d.kind d.text a b)->K d.kind d.text a b g'):
  XC Tp 51 #[.int .i64 n] g λv g'=>∃k s a b,v=tV k s a b/\K k s a b g':=by
 refine(BY j h1 i (R:=λr=>r=d) h).go t.hM t.L.ag (zr (a:=Arg.mk PJ n) (Ja _ _) qj) λw g' M' r L c e=>?_;have e:r=d:=e;subst e;have f:=Y1.1 c;obtain⟨a,b,rfl,_,_⟩:=qp f;exact⟨_,_,a,b,rfl,l g' M' a b L f⟩
theorem m7(t:T22 gl h0 M0 ob ok oi hO E g M){s:Sl}(r:RdV M (.row .tree) l (aK s)){K:Int->Bt->Sl->Sl->zc->Prop}(h:∀g' M' a b,Later g M g' M'->RdV M' .tree (.mk 5 ⟨#[]⟩ [] l) (tV 5 ⟨#[]⟩ a b)->K 5 ⟨#[]⟩ a b g'):
  XC Tp 52 #[aK s] g λv g'=>∃k s a b,v=tV k s a b/\K k s a b g':=by
 refine(Sz (gl:=gl) (l:=l) (R:=λr=>r=.mk 5 ⟨#[]⟩ [] l) rfl).go t.hM t.L.ag (zr (a:=Arg.mk (.row .tree) _) r qj) λw g' M' r L c e=>?_;have e:r=.mk 5 ⟨#[]⟩ [] l:=e;subst e;have f:=Y1.1 c;obtain⟨a,b,rfl,_,_⟩:=qp f;exact⟨_,_,a,b,rfl,h g' M' a b L f⟩
theorem ve(t:T22 gl h0 M0 ob ok oi hO E g M){ks:List Bt}{s f:Sl}(j:RdV M (.row .str) ks (aK f))(r:RdV M (.row .tree) l (aK s)){K:Int->Bt->Sl->Sl->zc->Prop}(i:∀g' M' a b,Later g M g' M'->RdV M' .tree (.mk 6 ⟨#[]⟩ ks l) (tV 6 ⟨#[]⟩ a b)->K 6 ⟨#[]⟩ a b g'):
  XC Tp 47 #[aK f,aK s] g λv g'=>∃k s a b,v=tV k s a b/\K k s a b g':=by
 refine(VN (gl:=gl) (ks:=ks) (l:=l) (R:=λr=>r=.mk 6 ⟨#[]⟩ ks l) rfl).go t.hM t.L.ag (zr (a:=Arg.mk (.row .str) _) j (zr (a:=Arg.mk (.row .tree) _) r qj)) λw g' M' r L c e=>?_;have e:r=.mk 6 ⟨#[]⟩ ks l:=e;subst e;have h:=Y1.1 c;obtain⟨a,b,rfl,_,_⟩:=qp h;exact⟨_,_,a,b,rfl,i g' M' a b L h⟩
theorem IE(t:T22 gl h0 M0 ob ok oi hO E g M)(x:Bx22 h0 ob g M b){s:Bt}{a c:Sl}{K:zc->Prop}
  (i:∀g',(∀j,j≠b->g'[j]?=g[j]?)->g'.size=g.size->Later h0 M0 g' M->Blk g' b #[.int .i64 k,.string s,aK a,aK c]->K g'):XRunU Tp (zag 25 (.pointer (Td ⟨b,0,Te⟩)) (tV k s a c)) g K:=
 mY x.B λg' f z B=>i g' f z ⟨⟨by have:=t.L.keep.size;omega,λj h=>(f j (by have:=x.lo;omega)).trans (t.L.keep.get j h)⟩,t.L.le,t.L.old,AgM.off t.L.ag λc m e=>f c λl=>by rw[l,x.no]at e;exact nomatch e⟩ B
end
theorem Me:Tr.mk 3 (bl (Xi (ye (Lib.itoa 1)).1)) [] []=d1:=by kernel_rfl
theorem s8:Tr.mk 3 (bl (Xi (ye (Lib.itoa 2)).1)) [] []=d2:=by kernel_rfl
theorem tw:Tr.mk 3 (bl (Xi (ye (Lib.itoa 3)).1)) [] []=d3:=by kernel_rfl
theorem vE:Tr.mk 3 (bl (Xi (ye (Lib.itoa 0)).1)) [] []=d0:=by kernel_rfl
theorem qR{b:Bs}(c:b.length<=2048):jD (.mk 3 (bl b) [] []):=by rw[jD,i5];exact⟨⟨by rw[zu];exact c,by simp⟩,trivial⟩
theorem F8{b:Bs}(c:b.length<=2048):Sm (.mk 3 (bl b) [] []):=Sm.few (by rw[jM,iU];simp) (qR c)
theorem JI{a b:Bs}(c:a.length<=2048)(e:b.length<=2048):jD (.mk 5 ⟨#[]⟩ [] [.mk 3 (bl a) [] [],.mk 3 (bl b) [] []]):=by rw[jD,i5,i5,i5];exact⟨⟨by decide,by simp⟩,qR c,qR e,trivial⟩
theorem UT:Sm dA:=by
 refine Sm.few ?_ ?_;have:jM dA=7:=by kernel_rfl
 omega;unfold dA;rw[jD,i5,i5,i5];exact⟨⟨by decide,by decide⟩,qR (by decide),JI (by decide) (by decide),trivial⟩
theorem NT:Sm dB:=by
 refine Sm.few ?_ ?_;have:jM dB=7:=by kernel_rfl
 omega;unfold dB;rw[jD,i5,i5,i5];exact⟨⟨by decide,by decide⟩,JI (by decide) (by decide),qR (by decide),trivial⟩
theorem o7{l:List Bt}(h1:decide (l.length<=200)=Ta)(b:l.all (λx=>decide ((lb x).length<=1024))=Ta):PS l:= ⟨zH h1,λx c=>zH (za7.1 b x c)⟩
theorem ER:∀o∈dL,OpQ o:=λo b=>by unfold dL at b;simp only[zan,List.not_mem_nil,or_false]at b;rcases b with rfl|rfl|rfl;exact⟨o7 (by kernel_rfl) (by kernel_rfl),o7 (by kernel_rfl) (by kernel_rfl),Xt⟩;exact⟨o7 (by kernel_rfl) (by kernel_rfl),o7 (by kernel_rfl) (by kernel_rfl),F8 (by decide)⟩;exact⟨o7 (by kernel_rfl) (by kernel_rfl),o7 (by kernel_rfl) (by kernel_rfl),F8 (by decide)⟩
def E22(e:Nat)(c b:Sl)(g:zc)(M:Fr):Prop:=Blk g e #[.int .i64 6,.string ⟨#[]⟩,aK c,aK b]/\RdV M .tree dA (tV 6 ⟨#[]⟩ c b)
theorem E22.later{c:Nat}{f b:Sl}{g g':zc}{M M':Fr}(L:Later g M g' M')(e:E22 c f b g M):E22 c f b g' M':=⟨e.1.keep (L.keep.get _ e.1.lt),e.2.mono L.le⟩
def iZ(_:zc)(_:Fr):Prop:=True
end
end
section
open Go.Lib Go.RowKit
set_option maxHeartbeats 4000000 in
set_option maxRecDepth 100000 in
section
theorem S1{gl:Fr}(hg:GL gl)(hb:Brn gl){R:Bool->Prop}(hR:R Ta):PC Tp gl 30 [] [.bool] R:=by
 intro h M vs hM ag ha
 match vs,ha with
 |[],_=>
 apply PX.of
 apply Pn
 refine(BY hg (n:=1) (by decide) (by decide) (R:=λr=>r=d1) Me).go hM ag (zr (a:=Arg.mk PJ 1) (Ja _ _) qj) λw E M2 r G Y hr=>?_
 have hr:r=d1:=hr
 subst hr
 have r1:=Y1.1 Y
 obtain⟨ok,oi,rfl,_,_⟩:=qp r1
 refine⟨_,_,ok,oi,rfl,?_⟩
 intro h7
 have k7:Keep E.size E h7:=Keep.push _ _ (zac _)
 have z7:h7.size=E.size+1:=zaf _
 have b7:Blk h7 E.size #[.int .i64 0,.string ⟨#[]⟩,aK ⟨Te,0,0⟩,aK ⟨Te,0,0⟩]:=Blk.new _ _ _
 clear_value h7
 refine mY b7 λh8 f8 z8 b8=>?_
 have V:Later E M2 h8 M2:=Later.same G.ag ⟨by omega,λj hj=>by rw[f8 j (by omega)];exact k7.get j hj⟩
 have cp:=G.trans V
 intro cJ cm
 have kA:∀{g:zc} {Mg:Fr} {U:Nat} {ak ai:Sl},T22 gl h M E.size ok oi h8 iZ g Mg->Blk g U #[.int .i64 6,.string ⟨#[]⟩,aK ak,aK ai]->U≠E.size->RdV Mg .tree dA (tV 6 ⟨#[]⟩ ak ai)->cJ ⟨U,0,Te⟩ g:=by
  intro P bn U ak ai am cF df rA
  refine cm _ _ ?_
  intro cA cu
  have B1:Blk P E.size #[.int .i64 d1.kind,.string d1.text,aK ok,aK oi]:=b8.keep am.fr
  have I:T22 gl h M E.size ok oi P (E22 U ak ai) P bn:=⟨am.hM,am.L,rfl,am.lt,am.r1,cF,rA⟩
  have kB:∀{g:zc} {Mg:Fr} {bb:Nat} {bk bi:Sl},T22 gl h M E.size ok oi P (E22 U ak ai) g Mg->Blk g bb #[.int .i64 6,.string ⟨#[]⟩,aK bk,aK bi]->RdV Mg .tree dB (tV 6 ⟨#[]⟩ bk bi)->cA ⟨bb,0,Te⟩ g:=by
   intro cQ cL bb bk bi ah cC rB
   refine cu _ _ ⟨_,_,ak,ai,ah.e.1.ld (cs:=[.int .i64 6,.string ⟨#[]⟩,aK ak,aK ai]),_,_,bk,bi,cC.ld (cs:=[.int .i64 6,.string ⟨#[]⟩,aK bk,aK bi]),?_⟩
   have dq:∀{v:Tr},decide (aR v<=100)=Ta->hH 1048576 v->Sm v:=λh1 E=>⟨by have:=zH h1;omega,E⟩
   refine(CJ hg hb (x:=dA) (y:=dB) UT NT (R:=λr=>r=(dL,0)) SN).go ah.hM ah.L.ag (zr (a:=Arg.mk .tree dA) ah.e.2 (zr (a:=Arg.mk .tree dB) rB qj)) λw da dm r bq Y hr=>?_
   have hr:r=(dL,0):=hr
   subst hr
   obtain⟨us,⟨x1,cM,rfl,q1,x2,rfl,q2⟩,rfl⟩:=Y
   obtain⟨sl,rfl,rl⟩:=Xq q1
   rw[Y9 rfl]at q2
   have e2:x2=.int .i64 0:=by simpa[Rd]using q2
   subst e2
   obtain⟨bA,_,_⟩:=rowLen rl
   have cG:sl.len=3:=bA
   refine⟨sl,_,rfl,?_⟩
   have L0:=ah.L.trans bq
   refine(Pp hg hb (l:=dL) ER (by decide) (R:=λr=>r=_) Vy).go (ah.hM.trans bq.le) bq.ag (zr (a:=Arg.mk (.row X0) dL) q1 qj) λw dl c8 r bm Y hr=>?_
   have hr:r=(bl [114,101,109,111,118,101,32,34,47,97,34,10,114,101,112,108,97,99,101,32,34,47,98,47,49,34,32,51,10,97,100,100,32,34,47,99,34,32,48,10],0):=hr
   subst hr
   obtain⟨us,⟨x1,cM,rfl,q3,x2,rfl,q4⟩,rfl⟩:=Y
   rw[Ze q3]
   rw[Y9 rfl]at q4
   have e4:x2=.int .i64 0:=by simpa[Rd]using q4
   subst e4
   refine⟨_,_,rfl,?_⟩
   have cy:(bif (bif (bif ((0:Int)==0)then((((sl.len:Nat):Int):Int)==3)else Tc)then((0:Int)==0)else Tc)then(((bl [114,101,109,111,118,101,32,34,47,97,34,10,114,101,112,108,97,99,101,32,34,47,98,47,49,34,32,51,10,97,100,100,32,34,47,99,34,32,48,10]:Bt)).toList==((⟨#[114,101,109,111,118,101,32,34,47,97,34,10,114,101,112,108,97,99,101,32,34,47,98,47,49,34,32,51,10,97,100,100,32,34,47,99,34,32,48,10]⟩:Bt):Bt).toList)else Tc)=Ta:=by
    rw[cG]
    kernel_rfl
   have bF:=L0.trans bm
   rw[cy]
   refine MS rfl ?_
   refine(R9 hg (l:=dL) (λo ho=>(ER o ho).s.p) (by decide) (R:=λr=>r=_) Kx).go (hM.trans bF.le) bm.ag (zr (a:=Arg.mk (.row X0) dL) (q1.mono bm.le) qj) λw aj bN r bP Y hr=>?_
   have hr:r=[⟨#[47,97]⟩,⟨#[47,98,47,49]⟩,⟨#[47,99]⟩]:=hr
   subst hr
   obtain⟨sp,rfl,rp⟩:=Xq (Y1.1 Y)
   refine⟨sp,rfl,?_⟩
   refine Ny (s:=⟨Td ⟨aj.size,0,Te⟩,3,3⟩) (h1:=aj.push (.cells #[.string ⟨#[47,97]⟩,.string ⟨#[47,98,47,49]⟩,.string ⟨#[47,99]⟩] 9)) rfl ?_
   have bg:Later aj bN (aj.push (.cells #[.string ⟨#[47,97]⟩,.string ⟨#[47,98,47,49]⟩,.string ⟨#[47,99]⟩] 9)) (Mx bN aj.size #[.string ⟨#[47,97]⟩,.string ⟨#[47,98,47,49]⟩,.string ⟨#[47,99]⟩]):=Later.frz bP.ag _ _
   have bO:=(bF.trans bP).trans bg
   refine KI rfl ?_
   refine(WO (gl:=gl) (a:=[⟨#[47,97]⟩,⟨#[47,98,47,49]⟩,⟨#[47,99]⟩]) (b:=[⟨#[47,97]⟩,⟨#[47,98,47,49]⟩,⟨#[47,99]⟩]) (by decide) (R:=λr=>r=Ta) λr hr=>hr.2 rfl).go (hM.trans bO.le) bg.ag (zr (a:=Arg.mk (.row .str) _) ((Y9 rfl).2 (rp.mono bg.le)) (zr (a:=Arg.mk (.row .str) _) ((Y9 rfl).2 Kk) qj)) λw cZ cH r cE Y hr=>⟨r,Xh Y,?_⟩
   have hr:r=Ta:=hr
   subst hr
   exact⟨cH,Ta,bO.trans cE,Y1.2 (rdBool _),hR⟩
  refine⟨_,_,ok,oi,B1.ld (cs:=[.int .i64 d1.kind,.string d1.text,aK ok,aK oi]),?_⟩
  intro bE bJ bI bS bH bM cd bG bU cj bC b6 bB bL cB cg bu
  have k:∀{g g':zc} {m aA:Fr},T22 gl h M E.size ok oi P (E22 U ak ai) g m->Later g m g' aA->T22 gl h M E.size ok oi P (E22 U ak ai) g' aA:=λt L=>t.later E22.later L
  have aG:∀{g:zc} {m:Fr} {u:Nat} {a c:Sl},T22 gl h M E.size ok oi P (E22 U ak ai) g m->Bx22 h E.size g m u->u≠U->RdV m .tree dB (tV 6 ⟨#[]⟩ a c)->bE ⟨u,0,Te⟩ 6 ⟨#[]⟩ a c g:=λ {g m u a c} t x Z r=>
   IE t x λg' f z L B=>kB ⟨t.hM,L,(f _ (λe=>x.ne e.symm)).trans t.fr,by have:=t.lt;omega,t.r1,t.e.1.keep (f _ (λe=>Z e.symm)),t.e.2⟩ B r
  have az:∀{g:zc} {m:Fr} {u:Nat} {si:Sl} {sk:Sl},T22 gl h M E.size ok oi P (E22 U ak ai) g m->Bx22 h E.size g m u->u≠U->RdV m (.row .tree) [dRb,d0] (aK si)->RdV m (.row .str) [⟨#[98]⟩,⟨#[99]⟩] (aK sk)->bJ ⟨u,0,Te⟩ si sk g:=by
   intro g m u si sk t x Z ri J
   refine ve t J ri λg1 m a1 b1 q v1=>?_
   exact aG (k t q) (x.later q) Z v1
  have aO:∀{g:zc} {m:Fr} {si:Sl} {sk:Sl},T22 gl h M E.size ok oi P (E22 U ak ai) g m->RdV m (.row .tree) [dRb,d0] (aK si)->RdV m (.row .str) [⟨#[98]⟩,⟨#[99]⟩] (aK sk)->bI si sk g:=by
   intro g m si sk t ri J
   refine⟨?_,?_⟩
   ·refine ve t J ri λg1 m a1 b1 q v1=>?_
    have⟨G,x2⟩:=Q2 (k t q)
    exact aG (k (k t q) G) x2 (Nat.ne_of_gt (k t q).e.1.lt) v1
   ·have⟨L3,x3⟩:=Q2 t
    exact az (k t L3) x3 (Nat.ne_of_gt t.e.1.lt) ri J
  have aC:∀{g:zc} {m:Fr} {u:Nat} {aa:Int} {ab:Bt} {ae ac:Sl} {A:Int} {C:Bt} {arr D:Sl} {sk:Sl},T22 gl h M E.size ok oi P (E22 U ak ai) g m->Bx22 h E.size g m u->u≠U->RdV m .tree d0 (tV aa ab ae ac)->RdV m .tree dRb (tV A C arr D)->RdV m (.row .str) [⟨#[98]⟩,⟨#[99]⟩] (aK sk)->bS ⟨u,0,Te⟩ aa ab ae ac A C arr D sk g:=by
   intro g m u aa ab ae ac A C arr D sk t x Z r0 rr J
   have⟨m,q,i1⟩:=w5 t.L.ag rr r0
   exact az (k t q) (x.later q) Z i1 (J.mono q.le)
  have aT:∀{g:zc} {m:Fr} {u:Nat} {si:Sl},T22 gl h M E.size ok oi P (E22 U ak ai) g m->Bx22 h E.size g m u->u≠U->RdV m (.row .tree) [dRb,d0] (aK si)->bH ⟨u,0,Te⟩ si g:=by
   intro g m u si t x Z ri
   have⟨m,q,k1⟩:=wz t.L.ag ⟨#[98]⟩ ⟨#[99]⟩
   exact az (k t q) (x.later q) Z (ri.mono q.le) k1
  have aS:∀{g:zc} {m:Fr} {aa:Int} {ab:Bt} {ae ac:Sl} {A:Int} {C:Bt} {arr D:Sl} {sk:Sl},T22 gl h M E.size ok oi P (E22 U ak ai) g m->RdV m .tree d0 (tV aa ab ae ac)->RdV m .tree dRb (tV A C arr D)->RdV m (.row .str) [⟨#[98]⟩,⟨#[99]⟩] (aK sk)->bM aa ab ae ac A C arr D sk g:=by
   intro g m aa ab ae ac A C arr D sk t r0 rr J
   refine⟨?_,?_⟩
   ·have⟨m,q,i1⟩:=w5 t.L.ag rr r0
    exact aO (k t q) i1 (J.mono q.le)
   ·have⟨G,x2⟩:=Q2 t
    exact aC (k t G) x2 (Nat.ne_of_gt t.e.1.lt) r0 rr J
  have an:∀{g:zc} {m:Fr} {u:Nat} {A:Int} {C:Bt} {arr D:Sl} {sk:Sl},T22 gl h M E.size ok oi P (E22 U ak ai) g m->Bx22 h E.size g m u->u≠U->RdV m .tree dRb (tV A C arr D)->RdV m (.row .str) [⟨#[98]⟩,⟨#[99]⟩] (aK sk)->cd ⟨u,0,Te⟩ A C arr D sk g:=by
   intro g m u A C arr D sk t x Z rr J
   refine ku hg t (by decide) (by decide) vE λg1 m a1 b1 q v1=>?_
   exact aC (k t q) (x.later q) Z v1 (rr.mono q.le) (J.mono q.le)
  have aH:∀{g:zc} {m:Fr} {u:Nat} {aa:Int} {ab:Bt} {ae ac:Sl} {A:Int} {C:Bt} {arr D:Sl},T22 gl h M E.size ok oi P (E22 U ak ai) g m->Bx22 h E.size g m u->u≠U->RdV m .tree d0 (tV aa ab ae ac)->RdV m .tree dRb (tV A C arr D)->bG ⟨u,0,Te⟩ aa ab ae ac A C arr D g:=by
   intro g m u aa ab ae ac A C arr D t x Z r0 rr
   refine⟨?_,?_⟩
   ·have⟨m,q,k1⟩:=wz t.L.ag ⟨#[98]⟩ ⟨#[99]⟩
    exact aC (k t q) (x.later q) Z (r0.mono q.le) (rr.mono q.le) k1
   ·have⟨M2,G,i2⟩:=w5 t.L.ag rr r0
    exact aT (k t G) (x.later G) Z i2
  have aI:∀{g:zc} {m:Fr} {A:Int} {C:Bt} {arr D:Sl} {sk:Sl},T22 gl h M E.size ok oi P (E22 U ak ai) g m->RdV m .tree dRb (tV A C arr D)->RdV m (.row .str) [⟨#[98]⟩,⟨#[99]⟩] (aK sk)->bU A C arr D sk g:=by
   intro g m A C arr D sk t rr J
   refine⟨?_,?_⟩
   ·refine ku hg t (by decide) (by decide) vE λg1 m a1 b1 q v1=>?_
    exact aS (k t q) v1 (rr.mono q.le) (J.mono q.le)
   ·have⟨G,x2⟩:=Q2 t
    exact an (k t G) x2 (Nat.ne_of_gt t.e.1.lt) rr J
  have ax:∀{g:zc} {m:Fr} {u:Nat} {sj:Sl} {sk:Sl},T22 gl h M E.size ok oi P (E22 U ak ai) g m->Bx22 h E.size g m u->u≠U->RdV m (.row .tree) [d1,d3] (aK sj)->RdV m (.row .str) [⟨#[98]⟩,⟨#[99]⟩] (aK sk)->cj ⟨u,0,Te⟩ sj sk g:=by
   intro g m u sj sk t x Z rj J
   refine m7 t rj λg1 m a1 b1 q v1=>?_
   exact an (k t q) (x.later q) Z v1 (J.mono q.le)
  have aV:∀{g:zc} {m:Fr} {u:Nat} {A:Int} {C:Bt} {arr D:Sl},T22 gl h M E.size ok oi P (E22 U ak ai) g m->Bx22 h E.size g m u->u≠U->RdV m .tree dRb (tV A C arr D)->bC ⟨u,0,Te⟩ A C arr D g:=by
   intro g m u A C arr D t x Z rr
   refine⟨?_,?_⟩
   ·have⟨m,q,k1⟩:=wz t.L.ag ⟨#[98]⟩ ⟨#[99]⟩
    exact an (k t q) (x.later q) Z (rr.mono q.le) k1
   ·refine ku hg t (by decide) (by decide) vE λg2 M2 a2 b2 G v2=>?_
    exact aH (k t G) (x.later G) Z v2 (rr.mono G.le)
  have aZ:∀{g:zc} {m:Fr} {sj:Sl} {sk:Sl},T22 gl h M E.size ok oi P (E22 U ak ai) g m->RdV m (.row .tree) [d1,d3] (aK sj)->RdV m (.row .str) [⟨#[98]⟩,⟨#[99]⟩] (aK sk)->b6 sj sk g:=by
   intro g m sj sk t rj J
   refine⟨?_,?_⟩
   ·refine m7 t rj λg1 m a1 b1 q v1=>?_
    exact aI (k t q) v1 (J.mono q.le)
   ·have⟨G,x2⟩:=Q2 t
    exact ax (k t G) x2 (Nat.ne_of_gt t.e.1.lt) rj J
  have ar:∀{g:zc} {m:Fr} {u:Nat} {O:Int} {N:Bt} {S Q:Sl} {sk:Sl},T22 gl h M E.size ok oi P (E22 U ak ai) g m->Bx22 h E.size g m u->u≠U->RdV m .tree d3 (tV O N S Q)->RdV m (.row .str) [⟨#[98]⟩,⟨#[99]⟩] (aK sk)->bB ⟨u,0,Te⟩ O N S Q sk g:=by
   intro g m u O N S Q sk t x Z r3 J
   have⟨m,q,i1⟩:=w5 t.L.ag t.r1 r3
   exact ax (k t q) (x.later q) Z i1 (J.mono q.le)
  have aD:∀{g:zc} {m:Fr} {u:Nat} {sj:Sl},T22 gl h M E.size ok oi P (E22 U ak ai) g m->Bx22 h E.size g m u->u≠U->RdV m (.row .tree) [d1,d3] (aK sj)->bL ⟨u,0,Te⟩ sj g:=by
   intro g m u sj t x Z rj
   refine⟨?_,?_⟩
   ·have⟨m,q,k1⟩:=wz t.L.ag ⟨#[98]⟩ ⟨#[99]⟩
    exact ax (k t q) (x.later q) Z (rj.mono q.le) k1
   ·refine m7 t rj λg2 M2 a2 b2 G v2=>?_
    exact aV (k t G) (x.later G) Z v2
  have cc:∀{g:zc} {m:Fr} {O:Int} {N:Bt} {S Q:Sl} {sk:Sl},T22 gl h M E.size ok oi P (E22 U ak ai) g m->RdV m .tree d3 (tV O N S Q)->RdV m (.row .str) [⟨#[98]⟩,⟨#[99]⟩] (aK sk)->cB O N S Q sk g:=by
   intro g m O N S Q sk t r3 J
   refine⟨?_,?_⟩
   ·have⟨m,q,i1⟩:=w5 t.L.ag t.r1 r3
    exact aZ (k t q) i1 (J.mono q.le)
   ·have⟨G,x2⟩:=Q2 t
    exact⟨(k t G).fr,ar (k t G) x2 (Nat.ne_of_gt t.e.1.lt) r3 J⟩
  have aN:∀{g:zc} {m:Fr} {u:Nat} {sk:Sl},T22 gl h M E.size ok oi P (E22 U ak ai) g m->Bx22 h E.size g m u->u≠U->RdV m (.row .str) [⟨#[98]⟩,⟨#[99]⟩] (aK sk)->cg ⟨u,0,Te⟩ sk g:=by
   intro g m u sk t x Z J
   refine ku hg t (by decide) (by decide) tw λg1 m a1 b1 q v1=>?_
   exact⟨(k t q).fr,ar (k t q) (x.later q) Z v1 (J.mono q.le)⟩
  have a6:∀{g:zc} {m:Fr} {u:Nat} {O:Int} {N:Bt} {S Q:Sl},T22 gl h M E.size ok oi P (E22 U ak ai) g m->Bx22 h E.size g m u->u≠U->RdV m .tree d3 (tV O N S Q)->bu ⟨u,0,Te⟩ O N S Q g:=by
   intro g m u O N S Q t x Z r3
   refine⟨?_,?_⟩
   ·have⟨m,q,k1⟩:=wz t.L.ag ⟨#[98]⟩ ⟨#[99]⟩
    exact⟨(k t q).fr,ar (k t q) (x.later q) Z (r3.mono q.le) k1⟩
   ·have⟨M2,G,i2⟩:=w5 t.L.ag t.r1 r3
    exact aD (k t G) (x.later G) Z i2
  refine⟨?_,?_,?_⟩
  ·have⟨m,q,k1⟩:=wz I.L.ag ⟨#[98]⟩ ⟨#[99]⟩
   refine⟨(k I q).fr,?_,?_⟩
   ·refine ku hg (k I q) (by decide) (by decide) tw λg2 M2 a2 b2 G v2=>?_
    exact⟨(k (k I q) G).fr,cc (k (k I q) G) v2 (k1.mono G.le)⟩
   ·have⟨L3,x3⟩:=Q2 (k I q)
    exact⟨(k (k I q) L3).fr,aN (k (k I q) L3) x3 (Nat.ne_of_gt (k I q).e.1.lt) k1⟩
  ·refine ku hg I (by decide) (by decide) tw λg4 M4 a4 b4 F v4=>?_
   refine⟨(k I F).fr,?_,?_,?_⟩
   ·have⟨M5,L5,k5⟩:=wz (k I F).L.ag ⟨#[98]⟩ ⟨#[99]⟩
    exact⟨(k (k I F) L5).fr,cc (k (k I F) L5) (v4.mono L5.le) k5⟩
   ·have⟨M6,L6,i6⟩:=w5 (k I F).L.ag (k I F).r1 v4
    refine⟨?_,?_,?_⟩
    ·have⟨M7,L7,k7⟩:=wz (k (k I F) L6).L.ag ⟨#[98]⟩ ⟨#[99]⟩
     exact aZ (k (k (k I F) L6) L7) (i6.mono L7.le) k7
    ·refine m7 (k (k I F) L6) i6 λg8 M8 a8 b8 V v8=>?_
     refine⟨?_,?_,?_⟩
     ·have⟨M9,L9,k9⟩:=wz (k (k (k I F) L6) V).L.ag ⟨#[98]⟩ ⟨#[99]⟩
      exact aI (k (k (k (k I F) L6) V) L9) (v8.mono L9.le) k9
     ·refine ku hg (k (k (k I F) L6) V) (by decide) (by decide) vE λde bn cV di T bj=>?_
      refine⟨?_,?_,?_⟩
      ·have⟨M11,L11,k11⟩:=wz (k (k (k (k I F) L6) V) T).L.ag ⟨#[98]⟩ ⟨#[99]⟩
       exact aS (k (k (k (k (k I F) L6) V) T) L11) (bj.mono L11.le) ((v8.mono T.le).mono L11.le) k11
      ·have⟨M12,L12,i12⟩:=w5 (k (k (k (k I F) L6) V) T).L.ag (v8.mono T.le) bj
       refine⟨?_,?_⟩
       ·have⟨cL,L13,k13⟩:=wz (k (k (k (k (k I F) L6) V) T) L12).L.ag ⟨#[98]⟩ ⟨#[99]⟩
        exact aO (k (k (k (k (k (k I F) L6) V) T) L12) L13) (i12.mono L13.le) k13
       ·have⟨L14,x14⟩:=Q2 (k (k (k (k (k I F) L6) V) T) L12)
        exact aT (k (k (k (k (k (k I F) L6) V) T) L12) L14) x14 (Nat.ne_of_gt (k (k (k (k (k I F) L6) V) T) L12).e.1.lt) i12
      ·have⟨L15,x15⟩:=Q2 (k (k (k (k I F) L6) V) T)
       exact aH (k (k (k (k (k I F) L6) V) T) L15) x15 (Nat.ne_of_gt (k (k (k (k I F) L6) V) T).e.1.lt) bj (v8.mono T.le)
     ·have⟨L16,x16⟩:=Q2 (k (k (k I F) L6) V)
      exact aV (k (k (k (k I F) L6) V) L16) x16 (Nat.ne_of_gt (k (k (k I F) L6) V).e.1.lt) v8
    ·have⟨L17,x17⟩:=Q2 (k (k I F) L6)
     exact aD (k (k (k I F) L6) L17) x17 (Nat.ne_of_gt (k (k I F) L6).e.1.lt) i6
   ·have⟨af,x18⟩:=Q2 (k I F)
    exact⟨(k (k I F) af).fr,a6 (k (k I F) af) x18 (Nat.ne_of_gt (k I F).e.1.lt) v4⟩
  ·have⟨L19,x19⟩:=Q2 I
   refine⟨(k I L19).fr,?_,?_⟩
   ·have⟨M20,L20,k20⟩:=wz (k I L19).L.ag ⟨#[98]⟩ ⟨#[99]⟩
    exact⟨(k (k I L19) L20).fr,aN (k (k I L19) L20) (x19.later L20) (Nat.ne_of_gt I.e.1.lt) k20⟩
   ·refine ku hg (k I L19) (by decide) (by decide) tw λcY dr dd c7 be cz=>?_
    exact⟨(k (k I L19) be).fr,a6 (k (k I L19) be) (x19.later be) (Nat.ne_of_gt I.e.1.lt) cz⟩

 have H:T22 gl h M E.size ok oi h8 iZ h8 M2:=⟨hM.trans cp.le,cp,rfl,by omega,r1,trivial⟩
 refine⟨_,_,ok,oi,b8.ld (cs:=[.int .i64 d1.kind,.string d1.text,aK ok,aK oi]),_,_,ok,oi,b8.ld (cs:=[.int .i64 d1.kind,.string d1.text,aK ok,aK oi]),?_⟩
 intro bQ bz cq bV br cn bY co ck bZ b9 bT ca bD
 have i:∀{g g':zc} {m aA:Fr},T22 gl h M E.size ok oi h8 iZ g m->Later g m g' aA->T22 gl h M E.size ok oi h8 iZ g' aA:=λt L=>t.later (λ_ _=>trivial) L
 have aL:∀{g:zc} {m:Fr} {u:Nat} {a c:Sl},T22 gl h M E.size ok oi h8 iZ g m->Bx22 h E.size g m u->RdV m .tree dA (tV 6 ⟨#[]⟩ a c)->bQ ⟨u,0,Te⟩ 6 ⟨#[]⟩ a c g:=λ {g m u a c} t x r=>
  IE t x λg' f z L B=>kA ⟨t.hM,L,(f _ (λe=>x.ne e.symm)).trans t.fr,by have:=t.lt;omega,t.r1,trivial⟩ B x.ne r
 have aB:∀{g:zc} {m:Fr} {u:Nat} {si:Sl} {sk:Sl},T22 gl h M E.size ok oi h8 iZ g m->Bx22 h E.size g m u->RdV m (.row .tree) [d1,dRa] (aK si)->RdV m (.row .str) [⟨#[97]⟩,⟨#[98]⟩] (aK sk)->bz ⟨u,0,Te⟩ si sk g:=by
  intro g m u si sk t x ri J
  refine ve t J ri λg1 m a1 b1 q v1=>?_
  exact aL (i t q) (x.later q) v1
 have aQ:∀{g:zc} {m:Fr} {si:Sl} {sk:Sl},T22 gl h M E.size ok oi h8 iZ g m->RdV m (.row .tree) [d1,dRa] (aK si)->RdV m (.row .str) [⟨#[97]⟩,⟨#[98]⟩] (aK sk)->cq si sk g:=by
  intro g m si sk t ri J
  refine⟨?_,?_⟩
  ·refine ve t J ri λg1 m a1 b1 q v1=>?_
   have⟨G,x2⟩:=Q2 (i t q)
   exact aL (i (i t q) G) x2 v1
  ·have⟨L3,x3⟩:=Q2 t
   exact aB (i t L3) x3 ri J
 have ay:∀{g:zc} {m:Fr} {u:Nat} {A:Int} {C:Bt} {arr D:Sl} {sk:Sl},T22 gl h M E.size ok oi h8 iZ g m->Bx22 h E.size g m u->RdV m .tree dRa (tV A C arr D)->RdV m (.row .str) [⟨#[97]⟩,⟨#[98]⟩] (aK sk)->bV ⟨u,0,Te⟩ A C arr D sk g:=by
  intro g m u A C arr D sk t x rr J
  have⟨m,q,i1⟩:=w5 t.L.ag t.r1 rr
  exact aB (i t q) (x.later q) i1 (J.mono q.le)
 have aM:∀{g:zc} {m:Fr} {u:Nat} {si:Sl},T22 gl h M E.size ok oi h8 iZ g m->Bx22 h E.size g m u->RdV m (.row .tree) [d1,dRa] (aK si)->br ⟨u,0,Te⟩ si g:=by
  intro g m u si t x ri
  have⟨m,q,k1⟩:=wz t.L.ag ⟨#[97]⟩ ⟨#[98]⟩
  exact aB (i t q) (x.later q) (ri.mono q.le) k1
 have aJ:∀{g:zc} {m:Fr} {A:Int} {C:Bt} {arr D:Sl} {sk:Sl},T22 gl h M E.size ok oi h8 iZ g m->RdV m .tree dRa (tV A C arr D)->RdV m (.row .str) [⟨#[97]⟩,⟨#[98]⟩] (aK sk)->cn A C arr D sk g:=by
  intro g m A C arr D sk t rr J
  refine⟨?_,?_⟩
  ·have⟨m,q,i1⟩:=w5 t.L.ag t.r1 rr
   exact aQ (i t q) i1 (J.mono q.le)
  ·have⟨G,x2⟩:=Q2 t
   exact⟨(i t G).fr,ay (i t G) x2 rr J⟩
 have au:∀{g:zc} {m:Fr} {u:Nat} {sj:Sl} {sk:Sl},T22 gl h M E.size ok oi h8 iZ g m->Bx22 h E.size g m u->RdV m (.row .tree) [d1,d2] (aK sj)->RdV m (.row .str) [⟨#[97]⟩,⟨#[98]⟩] (aK sk)->bY ⟨u,0,Te⟩ sj sk g:=by
  intro g m u sj sk t x rj J
  refine m7 t rj λg1 m a1 b1 q v1=>?_
  exact⟨(i t q).fr,ay (i t q) (x.later q) v1 (J.mono q.le)⟩
 have aE:∀{g:zc} {m:Fr} {u:Nat} {A:Int} {C:Bt} {arr D:Sl},T22 gl h M E.size ok oi h8 iZ g m->Bx22 h E.size g m u->RdV m .tree dRa (tV A C arr D)->co ⟨u,0,Te⟩ A C arr D g:=by
  intro g m u A C arr D t x rr
  refine⟨?_,?_⟩
  ·have⟨m,q,k1⟩:=wz t.L.ag ⟨#[97]⟩ ⟨#[98]⟩
   exact⟨(i t q).fr,ay (i t q) (x.later q) (rr.mono q.le) k1⟩
  ·have⟨M2,G,i2⟩:=w5 t.L.ag t.r1 rr
   exact aM (i t G) (x.later G) i2
 have aP:∀{g:zc} {m:Fr} {sj:Sl} {sk:Sl},T22 gl h M E.size ok oi h8 iZ g m->RdV m (.row .tree) [d1,d2] (aK sj)->RdV m (.row .str) [⟨#[97]⟩,⟨#[98]⟩] (aK sk)->ck sj sk g:=by
  intro g m sj sk t rj J
  refine⟨?_,?_⟩
  ·refine m7 t rj λg1 m a1 b1 q v1=>?_
   exact⟨(i t q).fr,aJ (i t q) v1 (J.mono q.le)⟩
  ·have⟨G,x2⟩:=Q2 t
   exact⟨(i t G).fr,au (i t G) x2 rj J⟩
 have al:∀{g:zc} {m:Fr} {u:Nat} {O:Int} {N:Bt} {S Q:Sl} {sk:Sl},T22 gl h M E.size ok oi h8 iZ g m->Bx22 h E.size g m u->RdV m .tree d2 (tV O N S Q)->RdV m (.row .str) [⟨#[97]⟩,⟨#[98]⟩] (aK sk)->bZ ⟨u,0,Te⟩ O N S Q sk g:=by
  intro g m u O N S Q sk t x r3 J
  have⟨m,q,i1⟩:=w5 t.L.ag t.r1 r3
  exact⟨(i t q).fr,au (i t q) (x.later q) i1 (J.mono q.le)⟩
 have aU:∀{g:zc} {m:Fr} {u:Nat} {sj:Sl},T22 gl h M E.size ok oi h8 iZ g m->Bx22 h E.size g m u->RdV m (.row .tree) [d1,d2] (aK sj)->b9 ⟨u,0,Te⟩ sj g:=by
  intro g m u sj t x rj
  refine⟨?_,?_⟩
  ·have⟨m,q,k1⟩:=wz t.L.ag ⟨#[97]⟩ ⟨#[98]⟩
   exact⟨(i t q).fr,au (i t q) (x.later q) (rj.mono q.le) k1⟩
  ·refine m7 t rj λg2 M2 a2 b2 G v2=>?_
   exact⟨(i t G).fr,aE (i t G) (x.later G) v2⟩
 have aY:∀{g:zc} {m:Fr} {O:Int} {N:Bt} {S Q:Sl} {sk:Sl},T22 gl h M E.size ok oi h8 iZ g m->RdV m .tree d2 (tV O N S Q)->RdV m (.row .str) [⟨#[97]⟩,⟨#[98]⟩] (aK sk)->bT O N S Q sk g:=by
  intro g m O N S Q sk t r3 J
  refine⟨?_,?_⟩
  ·have⟨m,q,i1⟩:=w5 t.L.ag t.r1 r3
   exact⟨(i t q).fr,aP (i t q) i1 (J.mono q.le)⟩
  ·have⟨G,x2⟩:=Q2 t
   exact⟨(i t G).fr,(i t G).fr,al (i t G) x2 r3 J⟩
 have aF:∀{g:zc} {m:Fr} {u:Nat} {sk:Sl},T22 gl h M E.size ok oi h8 iZ g m->Bx22 h E.size g m u->RdV m (.row .str) [⟨#[97]⟩,⟨#[98]⟩] (aK sk)->ca ⟨u,0,Te⟩ sk g:=by
  intro g m u sk t x J
  refine ku hg t (by decide) (by decide) s8 λg1 m a1 b1 q v1=>?_
  exact⟨(i t q).fr,(i t q).fr,al (i t q) (x.later q) v1 (J.mono q.le)⟩
 have a7:∀{g:zc} {m:Fr} {u:Nat} {O:Int} {N:Bt} {S Q:Sl},T22 gl h M E.size ok oi h8 iZ g m->Bx22 h E.size g m u->RdV m .tree d2 (tV O N S Q)->bD ⟨u,0,Te⟩ O N S Q g:=by
  intro g m u O N S Q t x r3
  refine⟨?_,?_⟩
  ·have⟨m,q,k1⟩:=wz t.L.ag ⟨#[97]⟩ ⟨#[98]⟩
   exact⟨(i t q).fr,(i t q).fr,al (i t q) (x.later q) (r3.mono q.le) k1⟩
  ·have⟨M2,G,i2⟩:=w5 t.L.ag t.r1 r3
   exact⟨(i t G).fr,aU (i t G) (x.later G) i2⟩
 refine⟨?_,?_,?_⟩
 ·have⟨m,q,k1⟩:=wz H.L.ag ⟨#[97]⟩ ⟨#[98]⟩
  refine⟨(i H q).fr,(i H q).fr,?_,?_⟩
  ·refine ku hg (i H q) (by decide) (by decide) s8 λg2 M2 a2 b2 G v2=>?_
   exact⟨(i (i H q) G).fr,(i (i H q) G).fr,aY (i (i H q) G) v2 (k1.mono G.le)⟩
  ·have⟨L3,x3⟩:=Q2 (i H q)
   exact⟨(i (i H q) L3).fr,(i (i H q) L3).fr,aF (i (i H q) L3) x3 k1⟩
 ·refine ku hg H (by decide) (by decide) s8 λg4 M4 a4 b4 F v4=>?_
  refine⟨(i H F).fr,(i H F).fr,?_,?_,?_⟩
  ·have⟨M5,L5,k5⟩:=wz (i H F).L.ag ⟨#[97]⟩ ⟨#[98]⟩
   exact⟨(i (i H F) L5).fr,(i (i H F) L5).fr,aY (i (i H F) L5) (v4.mono L5.le) k5⟩
  ·have⟨M6,L6,i6⟩:=w5 (i H F).L.ag (i H F).r1 v4
   refine⟨(i (i H F) L6).fr,?_,?_,?_⟩
   ·have⟨M7,L7,k7⟩:=wz (i (i H F) L6).L.ag ⟨#[97]⟩ ⟨#[98]⟩
    exact⟨(i (i (i H F) L6) L7).fr,aP (i (i (i H F) L6) L7) (i6.mono L7.le) k7⟩
   ·refine m7 (i (i H F) L6) i6 λg8 M8 a8 b8 V v8=>?_
    refine⟨(i (i (i H F) L6) V).fr,?_,?_,?_⟩
    ·have⟨M9,L9,k9⟩:=wz (i (i (i H F) L6) V).L.ag ⟨#[97]⟩ ⟨#[98]⟩
     exact⟨(i (i (i (i H F) L6) V) L9).fr,aJ (i (i (i (i H F) L6) V) L9) (v8.mono L9.le) k9⟩
    ·have⟨bn,T,i10⟩:=w5 (i (i (i H F) L6) V).L.ag (i (i (i H F) L6) V).r1 v8
     refine⟨?_,?_⟩
     ·have⟨M11,L11,k11⟩:=wz (i (i (i (i H F) L6) V) T).L.ag ⟨#[97]⟩ ⟨#[98]⟩
      exact aQ (i (i (i (i (i H F) L6) V) T) L11) (i10.mono L11.le) k11
     ·have⟨L12,x12⟩:=Q2 (i (i (i (i H F) L6) V) T)
      exact aM (i (i (i (i (i H F) L6) V) T) L12) x12 i10
    ·have⟨L13,x13⟩:=Q2 (i (i (i H F) L6) V)
     exact⟨(i (i (i (i H F) L6) V) L13).fr,aE (i (i (i (i H F) L6) V) L13) x13 v8⟩
   ·have⟨L14,x14⟩:=Q2 (i (i H F) L6)
    exact⟨(i (i (i H F) L6) L14).fr,aU (i (i (i H F) L6) L14) x14 i6⟩
  ·have⟨L15,x15⟩:=Q2 (i H F)
   exact⟨(i (i H F) L15).fr,(i (i H F) L15).fr,a7 (i (i H F) L15) x15 v4⟩
 ·have⟨L16,x16⟩:=Q2 H
  refine⟨(i H L16).fr,(i H L16).fr,?_,?_⟩
  ·have⟨M17,L17,k17⟩:=wz (i H L16).L.ag ⟨#[97]⟩ ⟨#[98]⟩
   exact⟨(i (i H L16) L17).fr,(i (i H L16) L17).fr,aF (i (i H L16) L17) (x16.later L17) k17⟩
  ·refine ku hg (i H L16) (by decide) (by decide) s8 λcT dt cP dh af cO=>?_
   exact⟨(i (i H L16) af).fr,(i (i H L16) af).fr,a7 (i (i H L16) af) (x16.later af) cO⟩
end
end
section
open Go.Lib Go.RowKit
variable {v a b:Tr} {o:cK}
def SQ(p:List Bt):Prop:=∀s∈p,(lb s).length<=1048576
theorem SQ.snoc{p:List Bt}(h:SQ p){s:Bt}(c:(lb s).length<=1048576):SQ (p++[s]):=λx b=>by rcases zaj.1 b with b|b;exact h x b;rw[za6.1 b];exact c
def SmB(v:Tr):Prop:=Sm v/\aR v<=1000000
theorem XN:SmB zT:=⟨Xt,by unfold zT;rw[aR,wa];omega⟩
theorem SmB.item{v x:Tr}(h:SmB v)(b:x∈v.items):SmB x:=⟨h.1.item b,by have:=qo b;have:=h.2;omega⟩
theorem SmB.len(h:SmB v):v.items.length<=1000000:=by have:=h.2;have:=wy v.items;have:=ql v;omega
theorem uF{l:List Tr}(h:∀x∈l,SmB x)(i:Nat):SmB (l.getD i zT):=by
 rw[zar];cases e:l[i]? with
 |none=>exact XN
 |some x=>exact h x (zcg e)
theorem wB{i:Nat}(hi:i<=1000000):(lb (J6 i)).length<=1048576:=by unfold J6;rw[yo];have:=Go.X.itoa_len (i:Int);omega
theorem Ei(b:Sm v){k:Bt}(c:k∈v.keys):(lb k).length<=1048576:=by rw[nv];exact((Qr _ v).1 b.tx).1.2.2 k c
def OQ(n:Nat)(o:cK):Prop:=SQ o.2.1/\o.2.1.length<=n/\o.2.2.1=[]/\Sm o.2.2.2
theorem GC{rw:List Tr->List Tr->Option (List (Nat×Nat))}(w:∀us ws m,rw us ws=Td m->Rising 0 0 us.length ws.length m):∀(f:Nat) (p:List Bt) (a b:Tr),SmB a->SmB b->SQ p->∀o∈iB rw f p a b,OQ (p.length+f) o
 |0,p,a,b,_,_,_,o,c=>nomatch c
 |f+1,p,a,b,ha,hb,hp,o,c=>by
  have J:∀i,SmB (w7 a i):=uF λx j=>ha.item j;have t:∀i,SmB (w7 b i):=uF λx j=>hb.item j;have G:∀k,SmB (ym a k):=λk=>uF (λx j=>ha.item j) _;have r:∀k,SmB (ym b k):=λk=>uF (λx j=>hb.item j) _;have ln:∀s:Bt,(p++[s]).length=p.length+1:=λs=>by simp
  have sub:∀s u v,(lb s).length<=1048576->SmB u->SmB v->o∈iB rw f (p++[s]) u v->OQ (p.length+(f+1)) o:=λs u v I B D h=>by obtain⟨h1,y,C,z⟩:=GC w f (p++[s]) u v B D (hp.snoc I) o h;exact⟨h1,by rw[ln]at y;omega,C,z⟩
  have n:∀k∈zl a.keys,(lb k).length<=1048576:=λk e=>Ei ha.1 ((qn a.keys).mem_iff.1 e);have E:∀k∈zl b.keys,(lb k).length<=1048576:=λk e=>Ei hb.1 ((qn b.keys).mem_iff.1 e);have rep:o∈[Qz p b]->OQ (p.length+(f+1)) o:=λh=>by rw[za6.1 h];exact⟨hp,by show p.length<=_;omega,rfl,hb.1⟩
  unfold iB at c;split at c;exact nomatch c;split at c;unfold iT at c;rcases zaj.1 c with c|c;obtain⟨k,e,rfl⟩:=zay.1 c;exact⟨hp.snoc (n k (zbv.1 e).1),by show(p++[k]).length<=_;rw[ln];omega,rfl,Xt⟩;rcases zaj.1 c with c|c;obtain⟨k,e,h⟩:=zbw.1 c;exact sub k _ _ (n k (zbv.1 e).1) (G k) (r k) h;obtain⟨k,e,rfl⟩:=zay.1 c;exact⟨hp.snoc (E k (zbv.1 e).1),by show(p++[k]).length<=_;rw[ln];omega,rfl,(r k).1⟩;split at c;split at c;rename_i m A;have l:=(j3 (w _ _ _ A)).1;have la:=ha.len;have H:=hb.len;unfold iR at c;rcases zaj.1 c with c|c;obtain⟨q,F,h⟩:=zbw.1 c;exact sub _ _ _ (wB (by have:=l q F;omega)) (J q.1) (t q.2) h;rcases zaj.1 c with c|c;obtain⟨i,hi,rfl⟩:=zay.1 c;exact⟨hp.snoc (wB (by have:=zbn.1 (zbv.1 (List.mem_reverse.1 hi)).1;omega)),by show(p++[_]).length<=_;rw[ln];omega,rfl,Xt⟩;obtain⟨i,hi,rfl⟩:=zay.1 c;exact⟨hp.snoc (wB (by have:=zbn.1 (zbv.1 hi).1;omega)),by show(p++[_]).length<=_;rw[ln];omega,rfl,(t i).1⟩;exact rep c;exact rep c
theorem Hd(e:Sm a)(f:Sm b):∀o∈(jA a b).1,OQ 33 o:=λo c=>by unfold jA at c;split at c;rename_i h;rw[zam]at h;have:=GC uL 33 [] a b ⟨e,by have:=GV.sz ⟨h.1,e⟩;omega⟩ ⟨f,by have:=GV.sz ⟨h.2,f⟩;omega⟩ (λs i=>nomatch i) o c;rwa[zb5,zas]at this;exact nomatch c
theorem OQ.sl(h:OQ 33 o):SL o.2.1:=⟨by have:=h.2.1;omega,h.1⟩
theorem OQ.s(h:OQ 33 o):OpS o:=⟨h.sl,by rw[h.2.2.1];exact⟨by simp,by simp⟩,h.2.2.2⟩
theorem UD(h:(jA a b).2≠0):jA a b=([],1)/\(zh a&&zh b)=Tc:=by unfold jA at h ⊢;split;rename_i c;rw[zA c]at h;exact absurd rfl h;rename_i c;exact⟨rfl,by simpa using c⟩
theorem TK(h:(jA a b).2=0):zh a=Ta/\zh b=Ta/\(jA a b).1=ke a b:=by unfold jA at h ⊢;split;rename_i c;rw[zam]at c;exact⟨c.1,c.2,rfl⟩;rename_i c;rw[zv c]at h;exact nomatch h
end
section
section
theorem TL(b:Int)(c:Bt)(d:Sl)(e:Sl)(l1:Sl)(h:zc)(R:Value->zc->Prop) (H:let f:=h.push (.cells #[iV b,.string c,aK d,aK e] 25);let g:=f.push (.cells tC 25);∃i j k l,ze g ⟨h.size,0,Te⟩ 0 (tL i j k l)/\XC Tp 49 #[tA i j k l] g (λm n=>∃o,m=.bool o/\((!o)=Ta->XRunU Tp (zag 25 (.pointer (Td ⟨f.size,0,Te⟩)) (tZ)) n (λp=>∃q r s t,ze p ⟨f.size,0,Te⟩ 0 (tL q r s t)/\R (.tuple #[tA q r s t,iV 0,iV 1]) p))/\((!o)=Tc->∃u v w x,ze n ⟨h.size,0,Te⟩ 0 (tL u v w x)/\XC Tp 90 #[tA u v w x] n (λy z=>∃A B C D,y=tA A B C D/\let E:=z.push (.cells #[iV A,.string B,aK C,aK D] 106);∃(F:Int->zc->Prop) (G:Int->zc->Nat),F 0 E/\∀I:Int,∀J:zc,F I J->((decide (I<l1.len)=Ta->∃L,(l1.a=Td L/\0<=I/\I<l1.len)/\∃M N O P Q S T,ze J (L.add (I.toNat*7)) 0 [.string M,aK N,aK O,iV P,.string Q,aK S,aK T]/\let U:=J.push (.cells #[.string (⟨#[]⟩:Bt),.slice Te 0 0,.slice Te 0 0,iV 0,.string (⟨#[]⟩:Bt),.slice Te 0 0,.slice Te 0 0] 50);XRunU Tp (zag 50 (.pointer (Td ⟨J.size,0,Te⟩)) (.agg #[.string M,aK N,aK O,iV P,.string Q,aK S,aK T])) U (λV=>∃W X Y Z aa ab ac,ze V ⟨J.size,0,Te⟩ 0 [.string W,aK X,aK Y,iV Z,.string aa,aK ab,aK ac]/\XC Tp 91 #[.pointer (Td ⟨z.size,0,Te⟩),.agg #[.string W,aK X,aK Y,iV Z,.string aa,aK ab,aK ac]] V (λad ae=>∃af,ad=iV af/\((af != 0)=Ta->XRunU Tp (zag 25 (.pointer (Td ⟨f.size,0,Te⟩)) (tZ)) ae (λag=>∃ah ai aj ak,ze ag ⟨f.size,0,Te⟩ 0 (tL ah ai aj ak)/\R (.tuple #[tA ah ai aj ak,iV I,iV af]) ag))/\((af != 0)=Tc->(F (w6 (I+1)) ae/\G (w6 (I+1)) ae<G I J)))))/\(decide (I<l1.len)=Tc->∃al:Addr,Td ⟨z.size,0,Te⟩=Td al/\∃am an ao ap,ze J (zab al 0) 0 (tL am an ao ap)/\XRunU Tp (zag 25 (.pointer (Td ⟨f.size,0,Te⟩)) (tA am an ao ap)) J (λaq=>∃ar au av aw,ze aq ⟨f.size,0,Te⟩ 0 (tL ar au av aw)/\R (.tuple #[tA ar au av aw,iV (l1.len:Int),iV 0]) aq))))))):
  XC Tp 50 #[.agg #[.int .i64 b,.string c,.slice d.a d.len d.cap,.slice e.a e.len e.cap],.slice l1.a l1.len l1.cap] h R:=
 XF ⟨[],[(5,[(21,.one (.int .i64))])],[]⟩ [.cell 4 25,.tmp 5,.tmp 6] 41 Tryz.func50 H
theorem Qn(d0:Option Addr)(b:Bt)(c:Sl)(d:Sl)(e:Int)(f:Bt)(g:Sl)(i:Sl)(h:zc)(R:Value->zc->Prop) (H:let j:=h.push (.cells #[.string b,aK c,aK d,iV e,.string f,aK g,aK i] 50);∃k l m n o p q,ze j ⟨h.size,0,Te⟩ 0 [.string k,aK l,aK m,iV n,.string o,aK p,aK q]/\XC Tp 44 #[.agg #[.string k,aK l,aK m,iV n,.string o,aK p,aK q]] j (λr s=>∃t,r=.bool t/\((!t)=Ta->R (iV 1) s)/\((!t)=Tc->∀u:Value->zc->Prop,(∀v:Value,∀w:zc,(∃x y z A B C D,ze w ⟨h.size,0,Te⟩ 0 [.string x,aK y,aK z,iV A,.string B,aK C,aK D]/\kU Tp v #[.agg #[.string x,aK y,aK z,iV A,.string B,aK C,aK D]] (λE F=>XC Tp E F w (λG I=>∃J,G=iV J/\((J != 0)=Ta->R (iV J) I)/\((J != 0)=Tc->∃L,d0=Td L/\∃M N O P,ze I (zab L 0) 0 (tL M N O P)/\XC Tp 49 #[tA M N O P] I (λQ S=>∃T,Q=.bool T/\((!T)=Ta->R (iV 1) S)/\((!T)=Tc->R (iV 0) S))))))->u v w)->∃U,zd s (zab ⟨h.size,0,Te⟩ 0)=Td (.string U)/\((U.toList==(⟨#[114,101,109,111,118,101]⟩:Bt).toList)=Ta->u (.func (.func 153) #[.pointer d0] #[]) s)/\((U.toList==(⟨#[114,101,109,111,118,101]⟩:Bt).toList)=Tc->((U.toList==(⟨#[114,101,112,108,97,99,101]⟩:Bt).toList)=Ta->u (.func (.func 154) #[.pointer d0] #[]) s)/\((U.toList==(⟨#[114,101,112,108,97,99,101]⟩:Bt).toList)=Tc->((U.toList==(⟨#[109,111,118,101]⟩:Bt).toList)=Ta->u (.func (.func 155) #[.pointer d0] #[]) s)/\((U.toList==(⟨#[109,111,118,101]⟩:Bt).toList)=Tc->((U.toList==(⟨#[99,111,112,121]⟩:Bt).toList)=Ta->u (.func (.func 156) #[.pointer d0] #[]) s)/\((U.toList==(⟨#[99,111,112,121]⟩:Bt).toList)=Tc->((U.toList==(⟨#[116,101,115,116]⟩:Bt).toList)=Ta->u (.func (.func 157) #[.pointer d0] #[]) s)/\((U.toList==(⟨#[116,101,115,116]⟩:Bt).toList)=Tc->u (.func (.func 152) #[.pointer d0] #[]) s)))))))):
  XC Tp 91 #[.pointer d0,.agg #[.string b,.slice c.a c.len c.cap,.slice d.a d.len d.cap,.int .i64 e,.string f,.slice g.a g.len g.cap,.slice i.a i.len i.cap]] h R:=
 XF ⟨[],[],[(15,[(5,.one (.raw))])]⟩ [.tmp 4] 46 Tryz.func91 H
theorem Vt(d0:Option Addr)(b:Bt)(c:Sl)(d:Sl)(e:Int)(f:Bt)(g:Sl)(i:Sl)(h:zc)(R:Value->zc->Prop) (H:let j:=h.push (.cells #[.string b,aK c,aK d,iV e,.string f,aK g,aK i] 50);∃k,zd j (zab ⟨h.size,0,Te⟩ 1)=Td (aK k)/\∃l m n o,ze j (zab ⟨h.size,0,Te⟩ 3) 0 (tL l m n o)/\XC Tp 90 #[tA l m n o] j (λp q=>∃r s t u,p=tA r s t u/\hZ q j (zab ⟨h.size,0,Te⟩ 1)/\XC Tp 212 #[.pointer d0,aK k,tA r s t u] q (λv w=>∃x,v=iV x/\R (iV x) w))):
  XC Tp 152 #[.pointer d0,.agg #[.string b,.slice c.a c.len c.cap,.slice d.a d.len d.cap,.int .i64 e,.string f,.slice g.a g.len g.cap,.slice i.a i.len i.cap]] h R:=
 XF ⟨[(1,8000)],[],[]⟩ [.tmp 4] 12 Tryz.func152 H
theorem X2(d0:Option Addr)(b:Bt)(c:Sl)(d:Sl)(e:Int)(f:Bt)(g:Sl)(i:Sl)(h:zc)(R:Value->zc->Prop) (H:let j:=h.push (.cells #[.string b,aK c,aK d,iV e,.string f,aK g,aK i] 50);∃k,zd j (zab ⟨h.size,0,Te⟩ 1)=Td (aK k)/\XC Tp 213 #[.pointer d0,aK k] j (λl m=>∃n:Option Addr,l=.pointer n/\(n.isNone=Ta->R (iV 8) m)/\(n.isNone=Tc->∃o,zd m (zab ⟨h.size,0,Te⟩ 1)=Td (aK o)/\XC Tp 214 #[.pointer d0,aK o] m (λp q=>∃r,p=iV r/\R (iV r) q)))):
  XC Tp 153 #[.pointer d0,.agg #[.string b,.slice c.a c.len c.cap,.slice d.a d.len d.cap,.int .i64 e,.string f,.slice g.a g.len g.cap,.slice i.a i.len i.cap]] h R:=
 XF ⟨[],[],[]⟩ [.tmp 4] 14 Tryz.func153 H
theorem Xz(d0:Option Addr)(b:Bt)(c:Sl)(d:Sl)(e:Int)(f:Bt)(g:Sl)(i:Sl)(h:zc)(R:Value->zc->Prop) (H:let j:=h.push (.cells #[.string b,aK c,aK d,iV e,.string f,aK g,aK i] 50);∃k,zd j (zab ⟨h.size,0,Te⟩ 1)=Td (aK k)/\XC Tp 213 #[.pointer d0,aK k] j (λl m=>∃n:Option Addr,l=.pointer n/\(n.isNone=Ta->R (iV 8) m)/\(n.isNone=Tc->∃o p q r,ze m (zab ⟨h.size,0,Te⟩ 3) 0 (tL o p q r)/\XC Tp 90 #[tA o p q r] m (λs t=>∃u v w x,s=tA u v w x/\∃y,n=Td y/\XRunU Tp (zag 25 (.pointer (Td y)) (tA u v w x)) t (λz=>R (iV 0) z))))):
  XC Tp 154 #[.pointer d0,.agg #[.string b,.slice c.a c.len c.cap,.slice d.a d.len d.cap,.int .i64 e,.string f,.slice g.a g.len g.cap,.slice i.a i.len i.cap]] h R:=
 XF ⟨[],[],[]⟩ [.tmp 4] 17 Tryz.func154 H
theorem SF(d0:Option Addr)(b:Bt)(c:Sl)(d:Sl)(e:Int)(f:Bt)(g:Sl)(i:Sl)(h:zc)(R:Value->zc->Prop) (H:let j:=h.push (.cells #[.string b,aK c,aK d,iV e,.string f,aK g,aK i] 50);∃k,zd j (zab ⟨h.size,0,Te⟩ 2)=Td (aK k)/\XC Tp 213 #[.pointer d0,aK k] j (λl m=>∃n:Option Addr,l=.pointer n/\∃o,zd m (zab ⟨h.size,0,Te⟩ 2)=Td (aK o)/\(n.isNone=Ta->R (iV 8) m)/\(n.isNone=Tc->∃p,zd m (zab ⟨h.size,0,Te⟩ 1)=Td (aK p)/\∃q,(decide ((p.len:Int)>=(o.len:Int))=Ta->zd m (zab ⟨h.size,0,Te⟩ 1)=Td (aK q))/\((Te:Option Value)=Te\/∃v,(Td (iV (o.len:Int)):Option Value)=Td v)/\(decide ((p.len:Int)>=(o.len:Int))=Ta->(0<=(0:Int)/\(0:Int)<=(o.len:Int)/\(o.len:Int)<=(q.cap:Int)/\(q.cap:Int)<=(q.cap:Int)))/\∃r,(decide ((p.len:Int)>=(o.len:Int))=Ta->zd m (zab ⟨h.size,0,Te⟩ 2)=Td (aK r))/\∃s,(decide ((p.len:Int)>=(o.len:Int))=Ta->XC Tp 110 #[.slice (x9 q.a 1 ((0:Int).toNat) ((q.cap:Int).toNat)) ((o.len:Int).toNat-(0:Int).toNat) ((q.cap:Int).toNat-(0:Int).toNat),aK r] m (λt u=>t=.bool s/\u=m))/\((bif (decide ((p.len:Int)>=(o.len:Int)))then s else Tc)=Ta->∃w,zd m (zab ⟨h.size,0,Te⟩ 1)=Td (aK w)/\(decide ((w.len:Int)>(o.len:Int))=Ta->R (iV 1) m)/\(decide ((w.len:Int)>(o.len:Int))=Tc->R (iV 0) m))/\((bif (decide ((p.len:Int)>=(o.len:Int)))then s else Tc)=Tc->∃x,n=Td x/\∃y z A B,ze m x 0 (tL y z A B)/\XC Tp 90 #[tA y z A B] m (λC D=>∃E F G I,C=tA E F G I/\let J:=D.push (.cells tC 25);XRunU Tp (zag 25 (.pointer (Td ⟨D.size,0,Te⟩)) (tA E F G I)) J (λL=>∃M,zd L (zab ⟨h.size,0,Te⟩ 2)=Td (aK M)/\XC Tp 214 #[.pointer d0,aK M] L (λN O=>∃P,N=iV P/\((P != 0)=Ta->R (iV P) O)/\((P != 0)=Tc->∃Q,zd O (zab ⟨h.size,0,Te⟩ 1)=Td (aK Q)/\∃S T U V,ze O ⟨D.size,0,Te⟩ 0 (tL S T U V)/\XC Tp 212 #[.pointer d0,aK Q,tA S T U V] O (λW X=>∃Y,W=iV Y/\R (iV Y) X))))))))):
  XC Tp 155 #[.pointer d0,.agg #[.string b,.slice c.a c.len c.cap,.slice d.a d.len d.cap,.int .i64 e,.string f,.slice g.a g.len g.cap,.slice i.a i.len i.cap]] h R:=
 XF ⟨[],[],[]⟩ [.tmp 4] 55 Tryz.func155 H
theorem Vn(d0:Option Addr)(b:Bt)(c:Sl)(d:Sl)(e:Int)(f:Bt)(g:Sl)(i:Sl)(h:zc)(R:Value->zc->Prop) (H:let j:=h.push (.cells #[.string b,aK c,aK d,iV e,.string f,aK g,aK i] 50);∃k,zd j (zab ⟨h.size,0,Te⟩ 2)=Td (aK k)/\XC Tp 213 #[.pointer d0,aK k] j (λl m=>∃n:Option Addr,l=.pointer n/\(n.isNone=Ta->R (iV 8) m)/\(n.isNone=Tc->∃o,zd m (zab ⟨h.size,0,Te⟩ 1)=Td (aK o)/\∃p,n=Td p/\∃q r s t,ze m p 0 (tL q r s t)/\XC Tp 90 #[tA q r s t] m (λu v=>∃w x y z,u=tA w x y z/\hZ v m (zab ⟨h.size,0,Te⟩ 1)/\XC Tp 212 #[.pointer d0,aK o,tA w x y z] v (λA B=>∃C,A=iV C/\R (iV C) B))))):
  XC Tp 156 #[.pointer d0,.agg #[.string b,.slice c.a c.len c.cap,.slice d.a d.len d.cap,.int .i64 e,.string f,.slice g.a g.len g.cap,.slice i.a i.len i.cap]] h R:=
 XF ⟨[(4,8000)],[],[]⟩ [.tmp 4] 20 Tryz.func156 H
theorem Ti(d0:Option Addr)(b:Bt)(c:Sl)(d:Sl)(e:Int)(f:Bt)(g:Sl)(i:Sl)(h:zc)(R:Value->zc->Prop) (H:let j:=h.push (.cells #[.string b,aK c,aK d,iV e,.string f,aK g,aK i] 50);∃k,zd j (zab ⟨h.size,0,Te⟩ 1)=Td (aK k)/\XC Tp 213 #[.pointer d0,aK k] j (λl m=>∃n:Option Addr,l=.pointer n/\(n.isNone=Ta->R (iV 8) m)/\(n.isNone=Tc->∃o,n=Td o/\∃p q r s,ze m o 0 (tL p q r s)/\∃t u v w,ze m (zab ⟨h.size,0,Te⟩ 3) 0 (tL t u v w)/\XC Tp 46 #[tA p q r s,tA t u v w] m (λx y=>∃z,x=.bool z/\((!z)=Ta->R (iV 9) y)/\((!z)=Tc->R (iV 0) y))))):
  XC Tp 157 #[.pointer d0,.agg #[.string b,.slice c.a c.len c.cap,.slice d.a d.len d.cap,.int .i64 e,.string f,.slice g.a g.len g.cap,.slice i.a i.len i.cap]] h R:=
 XF ⟨[(4,8000)],[],[]⟩ [.tmp 4] 21 Tryz.func157 H
theorem Ko(d0:Option Addr)(aH:Sl)(b:Int)(c:Bt)(d:Sl)(e:Sl)(h:zc)(R:Value->zc->Prop) (H:let f:=h.push (.cells #[iV b,.string c,aK d,aK e] 25);(((aH.len:Int)==0)=Ta->∃g i j k,ze f ⟨h.size,0,Te⟩ 0 (tL g i j k)/\∃l,d0=Td l/\XRunU Tp (zag 25 (.pointer (Td (zab l 0))) (tA g i j k)) f (λm=>R (iV 0) m))/\(((aH.len:Int)==0)=Tc->∃n,(aH.a=Td n/\0<=(w6 ((aH.len:Int)-1))/\(w6 ((aH.len:Int)-1))<(aH.len:Int))/\∃o,zd f (n.add ((w6 ((aH.len:Int)-1)).toNat*1))=Td (.string o)/\((Te:Option Value)=Te\/∃v,(Td (iV (w6 ((aH.len:Int)-1))):Option Value)=Td v)/\(0<=(0:Int)/\(0:Int)<=(w6 ((aH.len:Int)-1))/\(w6 ((aH.len:Int)-1))<=(aH.cap:Int)/\(aH.cap:Int)<=(aH.cap:Int))/\XC Tp 213 #[.pointer d0,.slice (x9 aH.a 1 ((0:Int).toNat) ((aH.cap:Int).toNat)) ((w6 ((aH.len:Int)-1)).toNat-(0:Int).toNat) ((aH.cap:Int).toNat-(0:Int).toNat)] f (λp q=>∃r:Option Addr,p=.pointer r/\(r.isNone=Ta->R (iV 8) q)/\(r.isNone=Tc->∃s,r=Td s/\∃t,zd q (zab s 0)=Td (iV t)/\((t==5)=Ta->∃u w x y,ze q ⟨h.size,0,Te⟩ 0 (tL u w x y)/\XC Tp 263 #[.pointer r,.string o,tA u w x y] q (λz A=>∃B,z=iV B/\R (iV B) A))/\((t==5)=Tc->∃C,r=Td C/\∃D,zd q (zab C 0)=Td (iV D)/\((D != 6)=Ta->R (iV 8) q)/\((D != 6)=Tc->∃E,r=Td E/\∃F G I J,ze q E 0 (tL F G I J)/\XC Tp 264 #[tA F G I J,.string o] q (λL M=>∃N,L=iV N/\(decide (N>=0)=Ta->∃O,r=Td O/\∃P,zd M (zab O 3)=Td (aK P)/\∃Q S T U,ze M ⟨h.size,0,Te⟩ 0 (tL Q S T U)/\∃V,(P.a=Td V/\0<=N/\N<P.len)/\XRunU Tp (zag 25 (.pointer (Td (V.add (N.toNat*4)))) (tA Q S T U)) M (λW=>R (iV 0) W))/\(decide (N>=0)=Tc->∃X,r=Td X/\∃Y,zd M (zab X 2)=Td (aK Y)/\∃Z,r=Td Z/\∃aa,zd M (zab Z 3)=Td (aK aa)/\∃ab ac ad ae,ze M ⟨h.size,0,Te⟩ 0 (tL ab ac ad ae)/\let af:Sl->Sl->zc->Prop:=λ(ag:Sl) (ah:Sl) (ai:zc)=>(qu Tp (zao #[23,23] 23 #[aK aa,aK ag]) ai (λaj ak=>∃al,aj=aK al/\∃am,r=Td am/\XRunU Tp (zag 22 (.pointer (Td (zab am 2))) (aK ah)) ak (λan=>∃ao,r=Td ao/\XRunU Tp (zag 23 (.pointer (Td (zab ao 3))) (aK al)) an (λap=>R (iV 0) ap))));let aq:Sl->Sl->zc->Prop:=λ(ar:Sl) (au:Sl) (av:zc)=>(qu Tp (zao #[22,22] 22 #[aK Y,aK au]) av (λaw ax=>∃ay,aw=aK ay/\hZ ax M (zab Z 3)/\af ar ay ax));(let az:=M.push (.cells #[.string o] 9);hZ az M ⟨h.size,0,Te⟩/\hZ az M (zab Z 3)/\hZ az M (zab X 2)/\(qu Tp (zao #[22,22] 22 #[aK Y,.slice (Td ⟨M.size,0,Te⟩) 1 1]) az (λaA aB=>∃aC,aA=aK aC/\hZ aB M ⟨h.size,0,Te⟩/\hZ aB M (zab Z 3)/\let aD:=aB.push (.cells #[iV ab,.string ac,aK ad,aK ae] 25);hZ aD M (zab Z 3)/\af (⟨Td ⟨aB.size,0,Te⟩,1,1⟩:Sl) aC aD))/\(let aE:=az.push (.cells #[iV ab,.string ac,aK ad,aK ae] 25);hZ aE M (zab Z 3)/\hZ aE M (zab X 2)/\aq (⟨Td ⟨az.size,0,Te⟩,1,1⟩:Sl) (⟨Td ⟨M.size,0,Te⟩,1,1⟩:Sl) aE))/\(let aF:=M.push (.cells #[iV ab,.string ac,aK ad,aK ae] 25);hZ aF M (zab Z 3)/\hZ aF M (zab X 2)/\let aG:=aF.push (.cells #[.string o] 9);hZ aG M (zab Z 3)/\hZ aG M (zab X 2)/\aq (⟨Td ⟨M.size,0,Te⟩,1,1⟩:Sl) (⟨Td ⟨aF.size,0,Te⟩,1,1⟩:Sl) aG))))))))):
  XC Tp 212 #[.pointer d0,.slice aH.a aH.len aH.cap,.agg #[.int .i64 b,.string c,.slice d.a d.len d.cap,.slice e.a e.len e.cap]] h R:=
 XF ⟨[(14,8000),(16,8000)],[],[]⟩ [.tmp 6] 83 Tryz.func212 H
theorem LJ(d0:Option Addr)(w:Sl)(h:zc)(R:Value->zc->Prop) (H:∃b,d0=Td b/\∃(c:Option Addr->Int->zc->Prop) (d:Option Addr->Int->zc->Nat),c (Td (zab b 0)) 0 h/\∀e:Option Addr,∀f:Int,∀g:zc,c e f g->((decide (f<w.len)=Ta->∃i,(w.a=Td i/\0<=f/\f<w.len)/\∃j,zd g (i.add (f.toNat*1))=Td (.string j)/\∃k,e=Td k/\∃l m n o,ze g k 0 (tL l m n o)/\XC Tp 264 #[tA l m n o,.string j] g (λp q=>∃r,p=iV r/\(decide (r<0)=Ta->R (.pointer Te) q)/\(decide (r<0)=Tc->∃s,e=Td s/\∃t,zd q (zab s 3)=Td (aK t)/\∃u,(t.a=Td u/\0<=r/\r<t.len)/\(c (Td (u.add (r.toNat*4))) (w6 (f+1)) q/\d (Td (u.add (r.toNat*4))) (w6 (f+1)) q<d e f g))))/\(decide (f<w.len)=Tc->R (.pointer e) g))):
  XC Tp 213 #[.pointer d0,.slice w.a w.len w.cap] h R:=
 XF ⟨[],[(3,[(5,.one (.ptr)),(14,.one (.int .i64))])],[]⟩ [.tmp 4] 33 Tryz.func213 H
theorem RJ(d0:Option Addr)(G:Sl)(h:zc)(R:Value->zc->Prop) (H:(((G.len:Int)==0)=Ta->R (iV 1) h)/\(((G.len:Int)==0)=Tc->∃b,(G.a=Td b/\0<=(w6 ((G.len:Int)-1))/\(w6 ((G.len:Int)-1))<(G.len:Int))/\∃c,zd h (b.add ((w6 ((G.len:Int)-1)).toNat*1))=Td (.string c)/\((Te:Option Value)=Te\/∃v,(Td (iV (w6 ((G.len:Int)-1))):Option Value)=Td v)/\(0<=(0:Int)/\(0:Int)<=(w6 ((G.len:Int)-1))/\(w6 ((G.len:Int)-1))<=(G.cap:Int)/\(G.cap:Int)<=(G.cap:Int))/\XC Tp 213 #[.pointer d0,.slice (x9 G.a 1 ((0:Int).toNat) ((G.cap:Int).toNat)) ((w6 ((G.len:Int)-1)).toNat-(0:Int).toNat) ((G.cap:Int).toNat-(0:Int).toNat)] h (λd e=>∃f:Option Addr,d=.pointer f/\∃g,f=Td g/\∃i j k l,ze e g 0 (tL i j k l)/\XC Tp 264 #[tA i j k l,.string c] e (λm n=>∃o,m=iV o/\∃p,f=Td p/\∃q,zd n (zab p 3)=Td (aK q)/\XC Tp 265 #[aK q,iV o,iV (w6 (o+1))] n (λr s=>∃t,r=aK t/\∃u,f=Td u/\XRunU Tp (zag 23 (.pointer (Td (zab u 3))) (aK t)) s (λw=>∃x,f=Td x/\∃y,zd w (zab x 0)=Td (iV y)/\((y==6)=Ta->∃z,f=Td z/\∃A,zd w (zab z 2)=Td (aK A)/\XC Tp 266 #[aK A,iV o,iV (w6 (o+1))] w (λB C=>∃D,B=aK D/\∃E,f=Td E/\XRunU Tp (zag 22 (.pointer (Td (zab E 2))) (aK D)) C (λF=>R (iV 0) F)))/\((y==6)=Tc->R (iV 0) w))))))):
  XC Tp 214 #[.pointer d0,.slice G.a G.len G.cap] h R:=
 XF ⟨[],[],[]⟩ [.tmp 4] 56 Tryz.func214 H
theorem VL(F:Option Addr)(E:Bt)(b:Int)(c:Bt)(d:Sl)(e:Sl)(h:zc)(R:Value->zc->Prop) (H:let f:=h.push (.cells #[iV b,.string c,aK d,aK e] 25);XC Tp 315 #[.string E] f (λg i=>∃j k,g=.tuple #[iV j,.bool k]/\∀l:Int->zc->Prop,(∀m:Int,∀n:zc,(∃o,F=Td o/\∃p,zd n (zab o 3)=Td (aK p)/\∃q r s t,ze n ⟨h.size,0,Te⟩ 0 (tL q r s t)/\let u:=n.push (.cells #[iV q,.string r,aK s,aK t] 25);hZ u n (zab o 3)/\XC Tp 316 #[aK p,iV m,.slice (Td ⟨n.size,0,Te⟩) 1 1] u (λv w=>∃x,v=aK x/\∃y,F=Td y/\XRunU Tp (zag 23 (.pointer (Td (zab y 3))) (aK x)) w (λz=>R (iV 0) z)))->l m n)->((E.toList==(⟨#[45]⟩:Bt).toList)=Ta->∃A,F=Td A/\∃B,zd i (zab A 3)=Td (aK B)/\l (B.len:Int) i)/\((E.toList==(⟨#[45]⟩:Bt).toList)=Tc->∃C,((!(!k))=Ta->F=Td C)/\∃D,((!(!k))=Ta->zd i (zab C 3)=Td (aK D))/\((bif (!k)then Ta else(decide (j>D.len)))=Ta->R (iV 8) i)/\((bif (!k)then Ta else(decide (j>D.len)))=Tc->l j i)))):
  XC Tp 263 #[.pointer F,.string E,.agg #[.int .i64 b,.string c,.slice d.a d.len d.cap,.slice e.a e.len e.cap]] h R:=
 XF ⟨[(6,8000)],[],[(6,[(7,.one (.int .i64))])]⟩ [.tmp 6] 45 Tryz.func263 H
theorem xf(i:Sl)(k:Int)(j:Int)(h:zc)(R:Value->zc->Prop) (H:((Td (iV (i.len:Int)):Option Value)=Te\/∃v,(Td (iV j):Option Value)=Td v)/\(0<=k/\k<=j/\j<=i.len/\(i.len:Int)<=(i.cap:Int))/\((k==j)=Ta->R (aK i) h)/\((k==j)=Tc->((Te:Option Value)=Te\/∃v,(Td (iV k):Option Value)=Td v)/\(0<=(0:Int)/\(0:Int)<=k/\k<=i.cap/\(i.cap:Int)<=(i.cap:Int))/\((Te:Option Value)=Te\/∃v,(Te:Option Value)=Td v)/\(0<=j/\j<=i.len/\(i.len:Int)<=(i.cap:Int)/\(i.cap:Int)<=(i.cap:Int))/\qu Tp (zao #[23,23] 23 #[.slice (x9 i.a 4 ((0:Int).toNat) ((i.cap:Int).toNat)) (k.toNat-(0:Int).toNat) ((i.cap:Int).toNat-(0:Int).toNat),.slice (x9 i.a 4 j.toNat ((i.cap:Int).toNat)) ((i.len:Int).toNat-j.toNat) ((i.cap:Int).toNat-j.toNat)]) h (λb c=>∃d,b=aK d/\((Te:Option Value)=Te\/∃v,(Td (iV (i.len:Int)):Option Value)=Td v)/\(0<=(d.len:Int)/\(d.len:Int)<=(i.len:Int)/\(i.len:Int)<=(d.cap:Int)/\(d.cap:Int)<=(d.cap:Int))/\qu Tp (zer #[23] 0 #[.slice (x9 d.a 4 ((d.len:Int).toNat) ((d.cap:Int).toNat)) ((i.len:Int).toNat-(d.len:Int).toNat) ((d.cap:Int).toNat-(d.len:Int).toNat)]) c (λe f=>e=.tuple #[]/\R (aK d) f)))):
  XC Tp 265 #[.slice i.a i.len i.cap,.int .i64 k,.int .i64 j] h R:=
 XF ⟨[(5,6)],[],[]⟩ [.tmp 6] 33 Tryz.func265 H
theorem Qg(i:Sl)(k:Int)(j:Int)(h:zc)(R:Value->zc->Prop) (H:((Td (iV (i.len:Int)):Option Value)=Te\/∃v,(Td (iV j):Option Value)=Td v)/\(0<=k/\k<=j/\j<=i.len/\(i.len:Int)<=(i.cap:Int))/\((k==j)=Ta->R (aK i) h)/\((k==j)=Tc->((Te:Option Value)=Te\/∃v,(Td (iV k):Option Value)=Td v)/\(0<=(0:Int)/\(0:Int)<=k/\k<=i.cap/\(i.cap:Int)<=(i.cap:Int))/\((Te:Option Value)=Te\/∃v,(Te:Option Value)=Td v)/\(0<=j/\j<=i.len/\(i.len:Int)<=(i.cap:Int)/\(i.cap:Int)<=(i.cap:Int))/\qu Tp (zao #[22,22] 22 #[.slice (x9 i.a 1 ((0:Int).toNat) ((i.cap:Int).toNat)) (k.toNat-(0:Int).toNat) ((i.cap:Int).toNat-(0:Int).toNat),.slice (x9 i.a 1 j.toNat ((i.cap:Int).toNat)) ((i.len:Int).toNat-j.toNat) ((i.cap:Int).toNat-j.toNat)]) h (λb c=>∃d,b=aK d/\((Te:Option Value)=Te\/∃v,(Td (iV (i.len:Int)):Option Value)=Td v)/\(0<=(d.len:Int)/\(d.len:Int)<=(i.len:Int)/\(i.len:Int)<=(d.cap:Int)/\(d.cap:Int)<=(d.cap:Int))/\qu Tp (zer #[22] 0 #[.slice (x9 d.a 1 ((d.len:Int).toNat) ((d.cap:Int).toNat)) ((i.len:Int).toNat-(d.len:Int).toNat) ((d.cap:Int).toNat-(d.len:Int).toNat)]) c (λe f=>e=.tuple #[]/\R (aK d) f)))):
  XC Tp 266 #[.slice i.a i.len i.cap,.int .i64 k,.int .i64 j] h R:=
 XF ⟨[(5,6)],[],[]⟩ [.tmp 6] 33 Tryz.func266 H
theorem xg(D:Sl)(F:Int)(E:Sl)(h:zc)(R:Value->zc->Prop) (H:((Te:Option Value)=Te\/∃v,(Te:Option Value)=Td v)/\(0<=F/\F<=D.len/\(D.len:Int)<=(D.cap:Int)/\(D.cap:Int)<=(D.cap:Int))/\(((E.len:Int)==0)=Ta->R (.slice D.a D.len D.cap) h)/\(((E.len:Int)==0)=Tc->((F==D.len)=Ta->qu Tp (zao #[23,23] 23 #[.slice D.a D.len D.cap,.slice E.a E.len E.cap]) h (λb c=>∃d:Sl,b=.slice d.a d.len d.cap/\R (.slice d.a d.len d.cap) c))/\((F==D.len)=Tc->((decide ((w6 ((D.len:Int)+(E.len:Int)))>(D.cap:Int)))=Ta->((Te:Option Value)=Te\/∃v,(Td (iV F):Option Value)=Td v)/\(0<=(0:Int)/\(0:Int)<=F/\F<=D.cap/\(D.cap:Int)<=(D.cap:Int))/\qu Tp (zao #[23,3] 23 #[.slice (x9 D.a 4 ((0:Int).toNat) ((D.cap:Int).toNat)) (F.toNat-(0:Int).toNat) ((D.cap:Int).toNat-(0:Int).toNat),iV (w6 ((w6 ((D.len:Int)+(E.len:Int)))-F))]) h (λe f=>∃g:Sl,e=.slice g.a g.len g.cap/\((Te:Option Value)=Te\/∃v,(Te:Option Value)=Td v)/\(0<=F/\F<=g.len/\(g.len:Int)<=(g.cap:Int)/\(g.cap:Int)<=(g.cap:Int))/\qu Tp (zd9 #[23,23] 3 #[.slice (x9 g.a 4 F.toNat ((g.cap:Int).toNat)) ((g.len:Int).toNat-F.toNat) ((g.cap:Int).toNat-F.toNat),.slice E.a E.len E.cap]) f (λi j=>∃k,i=iV k/\((Te:Option Value)=Te\/∃v,(Te:Option Value)=Td v)/\(0<=(w6 (F+(E.len:Int)))/\(w6 (F+(E.len:Int)))<=(g.len:Int)/\(g.len:Int)<=(g.cap:Int)/\(g.cap:Int)<=(g.cap:Int))/\((Te:Option Value)=Te\/∃v,(Te:Option Value)=Td v)/\(0<=F/\F<=D.len/\(D.len:Int)<=(D.cap:Int)/\(D.cap:Int)<=(D.cap:Int))/\qu Tp (zd9 #[23,23] 3 #[.slice (x9 g.a 4 ((w6 (F+(E.len:Int))).toNat) ((g.cap:Int).toNat)) ((g.len:Int).toNat-(w6 (F+(E.len:Int))).toNat) ((g.cap:Int).toNat-(w6 (F+(E.len:Int))).toNat),.slice (x9 D.a 4 F.toNat ((D.cap:Int).toNat)) ((D.len:Int).toNat-F.toNat) ((D.cap:Int).toNat-F.toNat)]) j (λl m=>∃n,l=iV n/\R (.slice g.a g.len g.cap) m))))/\((decide ((w6 ((D.len:Int)+(E.len:Int)))>(D.cap:Int)))=Tc->((Te:Option Value)=Te\/∃v,(Td (iV (w6 ((D.len:Int)+(E.len:Int)))):Option Value)=Td v)/\(0<=(0:Int)/\(0:Int)<=(w6 ((D.len:Int)+(E.len:Int)))/\(w6 ((D.len:Int)+(E.len:Int)))<=(D.cap:Int)/\(D.cap:Int)<=(D.cap:Int))/\((Te:Option Value)=Te\/∃v,(Te:Option Value)=Td v)/\(0<=(w6 (F+(E.len:Int)))/\(w6 (F+(E.len:Int)))<=((w6 ((D.len:Int)+(E.len:Int))).toNat-(0:Int).toNat:Int)/\(((w6 ((D.len:Int)+(E.len:Int))).toNat-(0:Int).toNat:Int):Int)<=((D.cap:Int).toNat-(0:Int).toNat:Int)/\((D.cap:Int).toNat-(0:Int).toNat:Int)<=((D.cap:Int).toNat-(0:Int).toNat:Int))/\Ay Tp 367 #[.slice E.a E.len E.cap,.slice (x9 (x9 D.a 4 ((0:Int).toNat) ((D.cap:Int).toNat)) 4 ((w6 (F+(E.len:Int))).toNat) (((D.cap:Int).toNat-(0:Int).toNat:Int).toNat)) ((((w6 ((D.len:Int)+(E.len:Int))).toNat-(0:Int).toNat:Int):Int).toNat-(w6 (F+(E.len:Int))).toNat) (((D.cap:Int).toNat-(0:Int).toNat:Int).toNat-(w6 (F+(E.len:Int))).toNat)] h (λo p=>∃q,o=.bool q/\((!q)=Ta->((Te:Option Value)=Te\/∃v,(Te:Option Value)=Td v)/\(0<=(w6 (F+(E.len:Int)))/\(w6 (F+(E.len:Int)))<=((w6 ((D.len:Int)+(E.len:Int))).toNat-(0:Int).toNat:Int)/\(((w6 ((D.len:Int)+(E.len:Int))).toNat-(0:Int).toNat:Int):Int)<=((D.cap:Int).toNat-(0:Int).toNat:Int)/\((D.cap:Int).toNat-(0:Int).toNat:Int)<=((D.cap:Int).toNat-(0:Int).toNat:Int))/\((Te:Option Value)=Te\/∃v,(Te:Option Value)=Td v)/\(0<=F/\F<=((w6 ((D.len:Int)+(E.len:Int))).toNat-(0:Int).toNat:Int)/\(((w6 ((D.len:Int)+(E.len:Int))).toNat-(0:Int).toNat:Int):Int)<=((D.cap:Int).toNat-(0:Int).toNat:Int)/\((D.cap:Int).toNat-(0:Int).toNat:Int)<=((D.cap:Int).toNat-(0:Int).toNat:Int))/\qu Tp (zd9 #[23,23] 3 #[.slice (x9 (x9 D.a 4 ((0:Int).toNat) ((D.cap:Int).toNat)) 4 ((w6 (F+(E.len:Int))).toNat) (((D.cap:Int).toNat-(0:Int).toNat:Int).toNat)) ((((w6 ((D.len:Int)+(E.len:Int))).toNat-(0:Int).toNat:Int):Int).toNat-(w6 (F+(E.len:Int))).toNat) (((D.cap:Int).toNat-(0:Int).toNat:Int).toNat-(w6 (F+(E.len:Int))).toNat),.slice (x9 (x9 D.a 4 ((0:Int).toNat) ((D.cap:Int).toNat)) 4 F.toNat (((D.cap:Int).toNat-(0:Int).toNat:Int).toNat)) ((((w6 ((D.len:Int)+(E.len:Int))).toNat-(0:Int).toNat:Int):Int).toNat-F.toNat) (((D.cap:Int).toNat-(0:Int).toNat:Int).toNat-F.toNat)]) p (λr s=>∃t,r=iV t/\((Te:Option Value)=Te\/∃v,(Te:Option Value)=Td v)/\(0<=F/\F<=((w6 ((D.len:Int)+(E.len:Int))).toNat-(0:Int).toNat:Int)/\(((w6 ((D.len:Int)+(E.len:Int))).toNat-(0:Int).toNat:Int):Int)<=((D.cap:Int).toNat-(0:Int).toNat:Int)/\((D.cap:Int).toNat-(0:Int).toNat:Int)<=((D.cap:Int).toNat-(0:Int).toNat:Int))/\qu Tp (zd9 #[23,23] 3 #[.slice (x9 (x9 D.a 4 ((0:Int).toNat) ((D.cap:Int).toNat)) 4 F.toNat (((D.cap:Int).toNat-(0:Int).toNat:Int).toNat)) ((((w6 ((D.len:Int)+(E.len:Int))).toNat-(0:Int).toNat:Int):Int).toNat-F.toNat) (((D.cap:Int).toNat-(0:Int).toNat:Int).toNat-F.toNat),.slice E.a E.len E.cap]) s (λu w=>∃x,u=iV x/\R (.slice (x9 D.a 4 ((0:Int).toNat) ((D.cap:Int).toNat)) ((w6 ((D.len:Int)+(E.len:Int))).toNat-(0:Int).toNat) ((D.cap:Int).toNat-(0:Int).toNat)) w)))/\((!q)=Tc->((Te:Option Value)=Te\/∃v,(Te:Option Value)=Td v)/\(0<=(D.len:Int)/\(D.len:Int)<=((w6 ((D.len:Int)+(E.len:Int))).toNat-(0:Int).toNat:Int)/\(((w6 ((D.len:Int)+(E.len:Int))).toNat-(0:Int).toNat:Int):Int)<=((D.cap:Int).toNat-(0:Int).toNat:Int)/\((D.cap:Int).toNat-(0:Int).toNat:Int)<=((D.cap:Int).toNat-(0:Int).toNat:Int))/\qu Tp (zd9 #[23,23] 3 #[.slice (x9 (x9 D.a 4 ((0:Int).toNat) ((D.cap:Int).toNat)) 4 ((D.len:Int).toNat) (((D.cap:Int).toNat-(0:Int).toNat:Int).toNat)) ((((w6 ((D.len:Int)+(E.len:Int))).toNat-(0:Int).toNat:Int):Int).toNat-(D.len:Int).toNat) (((D.cap:Int).toNat-(0:Int).toNat:Int).toNat-(D.len:Int).toNat),.slice E.a E.len E.cap]) p (λy z=>∃A,y=iV A/\((Te:Option Value)=Te\/∃v,(Te:Option Value)=Td v)/\(0<=F/\F<=((w6 ((D.len:Int)+(E.len:Int))).toNat-(0:Int).toNat:Int)/\(((w6 ((D.len:Int)+(E.len:Int))).toNat-(0:Int).toNat:Int):Int)<=((D.cap:Int).toNat-(0:Int).toNat:Int)/\((D.cap:Int).toNat-(0:Int).toNat:Int)<=((D.cap:Int).toNat-(0:Int).toNat:Int))/\XC Tp 368 #[.slice (x9 (x9 D.a 4 ((0:Int).toNat) ((D.cap:Int).toNat)) 4 F.toNat (((D.cap:Int).toNat-(0:Int).toNat:Int).toNat)) ((((w6 ((D.len:Int)+(E.len:Int))).toNat-(0:Int).toNat:Int):Int).toNat-F.toNat) (((D.cap:Int).toNat-(0:Int).toNat:Int).toNat-F.toNat),iV (E.len:Int)] z (λB C=>B=.tuple #[]/\R (.slice (x9 D.a 4 ((0:Int).toNat) ((D.cap:Int).toNat)) ((w6 ((D.len:Int)+(E.len:Int))).toNat-(0:Int).toNat) ((D.cap:Int).toNat-(0:Int).toNat)) C)))))))):
  XC Tp 316 #[.slice D.a D.len D.cap,.int .i64 F,.slice E.a E.len E.cap] h R:=
 XF ⟨[(11,8),(15,8)],[],[]⟩ [.tmp 6] 95 Tryz.func316 H
theorem Qp(k:Sl)(l:Sl)(h:zc)(R:Value->zc->Prop) (H:(((k.len:Int) != (l.len:Int))=Ta->R (.bool Tc) h)/\(((k.len:Int) != (l.len:Int))=Tc->∃(b:Int->zc->Prop) (c:Int->zc->Nat),b 0 h/\∀d:Int,∀e:zc,b d e->((decide (d<k.len)=Ta->∃f,(k.a=Td f/\0<=d/\d<k.len)/\∃g,zd e (f.add (d.toNat*1))=Td (.string g)/\∃i,(l.a=Td i/\0<=d/\d<l.len)/\∃j,zd e (i.add (d.toNat*1))=Td (.string j)/\((!(g.toList==j.toList))=Ta->R (.bool Tc) e)/\((!(g.toList==j.toList))=Tc->(b (w6 (d+1)) e/\c (w6 (d+1)) e<c d e)))/\(decide (d<k.len)=Tc->R (.bool Ta) e)))):
  XC Tp 110 #[.slice k.a k.len k.cap,.slice l.a l.len l.cap] h R:=
 XF ⟨[],[(4,[(13,.one (.int .i64))])],[]⟩ [.tmp 4] 26 Tryz.func110 H
theorem YC(gl:Fr)(e:Tr)(c:Bt)(R:Int->Prop) (H:((e.kind==6)=Ta->PC Tp gl 317 [Arg.mk (.row .str) e.keys,Arg.mk .str c] [.int .i64] (λa:Int=>R a))/\((e.kind==6)=Tc->PC Tp gl 315 [Arg.mk .str c] [.int .i64,.bool] (λb:Int×Bool=>((bif (bif b.2 then(e.kind==5)else Tc)then(decide (b.1<e.items.length))else Tc)=Ta->R b.1)/\((bif (bif b.2 then(e.kind==5)else Tc)then(decide (b.1<e.items.length))else Tc)=Tc->R (-1))))):
  PC Tp gl 264 [Arg.mk .tree e,Arg.mk .str c] [.int .i64] R:=
 PF ⟨[],[],[],[]⟩ [.tmp 4] 33 Tryz.func264 H
end
section
variable {gl:Fr} {v x:Tr} {h:zc} {D:List Nat} {rb:Nat}
theorem yI(n:GL gl){s:Bt}(m:(lb s).length<=1048576){R:Int->Prop}(h:R (qh v s)):PC Tp gl 264 [Arg.mk .tree v,Arg.mk .str s] [.int .i64] R:=by
 apply YC;unfold qh at h;refine⟨λf=>?_,λf=>?_⟩;have b:v.kind=6:=by simpa using f
 rw[zA b]at h;exact RL h;have b:v.kind≠6:=by simpa using f
 rw[zv b]at h;have hi:=GY n (l:=lb s) m (R:=λr=>r=ir (lb s)) rfl;rw[jp]at hi;refine hi.mono λr k=>?_;subst k;refine⟨λe=>?_,λe=>?_⟩;have c:((ir (lb s)).2=Ta/\v.kind=5)/\(ir (lb s)).1<v.items.length:=by simpa using e
 rw[zA c.1.2,zA ⟨c.1.1,c.2⟩]at h;exact h;by_cases i:v.kind=5;rw[zA i,zv (λj=>by simp[j.1,i,j.2]at e)]at h;exact h;rw[zv i]at h;exact h
theorem Plc.ld{p:Addr}{T:Tr->Tr}(H:Plc h D rb p x T):∃(sk si:Sl) (j:List Nat),ze h p 0 (zm x sk si)/\OT h x j (zm x sk si)/\(∀c∈j,c∈D)/\p.spot=Te/\(p.block=rb\/p.block∈D)/\p.block∉j:=by obtain⟨b,o,cs,j,rfl,r,u,ot,l,f,k,n,q,t⟩:=H;obtain⟨sk,si,e⟩:=ot.cells;have m:cut cs o 4=zm x sk si:=e;rw[m]at ot;exact⟨sk,si,j,mH r (vs:=zm x sk si) (o:=o) (i:=0) m,ot,k,rfl,f,l⟩
theorem Plc.keepK{h h':zc}{p:Addr}{T:Tr->Tr}(H:Plc h D rb p x T)(e:rb<h.size)(k:Keep h.size h h'):Plc h' D rb p x T:=by
 have j:∀c∈D,c<h.size:=by obtain⟨b,o,cs,l,_,_,_,_,_,_,_,_,f,_⟩:=H;exact f
 exact H.keep (λc i=>k.get c (by rcases i with rfl|i;exact e;exact j c i)) k.size
set_option maxHeartbeats 1000000 in
theorem zR(hg:GL gl)(hv:Sm v)(ho:yr zi v=Ta){p:List Bt}(hp:SL p){M:Fr}{u2:Value}(hM:Fr.le gl M)(ag:AgM M h)(V:Doc h rb v D)(J:RdV M (.row .str) p u2){K:Value->zc->Prop} (O:qq v p=Te->∀h',Keep h.size h h'->K (.pointer Te) h') (z:∀x,qq v p=Td x->Sm x->yr zi x=Ta->∀h' c,Keep h.size h h'->Plc h' D rb c x (λy=>setP v p y)->K (.pointer (Td c)) h'):
  XC Tp 213 #[.pointer (Td ⟨rb,0,Te⟩),u2] h K:=by
 obtain⟨sp,rfl,Z⟩:=Xq J;obtain⟨E,aj,ab⟩:=rowLen Z;have ai:=hp.n;have af:=V.lt rb (.inl rfl);apply LJ (Td ⟨rb,0,Te⟩) sp;refine⟨⟨rb,0,Te⟩,rfl,λpl i g=>∃(k:Nat) (c:Addr) (x:Tr) (T:Tr->Tr),i=(k:Int)/\k<=p.length/\pl=Td c/\Keep h.size h g/\Plc g D rb c x T/\Sm x/\yr zi x=Ta/\qq v p=qq x (p.drop k)/\(qq v p≠Te->∀y,T (setP x (p.drop k) y)=setP v p y),λ_ i _=>p.length-i.toNat,⟨0,_,v,id,rfl,by omega,rfl,Keep.refl _ _,?_,hv,ho,by simp,λ_ y=>by simp⟩,?_⟩;rw[zf];exact V.plc;rintro pl i g ⟨k,c,x,T,rfl,hk,rfl,F,plc,Y,l,q,Q⟩;have zg:=F.size;refine⟨λA=>?_,λA=>?_⟩;have b:k<p.length:=by rw[E]at A;simp at A;omega
 have m:p.drop k=p[k]::p.drop (k+1):=zbt b;rw[m]at q Q;have agg:=ag.keep F;refine jP agg Z b rfl rfl ?_;obtain⟨sk,si,U,N,ot,ae,_⟩:=Plc.ld plc;refine⟨c,rfl,x.kind,x.text,sk,si,N,?_⟩;have I:PC Tp gl 264 [Arg.mk .tree x,Arg.mk .str p[k]] [.int .i64] (λr=>r=qh x p[k]):=yI hg (hp.s _ (zak b)) rfl;refine I.go (vs:=[.agg #[.int .i64 x.kind,.string x.text,aK sk,aK si],.string p[k]]) (hM.trans (Jx agg U)) (MxL.ag agg U) (zr ot.rdv (zr (rdStr _) qj)) λw u ah r f C S=>?_;have S:r=qh x p[k]:=S;subst S;have ac:=f.keep.size;have t:Keep h.size h u:=F.trans f.keep zg;refine⟨qh x p[k],xV C,λP=>?_,λB=>?_⟩;refine O ?_ u t;rw[q,s9 (by simpa using P)];rcases An (qt l) p[k]with e|⟨j,e,G⟩;rw[e]at B;simp at B;have o:=Plc.keepK plc (by omega) f.keep;obtain⟨xi,aa,f1,f2,f3,f4⟩:=o.step G;rw[e];refine⟨c,rfl,xi,f1,aa,⟨f2,by omega,by omega⟩,?_⟩;rw[je b (by omega),zae];have hm:=zak G;rw[jw e G]at q;refine⟨⟨k+1,aa.add (j*4),x.items[j],_,rfl,by omega,rfl,t,f4,Y.item hm,qf l hm,q,λH y=>?_⟩,by simp only[zae];omega⟩;have:=Q H y;rw[Ww e G]at this;exact this;have b:k=p.length:=by rw[E]at A;simp at A;omega
 subst b;rw[zec,wo]at q;refine z x q Y l g c F ?_;have L:T=λy=>setP v p y:=funext λy=>by have:=Q (by rw[q];exact λh=>by cases h) y;rw[zec]at this;exact this
 rw[<-L];exact plc
end
section
variable {h:zc} {b k c m bv:Nat} {cs:Array Value} {K:Value -> zc -> Prop} {vs X:List Value}
theorem Ga:(∀v∈(zb7 (zfo #[.int .i64 0,.string ⟨#[]⟩,.slice Te 0 0,.slice Te 0 0]).cells 1).toList,v.oneCell'=Ta)/\(zb7 (zfo #[.int .i64 0,.string ⟨#[]⟩,.slice Te 0 0,.slice Te 0 0]).cells 1).toList.length=1*4:=by decide +kernel
theorem Et:(∀v∈(zb7 (zaz ⟨#[]⟩).cells 1).toList,v.oneCell'=Ta)/\(zb7 (zaz ⟨#[]⟩).cells 1).toList.length=1*1:=by decide +kernel
theorem KG{s:Sl}(n:s.a=Td ⟨b,0,Te⟩)(o:Blk h b cs)(A:s.cap*4<=cs.size)(i:s.len<=s.cap)(h1:∀u∈cut cs 0 (s.len*4),u.oneCell'=Ta)(f:k<s.len)(l:s.len<=140737488355328) (q:∀(h':zc) (cs':Array Value),Blk h' b cs'->cs'.size=cs.size->h'.size=h.size->(∀j,j≠b->h'[j]?=h[j]?)->cut cs' 0 ((s.len-1)*4)=(cut cs 0 (s.len*4)).take (k*4)++(cut cs 0 (s.len*4)).drop ((k+1)*4)->K (.slice s.a (s.len-1) s.cap) h'):
  XC Tp 265 #[aK s,.int .i64 (k:Int),.int .i64 ((k+1:Nat):Int)] h K:=by
 apply xf s (k:Int) ((k+1:Nat):Int);refine⟨.inr ⟨_,rfl⟩,⟨by omega,by omega,by omega,by omega⟩,λF=>?_,λ_=>⟨.inl rfl,⟨by omega,by omega,by omega,by omega⟩,.inl rfl,⟨by omega,by omega,by omega,by omega⟩,?_⟩⟩;grind;simp only[zae,zdz,zdo,Zc];refine GF elemTree n o A i h1 f λB b2 C x=>⟨⟨s.a,s.len-1,s.cap⟩,rfl,.inr ⟨_,rfl⟩,⟨by omega,by simp,by grind,by omega⟩,?_⟩;simp only;have D:s.len*4<=s.cap*4:=za8 _ i;have c:(fR cs (k*4) (cut cs ((k+1)*4) ((s.len-(k+1))*4))).size=cs.size:=yv (by rw[js (by omega)];omega);have e:s.len=s.len-1+1:=by omega
 rw[show s.len-(s.len-1)=s.len-1+1-(s.len-1)by omega];refine EL elemTree Ga.1 Ga.2 n b2 (by omega) (by omega) λw t b3 y r E z=>⟨rfl,?_⟩;exact q w t b3 (by rw[y,c]) (by omega) (λj m=>(z j m).trans (x j m)) (Iz (by omega) f r)
theorem Ul{s:Sl}(m:s.a=Td ⟨b,0,Te⟩)(n:Blk h b cs)(z:s.cap*1<=cs.size)(f:s.len<=s.cap)(h1:∀u∈cut cs 0 (s.len*1),u.oneCell'=Ta)(e:k<s.len)(i:s.len<=140737488355328) (o:∀(h':zc) (cs':Array Value),Blk h' b cs'->cs'.size=cs.size->h'.size=h.size->(∀j,j≠b->h'[j]?=h[j]?)->cut cs' 0 ((s.len-1)*1)=(cut cs 0 (s.len*1)).take (k*1)++(cut cs 0 (s.len*1)).drop ((k+1)*1)->K (.slice s.a (s.len-1) s.cap) h'):
  XC Tp 266 #[aK s,.int .i64 (k:Int),.int .i64 ((k+1:Nat):Int)] h K:=by
 apply Qg s (k:Int) ((k+1:Nat):Int);refine⟨.inr ⟨_,rfl⟩,⟨by omega,by omega,by omega,by omega⟩,λE=>?_,λ_=>⟨.inl rfl,⟨by omega,by omega,by omega,by omega⟩,.inl rfl,⟨by omega,by omega,by omega,by omega⟩,?_⟩⟩;grind;simp only[zae,zdz,zdo,Zc];refine GF Wt m n z f h1 e λA b2 B w=>⟨⟨s.a,s.len-1,s.cap⟩,rfl,.inr ⟨_,rfl⟩,⟨by omega,by simp,by grind,by omega⟩,?_⟩;simp only;have C:s.len*1<=s.cap*1:=za8 _ f;have c:(fR cs (k*1) (cut cs ((k+1)*1) ((s.len-(k+1))*1))).size=cs.size:=yv (by rw[js (by omega)];omega);rw[show s.len-(s.len-1)=s.len-1+1-(s.len-1)by omega];refine EL Wt Et.1 Et.2 m b2 (by omega) (by omega) λt r b3 x q D y=>⟨rfl,?_⟩;exact o t r b3 (by rw[x,c]) (by omega) (λj l=>(y j l).trans (w j l)) (Iz (by omega) e q)
theorem qN{a:Option Addr}(e:a=Td ⟨b,0,Te⟩)(h:k<c):x9 a 4 k c=Td ⟨b,k*4,Te⟩:=by unfold x9;rw[zv (by omega),e];simp[zf]
theorem Hl{P vs X:List Value}{k q:Nat}(c:P.length=k*4)(b:vs.length=4):(P++vs++X)[q]?=if q<k*4 then P[q]? else if q<(k+1)*4 then vs[q-k*4]? else X[q-(k+1)*4]?:=by grind
theorem Nw{c2:Array Value}(c:vs.length=4)(b:(k+1)*4+X.length<=c2.size)(e:m=(k+1)*4+X.length):cut (fR (fR c2 ((k+1)*4) X) (k*4) vs) 0 m=cut c2 0 (k*4)++vs++X:=by subst e;have i:=yv b;have f:(cut c2 0 (k*4)).length=k*4:=js (by omega);apply zbd;intro q;rw[zk,Hl f c];split;rw[zas,jg (by omega),c];split;rw[jg b,zA (by omega),zk,zA (by assumption),zas];by_cases h:q<(k+1)*4;grind;rw[zv (by omega),zv h,jg b,zv (by omega),zA (by omega)];grind
theorem V7{c2:Array Value}(f:vs.length=4)(j:(k+1)*4+X.length<=c2.size)(e:m=(k+1)*4+X.length):cut (fR (fR c2 (k*4) vs) ((k+1)*4) X) 0 m=cut c2 0 (k*4)++vs++X:=by
 subst e;have b:k*4+vs.length<=c2.size:=by omega
 have i:=yv b;have h:(cut c2 0 (k*4)).length=k*4:=js (by omega);apply zbd;intro q;rw[zk,Hl h f];split;rw[zas,jg (by rw[i];omega)];by_cases h1:q<k*4;rw[zA (by omega),zA h1,jg b,zA h1,zk,zA h1,zas];rw[zv h1];by_cases c:q<(k+1)*4;rw[zA c,zA c,jg b,zv h1,zA (by omega)];grind;grind
theorem LF{vs cs:Array Value}(t:Blk h bv vs)(q:Blk h b cs)(r:0<cs.size)(f:bv≠b){o l c:Nat}(u:K (.bool Tc) h):
  Ay Tp 367 #[.slice (Td ⟨bv,0,Te⟩) 1 1,.slice (Td ⟨b,o,Te⟩) l c] h K:=by
 intro B d;obtain⟨n,j⟩:=t;obtain⟨x,m⟩:=q;refine⟨.bool Tc,d,h,?_,u⟩;obtain⟨i,hi,hz,y,k⟩:=elemTree.info;rw[run_callFunc_extern Tryz.func367 (by kernel_rfl) (by kernel_rfl) (by kernel_rfl) (e:=Extern.SlicesOverlaps.overlaps #[23,23] #[4]) (by kernel_rfl),
  Lib.run_overlaps_apart (mk B d h) 23 4 25 elemTree.slice 4 (λw=>by simp) ⟨bv,0,Te⟩ ⟨b,o,Te⟩ 1 1 l c f n x vs.size cs.size (by
   show(match h[bv]? with
    |some (.cells c elem _)=>Td (elem,c.size)
    |_=>Te)=_
   rw[j]) (by
   show(match h[b]? with
    |some (.cells c elem _)=>Td (elem,c.size)
    |_=>Te)=_
   rw[m]) (by omega) (by
   show(match h[bv]? with
    |some (.cells _ _ (lo,hi))=>decide (lo<=0)&&decide (0<hi)
    |_=>Tc)=_
   rw[j];simp) (by
   show(match h[bv]? with
    |some (.cells _ _ (lo,hi))=>decide (lo<=vs.size)&&decide (vs.size<hi)
    |_=>Tc)=_
   rw[j];simp)]
 rfl
set_option maxHeartbeats 1000000 in
theorem ZC{s:Sl}(H:RowO h s b cs 4)(h1:∀u∈cut cs 0 (s.len*4),u.oneCell'=Ta)(M:Blk h bv vs.toArray)(f:vs.length=4)(aa:∀u∈vs,u.oneCell'=Ta)(e:bv≠b)(af:(s.len+1)*72<=140737488355328)(hk:k<=s.len) (hK:∀(F:Sl) (h':zc) (b':Nat) (cs':Array Value),RowN h h' F b b' cs' 4 (s.len+1) ((cut cs 0 (s.len*4)).take (k*4)++vs++(cut cs 0 (s.len*4)).drop (k*4))->K (aK F) h'):
  XC Tp 316 #[aK s,.int .i64 (k:Int),.slice (Td ⟨bv,0,Te⟩) 1 1] h K:=by
 have ai:=H.le;apply xg s (k:Int) ⟨Td ⟨bv,0,Te⟩,1,1⟩;simp only;have w1:w6 (((s.len:Nat):Int)+((1:Nat):Int))=((s.len+1:Nat):Int):=je (n:=s.len+1) (by omega) (by omega);have w2:w6 ((k:Int)+((1:Nat):Int))=((k+1:Nat):Int):=je (n:=k+1) (by omega) (by omega);refine⟨.inl trivial,⟨by omega,by omega,by omega,by omega⟩,λt=>by simp at t,λ_=>⟨λt=>?_,λt=>?_⟩⟩;have z:k=s.len:=by simp at t;omega
 subst z;refine oK elemTree H M f aa (by omega) (by omega) λF h' b' cs' N=>⟨F,rfl,?_⟩;refine hK F h' b' cs' ?_;have x:(cut cs 0 (s.len*4)).length<=s.len*4:=by unfold cut;simp;omega
 rw[zbu x,zce x,zbs];exact N;have z:k<s.len:=by(have:k≠s.len:=by simp at t;omega);omega
 rcases H.at_ with⟨h0,_⟩|⟨C,y,hc⟩;omega;have x:(cut cs 0 (s.len*4)).length=s.len*4:=js (by omega);have t1:(cut cs 0 (s.len*4)).take (k*4)=cut cs 0 (k*4):=by unfold cut;rw[zcm,zet,zda (by omega)]
 have t2:(cut cs 0 (s.len*4)).drop (k*4)=cut cs (k*4) ((s.len-k)*4):=by unfold cut;rw[zcm,ze7];congr 1;omega
 rw[w1,w2];have o:∀u∈cut cs (k*4) ((s.len-k)*4),u.oneCell'=Ta:=λu hu=>h1 u (zde (t2 ▸ hu));refine⟨λZ=>?_,λZ=>?_⟩;have I:s.cap<s.len+1:=by simp at Z;omega
 simp only[zae,zdz,zdo,Zc];have w3:w6 (((s.len+1:Nat):Int)-(k:Int))=((s.len+1-k:Nat):Int):=by rw[io (by omega)];omega
 rw[w3];refine⟨.inr ⟨_,rfl⟩,⟨by omega,by omega,by omega,by omega⟩,?_⟩;intro B d;obtain⟨i,hi,hz,A,J⟩:=elemTree.info;have q:(zc3 i.size k (.slice s.a k s.cap)).run Tp (mk B d h).drew=.ok (cut cs 0 (k*4)).toArray (mk B d h).drew:=by rw[A];exact Yg (s:=⟨s.a,k,s.cap⟩) (n:=h.size) (by rw[C];exact tB y) (js (by grind)) (by omega) B (d+1)
 have hr:=Lib.run_append_grow_zeros (P:=Tp) (mk B d h) 23 3 23 25 i _ .i64 .i64 elemTree.slice (by kernel_rfl) hi hz s.a k s.cap (cut cs 0 (k*4)) q (s.len+1-k) (by omega) (by rw[A];omega) (by omega) (by omega) (by rw[J];omega) (by rw[J];exact growslice_fits (by omega) (by omega));have E:=grownCap_ge (mk B d h) (k+(s.len+1-k)) s.cap 25;generalize grownCap (mk B d h) (k+(s.len+1-k)) s.cap 25=c at *;rw[show k+(s.len+1-k)=s.len+1 by omega]at hr E;refine⟨_,d+1,_,hr,⟨Td ⟨h.size,0,Te⟩,s.len+1,c⟩,rfl,.inl trivial,⟨by omega,by grind,by grind,by omega⟩,?_⟩;simp only;generalize L:(cut cs 0 (k*4)).toArray++zb7 (zfo #[.int .i64 0,.string ⟨#[]⟩,.slice Te 0 0,.slice Te 0 0]).cells (s.len+1-k)++zb7 (zfo #[.int .i64 0,.string ⟨#[]⟩,.slice Te 0 0,.slice Te 0 0]).cells (c-(s.len+1))=blk;have D:∀m,(zb7 (zfo #[.int .i64 0,.string ⟨#[]⟩,.slice Te 0 0,.slice Te 0 0]).cells m).size=m*4:=λm=>by rw[size_zeroCells,elemTree.zero]
 have hP:(cut cs 0 (k*4)).length=k*4:=js (by omega);have S:blk.size=c*4:=by rw[<-L,Array.size_append,Array.size_append,D,D];simp only[zeo,hP];omega
 have ah:cut blk 0 (k*4)=cut cs 0 (k*4):=by rw[<-L];unfold cut;rw[zcm,Array.toList_append,Array.toList_append,za9];rw[show((List.take (k*4) (List.drop 0 cs.toList)).toArray).toList=cut cs 0 (k*4)from rfl,List.take_append,zbu (by omega),hP,ze9,zeu,zbs];rfl
 have bN:Blk (h.push (.cells blk 25)) h.size blk:=Blk.new _ _ _;have T:Keep h.size h (h.push (.cells blk 25)):=Keep.push _ _ (zac _);show qu Tp _ (h.push (.cells blk 25)) _;have sN:(h.push (.cells blk 25)).size=h.size+1:=zaf _;generalize h.push (.cells blk 25)=hN at *;rw[qN (a:=Td ⟨h.size,0,Te⟩) rfl (show k<c by omega),qN (a:=Td ⟨h.size,0,Te⟩) rfl (show k+1<c by omega),qN C (show k<s.cap by omega)];have ab:=M.ofKeep T;have cv:cut vs.toArray 0 (1*4)=vs:=by unfold cut;rw[zcm];exact zbu (by simp[f])
 refine tj elemTree bN ab (m:=1) (by grind) (by simp[f]) (by omega) (by grind) λV Q z8 G=>⟨1,rfl,.inl trivial,⟨by omega,by omega,by omega,by omega⟩,.inl trivial,⟨by omega,by omega,by omega,by omega⟩,?_⟩;rw[cv]at Q;have ae:=y.lt;have Y:Blk V b cs:=(y.ofKeep T).keep (G b (by omega));have O:(fR blk (k*4) vs).size=blk.size:=yv (by omega);have hX:(cut cs (k*4) ((s.len-k)*4)).length=(s.len-k)*4:=js (by omega);refine tj elemTree Q Y (m:=s.len-k) (by simp) (by omega) (by rw[O];omega) o λw l ac r=>⟨((s.len-k:Nat):Int),rfl,?_⟩;refine hK ⟨Td ⟨h.size,0,Te⟩,s.len+1,c⟩ w h.size _ ⟨rfl,rfl,E,l,by rw[yv (by omega),O,S];simp,?_,.inr (zac _),by omega,λj hj e=>by rw[r j e,G j e];exact T.get j hj⟩;grind [V7];have I:s.len+1<=s.cap:=by simp at Z;omega
 simp only[zae,zdz,zdo,Zc,Int.cast_ofNat_Int,Int.sub_zero];rw[qN C (show k<s.cap by omega),qN C (show k+1<s.cap by omega)];refine⟨.inr ⟨_,rfl⟩,⟨by omega,by omega,by omega,by omega⟩,.inl trivial,⟨by omega,by omega,by omega,by omega⟩,?_⟩;refine LF M y (by omega) e ⟨Tc,rfl,λ_=>⟨.inl trivial,⟨by omega,by omega,by omega,by omega⟩,.inl trivial,⟨by omega,by omega,by omega,by omega⟩,?_⟩,λt=>by cases t⟩;have hX:(cut cs (k*4) ((s.len-k)*4)).length=(s.len-k)*4:=js (by omega);refine tj elemTree y y (m:=s.len-k) (by grind) (by omega) (by omega) o λV Q z8 G=>⟨((s.len-k:Nat):Int),rfl,.inl trivial,⟨by omega,by omega,by omega,by omega⟩,?_⟩;have O:(fR cs ((k+1)*4) (cut cs (k*4) ((s.len-k)*4))).size=cs.size:=yv (by rw[hX];omega);have U:Blk V bv vs.toArray:=M.keep (G bv e);have cv:cut vs.toArray 0 (1*4)=vs:=by unfold cut;rw[zcm];exact zbu (by simp[f])
 refine tj elemTree Q U (m:=1) (by grind) (by simp[f]) (by rw[O];omega) (by grind) λw l ac r=>⟨1,rfl,?_⟩;rw[cv]at l;refine hK ⟨s.a,s.len+1,s.cap⟩ w b _ ⟨C,rfl,I,l,by grind [yv],?_,.inl rfl,by omega,λj hj e=>(r j e).trans (G j e)⟩;grind [Nw]
end
section
variable {h:zc} {cs0:Array Value} {o:Nat} {a b c d v:Value}
structure PlcP (h:zc) (D:List Nat) (rb:Nat) (p:Addr) (x:Tr) (T:Tr->Tr) (pb o:Nat) (cs0:Array Value) (sk si:Sl) (bk bb:List Nat) (b:Nat) (cs:Array Value) (bf:Nat->List Nat):Prop where
 ad:p=⟨pb,o,Te⟩
 blk:Blk h pb cs0
 fit:o+4<=cs0.size
 cell:cut cs0 o 4=zm x sk si
 tr:OTp h x sk si bk bb b cs bf
 pin:pb=rb\/pb∈D
 nk:pb∉bk
 nb:pb∉bb
 nf:∀i,i<x.items.length->pb∉bf i
 ik:∀c∈bk,c∈D
 ib:∀c∈bb,c∈D
 jf:∀i,i<x.items.length->∀c∈bf i,c∈D
 rn:rb∉D
 lt:∀c∈D,c<h.size
 put:∀(h':zc) (x':Tr) (cells':List Value) (b':List Nat),(∀c,c≠pb->c∉bk->c∉bb->(∀i,i<x.items.length->c∉bf i)->(c=rb\/c∈D)->h'[c]?=h[c]?)->Blk h' pb (fR cs0 o cells')->OT h' x' b' cells'->(∀c∈b',(c∈bk\/c∈bb\/∃i,i<x.items.length/\c∈bf i)\/(c≠rb/\c∉D)) ->
   ∃D',Doc h' rb (T x') D'/\∀c∈D',c∈D\/c∈b'
theorem Plc.parts{D:List Nat}{rb:Nat}{p:Addr}{x:Tr}{T:Tr->Tr}(H:Plc h D rb p x T):∃pb o cs0 sk si bk bb b cs bf,PlcP h D rb p x T pb o cs0 sk si bk bb b cs bf:=by obtain⟨pb,o,cs0,F,rfl,z,C,ot,l,k,f,n,q,y⟩:=H;obtain⟨sk,si,bk,bb,b,cs,bf,e,P,rfl⟩:=ot.p;refine⟨pb,o,cs0,sk,si,bk,bb,b,cs,bf,rfl,z,C,e,P,k,λj=>l (yw.2 (.inl j)),λj=>l (yw.2 (.inr (.inl j))),λi hi j=>l (yw.2 (.inr (.inr ⟨i,hi,j⟩))),λc m=>f c (yw.2 (.inl m)),λc m=>f c (yw.2 (.inr (.inl m))),λi hi c m=>f c (yw.2 (.inr (.inr ⟨i,hi,m⟩))),n,q,λh' A cells' b' B w u r=>?_⟩;exact y h' A cells' b' (λc h1 t E=>B c h1 (λj=>t (yw.2 (.inl j))) (λj=>t (yw.2 (.inr (.inl j)))) (λi hi j=>t (yw.2 (.inr (.inr ⟨i,hi,j⟩)))) E) w u λc m=>(r c m).imp yw.2 id
theorem BP(k:o+4<=cs0.size)(e:cut cs0 o 4=[a,b,c,d]):fR cs0 (o+3) [v]=fR cs0 o [a,b,c,v]:=by
 apply zfb;apply zbd;intro q;rw[jg (by simp;omega),jg (by simp;omega)];simp only[zaw,zb5];have h:∀j,j<4->cs0.toList[o+j]?=[a,b,c,d][j]?:=λj i=>by rw[<-e,zk,zA i]
 by_cases h1:q<o;rw[zA (by omega),zA h1];rw[zv h1];by_cases f:q<o+3;rw[zA f,zA (by omega)];have:=h (q-o) (by omega);rw[show o+(q-o)=q by omega]at this;rw[this];rcases(show q-o=0\/q-o=1\/q-o=2 by omega)with e|e|e <;> rw[e] <;> rfl;rw[zv f];by_cases l:q<o+4;rw[zA (by omega),zA (by omega),show q-(o+3)=0 by omega,show q-o=3 by omega];rfl;rw[zv (by omega),zv (by omega)]
theorem GG(k:o+4<=cs0.size)(e:cut cs0 o 4=[a,b,c,d]):fR cs0 (o+2) [v]=fR cs0 o [a,b,v,d]:=by
 apply zfb;apply zbd;intro q;rw[jg (by simp;omega),jg (by simp;omega)];simp only[zaw,zb5];have h:∀j,j<4->cs0.toList[o+j]?=[a,b,c,d][j]?:=λj i=>by rw[<-e,zk,zA i]
 by_cases h1:q<o;rw[zA (by omega),zA h1];rw[zv h1];by_cases f:q<o+2;rw[zA f,zA (by omega)];have:=h (q-o) (by omega);rw[show o+(q-o)=q by omega]at this;rw[this];rcases(show q-o=0\/q-o=1 by omega)with e|e <;> rw[e] <;> rfl;rw[zv f];by_cases l:q<o+3;rw[zA (by omega),zA (by omega),show q-(o+2)=0 by omega,show q-o=2 by omega];rfl;rw[zv (by omega)];by_cases m:q<o+4;rw[zA (by omega),show q=o+3 by omega,h 3 (by omega),show o+3-o=3 by omega];rfl;rw[zv (by omega)]
theorem OTp.one{v:Tr}{sk si:Sl}{bk bb:List Nat}{b:Nat}{cs:Array Value}{bf:Nat->List Nat}(H:OTp h v sk si bk bb b cs bf):∀u∈cut cs 0 (si.len*4),u.oneCell'=Ta:=by
 intro u e;rw[H.hn.1]at e;obtain⟨q,c⟩:=List.getElem?_of_mem e;rw[zk]at c;split at c;rename_i f;have hi:q / 4<v.items.length:=by omega
 refine(H.hi (q / 4) hi).one u (zcg (i:=q % 4) ?_);rw[zk,zA (by omega),show q / 4*4+q % 4=0+q by omega];exact c;cases c
end
section
structure Turn (h h':zc) (rb:Nat) (D bw D':List Nat):Prop where
 size:h.size<=h'.size
 old:∀c,c<h.size->c≠rb->c∉D->h'[c]?=h[c]?
 own:∀c∈D',c∈D\/c∈bw\/h.size<=c
set_option maxHeartbeats 2000000 in
theorem Kj{gl:Fr}(hg:GL gl){x w:Tr}{s:Bt}(hs:(lb s).length<=1048576){h:zc}{M:Fr}{rb:Nat}{D:List Nat}{p:Addr}{T:Tr->Tr}(hM:Fr.le gl M)(ag:AgM M h)(H:Plc h D rb p x T)(aG:rb<h.size){bw:List Nat}{G F:Sl}(ow:OT h w bw (zm w G F))(y:∀c∈bw,c≠rb/\c∉D)(hx:x.items.length<=1000000000){K:Value->zc->Prop} (Q:me x s=Te->∀h',Keep h.size h h'->K (.int .i64 8) h') (ak:∀k,me x s=Td k->∀h' D',Doc h' rb (T (nY x k w)) D'->Turn h h' rb D bw D'->K (.int .i64 0) h'):
  XC Tp 263 #[.pointer (Td p),.string s,.agg #[.int .i64 w.kind,.string w.text,aK G,aK F]] h K:=by
 obtain⟨pb,o,cs0,sk,si,bk,bb,b,cs,bf,P⟩:=Plc.parts H;have ay:=P.ad;subst ay;have aA:pb<h.size:=P.blk.lt;apply VL (Td ⟨pb,o,Te⟩) s w.kind w.text G F;intro h1;have z1:h1.size=h.size+1:=zaf _;have k1:Keep h.size h h1:=Keep.push _ _ (zac _);have b1:Blk h1 h.size (zm w G F).toArray:=Blk.new _ _ _;clear_value h1;have hi:=GY (gl:=gl) hg (l:=lb s) hs (R:=λr=>r=ir (lb s)) rfl;rw[jp]at hi;refine hi.go (vs:=[.string s]) hM (ag.keep k1) (zr (rdStr _) qj) λv z M3 r L3 Z hr=>?_;have hr:r=ir (lb s):=hr;subst hr;have z3:=L3.keep.size;have k3:Keep h.size h z:=k1.trans L3.keep (by omega);have b3:Blk z h.size (zm w G F).toArray:=b1.ofKeep L3.keep;obtain⟨us,⟨x1,aN,rfl,r1,x2,rfl,r2⟩,rfl⟩:=Z;rw[Y9 rfl]at r1 r2;obtain rfl:x1=.int .i64 (ir (lb s)).1:=by simpa[Rd]using r1
 obtain rfl:x2=.bool (ir (lb s)).2:=by simpa[Rd]using r2
 refine⟨(ir (lb s)).1,(ir (lb s)).2,rfl,λK8 aD=>?_⟩;have q:=P.tr.hn.1;have u:zd z (zab ⟨pb,o,Te⟩ 3)=Td (aK si):=by
  refine(P.blk.ofKeep k3).cellAdd ?_;have:(cut cs0 o 4)[3]?=Td (aK si):=by rw[P.cell];rfl
  rw[zk,zA (by omega)]at this;rw[<-zbh];exact this
 have A:∀k:Nat,me x s=Td k->k<=x.items.length->K8 (k:Int) z:=by
  intro k Y hk;refine aD (k:Int) z ⟨⟨pb,o,Te⟩,rfl,si,u,w.kind,w.text,G,F,b3.ld (cs:=zm w G F),?_⟩;intro n;have aJ:n.size=z.size+1:=zaf _;have ai:Keep z.size z n:=Keep.push _ _ (zac _);have aF:Blk n z.size (zm w G F).toArray:=Blk.new _ _ _;refine⟨ai.get _ (P.blk.ofKeep k3).lt,?_⟩;clear_value n;have kk:Keep h.size h n:=k3.trans ai (by omega);obtain⟨b0,an,ac⟩:∃b0,RowO n si b0 cs 4/\((b0=b/\b∈bb)\/b0=n.size):=by have aa:=OTp.row P.tr (h':=n) (λc f=>kk.get c (P.lt c (P.ib c f)));rcases P.tr.hz with⟨h0,_,L⟩|⟨aC,_⟩;exact⟨n.size,⟨aa.le,.inl ⟨by rw[q,h0];rfl,L⟩⟩,.inr rfl⟩;exact⟨b,aa,.inl ⟨rfl,by rw[aC];simp⟩⟩
  have ax:z.size≠b0:=by rcases ac with⟨e,j⟩|e;have:=P.lt b (P.ib b j);omega;omega
  refine ZC an (OTp.one P.tr) aF rfl (Jz w G F) ax (by omega) (by omega) λs' ar b' cs' N=>⟨s',rfl,⟨pb,o,Te⟩,rfl,?_⟩;rw[q]at N;have E:(b'=b/\b∈bb)\/n.size<=b':=by rcases N.new with e|e;rcases ac with⟨B,j⟩|B;exact .inl ⟨by rw[e,B],j⟩;exact .inr (by omega);exact .inr e
  have J:∀c,c<h.size->c∉bb->c≠b':=λc f V e=>by rcases E with⟨B,j⟩|B;exact V (by rw[e,B];exact j);omega
  have aj:∀c,c<h.size->c∉bb->ar[c]?=h[c]?:=λc f V=>by rw[N.old c (by omega) (J c f V)];exact kk.get c f
  have aL:=N.grow;have aH:Blk ar pb cs0:=P.blk.keep (aj pb aA P.nb);rw[zf];refine Zg (vs:=[aK s']) ud aH rfl tK (by have:=P.fit;show o+3+1<=_;omega) (by simp[Value.oneCell',aK]) λC ah aM az=>?_;rw[BP P.fit P.cell]at ah;have t:∀c,c<h.size->c∉bb->c≠pb->C[c]?=h[c]?:=λc f V hp=>(az c hp).trans (aj c f V);have ae:∀c,c∉D->c∉bb:=λc f j=>f (P.ib c j);have am:∀c,c≠rb->c∉D->c≠pb:=λc h1 L e=>by rcases P.pin with B|B;exact h1 (by rw[e,B]);exact L (by rw[e];exact B)
  have au:OT C w bw (zm w G F):=ow.frame λc f=>t c (ow.lt c f) (ae c (y c f).2) (am c (y c f).1 (y c f).2);have O:∀i,i<x.items.length->∀c∈bf i,c∉bb:=λi m c f j=>P.tr.d3 c j i m f;have I:∀c,c∈D->c∉bb->c≠b':=λc f V=>J c (P.lt c f) V;have S:Blk C b' cs':=N.blk.keep (az b' (by
   rcases E with⟨e,j⟩|e;rw[e];exact λB=>P.nb (B ▸ j)
   omega))
  have af:=(P.tr.ins hk au (λi m c f=>t c (P.lt c (P.jf i m c f)) (O i m c f) (λe=>P.nf i m (e ▸ f))) N.a S N.len N.cap N.size (by omega) N.cut (λi m j=>I b' (P.jf i m b' j) (O i m b' j) rfl) (λj=>by rcases E with⟨e,aE⟩|e;exact(y b' j).2 (by rw[e];exact P.ib b aE);have:=ow.lt b' j;omega) (λc f i m j=>(y c f).2 (P.jf i m c j)) (P.tr.keys.frame λc f=>t c (P.lt c (P.ik c f)) (P.tr.d1 c f) (λe=>P.nk (e ▸ f))) P.tr.nk (λj=>I b' (P.ik b' j) (P.tr.d1 b' j) rfl) P.tr.d2 (λc f j=>(y c j).2 (P.ik c f))).ot;obtain⟨D',aI,al⟩:=P.put C (nY x k w) _ _ (λc e1 B e3 e4 e5=>t c (by
   rcases e5 with rfl|e5;exact aG
   ·exact P.lt c e5) e3 e1) ah af (λc f=>by
    rcases yw.1 f with f|f|⟨i,m,f⟩;exact .inl (.inl f);simp at f;rcases E with⟨e,j⟩|e;exact .inl (.inr (.inl (by rw[f,e];exact j)));exact .inr ⟨by omega,λj=>by have:=P.lt c j;omega⟩
    ·have aB:i<x.items.length+1:=by simpa[zda hk,show k+(x.items.length-k+1)=x.items.length+1 by omega]using m
     try simp only at f
     split at f;exact .inl (.inr (.inr ⟨i,by omega,f⟩));split at f;exact .inr (y c f);exact .inl (.inr (.inr ⟨i-1,by omega,f⟩)))
  refine ak k Y C D' aI ⟨by omega,λc h1 L z=>t c h1 (ae c z) (am c L z),λc f=>?_⟩;rcases al c f with f|f;exact .inl f
  ·rcases yw.1 f with f|f|⟨i,m,f⟩;exact .inl (P.ik c f);simp at f;rcases E with⟨e,j⟩|e;exact .inl (by rw[f,e];exact P.ib b j);exact .inr (.inr (by omega))
   ·have aB:i<x.items.length+1:=by simpa[zda hk,show k+(x.items.length-k+1)=x.items.length+1 by omega]using m
    try simp only at f
    split at f;exact .inl (P.jf i (by omega) c f);split at f;exact .inr (.inl f);exact .inl (P.jf (i-1) (by omega) c f)
 have he:(s.toList==((⟨#[45]⟩:Bt):Bt).toList)=decide (lb s=[45]):=by rw[zbe];simp[ByteArray.toList_eq,lb]
 unfold me at A Q;refine⟨λhq=>?_,λhq=>?_⟩;rw[he]at hq;have U:lb s=[45]:=by simpa using hq
 refine⟨⟨pb,o,Te⟩,rfl,si,u,?_⟩;rw[q];exact A _ (by rw[zA U]) (zac _);rw[he]at hq;have U:¬lb s=[45]:=by simpa using hq
 rw[zv U]at A Q;refine⟨⟨pb,o,Te⟩,λ_=>rfl,si,λ_=>u,λf=>?_,λf=>?_⟩;refine Q ?_ z k3;rw[zv];rintro⟨c1,c2⟩;rw[c1,q]at f;simp at f;omega;have ab:(ir (lb s)).2=Ta/\(ir (lb s)).1<=x.items.length:=by
  cases L:(ir (lb s)).2 with
  |false=>rw[L]at f;simp at f
  |true=>rw[L,q]at f;simp at f;exact⟨rfl,by omega⟩
 have aO:=FC ab.1;have:=A (ir (lb s)).1.toNat (by rw[zA ab]) (by omega);rw[Int.toNat_of_nonneg (by omega)]at this;exact this
end
section
theorem PlcP.del{h:zc}{D:List Nat}{rb:Nat}{p:Addr}{x:Tr}{T:Tr->Tr}{pb o:Nat}{cs0:Array Value}{sk si:Sl}{bk bb:List Nat}{b:Nat}{cs:Array Value}{bf:Nat->List Nat}(P:PlcP h D rb p x T pb o cs0 sk si bk bb b cs bf)(r:rb<h.size){j:Nat}(y:j<x.items.length) {hz:zc} {k:Array Value} {ks':List Bt} {sk' si':Sl} {bk':List Nat} (L:si'.a=si.a) (I:Blk hz b k) (M:si'.len+1=x.items.length) (N:si'.cap=si.cap) (A:k.size=cs.size) (B:cut k 0 ((x.items.length-1)*4)=(cut cs 0 (x.items.length*4)).take (j*4)++(cut cs 0 (x.items.length*4)).drop ((j+1)*4)) (ok:OKeys hz ks' bk' sk') (l:∀c∈bk',c∈bk) (J:bk'.Nodup) (F:Blk hz pb (fR cs0 o (zm (.mk x.kind x.text ks' (x.items.take j++x.items.drop (j+1))) sk' si')))
  (fz:∀c,c<h.size->c∉bk->c∉bb->c≠pb->hz[c]?=h[c]?):∃q,Doc hz rb (T (.mk x.kind x.text ks' (x.items.take j++x.items.drop (j+1)))) q/\∀c∈q,c∈D:=by
 have z:b∈bb:=by rcases P.tr.hz with⟨h0,_⟩|⟨u,_⟩;rw[h0]at y;simp at y;rw[u];simp
 have ot:=(P.tr.del y (λi hi c f=>fz c (P.lt c (P.jf i hi c f)) (λw=>P.tr.d2 c w i hi f) (λw=>P.tr.d3 c w i hi f) (λe=>P.nf i hi (e ▸ f))) L I M N A B ok l J).ot;have m:∀c,c∈(zaq (x.items.take j++x.items.drop (j+1)).length).flatMap (λi=>if i<j then bf i else bf (i+1))->∃i,i<x.items.length/\c∈bf i:=by
  intro c f;obtain⟨i,hi,f⟩:=zbw.1 f;have E:i<x.items.length-1:=by
   have:i<(x.items.take j++x.items.drop (j+1)).length:=by simpa using hi
   simp only[zah,zbl,zb8]at this;omega
  split at f;exact⟨i,by omega,f⟩;exact⟨i+1,by omega,f⟩
 obtain⟨q,C,n⟩:=P.put hz _ _ _ (λc G O H Q t=>fz c (by
  rcases t with rfl|t;exact r
  ·exact P.lt c t) O H G) F ot (λc f=>by
  rw[zaj,zaj]at f;rcases f with f|f|f;exact .inl (.inl (l c f));simp at f;exact .inl (.inr (.inl (by rw[f];exact z)));exact .inl (.inr (.inr (m c f))))
 refine⟨q,C,λc f=>?_⟩;rcases n c f with f|f;exact f;rw[zaj,zaj]at f;rcases f with f|f|f;exact P.ik c (l c f);simp at f;rw[f];exact P.ib b z;obtain⟨i,hi,f⟩:=m c f;exact P.jf i hi c f
end
section
variable {M:Fr} {h:zc} {o:Nat} {cs0:Array Value}
theorem yR{t:Ty}{xs:List (El t)}{s:Sl}(H:Rd M (.row t) xs [aK s]){n:Nat}(r:n<=xs.length):RdV M (.row t) (xs.take n) (.slice s.a n s.cap):=by
 obtain⟨w,e,a,c,q,m,j⟩:=H;simp only[zc9,and_true]at e;subst e;simp only[aK,zbo]at q;obtain⟨rfl,_,rfl⟩:=q;rw[Y9 rfl];have f:(xs.take n).length=n:=by rw[zbl];omega
 refine⟨_,rfl,s.a,s.cap,by rw[f],⟨by omega,by omega⟩,?_⟩;rcases j with h0|⟨b,o,cs,k,h,l⟩;exact .inl (by rw[h0];simp);refine .inr ⟨b,o,cs,k,h,λi hi=>?_⟩;rw[List.getElem_take];exact l i (by omega)
theorem Ez{b o:Nat}{vs:List Value}(H:Blk h b (fR cs0 o vs))(e:o+vs.length<=cs0.size){i:Nat}{v:Value}(c:vs[i]?=Td v):zd h ⟨b,o+i,Te⟩=Td v:=by refine H.cell ?_;have hi:=(za5.1 c).1;rw[<-zbh,jg e,zv (by omega),zA (by omega),Nat.add_sub_cancel_left];exact c
theorem HQ{a b:List Value}(c:o+a.length<=cs0.size)(e:b.length=a.length):fR (fR cs0 o a) o b=fR cs0 o b:=by apply zfb;apply zbd;intro q;rw[jg (by rw[yv c];omega),jg c,jg (by omega)];split;rfl;split;rfl;rw[zv (by omega)]
set_option maxHeartbeats 2000000 in
theorem Fv{gl:Fr}(hg:GL gl){v:Tr}(hv:Sm v)(ho:yr zi v=Ta){p:List Bt}(hp:SL p){rb:Nat}{D:List Nat}{u2:Value}(hM:Fr.le gl M)(ag:AgM M h)(hD:Doc h rb v D)(aN:RdV M (.row .str) p u2) (aj:p≠[]->∀(hl:p.length-1<p.length),∃x,qq v (p.take (p.length-1))=Td x/\0<=qh x p[p.length-1]) (aJ:∀x,qq v (p.take (p.length-1))=Td x->x.items.length<=1000000000) {K:Value->zc->Prop} (h0:p=[]->K (.int .i64 1) h) (hy:∀x (j:Nat) (hl:p.length-1<p.length),qq v (p.take (p.length-1))=Td x->qh x p[p.length-1]=j->j<x.items.length->∀h' A,Doc h' rb (setP v (p.take (p.length-1)) (iK x j)) A->Turn h h' rb D [] A->K (.int .i64 0) h'):
  XC Tp 214 #[.pointer (Td ⟨rb,0,Te⟩),u2] h K:=by
 obtain⟨sp,rfl,rp⟩:=Xq aN;obtain⟨ak,bD,bq⟩:=rowLen rp;have bJ:=hp.n;have bH:=hD.lt rb (.inl rfl);apply RJ (Td ⟨rb,0,Te⟩) sp;refine⟨λhz=>h0 (zbb (by rw[ak]at hz;simp at hz;simp[hz])),λhz=>?_⟩;have am:p≠[]:=λe=>by rw[ak,e]at hz;simp at hz
 have bj:0<p.length:=zb9.2 am;have hl:p.length-1<p.length:=by omega
 have w1:w6 (((sp.len:Nat):Int)-1)=((p.length-1:Nat):Int):=by rw[ak,io (by omega)];omega
 rw[w1];refine jP ag rp hl rfl rfl ⟨.inr ⟨_,rfl⟩,⟨by omega,by omega,by omega,by omega⟩,?_⟩;simp only[zae,zdz,zdo,Zc];obtain⟨f,ay,bA⟩:=aj am hl;have ba:=yR rp (n:=p.length-1) (by omega);refine zR hg hv ho ⟨by rw[zbl];omega,λq hq=>hp.s q (zcq hq)⟩ hM ag hD ba (λhn=>by rw[ay]at hn;cases hn) λx J hx aF h4 pa k4 plc=>?_;obtain rfl:f=x:=zbi (ay.symm.trans J);have z4:=k4.size;have aH:=ag.keep k4;have bF:=aJ _ J;obtain⟨aC,aB,bx,aP,ot,bB,_⟩:=Plc.ld plc;refine⟨Td pa,rfl,pa,rfl,f.kind,f.text,aC,aB,aP,?_⟩;have aV:PC Tp gl 264 [Arg.mk .tree f,Arg.mk .str p[p.length-1]] [.int .i64] (λr=>r=qh f p[p.length-1]):=yI hg (hp.s _ (zak hl)) rfl;refine aV.go (vs:=[.agg #[.int .i64 f.kind,.string f.text,aK aC,aK aB],.string p[p.length-1]]) (hM.trans (Jx aH bx)) (MxL.ag aH bx) (zr ot.rdv (zr (rdStr _) qj)) λw l br r ah az hr=>?_;have hr:r=qh f p[p.length-1]:=hr;subst hr;obtain⟨j,ej,Z⟩:∃j:Nat,qh f p[p.length-1]=j/\j<f.items.length:=by rcases An (qt aF) p[p.length-1]with e|h;omega;exact h
 have bI:=ah.keep.size;have bg:Keep h.size h l:=k4.trans ah.keep z4;have aa:=Plc.keepK plc (by omega) ah.keep;obtain⟨pb,o,cs0,sk,si,bk,bb,b,cs,bf,P⟩:=Plc.parts aa;have aG:=P.ad;subst aG;have ar:=P.tr.hn.1;have bi:=P.tr.hn.2.2;obtain⟨B,aQ,a6,aS⟩:bb=[b]/\si.a=Td ⟨b,0,Te⟩/\Blk l b cs/\si.cap*4<=cs.size:=by rcases P.tr.hz with⟨e,_⟩|e;rw[e]at Z;simp at Z;exact e
 have ae:zd l (zab ⟨pb,o,Te⟩ 3)=Td (aK si):=by
  refine P.blk.cellAdd ?_;have:(cut cs0 o 4)[3]?=Td (aK si):=by rw[P.cell];rfl
  rw[zk,zA (by omega)]at this;rw[<-zbh];exact this
 refine⟨qh f p[p.length-1],xV az,⟨pb,o,Te⟩,rfl,si,ae,?_⟩;rw[ej,je Z (by omega)];have E:pb≠b:=λe=>P.nb (by rw[e,B];simp);refine KG aQ a6 aS (by omega) (OTp.one P.tr) (k:=j) (by omega) (by omega) λaZ aO aT aA bz ax af=>⟨⟨si.a,si.len-1,si.cap⟩,rfl,⟨pb,o,Te⟩,rfl,?_⟩;have ab:Blk aZ pb cs0:=P.blk.keep (ax pb E);have bn:=P.fit;rw[zf];refine Zg (vs:=[aK ⟨si.a,si.len-1,si.cap⟩]) ud ab rfl tK (by show o+3+1<=_;omega) (by simp[Value.oneCell',aK]) λm G bG aI=>?_;rw[BP P.fit P.cell]at G;have T:Blk m b aO:=aT.keep (aI b E.symm);have y:∀c,c≠b->c≠pb->m[c]?=l[c]?:=λc h1 h2=>(aI c h2).trans (ax c h1);rw[ar]at af;have Y:∀(hz:zc) (A:List Nat),m.size<=hz.size->(∀c,c<l.size->c∉bk->c∉bb->c≠pb->hz[c]?=l[c]?)->(∀c∈A,c∈D)->Turn h hz rb D [] A:=λhz A hs hf t=>
  ⟨by omega,λc h1 h2 O=>by rw[hf c (by omega) (λhm=>O (P.ik c hm)) (λhm=>O (P.ib c hm)) (λe=>by rcases P.pin with e2|e2;exact h2 (by rw[e,e2]);exact O (by rw[e];exact e2))];exact bg.get c h1,λc S=>.inl (t c S)⟩
 have a7:zd m (zab ⟨pb,o,Te⟩ 0)=Td (.int .i64 f.kind):=by rw[zf];exact Ez (i:=0) G (by show o+4<=_;omega) rfl
 have be:zd m (zab ⟨pb,o,Te⟩ 2)=Td (aK sk):=by rw[zf];exact Ez (i:=2) G (by show o+4<=_;omega) rfl
 refine⟨⟨pb,o,Te⟩,rfl,f.kind,a7,λh6=>?_,λh6=>?_⟩;have N:f.kind=6:=by simpa using h6
 have aD:f.keys.length=f.items.length:=by have:=qt aF;unfold zi at this;simp[N]at this;exact this.1.2
 obtain⟨l1,l2,l3,l4⟩:=P.tr.keys;obtain⟨z,F,rfl,ka,aL,bm,U⟩:∃z F,bk=[z]/\sk.a=Td ⟨z,0,Te⟩/\Blk l z F/\sk.cap<=F.size/\cut F 0 f.keys.length=f.keys.map zaz:=by rcases l4 with⟨e,_⟩|e;rw[e]at aD;simp at aD;omega;exact e
 have V:z≠b:=λe=>P.tr.d1 z (by simp) (by rw[e,B];simp);have C:pb≠z:=λe=>P.nk (by rw[e];simp);have H:Blk m z F:=aL.keep (y z V C.symm);refine⟨⟨pb,o,Te⟩,rfl,sk,be,?_⟩;refine Ul ka H (by omega) (by omega) (λu hu=>by rw[zbm,l1,U]at hu;obtain⟨q,_,rfl⟩:=zay.1 hu;simp[Value.oneCell']) (k:=j) (by omega) (by omega) λaU au aM bC bu ai aE=>⟨⟨sk.a,sk.len-1,sk.cap⟩,rfl,⟨pb,o,Te⟩,rfl,?_⟩;have an:Blk aU pb _:=G.keep (ai pb C);rw[zf];refine Zg (vs:=[aK ⟨sk.a,sk.len-1,sk.cap⟩]) sA an rfl uN (by rw[yv (by show o+4<=_;omega)];show o+2+1<=_;omega) (by simp[Value.oneCell',aK]) λI b29 bE ac=>?_;have a8:=sW (cs:=cs0) (o:=o) (vs:=[.int .i64 f.kind,.string f.text,aK sk,aK ⟨si.a,si.len-1,si.cap⟩]) (by show o+4<=_;omega);rw[GG (by rw[yv (by show o+4<=_;omega)];omega) a8,HQ (cs0:=cs0) (o:=o) (a:=[.int .i64 f.kind,.string f.text,aK sk,aK ⟨si.a,si.len-1,si.cap⟩]) (b:=[.int .i64 f.kind,.string f.text,aK ⟨sk.a,sk.len-1,sk.cap⟩,aK ⟨si.a,si.len-1,si.cap⟩]) (by show o+4<=_;omega) rfl]at b29;have Q:∀c,c<l.size->c∉[z]->c∉bb->c≠pb->I[c]?=l[c]?:=λc _ h1 h2 O=>by rw[ac c O,ai c (λe=>h1 (by rw[e];simp))];exact y c (λe=>h2 (by rw[e,B];simp)) O
 rw[zbm,zbm,zbm,zbm,l1,U]at aE;have aY:OKeys I (f.keys.take j++f.keys.drop (j+1)) [z] ⟨sk.a,sk.len-1,sk.cap⟩:=by
  have L:(f.keys.take j++f.keys.drop (j+1)).length=f.keys.length-1:=by simp;omega
  refine⟨by show sk.len-1=_;rw[L,l1],by rw[L];omega,by show _<=sk.cap;rw[L];omega,.inr ⟨z,au,rfl,ka,aM.keep (ac z C.symm),by show sk.cap<=_;omega,?_⟩⟩;rw[L,aE];simp[ze3,zff]
 obtain⟨A,al,t⟩:=PlcP.del P (by omega) Z (si':=⟨si.a,si.len-1,si.cap⟩) rfl ((T.keep (ai b V.symm)).keep (ac b E.symm)) (by show si.len-1+1=_;omega) rfl aA af aY (λc S=>S) (by simp) b29 Q;refine hy f j hl J ej Z I A ?_ (Y I A (by omega) Q t);have:iK f j=.mk f.kind f.text (f.keys.take j++f.keys.drop (j+1)) (f.items.take j++f.items.drop (j+1)):=by unfold iK;rw[zA N]
 rw[this];exact al;have N:¬f.kind=6:=by simpa using h6
 have fz:∀c,c<l.size->c∉bk->c∉bb->c≠pb->m[c]?=l[c]?:=λc _ _ h2 O=>y c (λe=>h2 (by rw[e,B];simp)) O;obtain⟨A,al,t⟩:=PlcP.del P (by omega) Z (si':=⟨si.a,si.len-1,si.cap⟩) rfl T (by show si.len-1+1=_;omega) rfl aA af (P.tr.keys.frame λc S=>y c (λe=>P.tr.d1 c S (by rw[e,B];simp)) (λe=>P.nk (e ▸ S))) (λc S=>S) P.tr.nk G fz;refine hy f j hl J ej Z m A ?_ (Y m A (zac _) fz t);have:iK f j=.mk f.kind f.text f.keys (f.items.take j++f.items.drop (j+1)):=by unfold iK;rw[zv N]
 rw[this];exact al
end
section
theorem RN:j4 Tp 22=1:=by kernel_rfl
theorem wi:j4 Tp 25=4:=by kernel_rfl
theorem xL:yb Tp 25=Ta:=by kernel_rfl
set_option maxHeartbeats 2000000 in
theorem SU{g:zc}{D:List Nat}{rb:Nat}{x w:Tr}{s:Bt}{T:Tr->Tr}{pb o:Nat}{cs0:Array Value}{sk si:Sl}{bk bb:List Nat}{b:Nat}{cs:Array Value}{bf:Nat->List Nat}(P:PlcP g D rb ⟨pb,o,Te⟩ x T pb o cs0 sk si bk bb b cs bf)(aa:rb<g.size){bw:List Nat}{wk O:Sl}(N:OT g w bw (zm w wk O))(l:∀c∈bw,c≠rb/\c∉D)(hx:x.items.length<=1000000000) {gF:zc} {sk' si':Sl} {y b':Nat} {cs':Array Value} (hs:g.size<=gF.size) (hf:∀c,c<g.size->c∉bk->c∉bb->gF[c]?=g[c]?) (ok:OKeys gF (x.keys++[s]) [y] sk') (n:y∈bk\/g.size<=y) (e1:si'.a=Td ⟨b',0,Te⟩) (A:si'.len=x.items.length+1) (e3:x.items.length+1<=si'.cap) (e4:Blk gF b' cs') (e5:si'.cap*4<=cs'.size) (e6:cut cs' 0 ((x.items.length+1)*4)=cut cs 0 (x.items.length*4)++zm w wk O) (q:(b'=b/\b∈bb)\/g.size<=b') (Q:y≠b') {K:Value->zc->Prop} (hK:∀h' M,Doc h' rb (T (mc x s w)) M->Turn g h' rb D bw M->K (.int .i64 0) h'):
  XRunU Tp (zag 22 (.pointer (Td (zab ⟨pb,o,Te⟩ 2))) (.slice sk'.a sk'.len sk'.cap)) gF (λh1=>XRunU Tp (zag 23 (.pointer (Td (zab ⟨pb,o,Te⟩ 3))) (.slice si'.a si'.len si'.cap)) h1 (λm=>K (.int .i64 0) m)):=by
 have t:pb<g.size:=P.blk.lt;have ae:=P.fit;have r:∀c,c<g.size->c∉bk->c≠y:=λc f hn e=>by rcases n with h|h;exact hn (e ▸ h);omega
 have H:∀c,c<g.size->c∉bb->c≠b':=λc f hn e=>by rcases q with⟨h1,m⟩|h;exact hn (by rw[e,h1];exact m);omega
 have bF:Blk gF pb cs0:=P.blk.keep (hf pb t P.nk P.nb);rw[zf,zf];refine Zg (vs:=[aK sk']) sA bF rfl RN (by show o+2+1<=_;omega) (by simp[Value.oneCell',aK]) λh1 b1 z1 f1=>?_;rw[GG P.fit P.cell]at b1;refine Zg (vs:=[aK si']) ud b1 rfl tK (by rw[yv (by show o+4<=_;omega)];show o+3+1<=_;omega) (by simp[Value.oneCell',aK]) λm b2 z2 f2=>?_;have Z:=sW (cs:=cs0) (o:=o) (vs:=[.int .i64 x.kind,.string x.text,aK sk',aK si]) (by show o+4<=_;omega);rw[BP (by rw[yv (by show o+4<=_;omega)];omega) Z,HQ (cs0:=cs0) (o:=o) (a:=[.int .i64 x.kind,.string x.text,aK sk',aK si]) (b:=[.int .i64 x.kind,.string x.text,aK sk',aK si']) (by show o+4<=_;omega) rfl]at b2;have u:∀c,c≠pb->m[c]?=gF[c]?:=λc f=>(f2 c f).trans (f1 c f);have fz:∀c,c<g.size->c∉bk->c∉bb->c≠pb->m[c]?=g[c]?:=λc f n1 n2 n3=>(u c n3).trans (hf c f n1 n2);have ac:pb≠y:=r pb t P.nk;have F:pb≠b':=H pb t P.nb;have hD:∀c,c≠rb->c∉D->c≠pb:=λc n1 n2 e=>by rcases P.pin with A|A;exact n1 (by rw[e,A]);exact n2 (by rw[e];exact A)
 have B:∀c,c∉D->c∉bk:=λc f j=>f (P.ik c j);have I:∀c,c∉D->c∉bb:=λc f j=>f (P.ib c j);have U:OT m w bw (zm w wk O):=N.frame λc f=>fz c (N.lt c f) (B c (l c f).2) (I c (l c f).2) (hD c (l c f).1 (l c f).2);have C:∀i,i<x.items.length->∀c∈bf i,c∉bk:=λi hi c f j=>P.tr.d2 c j i hi f;have G:∀i,i<x.items.length->∀c∈bf i,c∉bb:=λi hi c f j=>P.tr.d3 c j i hi f;have J:(cut cs 0 (x.items.length*4)).length<=x.items.length*4:=by unfold cut;simp;omega
 have ot:=(P.tr.ins (k:=x.items.length) (zac _) U (λi hi c f=>fz c (P.lt c (P.jf i hi c f)) (C i hi c f) (G i hi c f) (λe=>P.nf i hi (e ▸ f))) e1 (e4.keep (u b' F.symm)) A e3 e5 (by omega) (by rw[e6,zbu J,zce J,zbs]) (λi hi j=>H b' (P.lt _ (P.jf i hi b' j)) (G i hi b' j) rfl) (λj=>by rcases q with⟨e,ab⟩|e;exact(l b' j).2 (by rw[e];exact P.ib b ab);have:=N.lt b' j;omega) (λc f i hi j=>(l c f).2 (P.jf i hi c j))
  (ok.frame (h':=m) λc f=>u c (by simp at f;subst f;exact ac.symm)) (by simp) (by simp;exact λe=>Q e.symm) (λc f i hi j=>by
   simp at f;subst f;exact r c (P.lt c (P.jf i hi c j)) (C i hi c j) rfl) (λc f j=>by
   simp at f;subst f;rcases n with h|h;exact(l c j).2 (P.ik c h);have:=N.lt c j;omega)).ot
 have S:(x.items.take x.items.length++w::x.items.drop x.items.length)=x.items++[w]:=by rw[zba,zec]
 obtain⟨M,L,E⟩:=P.put m _ _ _ (λc q1 q2 z q4 Y=>fz c (by
  rcases Y with rfl|Y;exact aa
  ·exact P.lt c Y) q2 z q1) b2 ot (λc f=>by
  rcases yw.1 f with f|f|⟨i,hi,f⟩;simp at f;subst f;rcases n with h|h;exact .inl (.inl h);exact .inr ⟨by omega,λj=>by have:=P.lt c j;omega⟩;simp at f;subst f;rcases q with⟨e,j⟩|e;exact .inl (.inr (.inl (by rw[e];exact j)));exact .inr ⟨by omega,λj=>by have:=P.lt c j;omega⟩
  ·have V:i<x.items.length+1:=by simpa using hi
   try simp only at f
   split at f;exact .inl (.inr (.inr ⟨i,by omega,f⟩));split at f;exact .inr (l c f);exact .inl (.inr (.inr ⟨i-1,by omega,f⟩)))
 rw[S]at L;refine hK m M L ⟨by omega,λc q1 q2 z=>fz c q1 (B c z) (I c z) (hD c q2 z),λc f=>?_⟩;rcases E c f with f|f;exact .inl f
 ·rcases yw.1 f with f|f|⟨i,hi,f⟩;simp at f;subst f;rcases n with h|h;exact .inl (P.ik c h);exact .inr (.inr h);simp at f;subst f;rcases q with⟨e,j⟩|e;exact .inl (by rw[e];exact P.ib b j);exact .inr (.inr e)
  ·have V:i<x.items.length+1:=by simpa using hi
   try simp only at f
   split at f;exact .inl (P.jf i (by omega) c f);split at f;exact .inr (.inl f);exact .inl (P.jf (i-1) (by omega) c f)
end
section
variable {h:zc} {rb:Nat} {D bw:List Nat}
theorem Turn.pre{h h1 h':zc}{D bw b:List Nat}(k:Keep h.size h h1)(H:Turn h1 h' rb D bw b):Turn h h' rb D bw b:=by have:=k.size;have:=H.size;refine⟨by omega,λc h1 e f=>(H.old c (by omega) e f).trans (k.get c h1),λc i=>?_⟩;grind [own]
set_option maxHeartbeats 4000000 in
theorem JY{gl:Fr}(hg:GL gl){v w:Tr}(hv:Sm v)(ho:yr zi v=Ta){p:List Bt}(hp:SL p){M:Fr}{u2:Value}(hM:Fr.le gl M)(ag:AgM M h)(hD:Doc h rb v D)(bi:RdV M (.row .str) p u2){l j:Sl}(ow:OT h w bw (zm w l j))(C:∀c∈bw,c≠rb/\c∉D)(bg:∀x,qq v (iA p)=Td x->x.items.length<=1000000000){K:Value->zc->Prop}
  (aF:iI v p w=Te->∀h',Keep h.size h h'->K (.int .i64 8) h')
  (F:∀t,iI v p w=Td t->∀h' D',Doc h' rb t D'->Turn h h' rb D bw D'->K (.int .i64 0) h'):
  XC Tp 212 #[.pointer (Td ⟨rb,0,Te⟩),u2,.agg #[.int .i64 w.kind,.string w.text,aK l,aK j]] h K:=by
 obtain⟨sp,rfl,rp⟩:=Xq bi
 obtain⟨bB,cg,b7⟩:=rowLen rp
 have bZ:=hp.n
 have bV:=hD.lt rb (.inl rfl)
 apply Ko (Td ⟨rb,0,Te⟩) sp w.kind w.text l j
 intro h1
 have z1:h1.size=h.size+1:=zaf _
 have k1:Keep h.size h h1:=Keep.push _ _ (zac _)
 have b1:Blk h1 h.size (zm w l j).toArray:=Blk.new _ _ _
 clear_value h1
 have G:∀h',Keep h1.size h1 h'->ze h' ⟨h.size,0,Te⟩ 0 (zm w l j):=λh' k=>(b1.ofKeep k).ld (cs:=zm w l j)
 have D1:Doc h1 rb v D:=hD.keep λc f=>k1.get c (hD.lt c f)
 have aj:OT h1 w bw (zm w l j):=ow.frame λc f=>k1.get c (ow.lt c f)
 refine⟨λhz=>?_,λhz=>?_⟩
 ·have bL:p=[]:=zbb (by simp_all)
  refine⟨w.kind,w.text,l,j,G h1 (Keep.refl _ _),⟨rb,0,Te⟩,rfl,?_⟩
  obtain⟨b,o,cs,bx,e,hb,ae,ot,bn,ak,aU,aY,ai,aA⟩:=D1.plc
  cases e
  rw[zf]
  refine Zg (vs:=zm w l j) xL hb rfl wi (by show 0+4<=_;omega) (Jz w l j) λh' b' z' f'=>?_
  obtain⟨D',E,aN⟩:=aA h' w (zm w l j) bw (λc n1 _ _=>f' c n1) b' (aj.frame λc f=>f' c (C c f).1) (λc f=>.inr (C c f))
  refine F w (by unfold iI;rw[zA bL]) h' D' E ⟨by omega,λc Q O q3=>(f' c O).trans (k1.get c Q),λc f=>?_⟩
  grind
 ·have aB:p≠[]:=λe=>by simp_all
  have bM:0<p.length:=zb9.2 aB
  have hl:p.length-1<p.length:=by omega
  have w1:w6 (((sp.len:Nat):Int)-1)=((p.length-1:Nat):Int):=by rw[bB,io (by omega)];omega
  rw[w1]
  have ar:=ag.keep k1
  refine jP ar rp hl rfl rfl ⟨.inr ⟨_,rfl⟩,⟨by omega,by omega,by omega,by omega⟩,?_⟩
  simp -zeta only[zae,zdz,zdo,Zc]
  have i:=Nz (v:=v) (w:=w) aB
  have a8:=qM hl
  generalize bQ:ix p=st at *
  rw[a8]
  have af:(lb st).length<=1048576:=by rw[<-a8];exact hp.s _ (zak hl)
  have bz:=yR rp (n:=p.length-1) (by omega)
  refine zR hg hv ho ⟨by grind,λq hq=>hp.s q (zcq hq)⟩ hM ar D1 bz (λhn h' k'=>?_) λx bF hx ck h4 pa k4 plc=>?_
  ·refine⟨Te,rfl,(λ_=>aF ?_ h' (k1.trans k' (by omega))),λf=>by cases f⟩
   rw[i];unfold iA;rw[hn];rfl
  have ac:qq v (iA p)=Td x:=bF
  rw[ac,zcr]at i
  have z4:=k4.size
  have ah:Keep h.size h h4:=k1.trans k4 (by omega)
  have au:=ar.keep k4
  have am:=bg _ ac
  obtain⟨aJ,aZ,bx,aV,ot,bn,_⟩:=Plc.ld plc
  have aL:zd h4 (pa.add 0)=Td (.int .i64 x.kind):=aV.1
  have ay:OT h4 w bw (zm w l j):=aj.frame λc f=>k4.get c (by have:=aj.lt c f;omega)
  refine⟨Td pa,rfl,(λf=>by cases f),λ_=>⟨pa,rfl,x.kind,aL,λh5=>?_,λh5=>?_⟩⟩
  ·have az:x.kind=5:=by simpa using h5
   rw[zA az]at i
   refine⟨w.kind,w.text,l,j,G h4 k4,?_⟩
   refine Kj hg af hM au plc (by omega) ay C am (λhk h' k'=>⟨8,rfl,aF ?_ h' (ah.trans k' (by omega))⟩) λk hk h' D' E ht=>⟨0,rfl,F _ ?_ h' D' E (ht.pre ah)⟩
   simp_all
   ·rw[i,hk];rfl
  ·have az:¬x.kind=5:=by simpa using h5
   rw[zv az]at i
   refine⟨pa,rfl,x.kind,aL,λh6=>?_,λh6=>?_⟩
   simp_all
   ·have bJ:¬x.kind≠6:=by simpa using h6
    rw[zv bJ]at i
    refine⟨pa,rfl,x.kind,x.text,aJ,aZ,aV,?_⟩
    have br:PC Tp gl 264 [Arg.mk .tree x,Arg.mk .str st] [.int .i64] (λr=>r=qh x st):=yI hg af rfl
    refine br.go (vs:=[.agg #[.int .i64 x.kind,.string x.text,aK aJ,aK aZ],.string st]) (hM.trans (Jx au bx)) (MxL.ag au bx) (zr ot.rdv (zr (rdStr _) qj)) λw' g cc r Z aG hr=>?_
    have hr:r=qh x st:=hr
    subst hr
    have zg:=Z.keep.size
    have kg:Keep h.size h g:=ah.trans Z.keep (by omega)
    have aE:Keep h1.size h1 g:=k4.trans Z.keep (by omega)
    have ab:=Plc.keepK plc (by omega) Z.keep
    have ba:OT g w bw (zm w l j):=ay.frame λc f=>Z.keep.get c (by have:=ay.lt c f;omega)
    refine⟨qh x st,xV aG,λbH=>?_,λai=>?_⟩
    ·have a7:0<=qh x st:=by simpa using bH
     rw[zA a7]at i
     obtain⟨k,ek,hk⟩:∃k:Nat,qh x st=k/\k<x.items.length:=by
      grind [An,qt]
     obtain⟨si,a,c1,c2,c3,aM⟩:=ab.step hk
     refine⟨pa,rfl,si,c1,w.kind,w.text,l,j,G g aE,a,⟨c2,by omega,by omega⟩,?_⟩
     rw[ek,zae]
     obtain⟨b,o,cs,ca,e,hb,ae,b6,bO,ak,aU,aY,ai,aA⟩:=aM
     rw[e]
     refine Zg (vs:=zm w l j) xL hb rfl wi (by show o+4<=_;omega) (Jz w l j) λh' b' z' f'=>?_
     have aT:∀c,c≠rb->c∉D->c≠b:=λc Q O e=>by
      grind
     obtain⟨D',E,aN⟩:=aA h' w (zm w l j) bw (λc n1 _ _=>f' c n1) b' (ba.frame λc f=>f' c (aT c (C c f).1 (C c f).2)) (λc f=>.inr (C c f))
     rw[ek,zae]at i
     refine F _ i h' D' E ⟨by omega,λc Q O q3=>(f' c (aT c O q3)).trans (kg.get c Q),λc f=>?_⟩
     grind
    ·have aO:¬0<=qh x st:=by simpa using ai
     rw[zv aO]at i
     obtain⟨pb,o,cs0,sk,si,bk,bb,b,cs,bf,P⟩:=Plc.parts ab
     have aP:=P.ad
     subst aP
     have ae:=P.fit
     have aH:zd g (zab ⟨pb,o,Te⟩ 2)=Td (aK sk):=by
      refine P.blk.cellAdd ?_
      have:(cut cs0 o 4)[2]?=Td (aK sk):=by rw[P.cell];rfl
      rw[zk,zA (by omega)]at this
      rw[<-zbh];exact this
     have a6:zd g (zab ⟨pb,o,Te⟩ 3)=Td (aK si):=by
      refine P.blk.cellAdd ?_
      have:(cut cs0 o 4)[3]?=Td (aK si):=by rw[P.cell];rfl
      rw[zk,zA (by omega)]at this
      rw[<-zbh];exact this
     have m:pb<g.size:=P.blk.lt
     have bI:rb<g.size:=by omega
     have bP:∀c,c∈bk->c<h.size:=λc f=>hD.lt c (.inr (P.ik c f))
     have bN:∀c,c∈bb->c<h.size:=λc f=>hD.lt c (.inr (P.ib c f))
     have bm:x.keys.length<=1048576:=hx.keys
     have fin:∀(gF:zc) (sk' si':Sl) (y b':Nat) (cs':Array Value),g.size<=gF.size->(∀c,c<g.size->c∉bk->c∉bb->gF[c]?=g[c]?)->OKeys gF (x.keys++[st]) [y] sk'->(y∈bk\/g.size<=y) ->
       si'.a=Td ⟨b',0,Te⟩->si'.len=x.items.length+1->x.items.length+1<=si'.cap->Blk gF b' cs'->si'.cap*4<=cs'.size->cut cs' 0 ((x.items.length+1)*4)=cut cs 0 (x.items.length*4)++zm w l j->((b'=b/\b∈bb)\/g.size<=b')->y≠b' ->
       ∃a:Addr,Td (⟨pb,o,Te⟩:Addr)=Td a/\XRunU Tp (zag 22 (.pointer (Td (zab a 2))) (.slice sk'.a sk'.len sk'.cap)) gF (λh1=>∃a:Addr,Td (⟨pb,o,Te⟩:Addr)=Td a/\XRunU Tp (zag 23 (.pointer (Td (zab a 3))) (.slice si'.a si'.len si'.cap)) h1 (λh2=>K (.int .i64 0) h2)):=by
      intro gF sk' si' y b' cs' Q O q3 q4 q5 q6 q7 q8 q9 bC bA bj
      exact⟨_,rfl,XRunU.mono (SU P bI ba C am Q O q3 q4 q5 q6 q7 q8 q9 bC bA bj λh' D' E ht=>F _ i h' D' E (ht.pre kg)) λh1 H=>⟨_,rfl,H⟩⟩
     have aa:∀(a1:zc) (bv:Nat) (KK:Value->zc->Prop),Keep g.size g a1->Blk a1 bv #[.string st]->(∀(sk':Sl) (a2:zc) (y:Nat),OKeys a2 (x.keys++[st]) [y] sk'->(y∈bk\/a1.size<=y)->a1.size<=a2.size->(∀c,c<a1.size->c∉bk->a2[c]?=a1[c]?)->KK (.slice sk'.a sk'.len sk'.cap) a2) ->
       qu Tp (zao #[22,22] 22 #[.slice sk.a sk.len sk.cap,.slice (Td ⟨bv,0,Te⟩) 1 1]) a1 KK:=by
      intro a1 bv KK ka hb hK
      exact LU (P.tr.keys.frame λc f=>ka.get c (by grind)) hb bm hK
     have Y:∀(a3:zc) (bv:Nat) (KK:Value->zc->Prop),(∀c∈bb,a3[c]?=g[c]?)->Blk a3 bv (zm w l j).toArray->(∀(si':Sl) (h':zc) (b':Nat) (cs':Array Value),si'.a=Td ⟨b',0,Te⟩->si'.len=x.items.length+1->x.items.length+1<=si'.cap->Blk h' b' cs'->si'.cap*4<=cs'.size->cut cs' 0 ((x.items.length+1)*4)=cut cs 0 (x.items.length*4)++zm w l j ->
       ((b'=b/\b∈bb)\/a3.size<=b')->a3.size<=h'.size->(∀c,c<a3.size->c∉bb->h'[c]?=a3[c]?)->KK (.slice si'.a si'.len si'.cap) h') ->
       qu Tp (zao #[23,23] 23 #[.slice si.a si.len si.cap,.slice (Td ⟨bv,0,Te⟩) 1 1]) a3 KK:=λa3 bv KK hk hb hK=>QX P.tr hk hb am hK
     have bG:h.size∉bk:=λU=>by grind
     have ax:∀c∈bk,c∉bb:=P.tr.d1
     refine⟨⟨pb,o,Te⟩,rfl,sk,aH,⟨pb,o,Te⟩,rfl,si,a6,w.kind,w.text,l,j,G g aE,?_⟩
     intro bS b8
     refine⟨?_,?_⟩
     ·-- the key's box first
      intro z
      have cj:z.size=g.size+1:=zaf _
      have J:Keep g.size g z:=Keep.push _ _ (zac _)
      have aD:Blk z g.size #[.string st]:=Blk.new _ _ _
      clear_value z
      refine⟨J.get _ (by dsimp only;omega),J.get _ m,J.get _ m,?_,?_⟩
      ·refine aa z g.size _ J aD λsk' a2 y ok B za fa=>⟨sk',rfl,?_⟩
       have u:∀c,c<g.size->c∉bk->a2[c]?=g[c]?:=λc f hn=>(fa c (by omega) hn).trans (J.get c f)
       refine⟨u _ (by dsimp only;omega) bG,u _ m P.nk,?_⟩
       intro I
       have bU:I.size=a2.size+1:=zaf _
       have aI:Keep a2.size a2 I:=Keep.push _ _ (zac _)
       have bq:Blk I a2.size (zm w l j).toArray:=Blk.new _ _ _
       clear_value I
       have fb:∀c,c<g.size->c∉bk->I[c]?=g[c]?:=λc f hn=>(aI.get c (by omega)).trans (u c f hn)
       refine⟨fb _ m P.nk,?_⟩
       refine Y I a2.size _ (λc f=>fb c (by grind) (λU=>ax c U f)) bq λsi' S b' cs' Q O q3 q4 q5 q6 q7 q8 q9=>⟨si',rfl,?_⟩
       have an:y<a2.size:=by
        obtain⟨_,_,_,h4⟩:=ok
        rcases h4 with⟨_,h,_⟩|⟨b9,aS,e9,_,T,_⟩
        ·cases h
        ·simp at e9;subst e9;exact T.lt
       have V:y∉bb:=λU=>by
        grind
       refine fin S sk' si' y b' cs' (by omega) (λc f n1 n2=>(q9 c (by omega) n2).trans (fb c f n1)) (ok.frame λc f=>?_) (B.imp id λh=>by omega) Q O q3 q4 q5 q6 (q7.imp id λh=>by omega) λe=>?_
       ·simp at f;subst f
        exact(q9 c (by omega) V).trans (aI.get c an)
       grind
      ·intro L
       have cd:L.size=z.size+1:=zaf _
       have aC:Keep z.size z L:=Keep.push _ _ (zac _)
       have bu:Blk L z.size (zm w l j).toArray:=Blk.new _ _ _
       clear_value L
       have kk:Keep g.size g L:=J.trans aC (by omega)
       refine⟨kk.get _ m,kk.get _ m,?_⟩
       refine aa L g.size _ kk (aD.keep (aC.get _ (by omega))) λsk' a2 y ok B za fa=>⟨sk',rfl,?_⟩
       have u:∀c,c<g.size->c∉bk->a2[c]?=g[c]?:=λc f hn=>(fa c (by omega) hn).trans (kk.get c f)
       refine⟨u _ m P.nk,?_⟩
       have an:y<a2.size:=by
        obtain⟨_,_,_,h4⟩:=ok
        rcases h4 with⟨_,h,_⟩|⟨b9,aS,e9,_,T,_⟩
        ·cases h
        ·simp at e9;subst e9;exact T.lt
       have V:y∉bb:=λU=>by
        grind
       refine Y a2 z.size _ (λc f=>u c (by grind) (λU=>ax c U f)) (bu.keep (fa _ (by omega) (λU=>by grind))) λsi' S b' cs' Q O q3 q4 q5 q6 q7 q8 q9=>⟨si',rfl,?_⟩
       refine fin S sk' si' y b' cs' (by omega) (λc f n1 n2=>(q9 c (by omega) n2).trans (u c f n1)) (ok.frame λc f=>?_) (B.imp id λh=>by omega) Q O q3 q4 q5 q6 (q7.imp id λh=>by omega) λe=>?_
       grind
       grind
     ·intro A
      have bT:A.size=g.size+1:=zaf _
      have al:Keep g.size g A:=Keep.push _ _ (zac _)
      have bD:Blk A g.size (zm w l j).toArray:=Blk.new _ _ _
      clear_value A
      refine⟨al.get _ m,al.get _ m,?_⟩
      intro N
      have bY:N.size=A.size+1:=zaf _
      have be:Keep A.size A N:=Keep.push _ _ (zac _)
      have bE:Blk N A.size #[.string st]:=Blk.new _ _ _
      clear_value N
      have kk:Keep g.size g N:=al.trans be (by omega)
      refine⟨kk.get _ m,kk.get _ m,?_⟩
      refine aa N A.size _ kk bE λsk' a2 y ok B za fa=>⟨sk',rfl,?_⟩
      have u:∀c,c<g.size->c∉bk->a2[c]?=g[c]?:=λc f hn=>(fa c (by omega) hn).trans (kk.get c f)
      refine⟨u _ m P.nk,?_⟩
      have an:y<a2.size:=by
       obtain⟨_,_,_,h4⟩:=ok
       rcases h4 with⟨_,h,_⟩|⟨b9,aS,e9,_,T,_⟩
       ·cases h
       ·simp at e9;subst e9;exact T.lt
      have V:y∉bb:=λU=>by
       grind
      have aQ:Blk a2 g.size (zm w l j).toArray:=(bD.keep (be.get _ (by omega))).keep (fa _ (by omega) (λU=>by grind))
      refine Y a2 g.size _ (λc f=>u c (by grind) (λU=>ax c U f)) aQ λsi' S b' cs' Q O q3 q4 q5 q6 q7 q8 q9=>⟨si',rfl,?_⟩
      refine fin S sk' si' y b' cs' (by omega) (λc f n1 n2=>(q9 c (by omega) n2).trans (u c f n1)) (ok.frame λc f=>?_) (B.imp id λh=>by omega) Q O q3 q4 q5 q6 (q7.imp id λh=>by omega) λe=>?_
      grind
      grind
end
section
variable {h h':zc} {rb:Nat} {D bs:List Nat} {K:Value -> zc -> Prop} {v x:Tr} {gl M:Fr} {u2 u:Value} {o:cK}
def lL(h:zc)(rb:Nat)(D:List Nat)(r:Tr×Int)(K:Value->zc->Prop):Prop:=∀h' b,(r.2=0->Doc h' rb r.1 b)->Turn h h' rb D [] b->K (.int .i64 r.2) h'
theorem YO(k:Keep h.size h h'):Turn h h' rb D [] []:=⟨k.size,λc h1 _ _=>k.get c h1,λc b=>by cases b⟩
theorem Turn.new{h h1 h':zc}{D bs b:List Nat}(H:Turn h1 h' rb D bs b)(k:Keep h.size h h1)(i:∀c∈bs,h.size<=c):Turn h h' rb D [] b:=by have:=k.size;refine⟨by have:=H.size;omega,λc h1 e f=>(H.old c (by omega) e f).trans (k.get c h1),λc j=>?_⟩;rcases H.own c j with h|h|h;exact .inl h;exact .inr (.inr (i c h));exact .inr (.inr (by omega))
theorem lV{r:Tr×Int}(H:lL h rb D r K)(b:r.2≠0)(k:Keep h.size h h'):K (.int .i64 r.2) h':=H h' [] (λe=>absurd e b) (YO k)
theorem uK{p:List Bt}(c:aR v<=4096)(h:qq v p=Td x):x.items.length<=1000000000:=by have h1:=(jz h).1;have b:=wy x.items;rw[ql]at h1;omega
structure At (gl:Fr) (v:Tr) (h:zc) (M:Fr) (rb:Nat) (D:List Nat):Prop where
 le:Fr.le gl M
 ag:AgM M h
 doc:Doc h rb v D
 sm:Sm v
 ok:yr zi v=Ta
 sz:aR v<=4096
theorem At.keep(A:At gl v h M rb D)(k:Keep h.size h h'):At gl v h' M rb D:= ⟨A.le,A.ag.keep k,A.doc.keep λc b=>k.get c (A.doc.lt c b),A.sm,A.ok,A.sz⟩
theorem At.out(A:At gl v h M rb D)(f:∀c∈bs,h.size<=c):∀c∈bs,c≠rb/\c∉D:=λc i=>by have:=f c i;exact⟨λe=>by have:=A.doc.lt c (.inl e);omega,λb=>by have:=A.doc.lt c (.inr b);omega⟩
theorem At.add(u:GL gl){v w:Tr}(A:At gl v h M rb D){p:List Bt}(o:SL p)(f:RdV M (.row .str) p u2){bw:List Nat}{n m:Sl}(y:OT h w bw (zm w n m))(i:∀c∈bw,c≠rb/\c∉D)
  {h0:zc} (j:Keep h0.size h0 h) (e:∀c∈bw,h0.size<=c) (b:lL h0 rb D (kZ (iI v p w)) K):XC Tp 212 #[.pointer (Td ⟨rb,0,Te⟩),u2,.agg #[.int .i64 w.kind,.string w.text,aK n,aK m]] h K:=by
 refine JY u A.sm A.ok o A.le A.ag A.doc f y i (λx z=>uK A.sz z) (λB h' k=>?_) λt q h' r l tn=>?_;rw[B]at b;exact lV b (by simp[kZ]) (j.trans k j.size);rw[q]at b;exact b h' r (λ_=>l) (tn.new j e)
theorem At.at(j:GL gl)(A:At gl v h M rb D){p:List Bt}(i:SL p)(f:RdV M (.row .str) p u2) (e:qq v p=Te->∀h',Keep h.size h h'->K (.pointer Te) h') (b:∀x,qq v p=Td x->∀h' c,Keep h.size h h'->Plc h' D rb c x (λy=>setP v p y)->K (.pointer (Td c)) h'):
  XC Tp 213 #[.pointer (Td ⟨rb,0,Te⟩),u2] h K:=
 zR j A.sm A.ok i A.le A.ag A.doc f e λx l _ _ h' c k plc=>b x l h' c k plc
theorem At.find_sm(A:At gl v h M rb D){p:List Bt}(b:qq v p=Td x):Sm x:=by obtain⟨h1,c,_⟩:=jz b;exact⟨by have:=A.sm.sz;omega,c _ A.sm.tx⟩
theorem Sn(k:GL gl)(A:At gl v h M rb D)(l:SL o.2.1)(m:Sm o.2.2.2)(t:y8 o.2.2.2=Ta)(x:RdV M X0 o u)(B:lL h rb D (kZ (iI v o.2.1 o.2.2.2)) K):
  XC Tp 152 #[.pointer (Td ⟨rb,0,Te⟩),u] h K:=by
 obtain⟨sp,sf,sk,si,rfl,r,G,n⟩:=ma x;apply Vt (Td ⟨rb,0,Te⟩) o.1 sp sf o.2.2.2.kind o.2.2.2.text sk si;intro h1;have j:Keep h.size h h1:=Keep.push _ _ (zac _);have b1:Blk h1 h.size (zy o.1 sp sf o.2.2.2 sk si).toArray:=Blk.new _ _ _;have H:h1.size=h.size+1:=zaf _;clear_value h1;have e:=A.keep j;refine⟨sp,b1.cellAdd (by rfl),o.2.2.2.kind,o.2.2.2.text,sk,si,?_,?_⟩;rw[zf];exact mH b1 (vs:=zm o.2.2.2 sk si) (o:=0+3) (i:=0) rfl;refine nh k m t e.le e.ag n λF bs E w f ot b=>⟨o.2.2.2.kind,o.2.2.2.text,E,w,rfl,f.get h.size b1.lt,?_⟩;have q:=e.keep f;refine q.add k l r ot (e.out b) (h0:=h) (j.trans f (by omega)) (λc C=>by have:=b c C;omega) λh' y z tn=>⟨_,rfl,B h' y z tn⟩
theorem UA(F:GL gl)(A:At gl v h M rb D)(G:SL o.2.1)(I:RdV M X0 o u)
  (b:lL h rb D (match qq v o.2.1 with
   |none=>(zT,8)
   |some _=>if o.2.1=[]then(zT,1)else(iP v o.2.1,0)) K):
  XC Tp 153 #[.pointer (Td ⟨rb,0,Te⟩),u] h K:=by
 obtain⟨sp,sf,sk,si,rfl,E,V,S⟩:=ma I;apply X2 (Td ⟨rb,0,Te⟩) o.1 sp sf o.2.2.2.kind o.2.2.2.text sk si;intro h1;have r:Keep h.size h h1:=Keep.push _ _ (zac _);have b1:Blk h1 h.size (zy o.1 sp sf o.2.2.2 sk si).toArray:=Blk.new _ _ _;have T:h1.size=h.size+1:=zaf _;clear_value h1;have z:=A.keep r;refine⟨sp,b1.cellAdd (by rfl),?_⟩;refine z.at F G E (λQ B m=>⟨Te,rfl,(λ_=>?_),λn=>by cases n⟩) λx C B L m plc=>⟨Td L,rfl,(λn=>by cases n),λ_=>⟨sp,(b1.ofKeep m).cellAdd (by rfl),?_⟩⟩;rw[Q]at b;exact lV b (by simp) (r.trans m (by omega));rw[C]at b;have f:=z.keep m;have l:Keep h.size h B:=r.trans m (by omega);simp only at b;refine Fv F f.sm f.ok G f.le f.ag f.doc E (λq i=>?_) (λy t=>uK f.sz t) (λh0=>⟨1,rfl,?_⟩) λy j i t J H h' P w tn=>⟨0,rfl,?_⟩;obtain⟨y,O,k,N,U⟩:=uj q C;exact⟨y,O,by rw[qM i,N];omega⟩;rw[zA h0]at b;exact lV b (by simp) l;rw[zv (λe=>by rw[e]at i;simp at i)]at b;refine b h' P (λ_=>?_) (tn.new l λc n=>by cases n);have:iP v o.2.1=setP v (o.2.1.take (o.2.1.length-1)) (iK y j):=by unfold iP iA;rw[t];simp only;rw[<-qM i,J];rfl
 rw[this];exact w
theorem Vr(N:GL gl)(A:At gl v h M rb D)(hp:SL o.2.1)(hw:Sm o.2.2.2)(ho:y8 o.2.2.2=Ta)(hu:RdV M X0 o u)
  (t:lL h rb D (match qq v o.2.1 with
   |none=>(zT,8)
   |some _=>(setP v o.2.1 o.2.2.2,0)) K):
  XC Tp 154 #[.pointer (Td ⟨rb,0,Te⟩),u] h K:=by
 obtain⟨sp,sf,sk,si,rfl,Y,r2,V⟩:=ma hu;apply Xz (Td ⟨rb,0,Te⟩) o.1 sp sf o.2.2.2.kind o.2.2.2.text sk si;intro h1;have z:Keep h.size h h1:=Keep.push _ _ (zac _);have b1:Blk h1 h.size (zy o.1 sp sf o.2.2.2 sk si).toArray:=Blk.new _ _ _;have z1:h1.size=h.size+1:=zaf _;clear_value h1;have O:=A.keep z;refine⟨sp,b1.cellAdd (by rfl),?_⟩;refine O.at N hp Y (λhn P l=>⟨Te,rfl,(λ_=>?_),λf=>by cases f⟩) λx hx P T l plc=>⟨Td T,rfl,(λf=>by cases f),λ_=>⟨o.2.2.2.kind,o.2.2.2.text,sk,si,?_,?_⟩⟩;rw[hn]at t;exact lV t (by simp) (z.trans l (by omega));rw[zf];exact mH (b1.ofKeep l) (vs:=zm o.2.2.2 sk si) (o:=0+3) (i:=0) rfl;rw[hx]at t;have E:=O.keep l;have z4:=l.size;have G:Keep h.size h P:=z.trans l (by omega);refine nh N hw ho E.le E.ag V λh8 bs w y B ot m=>⟨o.2.2.2.kind,o.2.2.2.text,w,y,rfl,T,rfl,?_⟩;have z8:=B.size;have n:=Plc.keepK plc (by have:=A.doc.lt rb (.inl rfl);omega) B;have j:=E.out m;obtain⟨b,of,cs,bx,rfl,Z,Q,ab,aa,k,L,S,U,H⟩:=n;have r:∀c,c≠rb->c∉D->c≠b:=λc C I e=>by rcases k with h|h;exact C (by rw[e,h]);exact I (by rw[e];exact h)
 refine Zg (vs:=zm o.2.2.2 w y) xL Z rfl wi (by show of+4<=_;omega) (Jz _ w y) λh' b' z' F=>?_;obtain⟨D',J,q⟩:=H h' o.2.2.2 (zm o.2.2.2 w y) bs (λc n1 _ _=>F c n1) b' (ot.frame λc f=>F c (r c (j c f).1 (j c f).2)) (λc f=>.inr (j c f));refine t h' D' (λ_=>J) ⟨by omega,λc C I q3=>(F c (r c I q3)).trans ((B.get c (by omega)).trans (G.get c C)),λc f=>?_⟩;rcases q c f with f|f;exact .inl f;exact .inr (.inr (by have:=m c f;omega))
theorem O8(t:GL gl)(A:At gl v h M rb D)(O:SL o.2.1)(P:SL o.2.2.1)(H:y8 v=Ta)(G:RdV M X0 o u)
  (j:lL h rb D (match qq v o.2.2.1 with
   |none=>(zT,8)
   |some y=>kZ (iI v o.2.1 y)) K):
  XC Tp 156 #[.pointer (Td ⟨rb,0,Te⟩),u] h K:=by
 obtain⟨sp,sf,sk,si,rfl,I,U,Y⟩:=ma G;apply Vn (Td ⟨rb,0,Te⟩) o.1 sp sf o.2.2.2.kind o.2.2.2.text sk si;intro h1;have q:Keep h.size h h1:=Keep.push _ _ (zac _);have b1:Blk h1 h.size (zy o.1 sp sf o.2.2.2 sk si).toArray:=Blk.new _ _ _;have z1:h1.size=h.size+1:=zaf _;clear_value h1;have z:=A.keep q;refine⟨sf,b1.cellAdd (by rfl),?_⟩;refine z.at t P U (λT B b=>⟨Te,rfl,(λ_=>?_),λi=>by cases i⟩) λx l B C b plc=>⟨Td C,rfl,(λi=>by cases i),λ_=>⟨sp,(b1.ofKeep b).cellAdd (by rfl),C,rfl,?_⟩⟩;rw[T]at j;exact lV j (by simp) (q.trans b (by omega));rw[l]at j;have e:=z.keep b;have Z:=b.size;have m:Keep h.size h B:=q.trans b (by omega);obtain⟨V,J,w,n,ot,L,_⟩:=Plc.ld plc;refine⟨x.kind,x.text,V,J,n,?_⟩;refine nh t (e.find_sm l) (Ap H l) (e.le.trans (Jx e.ag w)) (MxL.ag e.ag w) ot.rdv λh8 bs N F r k f=>⟨x.kind,x.text,N,F,rfl,r.get h.size (b1.ofKeep b).lt,?_⟩;have Q:=e.keep r;refine Q.add t O I k (e.out f) (h0:=h) (m.trans r (by omega)) (λc i=>by have:=f c i;omega) λh' S E tn=>⟨_,rfl,j h' S E tn⟩
end
end
section
open Go.Lib
variable {h:zc} {M gl:Fr} {v:Tr} {rb:Nat} {D:List Nat} {o:cK} {u:Value} {K:Value -> zc -> Prop}
theorem Ps{xs ys:List Bt}{s1 s2:Sl}(ag:AgM M h)(n:Rd M (.row .str) xs [aK s1])(r:Rd M (.row .str) ys [aK s2]):XC Tp 110 #[aK s1,aK s2] h λv h'=>v=.bool (decide (xs=ys))/\h'=h:=by
 obtain⟨c,x,_⟩:=rowLen n;obtain⟨t,y,_⟩:=rowLen r;apply Qp s1 s2;refine⟨λb=>⟨?_,rfl⟩,λb=>?_⟩;have:¬xs=ys:=λe=>by rw[c,t,e]at b;simp at b
 simp[this];have u:xs.length=ys.length:=by rw[c,t]at b;simp at b;omega
 refine⟨λi g=>∃k:Nat,i=k/\k<=xs.length/\g=h/\xs.take k=ys.take k,λi _=>xs.length-i.toNat,⟨0,rfl,za0 _,rfl,by simp⟩,?_⟩;rintro i g ⟨k,rfl,w,rfl,l⟩;refine⟨λb=>?_,λb=>?_⟩;have h1:k<xs.length:=by rw[c]at b;simp at b;omega
 have m:k<ys.length:=by omega
 refine jP ag n h1 rfl rfl (jP ag r m rfl rfl ⟨λq=>⟨?_,rfl⟩,λo=>?_⟩);rw[uE]at q;have:¬xs=ys:=λe=>by subst e;simp at q
 simp[this];rw[uE]at o;have j:xs[k]=ys[k]:=by simpa using o
 rw[je h1 (by omega)];exact⟨⟨k+1,rfl,h1,rfl,by rw[zal h1,zal m,l,j]⟩,by simp only[zae];omega⟩;have f:k=xs.length:=by rw[c]at b;simp at b;omega
 subst f;refine⟨?_,rfl⟩;rw[zba,zbu (by omega)]at l;simp[l]
set_option maxHeartbeats 2000000 in
theorem YF(I:GL gl)(A:At gl v h M rb D)(hp:SL o.2.1)(S:Sm o.2.2.2)(T:y8 o.2.2.2=Ta)(V:y8 v=Ta)(U:RdV M X0 o u)
  (e:lL h rb D (match qq v o.2.1 with
   |none=>(zT,8)
   |some x=>if ji x o.2.2.2 then(v,0)else(zT,9)) K):
  XC Tp 157 #[.pointer (Td ⟨rb,0,Te⟩),u] h K:=by
 obtain⟨sp,sf,sk,si,rfl,Y,r2,O⟩:=ma U;apply Ti (Td ⟨rb,0,Te⟩) o.1 sp sf o.2.2.2.kind o.2.2.2.text sk si;intro h1;have C:Keep h.size h h1:=Keep.push _ _ (zac _);have b1:Blk h1 h.size (zy o.1 sp sf o.2.2.2 sk si).toArray:=Blk.new _ _ _;have z1:h1.size=h.size+1:=zaf _;clear_value h1;have F:=A.keep C;refine⟨sp,b1.cellAdd (by rfl),?_⟩;refine F.at I hp Y (λhn G j=>⟨Te,rfl,(λ_=>?_),λf=>by cases f⟩) λx y G H j plc=>⟨Td H,rfl,(λf=>by cases f),λ_=>?_⟩;rw[hn]at e;exact lV e (by simp) (C.trans j (by omega));rw[y]at e;simp only at e;have m:=F.keep j;have z4:=j.size;have z:Keep h.size h G:=C.trans j (by omega);obtain⟨N,J,n,B,ot,Z,_⟩:=Plc.ld plc;have Q:=ot.lt;refine⟨H,rfl,x.kind,x.text,N,J,B,o.2.2.2.kind,o.2.2.2.text,sk,si,?_,?_⟩;rw[zf];exact mH (b1.ofKeep j) (vs:=zm o.2.2.2 sk si) (o:=0+3) (i:=0) rfl;have hs:PC Tp gl 46 [Arg.mk .tree x,Arg.mk .tree o.2.2.2] [.bool] (λr=>r=ji x o.2.2.2):=wD I (m.find_sm y) S (by rw[Ap V y,T];rfl);refine(hs.go (vs:=[.agg #[.int .i64 x.kind,.string x.text,aK N,aK J],.agg #[.int .i64 o.2.2.2.kind,.string o.2.2.2.text,aK sk,aK si]]) (m.le.trans (Jx m.ag n)) (MxL.ag m.ag n) (zr ot.rdv (zr (RdV.mono (Jx m.ag n) O) qj)) λw k M' r L l E=>?_);have E:r=_:=E;subst E;have b:Keep h.size h k:=z.trans L.keep (by omega);refine⟨_,Xh l,λhf=>?_,λP=>?_⟩;have q:ji x o.2.2.2=Tc:=by simpa using hf
 rw[q]at e;exact lV e (by simp) b;have t:ji x o.2.2.2=Ta:=by simpa using P
 rw[t]at e;refine e k D (λ_=>A.doc.keep λc f=>b.get c (A.doc.lt c f)) ⟨b.size,λc q1 _ _=>b.get c q1,λc f=>.inl f⟩
theorem TW{p f:List Bt}:(f=p.take f.length/\f.length<=p.length)↔(f.length<=p.length/\p.take f.length=f):=⟨λh=>⟨h.2,h.1.symm⟩,λh=>⟨h.2.symm,h.1⟩⟩
set_option maxHeartbeats 4000000 in
theorem P7(hg:GL gl)(A:At gl v h M rb D)(az:∀b cs,M b=Td cs->b≠rb/\b∉D)(hp:SL o.2.1)(hf:SL o.2.2.1)(hv:y8 v=Ta)(hu:RdV M X0 o u)
  (w:lL h rb D (match qq v o.2.2.1 with
   |none=>(zT,8)
   |some y=>if o.2.2.1=o.2.1.take o.2.2.1.length/\o.2.2.1.length<=o.2.1.length then(if o.2.2.1.length<o.2.1.length then(zT,1)else(v,0))else kZ (iI (iP v o.2.2.1) o.2.1 y)) K):
  XC Tp 155 #[.pointer (Td ⟨rb,0,Te⟩),u] h K:=by
 obtain⟨sp,sf,sk,si,rfl,r1,r2,r3⟩:=ma hu;have rp:Rd M (.row .str) o.2.1 [aK sp]:=by rw[Y9 rfl]at r1;exact r1
 have rf:Rd M (.row .str) o.2.2.1 [aK sf]:=by rw[Y9 rfl]at r2;exact r2
 obtain⟨lp,np,cp⟩:=rowLen rp;obtain⟨lf,nf,cf⟩:=rowLen rf;apply SF (Td ⟨rb,0,Te⟩) o.1 sp sf o.2.2.2.kind o.2.2.2.text sk si;intro h1;have k1:Keep h.size h h1:=Keep.push _ _ (zac _);have b1:Blk h1 h.size (zy o.1 sp sf o.2.2.2 sk si).toArray:=Blk.new _ _ _;have z1:h1.size=h.size+1:=zaf _;clear_value h1;have A1:=A.keep k1;refine⟨sf,b1.cellAdd (by rfl),?_⟩;refine A1.at hg hf r2 (λhn h4 P=>⟨Te,rfl,sf,(b1.ofKeep P).cellAdd (by rfl),(λ_=>?_),λf=>by cases f⟩) λy Y h4 pa P plc=>⟨Td pa,rfl,sf,(b1.ofKeep P).cellAdd (by rfl),(λf=>by cases f),λ_=>?_⟩;rw[hn]at w;exact lV w (by simp) (k1.trans P (by omega));rw[Y]at w;simp only at w;have U:=A1.keep P;have z4:=P.size;have L:Keep h.size h h4:=k1.trans P (by omega);have b4:=b1.ofKeep P;have aL:=A.doc.lt rb (.inl rfl);obtain⟨yk,yi,bx,aC,ot,aJ,_⟩:=Plc.ld plc;refine⟨sp,b4.cellAdd (by rfl),sp,(λ_=>b4.cellAdd (by rfl)),.inr ⟨_,rfl⟩,(λf=>⟨by omega,by omega,?_,by omega⟩),sf,(λ_=>b4.cellAdd (by rfl)),decide (o.2.1.take o.2.2.1.length=o.2.2.1),(λf=>?_),?_⟩;simp at f;omega;have C:o.2.2.1.length<=o.2.1.length:=by simp at f;omega
 have V:=yR rp C;rw[Y9 rfl]at V;have ae:(o.2.1.take o.2.2.1.length).length=o.2.2.1.length:=by rw[zbl];omega
 rw[<-lf]at V ae;have hq:=Ps (h:=h4) (s1:=⟨sp.a,sf.len,sp.cap⟩) (U.ag) V rf;rw[lf]at hq;simp only[zae,zdz,zdo,Zc];rw[<-lf]at hq;rw[<-lf];exact hq;have af:(bif (decide (((sp.len:Nat):Int)>=((sf.len:Nat):Int)))then decide (o.2.1.take o.2.2.1.length=o.2.2.1)else Tc)=decide (o.2.2.1=o.2.1.take o.2.2.1.length/\o.2.2.1.length<=o.2.1.length):=by rw[zbe];simp only[zem,zam,zG];rw[TW];exact⟨λh=>⟨by omega,h.2⟩,λh=>⟨by omega,h.2⟩⟩
 rw[af];refine⟨λf=>?_,λf=>?_⟩;have C:=zH f;rw[zA C]at w;refine⟨sp,b4.cellAdd (by rfl),λJ=>?_,λJ=>?_⟩;rw[zA (by rw[lp,lf]at J;simp at J;omega)]at w;exact lV w (by simp) L;rw[zv (by rw[lp,lf]at J;simp at J;omega)]at w;exact w h4 D (λ_=>U.doc) ⟨L.size,λc N _ _=>L.get c N,λc f=>.inl f⟩;have C:=zI f;rw[zv C]at w;have H:o.2.2.1≠[]:=λe=>C (by rw[e];simp);refine⟨pa,rfl,y.kind,y.text,yk,yi,aC,?_⟩;have ar:=U.find_sm Y;refine nh hg ar (Ap hv Y) (U.le.trans (Jx U.ag bx)) (MxL.ag U.ag bx) ot.rdv λm bs ck ci ah S ac=>⟨y.kind,y.text,ck,ci,rfl,?_⟩;have aG:=ah.size;intro I;have aF:Keep m.size m I:=Keep.push _ _ (zac _);have aE:Blk I m.size (zj 0 ⟨#[]⟩ ⟨Te,0,0⟩ ⟨Te,0,0⟩).toArray:=Blk.new _ _ _;have aI:I.size=m.size+1:=zaf _;clear_value I;refine jh aE rfl _ _ _ _ λB aD aM aB=>?_;have ab:Keep m.size m B:=⟨by omega,λj hj=>by rw[aB j (by omega)];exact aF.get j hj⟩;have r:Keep h4.size h4 B:=ah.trans ab (by omega);have O:Keep h.size h B:=L.trans r (by omega);have l:=U.keep r;have F:OT B y bs (zm y ck ci):=S.frame λc f=>ab.get c (S.lt c f);have n:=U.out ac;refine⟨sf,(b4.ofKeep r).cellAdd (by rfl),?_⟩;refine Fv hg l.sm l.ok hf l.le l.ag l.doc r2 (λH J=>?_) (λy Y=>uK l.sz Y) (λh0=>absurd h0 H) λz j J hz hj aH G D' ay tn=>⟨0,rfl,(λhx=>by simp at hx),λ_=>?_⟩;obtain⟨z,N,k,Q,q3⟩:=uj H Y;exact⟨z,N,by rw[qM J,Q];omega⟩;have ai:iP v o.2.2.1=setP v (o.2.2.1.take (o.2.2.1.length-1)) (iK z j):=by unfold iP iA;rw[hz];simp only;rw[<-qM J,hj];rfl
 rw[<-ai]at ay;have zt:=tn.size;have i:∀c,c<B.size->c≠rb->c∉D->G[c]?=B[c]?:=tn.old;have an:∀c∈D,c<h.size:=λc f=>A.doc.lt c (.inr f);have E:At gl (iP v o.2.2.1) G M rb D':=by refine⟨A.le,λb c e=>?_,ay,?_,IG A.ok H Y,by have:=rY v o.2.2.1;have:=A.sz;omega⟩;have hb:=l.ag.lt e;obtain⟨N,Q⟩:=az b c e;obtain⟨T,mm,e2⟩:=l.ag b c e;exact⟨T,mm,by rw[i b hb N Q];exact e2⟩;exact⟨by have:=rY v o.2.2.1;have:=A.sm.sz;omega,BU A.sm.tx _⟩
 have aj:Blk G h.size (zy o.1 sp sf o.2.2.2 sk si).toArray:=(b4.ofKeep r).keep (i _ (by omega) (by omega) (λZ=>by have:=an _ Z;omega));have au:Blk G m.size (zj y.kind y.text ck ci).toArray:=aD.keep (i _ (by omega) (by omega) (λZ=>by have:=an _ Z;omega));have ak:OT G y bs (zm y ck ci):=F.frame λc f=>i c (F.lt c f) (n c f).1 (n c f).2;have am:∀c∈bs,c≠rb/\c∉D':=λc f=>⟨(n c f).1,λZ=>by rcases tn.own c Z with q|q|q;exact(n c f).2 q;cases q;have:=F.lt c f;omega⟩;refine⟨sp,aj.cellAdd (by rfl),y.kind,y.text,ck,ci,au.ld (cs:=zj y.kind y.text ck ci),?_⟩;refine JY hg E.sm E.ok hp E.le E.ag E.doc r1 ak am (λx hx=>uK E.sz hx) (λhn h' k'=>⟨8,rfl,?_⟩) λt ht h' aA al aa=>⟨0,rfl,?_⟩;rw[hn]at w;refine w h' [] (λe=>by simp[kZ]at e) ⟨by have:=k'.size;omega,λc N Q q3=>?_,λc f=>by cases f⟩;rw[k'.get c (by omega),i c (by omega) Q q3];exact O.get c N;rw[ht]at w;refine w h' aA (λ_=>al) ⟨by have:=aa.size;omega,λc N Q q3=>?_,λc f=>?_⟩;have ax:c∉D':=λZ=>by rcases tn.own c Z with q|q|q;exact q3 q;cases q;omega
 rw[aa.old c (by omega) Q ax,i c (by omega) Q q3];exact O.get c N;rcases aa.own c f with q|q|q;rcases tn.own c q with q|q|q;exact .inl q;cases q;exact .inr (.inr (by omega));exact .inr (.inr (by have:=ac c q;omega));exact .inr (.inr (by omega))
end
section
open Go.Lib
set_option maxHeartbeats 2000000 in
section
theorem N1{gl:Fr}(L:GL gl){v:Tr}{h:zc}{M:Fr}{rb:Nat}{D:List Nat}(A:At gl v h M rb D)(V:∀b cs,M b=Td cs->b≠rb/\b∉D)(hv:zh v=Ta){o:cK}(t:OpS o){u:Value}(hu:RdV M X0 o u){K:Value->zc->Prop}(E:lL h rb D (Ym v o) K):
  XC Tp 91 #[.pointer (Td ⟨rb,0,Te⟩),u] h K:=by
 have ov:=wu hv;have n:=hu;obtain⟨sp,sf,sk,si,rfl,r1,r2,r3⟩:=ma hu;apply Qn (Td ⟨rb,0,Te⟩) o.1 sp sf o.2.2.2.kind o.2.2.2.text sk si;intro h1;have k1:Keep h.size h h1:=Keep.push _ _ (zac _);have b1:Blk h1 h.size (zy o.1 sp sf o.2.2.2 sk si).toArray:=Blk.new _ _ _;have z1:h1.size=h.size+1:=zaf _;clear_value h1;have A1:=A.keep k1;refine⟨o.1,sp,sf,o.2.2.2.kind,o.2.2.2.text,sk,si,b1.ld (cs:=zy o.1 sp sf o.2.2.2 sk si),?_⟩;have H:PC Tp gl 44 [Arg.mk X0 o] [.bool] (λr=>r=qm o):=DU L t rfl;refine H.go (vs:=[.agg (zy o.1 sp sf o.2.2.2 sk si).toArray]) A1.le A1.ag (zr n qj) λw y aD r O aa hr=>?_;have hr:r=qm o:=hr;subst hr;have k:Keep h.size h y:=k1.trans O.keep (by omega);have m:=A.keep k;have ab:=b1.ofKeep O.keep;have az:=O.keep.size;refine⟨qm o,Xh aa,λhf=>?_,λht=>?_⟩;have N:qm o=Tc:=by simpa using hf
 have:Ym v o=(zT,1):=by unfold Ym;rw[N];rfl
 rw[this]at E;exact lV E (by simp) k;have l:qm o=Ta:=by simpa using ht
 have z:Ym v o=(if(eR v o).2=0 then(if zh (eR v o).1 then((eR v o).1,0)else(zT,1))else(zT,(eR v o).2)):=by unfold Ym;rw[l,zA rfl]
 have ar:∀s∈o.2.1,s.size<=1048576:=λs hs=>by rw[<-nv];exact t.p.s s hs
 have am:Sm (eR v o).1:=Eh A.sm ov t.v (by have:=IY l;omega) ar;intro al ah;have j:∀F,zo Tp F=Ta->(∀J,lL y rb D (eR v o) J->XC Tp F #[.pointer (Td ⟨rb,0,Te⟩),.agg (zy o.1 sp sf o.2.2.2 sk si).toArray] y J)->al (.func (.func F) #[.pointer (Td ⟨rb,0,Te⟩)] #[]) y:=by
  intro F hF hX;refine ah _ y ⟨o.1,sp,sf,o.2.2.2.kind,o.2.2.2.text,sk,si,ab.ld (cs:=zy o.1 sp sf o.2.2.2 sk si),hF,?_⟩;refine hX _ λh' U hD tn=>⟨(eR v o).2,rfl,λaj=>?_,λau=>?_⟩;have I:(eR v o).2≠0:=by simpa using aj
  rw[z,zv I]at E;exact E h' [] (λe=>absurd e I) ⟨by have:=tn.size;have:=k.size;omega,λc q1 q2 q3=>(tn.old c (by have:=k.size;omega) q2 q3).trans (k.get c q1),λc Z=>by cases Z⟩
  ·have x:(eR v o).2=0:=by simpa using au
   rw[z,zA x]at E;have af:=hD x;have zt:=tn.size;obtain⟨⟨cs,bd,aC,ot⟩,aB⟩:=af;obtain⟨dk,di,ac⟩:=ot.cells;have Y:AgM M h':=λb c e=>by have hb:=m.ag.lt e;obtain⟨q1,q2⟩:=V b c e;obtain⟨T,mm,e2⟩:=m.ag b c e;exact⟨T,mm,by rw[tn.old b hb q1 q2];exact e2⟩
   have ai:cs=(zm (eR v o).1 dk di).toArray:=by apply zfb;rw[ac];rfl
   rw[ac]at ot;subst ai;refine⟨⟨rb,0,Te⟩,rfl,(eR v o).1.kind,(eR v o).1.text,dk,di,?_,?_⟩;rw[zf];exact bd.ld (cs:=zm (eR v o).1 dk di);have an:PC Tp gl 49 [Arg.mk .tree (eR v o).1] [.bool] (λr=>r=zh (eR v o).1):=xc L am rfl;refine an.go (vs:=[.agg #[.int .i64 (eR v o).1.kind,.string (eR v o).1.text,aK dk,aK di]]) (A.le.trans (Jx Y U)) (MxL.ag Y U) (zr ot.rdv qj) λw2 P aE ak Q C B=>?_;have B:ak=zh (eR v o).1:=B;subst B;have aA:=Q.keep.size;have ae:Turn h P rb D [] U:=⟨by have:=k.size;omega,λc q1 q2 q3=>by
    have:=k.size;rw[Q.keep.get c (by omega),tn.old c (by omega) q2 q3];exact k.get c q1,λc Z=>by
    rcases tn.own c Z with q|q|q;exact .inl q;cases q;exact .inr (.inr (by have:=k.size;omega))⟩
   refine⟨zh (eR v o).1,Xh C,λhf=>?_,λax=>?_⟩;have N:zh (eR v o).1=Tc:=by simpa using hf
   rw[zv (by rw[N];simp)]at E;exact E P U (λe=>by simp at e) ae;have ay:zh (eR v o).1=Ta:=by simpa using ax
   rw[zA ay]at E;refine E P U (λ_=>?_) ae;have hd:Doc h' rb (eR v o).1 U:=hD x;exact hd.keep λc Z=>Q.keep.get c (hd.lt c Z)
 have G:(xb (lb o.1)).2.2=Ta:=by unfold qm at l;simp only[zam]at l;exact l.1
 refine⟨o.1,?_,?_⟩;rw[zf];exact ab.cell (by rfl);simp only[xF];refine⟨λc1=>?_,λc1=>⟨λc2=>?_,λc2=>⟨λc3=>?_,λc3=>⟨λc4=>?_,λc4=>⟨λc5=>?_,λc5=>?_⟩⟩⟩⟩⟩;have e1:lb o.1=Y4:=zH c1;refine j _ (by kernel_rfl) λJ i=>UA L m t.p n ?_;unfold eR at i;rw[zA e1]at i;exact i;all_goals have S:lb o.1≠Y4:=zI c1
 have e2:lb o.1=wq:=zH c2;refine j _ (by kernel_rfl) λJ i=>Vr L m t.p t.v (xo l (vK (.inr (.inl e2)))) n ?_;unfold eR at i;rw[zv S,zA e2]at i;exact i;all_goals have n2:lb o.1≠wq:=zI c2
 have e3:lb o.1=mV:=zH c3;refine j _ (by kernel_rfl) λJ i=>P7 L m V t.p t.f ov n ?_;unfold eR at i;rw[zv S,zv n2,zA e3]at i;exact i;all_goals have n3:lb o.1≠mV:=zI c3
 have e4:lb o.1=oA:=zH c4;refine j _ (by kernel_rfl) λJ i=>O8 L m t.p t.f ov n ?_;unfold eR at i;rw[zv S,zv n2,zv n3,zA e4]at i;exact i;all_goals have n4:lb o.1≠oA:=zI c4
 have e5:lb o.1=nn:=zH c5;refine j _ (by kernel_rfl) λJ i=>YF L m t.p t.v (xo l (vK (.inr (.inr e5)))) ov n ?_;unfold eR at i;rw[zv S,zv n2,zv n3,zv n4,zA e5]at i;exact i;have n5:lb o.1≠nn:=zI c5;have e6:=SI G S n2 n3 n4 n5;refine j _ (by kernel_rfl) λJ i=>Sn L m t.p t.v (xo l (vK (.inl e6))) n ?_;unfold eR at i;rw[zv S,zv n2,zv n3,zv n4,zv n5]at i;exact i
end
end
section
open Go.Lib
variable {h:zc} {v:Tr} {o:cK}
theorem Pr{M:Fr}(ag:AgM M h){xs:List cK}{s:Sl}(H:Rd M (.row X0) xs [aK s]){k:Nat}(f:k<xs.length):∃(a:Addr) (sp sf sk si:Sl),s.a=Td a/\ze h (a.add (k*7)) 0 (zy xs[k].1 sp sf xs[k].2.2.2 sk si)/\RdV M X0 xs[k] (.agg (zy xs[k].1 sp sf xs[k].2.2.2 sk si).toArray):=by
 obtain⟨b,o,cs,j,e,l⟩:=Go.X.rowAt H f;have c:RdV M X0 xs[k] (.agg (cut cs (o+k*sz X0) (sz X0)).toArray):=by unfold RdV;simp only[hY,if_true];exact⟨_,rfl,l⟩
 obtain⟨sp,sf,sk,si,q,_⟩:=ma c;have:(cut cs (o+k*sz X0) (sz X0))=zy xs[k].1 sp sf xs[k].2.2.2 sk si:=by injection q with q;exact congrArg zdu q
 refine⟨_,sp,sf,sk,si,j,?_,by rw[<-this];exact c⟩;rw[ic];exact nP ag e (i:=0) this
theorem Uz(s:Bt)(sp sf:Sl)(v:Tr)(sk si:Sl):∀u∈zy s sp sf v sk si,u.oneCell'=Ta:=by intro u b;simp[zy]at b;rcases b with rfl|rfl|rfl|rfl|rfl|rfl|rfl <;> simp[Value.oneCell',aK]
theorem TU:yb Tp 50=Ta:=by kernel_rfl
theorem ZB:j4 Tp 50=7:=by kernel_rfl
def opZero:List Value:=[.string ⟨#[]⟩,.slice Te 0 0,.slice Te 0 0,.int .i64 0,.string ⟨#[]⟩,.slice Te 0 0,.slice Te 0 0]
theorem Pt{b:Nat}{cs:Array Value}(H:Blk h b cs)(e:cs.size=7)(s:Bt)(sp sf:Sl)(v:Tr)(sk si:Sl){K:zc->Prop}
  (i:∀h':zc,Blk h' b (zy s sp sf v sk si).toArray->h'.size=h.size->(∀j,j≠b->h'[j]?=h[j]?)->K h'):XRunU Tp (zag 50 (.pointer (Td ⟨b,0,Te⟩)) (.agg (zy s sp sf v sk si).toArray)) h K:=
 Zg (vs:=zy s sp sf v sk si) TU H rfl ZB (by rw[e];exact zac _) (Uz s sp sf v sk si) λh' c k f=>i h' (by rw[vO (by rw[e];rfl)]at c;exact c) k f
theorem yP(h:(Ym v o).2=0):zh (Ym v o).1=Ta:=by unfold Ym at h ⊢;split;split;split;rename_i c;exact c;rename_i h1 b c;rw[zA h1,zA b,zv c]at h;simp at h;rename_i h1 b;rw[zA h1,zv b]at h;exact absurd h b;rename_i h1;rw[zv h1]at h;simp at h
theorem FU(e:Sm v)(f:zh v=Ta)(b:OpS o):Sm (Ym v o).1:=by
 unfold Ym;split;rename_i h1;split;split;exact Eh e (wu f) b.v (by have:=IY h1;omega) λs c=>by rw[<-nv];exact b.p.s s c
 exact Xt;exact Xt;exact Xt
set_option maxHeartbeats 4000000 in
theorem O4{gl:Fr}(hg:GL gl){l:List cK}(hv:Sm v)(hl:∀o∈l,OpS o)(hn:l.length<=1000000){R:Tr×Int×Int->Prop}(hR:R (lX v l)):
  PC Tp gl 50 [Arg.mk .tree v,Arg.mk (.row X0) l] [.tree,.int .i64,.int .i64] R:=by
 intro h M vs hM ag aa
 match vs,aa with
 |[u1,u2],⟨G,T,_⟩=>
 have G:RdV M .tree v u1:=G;have T:RdV M (.row X0) l u2:=T;have P:=G;obtain⟨sk,si,rfl,rk,ri⟩:=qp G;obtain⟨sl,rfl,rl⟩:=Xq T;obtain⟨ll,_,_⟩:=rowLen rl;apply PX.of;apply TL v.kind v.text sk si sl;intro h1 h2;have k1:Keep h.size h h1:=Keep.push _ _ (zac _);have k2:Keep h1.size h1 h2:=Keep.push _ _ (zac _);have b1:Blk h1 h.size (zj v.kind v.text sk si).toArray:=Blk.new _ _ _;have b2:Blk h2 h1.size (zj 0 ⟨#[]⟩ ⟨Te,0,0⟩ ⟨Te,0,0⟩).toArray:=Blk.new _ _ _;have z1:h1.size=h.size+1:=zaf _;have z2:h2.size=h1.size+1:=zaf _;clear_value h1 h2;have am:=b1.ofKeep k2;have ae:Keep h.size h h2:=k1.trans k2 (by omega);have aL:=ag.keep ae;have ret:∀(g g':zc) (M':Fr) (r:Tr) (sk si:Sl) (i e:Int),Later h M g' M'->RdV M' .tree r (.agg #[.int .i64 r.kind,.string r.text,aK sk,aK si])->R (r,i,e) ->
   ∃M' r',Later h M g' M'/\J4 M' [.tree,.int .i64,.int .i64] r' (.tuple #[.agg #[.int .i64 r.kind,.string r.text,aK sk,aK si],.int .i64 i,.int .i64 e])/\R r':=by
  intro g g' M' r sk si i e L hr hR;exact⟨M',(r,i,e),L,⟨[_,_,_],⟨_,_,rfl,hr,_,_,rfl,Ja _ _,_,rfl,Ja _ _⟩,rfl⟩,hR⟩
 have ar:∀(g:zc) (i e:Int),Keep h.size h g->Blk g h1.size (zj 0 ⟨#[]⟩ ⟨Te,0,0⟩ ⟨Te,0,0⟩).toArray->R (zT,i,e) ->
   XRunU Tp (zag 25 (.pointer (Td ⟨h1.size,0,Te⟩)) (.agg #[.int .i64 0,.string (⟨#[]⟩:Bt),.slice Te 0 0,.slice Te 0 0])) g (λg'=>∃J:Int,∃Q:Bt,∃n:Sl,∃m:Sl,ze g' ⟨h1.size,0,Te⟩ 0 [.int .i64 J,.string Q,.slice n.a n.len n.cap,.slice m.a m.len m.cap] /\ (∃M' r',Later h M g' M'/\J4 M' [.tree,.int .i64,.int .i64] r' (.tuple #[.agg #[.int .i64 J,.string Q,.slice n.a n.len n.cap,.slice m.a m.len m.cap],.int .i64 i,.int .i64 e])/\R r')):=by
  intro g i e I bg aF;refine jh bg rfl 0 ⟨#[]⟩ ⟨Te,0,0⟩ ⟨Te,0,0⟩ λg' b' z' f'=>⟨0,⟨#[]⟩,⟨Te,0,0⟩,⟨Te,0,0⟩,b'.ld (cs:=zj 0 ⟨#[]⟩ ⟨Te,0,0⟩ ⟨Te,0,0⟩),?_⟩;have Y:Keep h.size h g':=⟨by have:=I.size;omega,λj Z=>by rw[f' j (by omega)];exact I.get j Z⟩;refine ret g g' M zT ⟨Te,0,0⟩ ⟨Te,0,0⟩ i e (Later.same ag Y) ?_ aF;refine qe (v:=zT) ?_ ?_;exact⟨_,rfl,Te,0,rfl,⟨by simp[zT],by simp[zT]⟩,.inl rfl⟩;exact⟨_,rfl,Te,0,rfl,⟨by simp[zT],by simp[zT]⟩,.inl rfl⟩
 refine⟨v.kind,v.text,sk,si,am.ld (cs:=zj v.kind v.text sk si),?_⟩;have H:PC Tp gl 49 [Arg.mk .tree v] [.bool] (λr=>r=zh v):=xc hg hv rfl;refine H.go (vs:=[.agg #[.int .i64 v.kind,.string v.text,aK sk,aK si]]) hM aL (zr P qj) λw h8 M8 r L8 ah hr=>?_;have hr:r=zh v:=hr;subst hr;have k8:Keep h.size h h8:=ae.trans L8.keep (by omega);have z8:=L8.keep.size;refine⟨zh v,Xh ah,λhf=>?_,λht=>?_⟩;have aD:zh v=Tc:=by simpa using hf
 unfold lX at hR;rw[aD]at hR;exact ar h8 0 1 k8 (b2.ofKeep L8.keep) hR;have V:zh v=Ta:=by simpa using ht
 have ai:lX v l=Qe v l 0:=by unfold lX;rw[V];rfl
 rw[ai]at hR;refine⟨v.kind,v.text,sk,si,(am.ofKeep L8.keep).ld (cs:=zj v.kind v.text sk si),?_⟩;refine nh hg hv (wu V) hM (ag.keep k8) P λf bs ck ci U ot aB=>⟨v.kind,v.text,ck,ci,rfl,?_⟩;have a8:=U.size;intro u;have S:Keep f.size f u:=Keep.push _ _ (zac _);have aN:Blk u f.size (zj v.kind v.text ck ci).toArray:=Blk.new _ _ _;have aV:u.size=f.size+1:=zaf _;clear_value u;have aP:Keep h.size h u:=(k8.trans U (by omega)).trans S (by omega);have au:OT u v bs (zm v ck ci):=ot.frame λc t=>S.get c (ot.lt c t);have aU:Doc u f.size v bs:=⟨⟨_,aN,rfl,au⟩,λhm=>by have:=ot.lt _ hm;omega⟩;have ak:Blk u h1.size (zj 0 ⟨#[]⟩ ⟨Te,0,0⟩ ⟨Te,0,0⟩).toArray:=((b2.ofKeep L8.keep).ofKeep U).ofKeep S;refine⟨λi g=>∃(k:Nat) (w:Tr) (D:List Nat),i=(k:Int)/\k<=l.length/\Keep h.size h g/\f.size<g.size/\Blk g h1.size (zj 0 ⟨#[]⟩ ⟨Te,0,0⟩ ⟨Te,0,0⟩).toArray/\Doc g f.size w D/\(∀c∈D,h2.size<=c)/\zh w=Ta/\Sm w/\R (Qe w (l.drop k) k),λi _=>l.length-i.toNat,⟨0,v,bs,rfl,za0 _,aP,by omega,ak,aU,(λc t=>by have:=aB c t;omega),V,hv,by rw[zcm];exact hR⟩,?_⟩;rintro i g ⟨k,w,D,rfl,hk,I,zg,bg,dg,hD,E,ax,F⟩;have agg:=ag.keep I;refine⟨λt=>?_,λt=>?_⟩
 ·have x:k<l.length:=by rw[ll]at t;simp at t;omega
  obtain⟨a,sp,sf,tk,ti,ea,aI,aT⟩:=Pr agg rl x;have al:=hl l[k] (zak x);refine⟨a,⟨ea,by omega,by omega⟩,l[k].1,sp,sf,l[k].2.2.2.kind,l[k].2.2.2.text,tk,ti,by rw[zae];exact aI,?_⟩;intro B;have aG:Keep g.size g B:=Keep.push _ _ (zac _);have aQ:Blk B g.size opZero.toArray:=Blk.new _ _ _;have aZ:B.size=g.size+1:=zaf _;clear_value B;refine Pt aQ rfl l[k].1 sp sf l[k].2.2.2 tk ti λC aM a6 aH=>?_;refine⟨l[k].1,sp,sf,l[k].2.2.2.kind,l[k].2.2.2.text,tk,ti,aM.ld (cs:=zy l[k].1 sp sf l[k].2.2.2 tk ti),?_⟩;have ab:Keep g.size g C:=⟨by omega,λj Z=>by rw[aH j (by omega)];exact aG.get j Z⟩;have y:Keep h.size h C:=I.trans ab (by have:=I.size;omega);have aS:At gl w C M f.size D:=⟨hM,ag.keep y,dg.keep λc t=>ab.get c (dg.lt c t),ax,sq (wu E),I9 E⟩;have aE:∀b cs,M b=Td cs->b≠f.size/\b∉D:=λb cs e=>by have:=ag.lt e;exact⟨by omega,λhm=>by have:=hD b hm;omega⟩
  have A:R (if(Ym w l[k]).2=0 then Qe (Ym w l[k]).1 (l.drop (k+1)) (k+1)else(zT,(k:Int),(Ym w l[k]).2)):=by rw[zbt x,Qe]at F;exact F
  have key:∀(h':zc) (D':List Nat),Turn C h' f.size D [] D'->Keep h.size h h'/\Blk h' h1.size (zj 0 ⟨#[]⟩ ⟨Te,0,0⟩ ⟨Te,0,0⟩).toArray:=λh' D' tn=>
   ⟨⟨by have:=tn.size;have:=y.size;omega,λj Z=>by rw[tn.old j (by have:=y.size;omega) (by omega) (λhm=>by have:=hD j hm;omega)];exact y.get j Z⟩,(bg.ofKeep ab).keep (tn.old _ (by omega) (by omega) (λhm=>by have:=hD _ hm;omega))⟩
  refine N1 hg aS aE E al aT λh' D' az tn=>⟨(Ym w l[k]).2,rfl,λaC=>?_,λaO=>?_⟩;all_goals obtain⟨an,aj⟩:=key h' D' tn
  have af:¬(Ym w l[k]).2=0:=by simpa using aC
  rw[zv af]at A;exact ar h' k (Ym w l[k]).2 an aj A;have z:(Ym w l[k]).2=0:=by simpa using aO
  rw[zA z]at A;rw[je x (by omega)];refine⟨⟨k+1,(Ym w l[k]).1,D',rfl,x,an,by have:=tn.size;omega,aj,az z,λc t=>?_,yP z,FU ax E al,A⟩,by simp only[zae];omega⟩;rcases tn.own c t with q|q|q;exact hD c q;cases q;omega
 have x:k=l.length:=by rw[ll]at t;simp at t;omega
 subst x;rw[zec,Qe]at F;obtain⟨⟨cs,bd,a7,ac⟩,aY⟩:=dg;obtain⟨N,O,ay⟩:=ac.cells;have aA:cs=(zm w N O).toArray:=by apply zfb;rw[ay];rfl
 rw[ay]at ac;subst aA;refine⟨⟨f.size,0,Te⟩,rfl,w.kind,w.text,N,O,?_,?_⟩;rw[zf];exact bd.ld (cs:=zm w N O);refine jh bg rfl w.kind w.text N O λg' b' z' f'=>⟨w.kind,w.text,N,O,b'.ld (cs:=zj w.kind w.text N O),?_⟩;have Y:Keep h.size h g':=⟨by have:=I.size;omega,λj Z=>by rw[f' j (by omega)];exact I.get j Z⟩;have aJ:OT g' w D (zm w N O):=ac.frame λc t=>f' c (by have:=hD c t;omega);have L:=MxL.later (M:=M) (h0:=h) (h:=g') ag Y (bs:=D) (λc t=>by have:=hD c t;omega);rw[ll];exact ret g g' _ w N O _ _ L aJ.rdv F
end
section
open Go.Lib
section
variable {w:Tr}
theorem vm(s:Bt){q:List Bt}(b:q≠[]):iA (s::q)=s::iA q/\ix (s::q)=ix q:=by
 cases q with
 |nil=>exact absurd rfl b
 |cons t q=>exact⟨by simp[iA],by simp[ix]⟩
section
variable {v : Tr} {s : Bt} {k : Nat}
theorem Nt(h:qh v s=k)(b:k<v.items.length){q:List Bt}(c:q≠[]){y:Tr}(e:qq v.items[k] (iA q)=Td y):iP v (s::q)=Xk v k (iP v.items[k] q):=by unfold iP;rw[(vm s c).1,(vm s c).2,jw h b,e];exact Ww h b
theorem Oz(h:qh v s=k)(b:k<v.items.length){q:List Bt}(c:q≠[])(w:Tr):iI v (s::q) w=(iI v.items[k] q w).map (Xk v k):=by
 unfold iI;rw[zv (List.cons_ne_nil _ _),zv c,(vm s c).1,(vm s c).2,jw h b];cases qq v.items[k] (iA q)with
 |none=>rfl
 |some x=>simp only;split;split;rw[zd2,Ww h b];rfl;split;rfl;split;rw[zd2,Ww h b];rw[zd2,Ww h b]
end
theorem zN(v:Tr)(p:List Bt):eR v (Yv p)=(match qq v p with
  |none=>(zT,8)
  |some _=>if p=[]then(zT,1)else(iP v p,0)):=by
 unfold eR Yv;simp only[yo];rw[zA trivial];cases qq v p <;> rfl
theorem wZ(v:Tr)(p:List Bt)(w:Tr):eR v (Qz p w)=(match qq v p with
  |none=>(zT,8)
  |some _=>(setP v p w,0)):=by
 unfold eR Qz;simp only[yo];rw[zv (by decide),zA trivial];cases qq v p <;> rfl
theorem tI(v:Tr)(p:List Bt)(w:Tr):eR v (Qy p w)=kZ (iI v p w):=by unfold eR Qy;simp only[yo];rw[zv (by decide),zv (by decide),zv (by decide),zv (by decide),zv (by decide)]
section
variable {v : Tr} {s : Bt} {k : Nat}
theorem PQ(h:qh v s=k)(c:k<v.items.length){q:List Bt}(h0:(eR v.items[k] (Yv q)).2=0):eR v (Yv (s::q))=(Xk v k (eR v.items[k] (Yv q)).1,0):=by
 rw[zN]at h0 ⊢;rw[zN,jw h c];cases hf:qq v.items[k] q with
 |none=>rw[hf]at h0;exact nomatch h0
 |some y=>rw[hf]at h0;simp only at h0 ⊢;by_cases b:q=[];rw[zA b]at h0;exact nomatch h0;rw[zv b,zv (List.cons_ne_nil _ _)];obtain⟨x,hi,_⟩:=uj b hf;rw[Nt h c b hi]
theorem Oa(h:qh v s=k)(b:k<v.items.length){q:List Bt}(h0:(eR v.items[k] (Qz q w)).2=0):eR v (Qz (s::q) w)=(Xk v k (eR v.items[k] (Qz q w)).1,0):=by
 rw[wZ]at h0 ⊢;rw[wZ,jw h b];cases hf:qq v.items[k] q with
 |none=>rw[hf]at h0;exact nomatch h0
 |some y=>simp only;rw[Ww h b]
theorem ZD(h:qh v s=k)(b:k<v.items.length){q:List Bt}(c:q≠[])(h0:(eR v.items[k] (Qy q w)).2=0):eR v (Qy (s::q) w)=(Xk v k (eR v.items[k] (Qy q w)).1,0):=by
 rw[tI]at h0 ⊢;rw[tI,Oz h b c];cases hf:iI v.items[k] q w with
 |none=>rw[hf]at h0;exact nomatch h0
 |some y=>rfl
end
end
section
variable {G G':Tr -> Prop} {v:Tr} {k:Nat}
def Run(G:Tr->Prop):Tr->List cK->Tr->Prop
 |x,[],y=>x=y
 |x,o::l,y=>(eR x o).2=0/\G (eR x o).1/\Run G (eR x o).1 l y
theorem Run.app:∀{l m:List cK} {x y z:Tr},Run G x l y->Run G y m z->Run G x (l++m) z
 |[],m,x,y,z,h,h'=>by have h:x=y:=h;subst h;exact h'
 |o::l,m,x,y,z,⟨a,b,c⟩,h'=>⟨a,b,c.app h'⟩
theorem Run.mono(e:∀z,G z->G' z):∀{l:List cK} {x y:Tr},Run G x l y->Run G' x l y
 |[],x,y,h=>h
 |o::l,x,y,⟨a,b,c⟩=>⟨a,e _ b,c.mono e⟩
theorem Run.last:∀{l:List cK} {x y:Tr},G x->Run G x l y->G y
 |[],x,y,hx,h=>by have h:x=y:=h;exact h ▸ hx
 |o::l,x,y,hx,⟨a,b,c⟩=>c.last b
inductive OpZ:cK->Prop
 |rem (p:List Bt):OpZ (Yv p)
 |rep (p:List Bt) (w:Tr):OpZ (Qz p w)
 |add {p:List Bt} (w:Tr):p≠[]->OpZ (Qy p w)
theorem TN{s:Bt}(h:qh v s=k)(b:k<v.items.length){o:cK}(c:OpZ o)(h0:(eR v.items[k] o).2=0):eR v (jL [s] o)=(Xk v k (eR v.items[k] o).1,0):=by
 cases c with
 |rem q=>exact PQ h b h0
 |rep q w=>exact Oa h b h0
 |add w e=>exact ZD h b e h0
theorem MB(c:k<v.items.length)(x:Tr):∃b:k<(Xk v k x).items.length,(Xk v k x).items[k]=x:=⟨by simpa[Xk]using c,by simp[Xk]⟩
theorem Mr(v:Tr)(k:Nat)(x y:Tr):Xk (Xk v k x) k y=Xk v k y:=by simp[Xk,Tr.kind,Tr.text,Tr.keys,Tr.items]
theorem Run.und{s:Bt}(h:qh v s=k)(i:k<v.items.length)(j:∀z,G z->G' (Xk v k z)):
  ∀{l:List cK} {x y:Tr},(∀o∈l,OpZ o)->Run G x l y->Run G' (Xk v k x) (l.map (jL [s])) (Xk v k y)
 |[],x,y,_,r=>by have r:x=y:=r;subst r;rfl
 |o::l,x,y,hl,⟨a,b,c⟩=>by
  obtain⟨f,e⟩:=MB i x;have n:qh (Xk v k x) s=k:=by rw[NN];exact h
  have d:=TN n f (hl o (za2 ..)) (by rw[e];exact a);rw[e,Mr]at d;refine⟨by rw[d],by rw[d];exact j _ b,?_⟩;rw[d];exact c.und h i j λo m=>hl o (za3 _ m)
theorem Run.apply(f:∀z,G z->zh z=Ta):∀{l:List cK} {x y:Tr} (i:Nat),(∀o∈l,qm o=Ta)->Run G x l y->Qe x l i=(y,((i+l.length:Nat):Int),0)
 |[],x,y,i,_,h=>by have h:x=y:=h;subst h;rfl
 |o::l,x,y,i,ho,⟨a,b,c⟩=>by
  have e:Ym x o=((eR x o).1,0):=by unfold Ym;rw[zA (ho o (za2 ..)),zA a,zA (f _ b)]
  unfold Qe;rw[e,zA rfl,c.apply f (i+1) λo h=>ho o (za3 _ h),zaw];congr 2;omega
end
section
variable {x:Tr}
theorem U7{D:List Bt->Tr->Tr->List cK}(e:∀p a b,∀o∈D p a b,OpZ o)(p:List Bt)(a b:Tr):∀o∈iT D p a b,OpZ o:=by intro o c;unfold iT at c;rcases zaj.1 c with h|h;obtain⟨k,_,rfl⟩:=zay.1 h;exact OpZ.rem _;rcases zaj.1 h with h|h;obtain⟨k,_,h⟩:=zbw.1 h;exact e _ _ _ _ h;obtain⟨k,_,rfl⟩:=zay.1 h;exact OpZ.add _ (by simp)
theorem SE{D:List Bt->Tr->Tr->List cK}(e:∀p a b,∀o∈D p a b,OpZ o)(p:List Bt)(a b:Tr)(m:List (Nat×Nat)):∀o∈iR D p a b m,OpZ o:=by intro o c;unfold iR at c;rcases zaj.1 c with h|h;obtain⟨k,_,h⟩:=zbw.1 h;exact e _ _ _ _ h;rcases zaj.1 h with h|h;obtain⟨k,_,rfl⟩:=zay.1 h;exact OpZ.rem _;obtain⟨k,_,rfl⟩:=zay.1 h;exact OpZ.add _ (by simp)
theorem AL{rw:List Tr->List Tr->Option (List (Nat×Nat))}:∀(f:Nat) (p:List Bt) (a b:Tr),∀o∈iB rw f p a b,OpZ o
 |0,p,a,b=>λo c=>nomatch c
 |f+1,p,a,b=>by
  unfold iB;have one:∀o∈[Qz p b],OpZ o:=λo c=>by rw[za6.1 c];exact OpZ.rep _ _
  split;exact λo c=>nomatch c;split;exact U7 (λp a b=>AL f p a b) p a b;split;split;exact SE (λp a b=>AL f p a b) p a b _;exact one;exact one
theorem GN{s:Bt}{k:Nat}(h:qh x s=k)(c:k<x.items.length):eR x (Yv [s])=(iK x k,0):=by
 have b:qq x [s]=Td x.items[k]:=by rw[jw h c,wo]
 rw[zN,b];simp only;rw[zv (List.cons_ne_nil _ _)];unfold iP;have e:iA [s]=[]/\ix [s]=s:=oM [] s;rw[e.1,e.2,wo];simp only;rw[h,zae];rfl
theorem RI{x w:Tr}{s:Bt}(b:x.kind=6)(h:s∉x.keys):eR x (Qy [s] w)=(mc x s w,0):=by
 have e:iA [s]=[]/\ix [s]=s:=oM [] s;have f:qh x s<0:=by unfold qh;rw[zA b];rcases Wv s x.keys 0 with⟨h1,_⟩|⟨j,_,_,c⟩;unfold idxOfS;omega;exact absurd (zcg c) h
 rw[tI];unfold iI;rw[zv (List.cons_ne_nil _ _),e.1,e.2,wo];simp only;rw[zv (by omega),zv (by simp[b]),zv (by omega)];rfl
theorem P8(x w:Tr):eR x (Qz [] w)=(w,0):=by rw[wZ,wo];rfl
end
section
def oT(t:Bt)(ps:List (Bt×Tr)):Tr:=.mk 6 t (ps.map (·.1)) (ps.map (·.2))
variable {t : Bt} {ps : List (Bt × Tr)}
theorem Iu(nd:(ps.map (·.1)).Nodup){j:Nat}(b:j<ps.length):qh (oT t ps) ps[j].1=j:=by unfold qh;rw[zA (show(oT t ps).kind=6 from rfl)];have:=JO nd (i:=j) (by simpa using b);rw[zb3]at this;exact this
theorem WN(j:Nat):iK (oT t ps) j=oT t (ps.eraseIdx j):=by unfold iK oT;simp only[Tr.kind,Tr.text,Tr.keys,Tr.items,if_true];rw[List.eraseIdx_eq_take_drop_succ,zbc,zbc,ze3,zff,ze3,zff]
theorem Mj(s:Bt)(w:Tr):mc (oT t ps) s w=oT t (ps++[(s,w)]):=by unfold mc oT;simp only[Tr.kind,Tr.text,Tr.keys,Tr.items,zbc,za1,List.map_nil]
theorem FE:∀{ps:List (Bt×Tr)} {j:Nat} (c:j<ps.length),(ps.map (·.1)).Nodup->ps.eraseIdx j=ps.filter λp=>!decide (p.1=ps[j].1)
 |p::ps,0,c,nd=>by rw[za1,zbq]at nd;rw[List.eraseIdx_cons_zero,List.filter_cons_of_neg (by simp)];refine(List.filter_eq_self.2 λq f=>?_).symm;have:q.1≠p.1:=λe=>nd.1 (e ▸ zay.2 ⟨q,f,rfl⟩);simp[this]
 |p::ps,j+1,c,nd=>by rw[za1,zbq]at nd;have b:j<ps.length:=Nat.lt_of_succ_lt_succ c;have:p.1≠ps[j].1:=λe=>nd.1 (e ▸ zay.2 ⟨ps[j],zak b,rfl⟩);rw[List.eraseIdx_cons_succ,List.getElem_cons_succ,List.filter_cons_of_pos (by simp[this]),FE b nd.2]
theorem DZ{G:Tr->Prop}:∀(ks:List Bt) (ps:List (Bt×Tr)),ks.Nodup->(ps.map (·.1)).Nodup->(∀k∈ks,k∈ps.map (·.1))->(∀f:List (Bt×Tr),f.Sublist ps->G (oT t f)) ->
  Run G (oT t ps) (ks.map λk=>Yv [k]) (oT t (ps.filter λp=>!ks.contains p.1))
 |[],ps,_,_,_,_=>by show oT t ps=_;rw[List.filter_eq_self.2 λq _=>by simp]
 |k::ks,ps,hk,nd,hin,hG=>by
  rw[zbq]at hk;obtain⟨j,n,e⟩:=zdj (hin k (za2 ..));have b:j<ps.length:=by simpa using n
  rw[zb3]at e;have i:=Iu (t:=t) nd b;rw[e]at i;have c:=GN i (by simpa[oT,Tr.items]using b);rw[WN,FE b nd,e]at c;rw[za1];have sub:(ps.filter λp=>!decide (p.1=k)).Sublist ps:=List.filter_sublist;refine⟨by rw[c],by rw[c];exact hG _ sub,?_⟩;rw[c];have:=DZ ks (ps.filter λp=>!decide (p.1=k)) hk.2 ((sub.map _).nodup nd) (λx l=>by obtain⟨q,m,rfl⟩:=zay.1 (hin x (za3 _ l));refine zay.2 ⟨q,zbv.2 ⟨m,?_⟩,rfl⟩;have:q.1≠k:=λe=>hk.1 (e ▸ l);simp[this]) λf h=>hG f (h.trans sub);rw[List.filter_filter]at this;rw[show(ps.filter λp=>!(k::ks).contains p.1)=ps.filter λp=>(!ks.contains p.1 && !decide (p.1=k))from List.filter_congr λp _=>by by_cases h:p.1=k <;> simp[h,Bool.and_comm]];exact this
end
section
variable {t : Bt}
theorem VE(ps:List (Bt×Tr)){j:Nat}(b:j<ps.length)(z:Tr):Xk (oT t ps) j z=oT t (ps.set j (ps[j].1,z)):=by unfold Xk oT;simp only[Tr.kind,Tr.text,Tr.keys,Tr.items];rw[List.map_set,List.map_set];simp only;rw[show(ps.map (·.1)).set j ps[j].1=ps.map (·.1)from by refine zdw (by simp) λi h1 c=>?_;rw[List.getElem_set];split;rename_i e;subst e;rw[zb3];rfl]
theorem Hh:∀{ps:List (Bt×Tr)} {j:Nat} (c:j<ps.length) (z:Tr),(ps.map (·.1)).Nodup->ps.set j (ps[j].1,z)=ps.map λp=>if p.1=ps[j].1 then(p.1,z)else p
 |p::ps,0,c,z,nd=>by rw[za1,zbq]at nd;rw[List.set_cons_zero,za1,List.getElem_cons_zero,zA rfl];congr 1;refine(zfl _).symm.trans (zbx λq f=>?_);have:q.1≠p.1:=λe=>nd.1 (e ▸ zay.2 ⟨q,f,rfl⟩);rw[zv this];rfl
 |p::ps,j+1,c,z,nd=>by rw[za1,zbq]at nd;have b:j<ps.length:=Nat.lt_of_succ_lt_succ c;have:p.1≠ps[j].1:=λe=>nd.1 (e ▸ zay.2 ⟨ps[j],zak b,rfl⟩);rw[List.set_cons_succ,za1,List.getElem_cons_succ,zv this,Hh b z nd.2]
theorem CX{G:Tr->Prop}(W:Bt->Tr->Prop)(l:Bt->List cK)(y:Bt->Tr)(F:∀k,∀o∈l k,OpZ o):∀(ks:List Bt) (ps:List (Bt×Tr)),ks.Nodup->(ps.map (·.1)).Nodup -> (∀k∈ks,∃x,(k,x)∈ps/\Run (W k) x (l k) (y k))->(∀q∈ps,W q.1 q.2)->(∀m:List (Bt×Tr),m.map (·.1)=ps.map (·.1)->(∀q∈m,W q.1 q.2)->G (oT t m)) ->
  Run G (oT t ps) (ks.flatMap λk=>(l k).map (jL [k])) (oT t (ps.map λp=>if ks.contains p.1 then(p.1,y p.1)else p))
 |[],ps,_,_,_,_,_=>by show oT t ps=_;rw[show(λp:Bt×Tr=>if([]:List Bt).contains p.1=Ta then(p.1,y p.1)else p)=id from funext λp=>by simp,zfl]
 |k::ks,ps,hk,nd,hin,hW,hG=>by
  rw[zbq]at hk;obtain⟨x,I,M⟩:=hin k (za2 ..);obtain⟨j,r,e⟩:=zdj I;have w:=Iu (t:=t) nd r;rw[e]at w;have w:qh (oT t ps) k=j:=w;have D:j<(oT t ps).items.length:=by simpa[oT,Tr.items]using r
  have key:∀z,(ps.set j (k,z)).map (·.1)=ps.map (·.1):=λz=>by rw[List.map_set];refine zdw (by simp) λi h1 E=>?_;rw[List.getElem_set];split;rename_i n;subst n;rw[zb3,e];rfl
  have L:∀z,W k z->∀q∈ps.set j (k,z),W q.1 q.2:=λz hz q O=>by rcases zd1 O with h|h;exact hW q h;subst h;exact hz
  have b:∀z,Xk (oT t ps) j z=oT t (ps.set j (k,z)):=λz=>by rw[VE ps r z,e]
  have H:=Run.und (G':=G) w D (λz hz=>by rw[b];exact hG _ (key z) (L z hz)) (F k) M;have c:Xk (oT t ps) j x=oT t ps:=by rw[b,show(k,x)=ps[j]from e.symm,List.set_getElem_self]
  rw[c,b]at H;have P:W k (y k):=M.last (hW _ I);have N:=CX W l y F ks (ps.set j (k,y k)) hk.2 (by rw[key];exact nd) (λC f=>by
    obtain⟨J,A,B⟩:=hin C (za3 _ f);refine⟨J,?_,B⟩;obtain⟨i,hi,n⟩:=zdj A;have ne:j≠i:=λh=>by subst h;rw[e]at n;have:k=C:=congrArg Prod.fst n;exact hk.1 (this ▸ f)
    have:(ps.set j (k,y k))[i]'(by simpa using hi)=(C,J):=by rw[List.getElem_set_ne ne,n]
    exact this ▸ zak _) (L _ P) (λm h1 E=>hG m (h1.trans (key _)) E)
  rw[zcd];have R:=H.app N;have u:=Hh r (y k) nd;rw[e]at u;have u:ps.set j (k,y k)=ps.map λp=>if p.1=k then(p.1,y k)else p:=u;rw[u,zav]at R;rw[show(ps.map λp=>if(k::ks).contains p.1=Ta then(p.1,y p.1)else p)=ps.map ((λp=>if ks.contains p.1=Ta then(p.1,y p.1)else p) ∘ λp=>if p.1=k then(p.1,y k)else p)from zbx λp _=>by by_cases h:p.1=k;simp[h];simp[h]];exact R
end
section
variable {t : Bt}
theorem CU{G:Tr->Prop}:∀(ws ps:List (Bt×Tr)),((ps++ws).map (·.1)).Nodup->(∀us:List (Bt×Tr),us.Sublist ws->G (oT t (ps++us)))->Run G (oT t ps) (ws.map λq=>Qy [q.1] q.2) (oT t (ps++ws))
 |[],ps,_,_=>by rw[zbs];rfl
 |q::ws,ps,nd,hG=>by
  have c:q.1∉(oT t ps).keys:=by rw[zbc,za1]at nd;intro h;exact(zb2.1 nd).2.2 q.1 h q.1 (za2 ..) rfl
  have b:=RI (x:=oT t ps) (w:=q.2) rfl c;rw[Mj]at b;rw[za1];refine⟨by rw[b],by rw[b];exact hG [q] (by simp),?_⟩;rw[b];have e:ps++[(q.1,q.2)]++ws=ps++q::ws:=by simp
  have:=CU ws (ps++[(q.1,q.2)]) (by rw[e];exact nd) λus h=>by rw[show ps++[(q.1,q.2)]++us=ps++q::us by simp];exact hG _ (h.cons_cons q)
  rw[e]at this;exact this
end
section
variable {i:Nat}
theorem wW(i:Nat):lb (J6 i)=decDigits i:=by unfold J6;rw[yo,LA]
theorem Fs(h:i<=1000000):ir (lb (J6 i))=((i:Int),Ta):=by
 rw[wW];obtain⟨j,e,k,f⟩:=Zk i i (zac _);have m:=Tn h;have l:1<=(decDigits i).length:=by
  cases hq:decDigits i with
  |nil=>exact absurd hq e
  |cons c t=>simp
 unfold ir;rw[zv (by
  rintro(h1|h1|⟨h1,b⟩);omega;omega;by_cases h0:1<=i;exact f h0 b;have:i=0:=by omega
  subst this;rw[decDigits,dif_pos (by omega)]at h1;simp at h1),zA j,k]
def gK(t:Bt)(xs:List Tr):Tr:=.mk 5 t [] xs
variable {t : Bt} {xs : List Tr}
theorem GQ(h:i<xs.length)(b:xs.length<=1000000):qh (gK t xs) (J6 i)=i:=by unfold qh;rw[zv (show¬(gK t xs).kind=6 by show¬(5:Int)=6;decide),zA (show(gK t xs).kind=5 from rfl),Fs (by omega)];exact zA ⟨rfl,by show(i:Int)<((xs.length:Nat):Int);omega⟩
theorem BJ(i:Nat)(z:Tr):Xk (gK t xs) i z=gK t (xs.set i z):=rfl
theorem Va(i:Nat):iK (gK t xs) i=gK t (xs.eraseIdx i):=by unfold iK gK;simp only[Tr.kind,Tr.text,Tr.keys,Tr.items];rw[zv (by decide),List.eraseIdx_eq_take_drop_succ]
theorem Lo(h:i<=xs.length)(c:xs.length<=1000000):me (gK t xs) (J6 i)=Td i:=by
 unfold me;have b:lb (J6 i)≠[45]:=λe=>by have:=(Zk i i (zac _)).1;rw[wW]at e;rw[e]at this;exact absurd this (by decide)
 rw[zv b,Fs (by omega),zA ⟨rfl,by show(i:Int)<=((xs.length:Nat):Int);omega⟩];rfl
theorem ON(h:i<=xs.length)(b:xs.length<=1000000)(w:Tr):eR (gK t xs) (Qy [J6 i] w)=(gK t (xs.take i++w::xs.drop i),0):=by have e:iA [J6 i]=[]/\ix [J6 i]=J6 i:=oM [] _;rw[tI];unfold iI;rw[zv (List.cons_ne_nil _ _),e.1,e.2,wo];simp only;rw[zA (show(gK t xs).kind=5 from rfl),Lo h b];rfl
theorem VK(h:i<xs.length)(b:xs.length<=1000000):eR (gK t xs) (Yv [J6 i])=(gK t (xs.eraseIdx i),0):=by rw[GN (GQ h b) (show i<(gK t xs).items.length from h),Va]
theorem FV{G:Tr->Prop}(r:xs.length<=1000000)(kp:Nat->Bool)(l:∀f:List Tr,f.Sublist xs->G (gK t f)):∀i,i<=xs.length ->
  Run G (gK t (xs.take i++((List.range' i (xs.length-i)).filter kp).map λk=>xs.getD k zT)) (((zaq i).filter λk=>!kp k).reverse.map λk=>Yv [J6 k]) (gK t (((zaq xs.length).filter kp).map λk=>xs.getD k zT))
 |0,_=>by show gK t _=gK t _;rw[List.range_eq_range' (n:=xs.length)];rfl
 |i+1,hi=>by
  have I:=FV r kp l i (by omega);have u:List.range' i (xs.length-i)=i::List.range' (i+1) (xs.length-(i+1)):=by rw[show xs.length-i=(xs.length-(i+1))+1 by omega];rfl
  rw[u]at I;rw[zej,List.filter_append,List.reverse_append,zbc];have h:xs.take (i+1)=xs.take i++[xs.getD i zT]:=by rw[zal (by omega),zar,zai (by omega)];rfl
  by_cases e:kp i=Ta;rw[List.filter_cons_of_pos e,za1]at I;rw[show[i].filter (λk=>!kp k)=[]from by simp[e],h,za9];exact I;rw[List.filter_cons_of_neg e]at I;rw[show[i].filter (λk=>!kp k)=[i]from by simp[e]];have b:(xs.take i).length=i:=by rw[zbl];omega
  have sub:∀(j:Nat),(((List.range' j (xs.length-j)).filter kp).map λk=>xs.getD k zT).Sublist (xs.drop j):=λj=>by
   have:(List.range' j (xs.length-j)).map (λk=>xs.getD k zT)=xs.drop j:=by refine zdw (by simp) λm h1 q=>?_;simp only[zb8]at q;rw[zb3,List.getElem_range',List.getElem_drop,zar,zd6,zai (by omega)];rfl
   rw[<-this];exact List.filter_sublist.map _
  have o:(((List.range' (i+1) (xs.length-(i+1))).filter kp).map λk=>xs.getD k zT).length<=xs.length-(i+1):=by have:=(sub (i+1)).length_le;rw[zb8]at this;exact this
  generalize y:(((List.range' (i+1) (xs.length-(i+1))).filter kp).map λk=>xs.getD k zT)=T at *;have c:=VK (t:=t) (xs:=xs.take (i+1)++T) (i:=i) (by rw[zah,zbl];omega) (by rw[zah,zbl];omega);have x:(xs.take (i+1)++T).eraseIdx i=xs.take i++T:=by rw[h,za9,List.eraseIdx_append_of_length_le (by omega),b,ze9];rfl
  rw[x]at c;have w:G (gK t (xs.take i++T)):=l _ (by
   have s1:T.Sublist (xs.drop i):=by rw[<-y];exact(sub (i+1)).trans (by rw[show xs.drop (i+1)=(xs.drop i).drop 1 by rw[zdh]];exact List.drop_sublist _ _)
   have:=(zd8 (xs.take i)).append s1;rw[zca]at this;exact this)
  refine⟨by rw[c],by rw[c];exact w,?_⟩;rw[c];exact I
theorem IZ{G:Tr->Prop}(n:Nat)(r:n<=1000000)(kp:Nat->Bool)(f:Nat->Tr)(h:∀ks:List Nat,ks.Sublist (zaq n)->G (gK t (ks.map f))):∀(d j:Nat),j+d=n ->
  Run G (gK t ((zaq j++(List.range' j d).filter kp).map f)) (((List.range' j d).filter λk=>!kp k).map λk=>Qy [J6 k] (f k)) (gK t ((zaq n).map f))
 |0,j,hj=>by
  have:j=n:=by omega
  subst this;show gK t _=_;simp
 |d+1,j,hj=>by
  have I:=IZ n r kp f h d (j+1) (by omega);have o:List.range' j (d+1)=j::List.range' (j+1) d:=rfl;rw[o];rw[zej,za9]at I;by_cases c:kp j=Ta;rw[List.filter_cons_of_pos c,List.filter_cons_of_neg (by simp[c])];exact I;rw[List.filter_cons_of_neg c,List.filter_cons_of_pos (by simp[c]),za1];have sub:((List.range' (j+1) d).filter kp).Sublist (List.range' (j+1) d):=List.filter_sublist;generalize x:(List.range' (j+1) d).filter kp=T at *;have w:T.length<=d:=by have:=sub.length_le;simpa using this
  have b:=ON (t:=t) (xs:=(zaq j++T).map f) (i:=j) (by simp) (by simp;omega) (f j);have u:((zaq j++T).map f).take j++f j::((zaq j++T).map f).drop j=(zaq j++([j]++T)).map f:=by rw[zbc,List.take_left' (by simp),List.drop_left' (by simp)];simp
  rw[u]at b;have q:(zaq j++([j]++T)).Sublist (zaq n):=by
   have e:zaq n=zaq j++([j]++List.range' (j+1) d):=by rw[List.range_eq_range',List.range_eq_range',<-hj];have l:=(List.range'_append (s:=0) (m:=j) (n:=d+1) (step:=1)).symm;rw[zas,zd6]at l;exact l
   rw[e];exact(zd8 _).append ((zd8 _).append sub)
  refine⟨by rw[b],by rw[b];exact h _ q,?_⟩;rw[b];exact I
theorem H0{G:Tr->Prop}(n m:Nat)(W:Nat->Tr->Prop)(l:Nat×Nat->List cK)(y:Nat×Nat->Tr)(D:∀q,∀o∈l q,OpZ o):∀(M:List (Nat×Nat)) (i j:Nat) (xs:List Tr),xs.length=n->n<=1000000->Rising i j n m M -> (∀q∈M,Run (W q.1) (xs.getD q.1 zT) (l q) (y q))->(∀k,k<n->W k (xs.getD k zT))->(∀f:List Tr,f.length=n->(∀k,k<n->W k (f.getD k zT))->G (gK t f)) ->
  ∃f:List Tr,f.length=n/\Run G (gK t xs) (M.flatMap λq=>(l q).map (jL [J6 q.1])) (gK t f)/\(∀k,k<i->f.getD k zT=xs.getD k zT)/\(∀q∈M,f.getD q.1 zT=y q)/\∀k,k<n->W k (f.getD k zT)
 |[],i,j,xs,hx,_,_,_,hW,_=>⟨xs,hx,rfl,λ_ _=>rfl,λq h=>(nomatch h),hW⟩
 |q::M,i,j,xs,hx,hn,⟨a,b,c,d,e⟩,hr,hW,hG=>by
  have B:=hr q (za2 ..);have O:=GQ (t:=t) (xs:=xs) (i:=q.1) (by omega) (by omega);have u:∀(z:Tr) (k:Nat),(xs.set q.1 z).getD k zT=if k=q.1 then z else xs.getD k zT:=λz k=>by rw[zar,List.getElem?_set];by_cases h:q.1=k;rw[zA h,zA (by omega),zA h.symm];rfl;rw[zv h,zv λe=>h e.symm,zar]
  have C:∀z,W q.1 z->∀k,k<n->W k ((xs.set q.1 z).getD k zT):=λz hz k A=>by rw[u];split;rename_i h;rw[h];exact hz;exact hW k A
  have E:=Run.und (G':=G) O (show q.1<(gK t xs).items.length by show q.1<xs.length;omega) (λz hz=>by rw[BJ];exact hG _ (by rw[List.length_set];exact hx) (C z hz)) (D q) B;have r:Xk (gK t xs) q.1 (xs.getD q.1 zT)=gK t xs:=by rw[BJ,zar,zai (by omega)];show gK t (xs.set q.1 xs[q.1])=_;rw[List.set_getElem_self]
  rw[r,BJ]at E;have N:W q.1 (y q):=B.last (hW _ c);have x:=(j3 e).1;obtain⟨f,L,I,F,J,H⟩:=H0 n m W l y D M (q.1+1) (q.2+1) (xs.set q.1 (y q)) (by rw[List.length_set];exact hx) hn e (λw h'=>by have:=x w h';rw[u,zv (by omega)];exact hr w (za3 _ h')) (C _ N) hG;refine⟨f,L,?_,λk A=>?_,λw h'=>?_,H⟩;rw[zcd];exact E.app I;rw[F k (by omega),u,zv (by omega)];rcases zan.1 h' with rfl|h';rw[F _ (by omega),u,zA rfl];exact J w h'
theorem Dp{n m:Nat}:∀{M:List (Nat×Nat)} {i j:Nat},Rising i j n m M->(List.range' i (n-i)).filter (λk=>(M.map (·.1)).contains k)=M.map (·.1)/\(List.range' j (m-j)).filter (λk=>(M.map (·.2)).contains k)=M.map (·.2)
 |[],i,j,_=>by simp
 |q::M,i,j,⟨a,b,c,d,e⟩=>by
  obtain⟨y,z⟩:=Dp e;have l:=(j3 e).1;have key:∀(n i:Nat) (g:Nat×Nat->Nat),i<=g q->g q<n->(∀f∈M,g q+1<=g f)->(List.range' (g q+1) (n-(g q+1))).filter (λk=>(M.map g).contains k)=M.map g ->
    (List.range' i (n-i)).filter (λk=>((q::M).map g).contains k)=(q::M).map g:=λn i g hi A w I=>by
   have x:List.range' i (n-i)=List.range' i (g q-i)++g q::List.range' (g q+1) (n-(g q+1)):=by have u:=(List.range'_append (s:=i) (m:=g q-i) (n:=n-g q) (step:=1));rw[zd6,show i+(g q-i)=g q by omega,show g q-i+(n-g q)=n-i by omega,show n-g q=(n-(g q+1))+1 by omega]at u;exact u.symm
   rw[x,List.filter_append,List.filter_cons_of_pos (by simp),za1,show(List.range' i (g q-i)).filter (λk=>(g q::M.map g).contains k)=[]from ?_,zck];congr 1;refine Eq.trans (List.filter_congr λk r=>?_) I;have:=List.mem_range'_1.1 r;have o:¬k=g q:=by omega
   simp[o];refine List.filter_eq_nil_iff.2 λk r h=>?_;have:=List.mem_range'_1.1 r;rw[List.contains_iff_mem]at h;rcases zan.1 h with h|h;omega;obtain⟨f,t,h⟩:=zay.1 h;have:=w f t;omega
  exact⟨key n i (·.1) a c (λf h=>(l f h).1) y,key m j (·.2) b d (λf h=>(l f h).2.2.1) z⟩
end
section
variable {v a b:Tr} {D S:Nat} {t:Bt} {α:Type}
def iu(x:Tr):Bool:=decide (x.kind≠7)&&zi x
theorem pW(h:iu v=Ta):zi v=Ta:=by unfold iu at h;simp_all
theorem Ip:∀(n:Nat) (v:Tr),aR v<=n->yr iu v=Ta->yr zi v=Ta
 |0,v,h,_=>by have:=Qk v;omega
 |n+1,v,h,hq=>pK (pW (qt hq)) λy b=>Ip n y (by have:=qo b;omega) (qf hq b)
theorem mn(h:yr iu v=Ta):yr zi v=Ta:=Ip _ v (zac _) h
theorem yW{n:Nat}:∀{l:List Tr},(∀y∈l,cR y<=n)->Xj l<=n
 |[],_=>za0 _
 |y::l,h=>by unfold Xj;have a:=h y (za2 ..);have b:=yW λz hz=>h z (za3 _ hz);omega
structure GD (D S:Nat) (z:Tr):Prop where
 ok:yr iu z=Ta
 dp:cR z<=D
 sz:aR z<=S
theorem GD.arr{xs:List Tr}(c:lb t=[])(h:∀x∈xs,yr iu x=Ta/\cR x+1<=D)(f:1<=D)(e:(xs.map aR).sum+1<=S):GD D S (gK t xs):=
 ⟨pK (by unfold iu gK;rw[tE,c];rfl) λx b=>(h x b).1,by
  rw[j8];have:=yW (n:=D-1) (l:=xs) λx b=>by grind
  show Xj xs+1<=D;omega,by
  rw[ql];show 1+wa xs<=S;rw[Zp];omega⟩
theorem GD.obj{b:List (Bt×Tr)}(j:lb t=[])(nd:(b.map (·.1)).Nodup)(i:∀q∈b,Qq (lb q.1)=Ta)(h:∀q∈b,yr iu q.2=Ta/\cR q.2+1<=D)(o:1<=D)(m:(b.map λq=>aR q.2).sum+1<=S):GD D S (oT t b):=
 ⟨pK (by
  unfold iu oT;rw[CO,j];have:yq (b.map (·.1))=Ta:=by unfold yq;rw[zam,za7];refine⟨λk f=>?_,zJ nd⟩;obtain⟨q,c,rfl⟩:=zay.1 f;exact i q c
  grind) λx e=>by obtain⟨q,c,rfl⟩:=zay.1 e;grind,by
  rw[j8];have:=yW (n:=D-1) (l:=b.map (·.2)) λx e=>by grind
  show Xj (b.map (·.2))+1<=D;omega,by
  rw[ql];show 1+wa (b.map (·.2))<=S;rw[Zp,zav];simp only[Function.comp_def];omega⟩
theorem vj(g:α->Nat){l b:List α}(h:l.Sublist b):(l.map g).sum<=(b.map g).sum:=by
 induction h with
 |slnil=>omega
 |cons a _ c=>grind
 |cons_cons a _ c=>simp_all
theorem xS{α:Type}{g:α->Nat}:∀{M:List α} {q:α},(M.map g).Nodup->q∈M->M.find? (λp=>g p==g q)=Td q
 |p::M,q,nd,h=>by
  rw[za1,zbq]at nd;rcases zan.1 h with rfl|h;simp;have:g p≠g q:=λe=>nd.1 (e ▸ zay.2 ⟨q,h,rfl⟩)
  rw[List.find?_cons_of_neg (by simp[this]),xS nd.2 h]
section
variable {rw : List Tr -> List Tr -> Option (List (Nat × Nat))} {f : Nat} {a b : Tr}
def Goes(D:List Bt->Tr->Tr->List cK)(a b:Tr):Prop:=∃y,Run (GD (max (cR a) (cR b)) (aR a+aR b)) a (D [] a b) y/\ji y b=Ta
theorem GD.self(h:yr iu a=Ta):GD (max (cR a) (cR b)) (aR a+aR b) a:=⟨h,by omega,by omega⟩
theorem GD.self'(h:yr iu b=Ta):GD (max (cR a) (cR b)) (aR a+aR b) b:=⟨h,by omega,by omega⟩
theorem xZ(h:yr iu b=Ta):ji b b=Ta:=Nc _ b (zac _) (mn h)
theorem pick{α β:Type}[Inhabited β]{p:α->Prop}{r:α->β->Prop}(h:∀x,p x->∃y,r x y):∃g:α->β,∀x,p x->r x (g x):= Classical.axiomOfChoice (r:=λx y=>p x->r x y) λx=>(Classical.em (p x)).elim (λb=>(h x b).imp λy c _=>c) λb=>⟨default,λh=>absurd h b⟩
theorem H9{D:List Bt->Tr->Tr->List cK}(c:yr iu b=Ta)(h:D [] a b=[Qz [] b]):Goes D a b:=by refine⟨b,?_,xZ c⟩;rw[h];have e:=P8 a b;exact⟨by rw[e],by rw[e];exact GD.self' c,by rw[e];rfl⟩
theorem Tr.obj_eta(c:v.kind=6)(nd:v.keys.Nodup)(b:v.keys.length=v.items.length):v=oT v.text (v.keys.map λk=>(k,ym v k)):=by unfold oT;grind [zav,Function.comp_def,List.map_id',oH]
theorem P0{D:List Bt->Tr->Tr->List cK}(hu:∀p q a b,D (p++q) a b=(D q a b).map (jL p))(hs:∀p a b,∀o∈D p a b,OpZ o)(Q:yr iu a=Ta)(O:yr iu b=Ta)(h6:a.kind=6)(J:b.kind=6)
  (hD:∀x y,x∈a.items->y∈b.items->Goes D x y):Goes (iT D) a b:=by
 obtain⟨na,la⟩:=nJ (mn Q) h6;obtain⟨F,m⟩:=nJ (mn O) J;have U:=tq (mn Q) (Or.inr h6);have tb:=tq (mn O) (Or.inr J);have N:∀k∈a.keys,Qq (lb k)=Ta:=λk c=>by have h:=pW (qt Q);unfold zi yq at h;simp_all
 have ab:∀k∈b.keys,Qq (lb k)=Ta:=λk c=>by have h:=pW (qt O);unfold zi yq at h;simp_all
 have S:=qn a.keys;have pb:=qn b.keys;have sa:aR a=1+(a.keys.map λk=>aR (ym a k)).sum:=by rw[ql,Zp,<-oH na la,zav];rfl
 have sb:aR b=1+(b.keys.map λk=>aR (ym b k)).sum:=by rw[ql,Zp,<-oH F m,zav];rfl
 have ea:=Zo (λk=>aR (ym a k)) (λk=>b.keys.contains k) a.keys;have eb:=Zo (λk=>aR (ym b k)) (λk=>a.keys.contains k) b.keys;have pc:(a.keys.filter λk=>b.keys.contains k).Perm (b.keys.filter λk=>a.keys.contains k):=sK (na.filter _) (F.filter _) λx=>by grind
 rw[<-J0 pc]at eb;have u:∀k∈a.keys,yr iu (ym a k)=Ta/\cR (ym a k)+1<=cR a:=λk c=>⟨qf Q (J1 na la c),by have:=Q0 (J1 na la c);rw[j8 a];omega⟩;have B:∀k∈b.keys,yr iu (ym b k)=Ta/\cR (ym b k)+1<=cR b:=λk c=>⟨qf O (J1 F m c),by have:=Q0 (J1 F m c);rw[j8 b];omega⟩;have d1:1<=max (cR a) (cR b):=by rw[j8 a];omega
 have P:∀{k:Bt} {l:List Bt},l.contains k=Ta↔k∈l:=λ {k l}=>List.contains_iff_mem;generalize hK:(a.keys.filter λk=>b.keys.contains k)=Kc at *;have f:∀k,k∈Kc↔k∈a.keys/\k∈b.keys:=λk=>by rw[<-hK,zbv,P]
 have kn:Kc.Nodup:=by rw[<-hK];exact na.filter _
 have V:=DZ (t:=a.text) (G:=GD (max (cR a) (cR b)) (aR a+aR b)) ((zl a.keys).filter λk=>!b.keys.contains k) (a.keys.map λk=>(k,ym a k)) ((S.nodup_iff.2 na).filter _) (by grind) (λk c=>by grind)
  (λw j=>by
   have sub:=j.map (·.1);rw[zav]at sub;simp only[Function.comp_def,List.map_id']at sub;have A:∀q∈w,q.1∈a.keys/\q.2=ym a q.1:=λq h=>by obtain⟨k,c,rfl⟩:=zay.1 (j.subset h);grind
   refine GD.obj U (sub.nodup na) (λq h=>N _ (A q h).1) (λq h=>?_) d1 ?_;rw[(A q h).2];have:=u _ (A q h).1;exact⟨this.1,by omega⟩;have:=vj (λq:Bt×Tr=>aR q.2) j;grind [zav,Function.comp_def])
 rw[<-Tr.obj_eta h6 na la]at V;have e1:((a.keys.map λk=>(k,ym a k)).filter λp=>!((zl a.keys).filter λk=>!b.keys.contains k).contains p.1)=Kc.map λk=>(k,ym a k):=by rw[List.filter_map,<-hK];congr 1;refine List.filter_congr λk c=>?_;simp only[Function.comp_def];by_cases h:k∈b.keys;simp_all;grind
 rw[e1]at V;obtain⟨y,hy⟩:=pick (p:=λk=>k∈Kc) (r:=λk y=>Run (GD (max (cR (ym a k)) (cR (ym b k))) (aR (ym a k)+aR (ym b k))) (ym a k) (D [] (ym a k) (ym b k)) y/\ji y (ym b k)=Ta) λk c=>hD _ _ (J1 na la ((f k).1 c).1) (J1 F m ((f k).1 c).2);have Wy:∀k∈Kc,GD (max (cR (ym a k)) (cR (ym b k))) (aR (ym a k)+aR (ym b k)) (y k):=λk c=>(hy k c).1.last (GD.self (u k ((f k).1 c).1).1);have E:∀w:List (Bt×Tr),w.map (·.1)=Kc->(∀q∈w,GD (max (cR (ym a q.1)) (cR (ym b q.1))) (aR (ym a q.1)+aR (ym b q.1)) q.2)->(w.map λq=>aR q.2).sum<=(Kc.map λk=>aR (ym a k)).sum+(Kc.map λk=>aR (ym b k)).sum:=λw e h=>by have s1:=qG (l:=w) (g:=λq=>aR q.2) (g':=λq=>aR (ym a q.1)+aR (ym b q.1)) λq j=>(h q j).sz;rw[rW]at s1;rw[<-e,zav,zav];exact s1
 have R2:=CX (t:=a.text) (G:=GD (max (cR a) (cR b)) (aR a+aR b)) (λk=>GD (max (cR (ym a k)) (cR (ym b k))) (aR (ym a k)+aR (ym b k))) (λk=>D [] (ym a k) (ym b k)) y (λk=>hs _ _ _) ((zl a.keys).filter λk=>b.keys.contains k) (Kc.map λk=>(k,ym a k)) ((S.nodup_iff.2 na).filter _) (by grind) (λk c=>by have L:k∈Kc:=(f k).2 ⟨S.mem_iff.1 (zbv.1 c).1,P.1 (zbv.1 c).2⟩;exact⟨ym a k,zay.2 ⟨k,L,rfl⟩,(hy k L).1⟩) (λq j=>by obtain⟨k,c,rfl⟩:=zay.1 j;exact GD.self (u k ((f k).1 c).1).1)
  (λw e h=>by
   rw[zav]at e;simp only[Function.comp_def,List.map_id']at e;have A:∀q∈w,q.1∈Kc:=λq h=>by grind
   refine GD.obj U (by grind) (λq h=>N _ ((f _).1 (A q h)).1) (λq j=>⟨(h q j).ok,?_⟩) d1 ?_;have h1:=(h q j).dp;have h2:=(u _ ((f _).1 (A q j)).1).2;have h3:=(B _ ((f _).1 (A q j)).2).2;omega;have:=E w e h;omega)
 have e2:((Kc.map λk=>(k,ym a k)).map λp=>if((zl a.keys).filter λk=>b.keys.contains k).contains p.1 then(p.1,y p.1)else p)=Kc.map λk=>(k,y k):=by rw[zav];refine zbx λk c=>?_;simp only[Function.comp_def];rw[zA (P.2 (zbv.2 ⟨S.mem_iff.2 ((f k).1 c).1,P.2 ((f k).1 c).2⟩))]
 rw[e2]at R2;generalize T:((zl b.keys).filter λk=>!a.keys.contains k)=Kb;have Y:∀k,k∈Kb↔k∈b.keys/\k∉a.keys:=λk=>by rw[<-T,zbv,pb.mem_iff];simp
 have Z:Kb.Nodup:=by rw[<-T];exact(pb.nodup_iff.2 F).filter _
 have aa:(Kb.map λk=>aR (ym b k)).sum=((b.keys.filter λk=>!a.keys.contains k).map λk=>aR (ym b k)).sum:=by rw[<-T];exact J0 (pb.filter _)
 have n:(Kc++Kb).Nodup:=zb2.2 ⟨kn,Z,λx hx z hz e=>((Y z).1 hz).2 (e ▸ ((f x).1 hx).1)⟩;have R3:=CU (t:=a.text) (G:=GD (max (cR a) (cR b)) (aR a+aR b)) (Kb.map λk=>(k,ym b k)) (Kc.map λk=>(k,y k)) (by rw[zbc,zav,zav];simp only[Function.comp_def,List.map_id'];exact n)
  (λus I=>by
   have sub:=I.map (·.1);rw[zav]at sub;simp only[Function.comp_def,List.map_id']at sub;have A:∀q∈us,q.1∈b.keys/\q.2=ym b q.1:=λq h=>by obtain⟨k,c,rfl⟩:=zay.1 (I.subset h);simp_all
   have M:∀q∈Kc.map λk=>(k,y k),q.1∈Kc/\q.2=y q.1:=λq h=>by obtain⟨k,c,rfl⟩:=zay.1 h;grind
   refine GD.obj U ?_ (λq h=>?_) (λq h=>?_) d1 ?_;rw[zbc,zav];simp only[Function.comp_def,List.map_id'];exact((zd8 _).append sub).nodup n;grind;rcases zaj.1 h with h|h;rw[(M q h).2];have h0:=(M q h).1;have h1:=(Wy _ h0).dp;have h2:=(u _ ((f _).1 h0).1).2;have h3:=(B _ ((f _).1 h0).2).2;exact⟨(Wy _ h0).ok,by omega⟩;rw[(A q h).2];have:=B _ (A q h).1;exact⟨this.1,by omega⟩;rw[zbc,List.sum_append];have s1:=E (Kc.map λk=>(k,y k)) (by rw[zav];simp only[Function.comp_def,List.map_id']) λq j=>by grind
   have s2:=vj (λq:Bt×Tr=>aR q.2) I;grind [zav,Function.comp_def])
 refine⟨oT a.text ((Kc.map λk=>(k,y k))++Kb.map λk=>(k,ym b k)),?_,?_⟩;unfold iT;have x1:((zl a.keys).filter λk=>!b.keys.contains k).map (λk=>Yv ([]++[k]))=((zl a.keys).filter λk=>!b.keys.contains k).map (λk=>Yv [k]):=rfl;have x2:((zl a.keys).filter λk=>b.keys.contains k).flatMap (λk=>D ([]++[k]) (ym a k) (ym b k))=((zl a.keys).filter λk=>b.keys.contains k).flatMap (λk=>(D [] (ym a k) (ym b k)).map (jL [k])):=by congr 1;funext k;rw[<-hu [k] [],zbs];rfl
 rw[x1,x2,T];have x3:Kb.map (λk=>Qy ([]++[k]) (ym b k))=(Kb.map λk=>(k,ym b k)).map λq=>Qy [q.1] q.2:=by rw[zav];rfl
 rw[x3];exact V.app (R2.app R3);have pk:(Kc++Kb).Perm b.keys:=sK n F λx=>by rw[zaj,f,Y];by_cases h:x∈a.keys <;> simp[h]
 have H:(oT a.text ((Kc.map λk=>(k,y k))++Kb.map λk=>(k,ym b k))).keys=Kc++Kb:=by show List.map _ _=_;rw[zbc,zav,zav];simp only[Function.comp_def,List.map_id']
 have C:(oT a.text ((Kc.map λk=>(k,y k))++Kb.map λk=>(k,ym b k))).items=Kc.map y++Kb.map (ym b):=by show List.map _ _=_;rw[zbc,zav,zav];rfl
 have hl:(Kc.map y++Kb.map (ym b)).length=b.items.length:=by rw[zah,zap,zap,<-zah,pk.length_eq,m]
 have hs:kH (Kc++Kb) (Kc.map y++Kb.map (ym b)) b=Ta:=C8 m (by simp) λi i1 i2=>by
  refine⟨pk.mem_iff.1 (zak i1),?_⟩;by_cases h:i<Kc.length;rw[zcp (by simpa using h),zcp h,zb3];grind;have hi:i-Kc.length<Kb.length:=by rw[zah]at i1;omega
  rw[zcx (by simpa using h),zcx (by omega),zb3];simp only[zap];exact xZ (B _ ((Y _).1 (zak hi)).1).1
 rw[Wx,H,C,hl,hs];have ht:(oT a.text ((Kc.map λk=>(k,y k))++Kb.map λk=>(k,ym b k))).text=b.text:=oN.1 (by rw[tb];exact U);rw[ht,J];simp[oT,Tr.kind]
theorem OM{D:List Bt->Tr->Tr->List cK}(hu:∀p q a b,D (p++q) a b=(D q a b).map (jL p))(S:∀p a b,∀o∈D p a b,OpZ o)(Z:yr iu a=Ta)(hb:yr iu b=Ta)(B:a.kind=5)(H:b.kind=5)(za:aR a<=500000)(zb:aR b<=500000)
  {M:List (Nat×Nat)} (T:Rising 0 0 a.items.length b.items.length M) (hD:∀x y,x∈a.items->y∈b.items->Goes D x y):Goes (λp a b=>iR D p a b M) a b:=by
 have Q:=tq (mn Z) (Or.inl B);have tb:=tq (mn hb) (Or.inl H);obtain⟨n,n1,n2⟩:=j3 T;have hf:=Dp T;rw[zdo,zdo,<-List.range_eq_range',<-List.range_eq_range']at hf;obtain⟨U,O⟩:=hf;have sa:aR a=1+((zaq a.items.length).map λi=>aR (w7 a i)).sum:=by(rw[ql,Zp];conv=>lhs;rw[<-t7 a]);rw[zav];rfl
 have sb:aR b=1+((zaq b.items.length).map λi=>aR (w7 b i)).sum:=by(rw[ql,Zp];conv=>lhs;rw[<-t7 b]);rw[zav];rfl
 have I:∀i,i<a.items.length->yr iu (w7 a i)=Ta/\cR (w7 a i)+1<=cR a:=λi hi=>⟨qf Z (J3 hi),by have:=Q0 (J3 hi);rw[j8 a];omega⟩;have A:∀i,i<b.items.length->yr iu (w7 b i)=Ta/\cR (w7 b i)+1<=cR b:=λi hi=>⟨qf hb (J3 hi),by have:=Q0 (J3 hi);rw[j8 b];omega⟩;have d1:1<=max (cR a) (cR b):=by rw[j8 a];omega
 have ea:a=gK a.text a.items:=by cases a;rename_i k s ks xs;have B:k=5:=B;subst B;have h:=pW (qt Z);rw[tE,zam,List.isEmpty_iff]at h;rw[h.2];rfl
 have la:a.items.length<=500000:=by have:=wy a.items;have:=ql a;omega
 have ac:b.items.length<=500000:=by have:=wy b.items;have:=ql b;omega
 obtain⟨y,hy⟩:=pick (p:=λq:Nat×Nat=>q∈M) (r:=λq y=>Run (GD (max (cR (w7 a q.1)) (cR (w7 b q.2))) (aR (w7 a q.1)+aR (w7 b q.2))) (w7 a q.1) (D [] (w7 a q.1) (w7 b q.2)) y/\ji y (w7 b q.2)=Ta) λq c=>hD _ _ (J3 (n q c).2.1) (J3 (n q c).2.2.2);have Wy:∀q∈M,GD (max (cR (w7 a q.1)) (cR (w7 b q.2))) (aR (w7 a q.1)+aR (w7 b q.2)) (y q):=λq c=>(hy q c).1.last (GD.self (I _ (n q c).2.1).1);obtain⟨u,hgB⟩:∃u:Nat->Nat,u=λk=>(match M.find? (λp=>p.1==k)with
  |some q=>aR (w7 b q.2)
  |none=>0):=⟨_,rfl⟩
 have J:∀q∈M,u q.1=aR (w7 b q.2):=λq c=>by rw[hgB];simp only;rw[xS (g:=(·.1)) n1 c]
 have V:∀k,(M.map (·.1)).contains k=Tc->u k=0:=λk m=>by grind
 have af:(M.map λq=>aR (w7 b q.2)).sum+(((zaq b.items.length).filter λk=>!(M.map (·.2)).contains k).map λi=>aR (w7 b i)).sum+1=aR b:=by have:=Zo (λi=>aR (w7 b i)) (λk=>(M.map (·.2)).contains k) (zaq b.items.length);rw[O,zav]at this;simp only[Function.comp_def]at this;omega
 have aa:((zaq a.items.length).map u).sum=(M.map λq=>aR (w7 b q.2)).sum:=by
  have:=Zo u (λk=>(M.map (·.1)).contains k) (zaq a.items.length);rw[U,zav,zbx (f:=u ∘ λx:Nat×Nat=>x.1) (g:=λq:Nat×Nat=>aR (w7 b q.2)) λq c=>J q c]at this;have z:(((zaq a.items.length).filter λk=>!(M.map (·.1)).contains k).map u).sum=0:=by
   rw[zbx (g:=λ_=>0) λk m=>V k (by grind)];induction (zaq a.items.length).filter λk=>!(M.map (·.1)).contains k with
   |nil=>rfl
   |cons x l ih=>grind
  omega
 obtain⟨W,hW⟩:∃W:Nat->Tr->Prop,W=λk z=>yr iu z=Ta/\cR z+1<=max (cR a) (cR b)/\aR z<=aR (w7 a k)+u k:=⟨_,rfl⟩;have gz:∀e:List Tr,e.length=a.items.length->(∀k,k<a.items.length->W k (e.getD k zT))->∀N:List Tr,N.Sublist e->GD (max (cR a) (cR b)) (aR a+aR b) (gK a.text N):=λe hz hw N c=>by
  have mz:(zaq a.items.length).map (λk=>e.getD k zT)=e:=by refine zdw (by simp[hz]) λi h1 F=>?_;rw[zb3,List.getElem_range,zar,zai F];rfl
  have C:∀x∈e,∃k,k<a.items.length/\W k x:=λx w=>by rw[<-mz]at w;obtain⟨k,m,rfl⟩:=zay.1 w;grind
  refine GD.arr Q (λx w=>?_) d1 ?_;obtain⟨k,_,h⟩:=C x (c.subset w);grind;have s1:=vj aR c;have s2:=qG (l:=zaq a.items.length) (g:=λk=>aR (e.getD k zT)) (g':=λk=>aR (w7 a k)+u k) λk m=>by grind
  rw[rW,aa]at s2;have Y:(e.map aR).sum=((zaq a.items.length).map λk=>aR (e.getD k zT)).sum:=by
   conv=>lhs;rw[<-mz]
   rw[zav];rfl
  omega
 obtain⟨e,z1,z2,_,z4,z5⟩:=H0 (t:=a.text) (G:=GD (max (cR a) (cR b)) (aR a+aR b)) a.items.length b.items.length W (λq=>D [] (w7 a q.1) (w7 b q.2)) y (λq=>S _ _ _) M 0 0 a.items rfl (by omega) T (λq c=>by show Run _ (w7 a q.1) _ _;refine(hy q c).1.mono λz hz=>?_;rw[hW];have h1:=hz.dp;have F:=(I _ (n q c).2.1).2;have h3:=(A _ (n q c).2.2.2).2;have h4:=hz.sz;have B:=J q c;exact⟨hz.ok,by omega,by omega⟩) (λk m=>by show W k (w7 a k);grind) (λe hz hw=>gz e hz hw e (zd8 _));rw[<-ea]at z2;have L:=FV (t:=a.text) (G:=GD (max (cR a) (cR b)) (aR a+aR b)) (xs:=e) (by omega) (λk=>(M.map (·.1)).contains k) (gz e z1 z5) e.length (zac _);rw[zba,ze9]at L;have e0:e++((List.range' e.length 0).filter λk=>(M.map (·.1)).contains k).map (λk=>e.getD k zT)=e:=zbs _;rw[e0,z1,U]at L;have e1:(M.map (·.1)).map (λk=>e.getD k zT)=M.map y:=by rw[zav];exact zbx λq c=>z4 q c
 rw[e1]at L;obtain⟨j,hff⟩:∃j:Nat->Tr,j=λk=>(match M.find? (λp=>p.2==k)with
  |some q=>y q
  |none=>w7 b k):=⟨_,rfl⟩
 have ab:∀q∈M,j q.2=y q:=λq c=>by rw[hff];simp only;rw[xS (g:=(·.2)) n2 c]
 have P:∀k,(M.map (·.2)).contains k=Tc->j k=w7 b k:=λk m=>by
  rw[hff];simp only;have:M.find? (λp=>p.2==k)=Te:=List.find?_eq_none.2 λq c h=>by grind
  rw[this]
 have E:∀k,k<b.items.length->yr iu (j k)=Ta/\cR (j k)+1<=max (cR a) (cR b)/\ji (j k) (w7 b k)=Ta:=λk m=>by cases hc:(M.map (·.2)).contains k;rw[P k hc];have:=A k m;exact⟨this.1,by omega,xZ this.1⟩;obtain⟨q,c,rfl⟩:=zay.1 (List.contains_iff_mem.1 hc);grind
 have ae:((zaq b.items.length).map λk=>aR (j k)).sum+1<=aR a+aR b:=by have s1:=Zo (λk=>aR (j k)) (λk=>(M.map (·.2)).contains k) (zaq b.items.length);rw[O,zav,zbx (f:=(λk=>aR (j k)) ∘ λx=>x.2) (g:=λq:Nat×Nat=>aR (y q)) (λq c=>by grind)]at s1;rw[zbx (l:=(zaq b.items.length).filter λk=>!(M.map (·.2)).contains k) (g:=λi=>aR (w7 b i)) (λk m=>by grind)]at s1;have s2:=qG (l:=M) (g:=λq=>aR (y q)) (g':=λq=>aR (w7 a q.1)+aR (w7 b q.2)) λq c=>(Wy q c).sz;rw[rW]at s2;have Y:=Zo (λi=>aR (w7 a i)) (λk=>(M.map (·.1)).contains k) (zaq a.items.length);rw[U,zav]at Y;simp only[Function.comp_def]at Y;omega
 have R3:=IZ (t:=a.text) (G:=GD (max (cR a) (cR b)) (aR a+aR b)) b.items.length (by omega) (λk=>(M.map (·.2)).contains k) j (λks m=>GD.arr Q (λx w=>by
   obtain⟨k,h,rfl⟩:=zay.1 w;have:=E k (zbn.1 (m.subset h));grind) d1 (by
   rw[zav];have:=vj (λk=>aR (j k)) m;simp only[Function.comp_def];omega)) b.items.length 0 (by omega)
 have e3:(zaq 0++(List.range' 0 b.items.length).filter λk=>(M.map (·.2)).contains k).map j=M.map y:=by rw[<-List.range_eq_range',O];show(M.map (·.2)).map j=_;rw[zav];exact zbx λq c=>ab q c
 rw[e3,<-List.range_eq_range']at R3;refine⟨gK a.text ((zaq b.items.length).map j),?_,?_⟩;show Run _ a (iR D [] a b M) _;unfold iR;have x2:M.flatMap (λq=>D ([]++[J6 q.1]) (w7 a q.1) (w7 b q.2))=M.flatMap (λq=>(D [] (w7 a q.1) (w7 b q.2)).map (jL [J6 q.1])):=by congr 1;funext q;rw[<-hu [J6 q.1] [],zbs];rfl
 rw[x2];have x3:((zaq b.items.length).filter λi=>!(M.map (·.2)).contains i).map (λi=>Qy ([]++[J6 i]) (w7 b i))=((zaq b.items.length).filter λk=>!(M.map (·.2)).contains k).map (λk=>Qy [J6 k] (j k)):= zbx λk m=>by grind
 rw[x3];exact z2.app (L.app R3);have S:kM ((zaq b.items.length).map j) b.items=Ta:=Cw (by simp) λi h1 F=>by rw[zb3,List.getElem_range];have:=(E i F).2.2;unfold w7 at this;rw[zar,zai F]at this;exact this
 have ht:a.text=b.text:=oN.1 (by rw[Q,tb]);rw[Wx];have i1:(gK a.text ((zaq b.items.length).map j)).items=(zaq b.items.length).map j:=rfl;have i2:(gK a.text ((zaq b.items.length).map j)).kind=5:=rfl;have i3:(gK a.text ((zaq b.items.length).map j)).text=b.text:=ht;rw[i1,i2,i3,S,H];simp
theorem IH{rw:List Tr->List Tr->Option (List (Nat×Nat))}(k:∀us ws m,rw us ws=Td m->Rising 0 0 us.length ws.length m):
  ∀(f:Nat) (a b:Tr),cR a<=f->aR a<=500000->aR b<=500000->yr iu a=Ta->yr iu b=Ta->Goes (iB rw f) a b
 |0,a,b,hf,_,_,_,_=>by have:=j8 a;omega
 |f+1,a,b,hf,za,zb,ha,hb=>by
  have h:∀x y,x∈a.items->y∈b.items->Goes (iB rw f) x y:=λx y e j=>IH k f x y (by have:=Q0 e;have:=j8 a;omega) (by have:=qo e;omega) (by have:=qo j;omega) (qf ha e) (qf hb j);have l:=BC (rw:=rw) f;have n:=AL (rw:=rw) f;by_cases h0:ji a b=Ta;exact⟨a,by unfold iB;rw[zA h0];rfl,h0⟩;by_cases o:a.kind=6/\b.kind=6;obtain⟨y,h1,c⟩:=P0 (λp q a b=>l p q a b) (λp a b=>n p a b) ha hb o.1 o.2 h;refine⟨y,?_,c⟩;unfold iB;simp_all;by_cases i:a.kind=5/\b.kind=5;cases hm:rw a.items b.items with
  |none=>refine H9 hb ?_;unfold iB;simp_all
  |some M=>obtain⟨y,h1,c⟩:=OM (λp q a b=>l p q a b) (λp a b=>n p a b) ha hb i.1 i.2 za zb (k _ _ _ hm) h;refine⟨y,?_,c⟩;unfold iB;simp_all
  refine H9 hb ?_;unfold iB;grind
end
end
section
variable {v w:Tr}
theorem xE(h:yr iu v=Ta)(h1:aR v<=4096)(b:cR v<=32):zh v=Ta:=by unfold zh Zi;rw[zJ h1,zJ b];exact h
theorem Hx(h:zh v=Ta):yr iu v=Ta/\aR v<=4096/\cR v<=32:=by unfold zh Zi at h;rw[zam,zam]at h;exact⟨h.2,zH h.1.1,zH h.1.2⟩
theorem Cj:∀{l:Bs},l.all ya=Ta->Qq l=Ta
 |[],_=>y6
 |c::l,h=>by rw[zdf,zam]at h;have:=Ry h.1;rw[KL (by omega)];exact Cj h.2
theorem yN(i:Nat):Qq (lb (J6 i))=Ta:=by rw[wW];exact Cj (Zk i i (zac _)).1
theorem AX:wn []=Ta:=rfl
theorem GR{p:List Bt}(b:wn p=Ta):qm (Yv p)=Ta:=by unfold qm Yv;simp only[yo];rw[b,AX];decide
theorem XO{p:List Bt}(b:wn p=Ta)(c:zh w=Ta):qm (Qz p w)=Ta:=by unfold qm Qz;simp only[yo];rw[b,AX,show xb wq=(Ta,Tc,Ta)from rfl];simp[c]
theorem IS{p:List Bt}(b:wn p=Ta)(c:zh w=Ta):qm (Qy p w)=Ta:=by unfold qm Qy;simp only[yo];rw[b,AX,show xb mS=(Ta,Tc,Ta)from rfl];simp[c]
theorem Xf{p:List Bt}{s:Bt}(f:p.length<64)(c:∀s∈p,Qq (lb s)=Ta)(b:Qq (lb s)=Ta):wn (p++[s])=Ta:=by unfold wn;rw[zam,za7];refine⟨zJ (by rw[zah];simp;omega),λx e=>?_⟩;rcases zaj.1 e with h|h;exact c x h;rw[za6.1 h];exact b
theorem Ac(h:yr iu v=Ta)(c:v.kind=6):∀k∈v.keys,Qq (lb k)=Ta:=λk b=>by have h:=pW (qt h);unfold zi yq at h;simp[c]at h;exact h.1.1.1 k b
theorem Xg{v x:Tr}(h:x∈v.items):cR x+1<=cR v:=by have:=Q0 h;rw[j8 v];omega
theorem Fj{rw:List Tr->List Tr->Option (List (Nat×Nat))}(C:∀us ws m,rw us ws=Td m->Rising 0 0 us.length ws.length m):
  ∀(f:Nat) (p:List Bt) (a b:Tr),p.length+cR a<=64->p.length+cR b<=64->(∀s∈p,Qq (lb s)=Ta)->yr iu a=Ta->yr iu b=Ta->aR b<=4096->cR b<=32->∀o∈iB rw f p a b,qm o=Ta
 |0,p,a,b,_,_,_,_,_,_,_=>λo e=>nomatch e
 |f+1,p,a,b,la,lb',hu,ha,hb,zb,db=>by
  have rb:zh b=Ta:=xE hb zb db;have F:wn p=Ta:=by unfold wn;rw[zam,za7];exact⟨zJ (by omega),hu⟩
  have one:∀o∈[Qz p b],qm o=Ta:=λo e=>by rw[za6.1 e];exact XO F rb
  have l:∀{s x y},Qq (lb s)=Ta->x∈a.items->y∈b.items->∀o∈iB rw f (p++[s]) x y,qm o=Ta:=λ {s x y} G l j=>by have h1:=Xg l;have u:=Xg j;have E:=qo j;refine Fj C f (p++[s]) x y (by rw[zah];simp;omega) (by rw[zah];simp;omega) (λz hz=>?_) (qf ha l) (qf hb j) (by omega) (by omega);rcases zaj.1 hz with h|h;exact hu z h;rw[za6.1 h];exact G
  have D:∀{y},y∈b.items->zh y=Ta:=λ {y} j=>by have u:=Xg j;have E:=qo j;exact xE (qf hb j) (by omega) (by omega)
  unfold iB;split;exact λo e=>nomatch e;split;rename_i t;obtain⟨na,n⟩:=nJ (mn ha) t.1;obtain⟨w,i⟩:=nJ (mn hb) t.2;have A:=qn a.keys;have pb:=qn b.keys;intro o e;unfold iT at e;rcases zaj.1 e with h|h;obtain⟨k,c,rfl⟩:=zay.1 h;have c:=A.mem_iff.1 (zbv.1 c).1;have:=Xg (J1 na n c);exact GR (Xf (by have:=j8 (ym a k);omega) hu (Ac ha t.1 k c));rcases zaj.1 h with h|h;obtain⟨k,c,h⟩:=zbw.1 h;obtain⟨h1,u⟩:=zbv.1 c;have h1:=A.mem_iff.1 h1;exact l (Ac ha t.1 k h1) (J1 na n h1) (J1 w i (List.contains_iff_mem.1 u)) o h;obtain⟨k,c,rfl⟩:=zay.1 h;have c:=pb.mem_iff.1 (zbv.1 c).1;have:=Xg (J1 w i c);exact IS (Xf (by have:=j8 (ym b k);omega) hu (Ac hb t.2 k c)) (D (J1 w i c));split;split;rename_i m H;obtain⟨r,_,_⟩:=j3 (C _ _ _ H);intro o e;unfold iR at e;rcases zaj.1 e with h|h;obtain⟨q,B,h⟩:=zbw.1 h;exact l (yN _) (J3 (r q B).2.1) (J3 (r q B).2.2.2) o h;rcases zaj.1 h with h|h;obtain⟨k,c,rfl⟩:=zay.1 h;have c:=zbn.1 (zbv.1 (List.mem_reverse.1 c)).1;have:=Xg (J3 c);exact GR (Xf (by have:=j8 (w7 a k);omega) hu (yN _));obtain⟨k,c,rfl⟩:=zay.1 h;have c:=zbn.1 (zbv.1 c).1;have:=Xg (J3 c);exact IS (Xf (by have:=j8 (w7 b k);omega) hu (yN _)) (D (J3 c));exact one;exact one
theorem KA{rw:List Tr->List Tr->Option (List (Nat×Nat))}(c:∀us ws m,rw us ws=Td m->Rising 0 0 us.length ws.length m){f:Nat}{a b:Tr}(j:cR a<=f)(e:zh a=Ta)(rb:zh b=Ta)(o:aR a+aR b<=4096):
  ∃y,lX a (iB rw f [] a b)=(y,(((iB rw f [] a b).length:Nat):Int),0)/\ji y b=Ta:=by
 obtain⟨i,n,q⟩:=Hx e;obtain⟨ob,l,db⟩:=Hx rb;obtain⟨y,h1,k⟩:=IH c f a b j (by omega) (by omega) i ob;refine⟨y,?_,k⟩;unfold lX;rw[zA e,h1.apply (λz hz=>xE hz.ok (by have:=hz.sz;omega) (by have:=hz.dp;omega)) 0 (Fj c f [] a b (by simp;omega) (by simp;omega) (λs h=>nomatch h) i ob l db),zas]
end
end
end Go.X
