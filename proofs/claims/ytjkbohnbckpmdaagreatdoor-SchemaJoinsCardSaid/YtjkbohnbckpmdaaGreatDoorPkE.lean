/- A part of the proof: nothing is stated here for its own sake. -/
import Derived.Test.YtjkbohnbckpmdaaGreatDoorPkD
import Derived.Sort.KeysCollected
import Derived.Sort.OwnSortedInts
open _root_.Go.Addr renaming add->zae
open _root_.Array renaming getD_eq_getD_getElem?->zbp,getElem?_append_left->zcu,getElem?_eq_getElem->zbl,getElem?_eq_some_iff->zai,getElem?_push->zea,getElem?_setIfInBounds_ne->zcs,push->zb4,replicate->zbr,size->zax,size_push->zau,size_setIfInBounds->zbc
open _root_.Bool renaming and_eq_true->zan,and_true->zed,eq_iff_iff->za7,true_and->zcq
open _root_.Go.Builtin renaming append_->zav
open _root_.Classical renaming byContradiction->zc0
open _root_.Go.Code renaming region->zc8
open _root_.Go.Deferred renaming ofValue->zdt
open _root_.Go.Instr renaming entry->zeu,next->zep,range->zet,storeAt->zag
open _root_.Int renaming toNat_natCast->zao
open _root_.Go.IntKind renaming wrap->zaa
open _root_.List renaming all_cons->zcx,all_eq_true->zas,all_map->zey,append_nil->zbj,cons_append->zby,drop_eq_getElem_cons->za9,drop_eq_nil_of_le->zci,drop_length->zdw,drop_zero->zc2,eq_nil_of_length_eq_zero->zbb,exists_cons_of_ne_nil->zb3,ext_getElem?->zbt,filter_cons->zc4,flatMap_cons->zb0,getElem?_append_right->zcm,getElem?_drop->zbs,getElem?_eq_getElem->zaj,getElem?_eq_some_iff->za0,getElem?_map->zbu,getElem_map->zdu,getElem_mem->zay,getElem_of_mem->zcf,length->zdh,length_append->zat,length_cons->zbi,length_drop->zb2,length_eq_zero_iff->zbq,length_erase_of_mem->zdr,length_map->zaw,length_pos_iff->zbo,length_take->zcr,map_append->zb9,map_congr_left->zds,map_cons->zbh,map_map->zb6,mem_append->zaz,mem_append_right->za4,mem_cons->zah,mem_cons_of_mem->zal,mem_cons_self->zaq,mem_filter->zde,mem_flatMap->zb5,mem_iff_getElem?->zdm,mem_map->zb1,mem_of_getElem?->zbv,mem_range->zcd,mem_singleton->zbm,nil_append->zco,nodup_append->zc6,nodup_cons->zcv,nodup_nil->zeo,nodup_range->zd9,not_mem_nil->zdx,range->zbk,take_append_drop->zce,take_length->zbw,take_of_length_le->zcn,take_succ_cons->zdf,take_succ_eq_append_getElem->zar,zip_cons_cons->zb8
open _root_.List.cons renaming injEq->zcg
open _root_.Nat renaming add_zero->zen,le_of_ble_eq_true->zbz,le_refl->zaf,le_trans->zbx,lt_of_lt_of_le->zdj,lt_or_ge->zbf,mul_one->zdc,strongRecOn->zee,zero_add->za5,zero_le->zbn
open _root_.Option renaming map_eq_some_iff->zcz
open _root_.Option.some renaming inj->za6
open _root_.Go.Region renaming wanted->za8
open _root_.Go.Proofs.Tryz renaming prog->za3
open _root_.Go.Value renaming int->zez,string->za1
open _root_.Go.Value.slice renaming injEq->zbg
set_option linter.all false
set_option maxRecDepth 100000
namespace Go.X
end Go.X
namespace Go.Proofs
end Go.Proofs
open Go Go.X Go.Proofs
open _root_.Bool renaming true->Ta,false->Tb
open _root_.Option renaming some->Tc,none->Td
section
namespace Go.X
open Go Go.X Go.Proofs Go.RowKit
section
variable {gl:Fr}
theorem Fb{k:Int}{R:Int->Prop}(h:R (Qp k)):PC Tp gl 210 [Arg.mk (.int .i64) k] [.int .i64] R:=by
 apply zpa;unfold Qp at h;refine⟨λf=>?_,λf K n=>?_⟩;rw[zb (by simpa using f)]at h;exact h;have f:¬k=12:=by simpa using f
 rw[za f]at h;have key:∀b:Bool,b=decide (k=10\/k=11)->K b:=λb l=>n b ⟨λh1=>by
   rw[h1]at l;rw[zb (zB l.symm)]at h;exact h,λh1=>by
   rw[h1]at l;rw[za (zC l.symm)]at h;refine⟨λc=>?_,λc=>⟨λe=>?_,λe=>⟨λi=>?_,λi=>⟨λm=>?_,λm=>?_⟩⟩⟩⟩;rw[zb (by simpa using c)]at h;exact h;rw[za (by simpa using c),zb (by simpa using e)]at h;exact h;rw[za (by simpa using c),za (by simpa using e),zb (by simpa using i)]at h;exact h;rw[za (by simpa using c),za (by simpa using e),za (by simpa using i),zb (by simpa using m)]at h;exact h;rw[za (by simpa using c),za (by simpa using e),za (by simpa using i),za (by simpa using m)]at h;exact h⟩
 refine⟨λh1=>key _ ?_,λh1=>key _ ?_⟩;have:k=10:=by simpa using h1
 rw[h1,this];rfl;have:¬k=10:=by simpa using h1
 rw[za7,beq_iff_eq,zA];omega
def zU(lo:Nat)(M:Fr)(bp:Nat)(s:Bs)(lv:Int)(val:iZ):Prop:=
 ∀(key:Sp) (g:zc) (st:PSt) (a e:Int) (O:Nat->Prop),PaS lo g M bp s st a e O->st.nodes.length<=4096->st.T<=200000->(∀t∈st.rest,lU s t) ->
  ∀K:Value->zc->Prop,(∀b g' st' a' e' O',PaS lo g' M bp s st' a' e' O'->Stp g O g' O'->st.nodes.length<=st'.nodes.length->Cy (val key st) b st' a' e'->K (.bool b) g')->XC Tp 146 #[.pointer (Tc ⟨bp,0,Td⟩),.int .i64 lv,.agg #[.int .i64 key.1,.int .i64 key.2]] g K
section
variable {lo : Nat} {g : zc} {M : Fr} {bp : Nat} {s : Bs} {lv : Int} {val : iZ}
theorem O3(k:zU lo M bp s lv val):Gi lo M bp s 214 #[.pointer (Tc ⟨bp,0,Td⟩)] #[] lv (lO val) (λ_ _=>True) (λ_=>False) (λ_=>False):=by
 intro σ g st a e O P I J l m f K n;show XC Tp _ #[.pointer (Tc ⟨bp,0,Td⟩),.int .i64 lv] g K;apply zfj;refine k (0,0) g st a e O P l m f _ λb g' st' a' e' O' o i h c=>⟨b,rfl,n b g' st' a' e' O' σ o i.j h (λ_=>trivial) ?_⟩;unfold lO;cases hr:val (0,0) st with
 |inl t=>rw[hr]at c;exact⟨c.1,by rw[c.2]⟩
 |inr x=>rw[hr]at c;exact c
theorem I6:MapT Tp 105 9 4 (.bool Tb):=⟨by kernel_rfl,by kernel_rfl,⟨Tryz.t4,by kernel_rfl,by kernel_rfl⟩⟩
def v4(m:Nat)(σ:List Bs)(g:zc):Prop:=∃l,MapAt g m l/\∀k:Bs,gR l (bl k)=if k∈σ then Tc (.bool Ta)else Td
theorem Iz{M:Fr}{r:Bt×Int×Int}{v:Value}(h:Jl M [.str,.int .i64,.int .i64] r v):v=.tuple #[.string r.1,.int .i64 r.2.1,.int .i64 r.2.2]:=by obtain⟨vs,⟨k,rest,rfl,e,i,b,rfl,c,f,rfl,hz⟩,rfl⟩:=h;rw[Za e,jq c,jq hz];rfl
set_option maxRecDepth 100000 in
set_option maxHeartbeats 2000000 in
theorem VD(hg:GL gl)(hM:Fr.le gl M)(hs:s.length<=65536)(hv:zU lo M bp s lv val){m:Nat}{J:Nat->Prop}(hm:J m){σ:List Bs}{st:PSt}{a e:Int}{O:Nat->Prop}(P:PaS lo g M bp s st a e O)(I:v4 m σ g)(hJ:Apt J g O)(h4:st.nodes.length<=4096)(hT:st.T<=200000)(hw:∀t∈st.rest,lU s t)(ai:∀j,J j->M j=Td){K:Value->zc->Prop} (hK:∀b g' st' a' e' O' σ',PaS lo g' M bp s st' a' e' O'->StJ (λj=>j=m) g O g' O'->st.nodes.length<=st'.nodes.length->(b=Ta->v4 m σ' g')->Fy (jX s val σ st) b σ' st' a' e'->K (.bool b) g'):
  XC Tp 216 #[.pointer (Tc ⟨bp,0,Td⟩),.int .i64 lv,.map (Tc m)] g K:=by
 have A:=hJ m hm;apply VF;refine vz P ⟨_,rfl,λq=>?_,λq=>?_⟩;have q:¬st.kind=8:=by simpa using q
 refine mf P λg' Q G=>⟨Tb,rfl,hK Tb g' st _ _ O σ Q G.j (zaf _) (λh=>(by cases h)) ?_⟩;unfold jX;cases U:st.rest with
 |nil=>exact⟨rfl,rfl⟩
 |cons t r=>
  have:¬t.1=8:=by unfold PSt.kind at q;rw[U]at q;exact q
  dsimp only;rw[za this];exact⟨rfl,rfl⟩
 have q:st.kind=8:=by simpa using q
 have E:=PSt.ne_kind q (by omega);obtain⟨t,r,er⟩:=zb3 E;have am:t.1=8:=by unfold PSt.kind at q;rw[er]at q;exact q
 obtain⟨w1,w2,w3,_⟩:=hw t (by rw[er];simp);have an:=m0 E;have P0:=P;obtain⟨rs,lf,na,sl,b,cs,W,h1,eO⟩:=P0;have rd:=W.rd;have hl:=(rowLen W.rd).1;rw[er]at rd hl;rw[zbi]at hl;obtain⟨tb,o,e1,e2,e3,e4⟩:=pv W.ag rd (k:=0) (by simp);refine⟨_,rfl,rs,by rw[qy];exact W.blk.cell rfl,_,⟨e1,by omega,by omega⟩,t.2.1,t.2.2,?_,?_⟩;rw[qy,qy];exact⟨by rw[qy];exact e3,by rw[qy];exact e4,trivial⟩;intro aa;obtain⟨aB,aH,aC⟩:=wq (g:=aa) rfl;clear_value aa;refine Qz (vs:=[.int .i64 t.2.1,.int .i64 t.2.2]) Gj aC rfl Lr (zaf _) (λu hu=>?_) λV y aF aE=>⟨_,rfl,?_⟩;simp at hu;rcases hu with rfl|rfl <;> rfl;have y:Blk V g.size #[.int .i64 t.2.1,.int .i64 t.2.2]:=y;have z:Keep g.size g V:=⟨by omega,λj hj=>(aE j (by omega)).trans (aB.get j hj)⟩;have ax:=P.keep z;have ay:=W.blk.keep (z.get bp W.blk.lt);refine⟨bl s,by rw[qy];exact ay.cell rfl,t.2.1,by rw[qy];exact y.cell rfl,t.2.2,by rw[qy];exact y.cell rfl,⟨w1,by omega,by rw[zu];exact w3⟩,?_⟩;have ex:(bl s).extract t.2.1.toNat t.2.2.toNat=bl (ig s t.2):=by rw[Ql];rfl
 rw[ex];have aJ:(ig s t.2).length<=65536:=by unfold ig;rw[zcr,zb2];omega
 refine(Ca hg (t:=ig s t.2) (by omega) (R:=λr=>r=(bl (gX (ig s t.2)).1,((gX (ig s t.2)).2.1:Int),(gX (ig s t.2)).2.2)) rfl).go hM ax.ag (zi (a:=Arg.mk .str _) (rdStr _) zq) λv Y M' rr L au U=>?_;subst U;rw[Iz au];refine⟨_,_,_,rfl,?_⟩;have f:Keep g.size g Y:=z.trans L.keep z.size;have af:=P.keep f;obtain⟨l,ml,mk⟩:=I;have D:MapAt Y m l:=ml.keep (f.get m A.1);have i:=Xs I6 D (bl (gX (ig s t.2)).1) Tb;rw[za (by simp)]at i;have az:jE l (bl (gX (ig s t.2)).1) (.bool Tb)=.bool (decide ((gX (ig s t.2)).1∈σ)):=by unfold jE;rw[mk];by_cases C:(gX (ig s t.2)).1∈σ;rw[zb C];simp[C];rw[za C];simp[C]
 rw[az]at i;have S:jX s val σ st=if(gX (ig s t.2)).1∈σ then st.err s 7
   else if st.skip.kind=7 then match val t.2 st.skip.skip with
    |.inl st'=>.inl (σ++[(gX (ig s t.2)).1],st')
    |.inr e=>.inr e
   else st.skip.err s 2:=by
  unfold jX;rw[er];dsimp only;exact(zb am).trans rfl
 refine⟨_,i,λN=>?_,λN=>?_⟩;have N:=zB N;refine mf af λg' Q G=>⟨Tb,rfl,hK Tb g' st _ _ O σ Q ((Stp.keep (O:=O) f).trans G).j (zaf _) (λh=>(by cases h)) ?_⟩;rw[S,zb N];exact⟨rfl,rfl⟩;have N:=zC N;rw[za N]at S;refine K9 I6 D (bl (gX (ig s t.2)).1) (.bool Ta) λB aA aG F=>?_;have aj:PaS lo B M bp s st a e O:=af.frame (by omega) λc hc ho=>F c λh=>by subst h;rcases ho with ho|ho;exact A.2 ho;exact ho (ai _ hm)
 have Z:StJ (λj=>j=m) g O B O:=⟨by have:=f.size;omega,λc h=>.inl h,λj hj hn hJ=>(F j hJ).trans (f.get j hj)⟩;have H:∀g',g'[m]?=B[m]?->v4 m (σ++[(gX (ig s t.2)).1]) g':=λg' ap=>by
  refine⟨_,aA.keep ap,λk=>?_⟩;rw[Li,mk];by_cases hk:(gX (ig s t.2)).1=k;subst hk;simp;have ak:¬bl (gX (ig s t.2)).1=bl k:=λh=>hk (SZ.1 h);rw[za ak];have:(k∈σ++[(gX (ig s t.2)).1])↔k∈σ:=by simp;intro h;exact absurd h.symm hk
  simp only[this]
 have ae:m<B.size:=by have:=A.1;have:=f.size;omega
 refine Bm aj E λg3 P3 S3=>⟨rfl,?_⟩;refine v7 P3 (by omega) (λh7 g4 P4 S4=>⟨Ta,rfl,λh=>(by simp at h),λ_=>?_⟩) (λh7=>⟨Tb,rfl,λ_=>?_,λh=>(by simp at h)⟩);rw[zb h7]at S;have ar:=m0 (PSt.ne_kind h7 (by omega));have p:=an.trans ar;have ah:¬O g.size:=λh=>by have:=(P.own h).2.1;omega
 have B4:Blk g4 g.size #[.int .i64 t.2.1,.int .i64 t.2.2]:=by refine y.keep ?_;have aI:=z.size;rw[S4.fr _ (by have:=S3.le;have:=f.size;have:=L.keep.size;omega) ah,S3.fr _ (by have:=f.size;have:=L.keep.size;omega) ah,F _ (by have:=A.1;omega)];exact L.keep.get _ (by omega)
 refine⟨t.2.1,t.2.2,B4.ld (cs:=[.int .i64 t.2.1,.int .i64 t.2.2]),?_⟩;refine hv t.2 g4 st.skip.skip a e O P4 (by have:=p.m h4;exact this) (by have:=p.t;omega) (λx q=>hw x (p.w x q)) _ λb g' st' a' e' O' Q G n' A'=>⟨b,rfl,?_⟩;have ab:=(S3.trans S4).trans G;refine hK b g' st' a' e' O' _ Q (Z.trans ab.j) (by have:=p.n;omega) (λ_=>H g' (ab.fr m ae λh=>A.2 h)) ?_;rw[S];cases U:val t.2 st.skip.skip with
 |inl x=>rw[U]at A';exact⟨A'.1,by rw[A'.2]⟩
 |inr x=>rw[U]at A';exact A'
 rw[za h7]at S;refine mf P3 λg' Q G=>⟨Tb,rfl,hK Tb g' _ _ _ O σ Q (Z.trans (S3.trans G).j) (by rw[Zo];exact zaf _) (λh=>(by cases h)) ?_⟩;rw[S];exact⟨rfl,rfl⟩
end
end
end Go.X
end
section
namespace Go.X
section
variable {h:zc} {sk si:Sl} {bk bb:List Nat} {b bv cv:Nat} {cs:Array Value} {K:Value -> zc -> Prop}
theorem OTp.row{v:Tr}{f:Nat->List Nat}(H:OTp h v sk si bk bb b cs f){h':zc}(k:∀c∈bb,h'[c]?=h[c]?):RowO h' si b cs 4:=by refine⟨by have:=H.hn;omega,?_⟩;rcases H.hz with⟨h0,_,l⟩|⟨e,i,m,n⟩;exact .inl ⟨by rw[H.hn.1,h0];rfl,l⟩;exact .inr ⟨i,m.keep (k b (by rw[e];simp)),n⟩
theorem XH(x:Tr)(sk si:Sl):∀u∈Yi x sk si,u.oneCell'=Ta:=by intro u b;simp[Yi]at b;rcases b with rfl|rfl|rfl|rfl <;> simp[Value.oneCell',aK]
theorem NY{ks:List Bt}(H:OKeys h ks bk sk){s:Bt}(B:Blk h bv #[.string s])(y:ks.length<=1048576) (D:∀(f:Sl) (h':zc) (q:Nat),OKeys h' (ks++[s]) [q] f->(q∈bk\/h.size<=q)->h.size<=h'.size->(∀c,c<h.size->c∉bk->h'[c]?=h[c]?)->K (.slice f.a f.len f.cap) h'):
  Qa Tp (zav #[22,22] 22 #[.slice sk.a sk.len sk.cap,.slice (Tc ⟨bv,0,Td⟩) 1 cv]) h K:=by
 obtain⟨n,E,F,r⟩:=H;obtain⟨b,cs,o,x,k⟩:∃b cs,RowO h sk b cs 1/\(b∈bk\/h.size<=b)/\cut cs 0 (sk.len*1)=ks.map za1:=by rcases r with⟨rfl,rfl,h0⟩|⟨b,cs,rfl,A,i,p,C⟩;refine⟨h.size,#[],⟨by omega,.inl ⟨n,h0⟩⟩,.inr (zaf _),?_⟩;rw[n];rfl;exact⟨b,cs,⟨by omega,.inr ⟨A,i,by omega⟩⟩,.inl (by simp),by rw[n,zdc];exact C⟩
 have z:∀c∈bk,c<h.size:=by intro c l;rcases r with⟨_,rfl,_⟩|⟨b,cs,rfl,_,i,_⟩;cases l;simp at l;subst l;exact i.lt
 refine uE (vs:=[.string s]) elemStr o B rfl (λu t=>by simp at t;subst t;simp[Value.oneCell']) (by omega) (by omega) λs' h' w cs' N=>?_;rw[k]at N;have m:(ks++[s]).length=sk.len+1:=by simp[n]
 refine D s' h' w ⟨by rw[m];exact N.len,by rw[m];omega,by rw[m];exact N.cap,.inr ⟨w,cs',rfl,N.a,N.blk,by have:=N.size;omega,?_⟩⟩ ?_ N.grow λc l y=>N.old c l λe=>?_;rw[m];have:=N.cut;rw[zdc]at this;rw[this];simp;rcases N.new with e|e;rw[e];exact x;exact .inr e;rcases N.new with i|i;rcases x with p|p;exact y (by rw[e,i];exact p);omega;omega
theorem qge{g h:zc}{x:Tr}{y:Nat->List Nat}(H:OTp g x sk si bk bb b cs y)(C:∀c∈bb,h[c]?=g[c]?){w:Tr}{q p:Sl}(A:Blk h bv (Yi w q p).toArray)(u:x.items.length<=1000000000) (B:∀(f:Sl) (h':zc) (i:Nat) (cs':Array Value),f.a=Tc ⟨i,0,Td⟩->f.len=x.items.length+1->x.items.length+1<=f.cap->Blk h' i cs'->f.cap*4<=cs'.size->cut cs' 0 ((x.items.length+1)*4)=cut cs 0 (x.items.length*4)++Yi w q p -> ((i=b/\b∈bb)\/h.size<=i)->h.size<=h'.size->(∀c,c<h.size->c∉bb->h'[c]?=h[c]?)->K (.slice f.a f.len f.cap) h'):
  Qa Tp (zav #[23,23] 23 #[.slice si.a si.len si.cap,.slice (Tc ⟨bv,0,Td⟩) 1 cv]) h K:=by
 have k:=H.hn.1;obtain⟨b0,n,r⟩:∃b0,RowO h si b0 cs 4/\((b0=b/\b∈bb)\/b0=h.size):=by have l:=OTp.row H (h':=h) C;rcases H.hz with⟨h0,_,z⟩|⟨s,_⟩;exact⟨h.size,⟨l.le,.inl ⟨by rw[k,h0];rfl,z⟩⟩,.inr rfl⟩;exact⟨b,l,.inl ⟨rfl,by rw[s];simp⟩⟩
 refine uE (vs:=Yi w q p) Br n A rfl (XH w q p) (by omega) (by omega) λs' h' i cs' N=>?_;rw[k]at N;have m:(i=b/\b∈bb)\/h.size<=i:=by rcases N.new with e|e;rcases r with⟨o,t⟩|o;exact .inl ⟨by rw[e,o],t⟩;exact .inr (by omega);exact .inr e
 refine B s' h' i cs' N.a N.len N.cap N.blk N.size N.cut m N.grow λc D u=>N.old c D λe=>?_;rcases m with⟨o,t⟩|o;exact u (by rw[e,o];exact t);omega
end
section
variable {g':zc} {s:Bt} {bv cv:Nat} {K:zc -> Prop}
structure BT (lo hi:Nat) (g:zc) (b0:Nat) (v:Tr) (sk si:Sl) (bk bb:List Nat) (b:Nat) (cs:Array Value) (bf:Nat->List Nat):Prop where
 box:Blk g b0 (Yi v sk si).toArray
 p:OTp g v sk si bk bb b cs bf
 ok:∀c∈bk,lo<=c/\c<hi/\c≠b0
 ob:∀c∈bb,lo<=c/\c<hi/\c≠b0
 oi:∀i,i<v.items.length->∀c∈bf i,lo<=c/\c<hi/\c≠b0
 lb:lo<=b0
 hg:hi<=g.size
def Own(lo hi:Nat)(g:zc)(b0:Nat)(v:Tr)(sk si:Sl):Prop:=∃(bk bb:List Nat) (b:Nat) (cs:Array Value) (c:Nat->List Nat),BT lo hi g b0 v sk si bk bb b cs c
section
variable {lo hi : Nat} {g : zc} {b0 : Nat} {v : Tr} {sk si : Sl}
theorem Own.box(H:Own lo hi g b0 v sk si):Blk g b0 (Yi v sk si).toArray:=by obtain⟨bk,bb,b,cs,c,B⟩:=H;exact B.box
theorem BT.move{bk bb:List Nat}{b:Nat}{cs:Array Value}{e:Nat->List Nat}(B:BT lo hi g b0 v sk si bk bb b cs e)(f:∀c,c∈bk\/c∈bb\/(∃i,i<v.items.length/\c∈e i)->g'[c]?=g[c]?):OTp g' v sk si bk bb b cs e:= ⟨B.p.keys.frame λc k=>f c (.inl k),B.p.hn,by rcases B.p.hz with h|⟨h1,l,n,m⟩;exact .inl h;exact .inr ⟨h1,l,n.keep (f b (.inr (.inl (by rw[h1];simp)))),m⟩,λi hi=>(B.p.hi i hi).frame λc k=>f c (.inr (.inr ⟨i,hi,k⟩)),B.p.nk,B.p.d1,B.p.d2,B.p.d3,B.p.d4⟩
theorem Own.keep(H:Own lo hi g b0 v sk si)(k:Keep g.size g g'):Own lo hi g' b0 v sk si:=by obtain⟨bk,bb,b,cs,f,B⟩:=H;have hz:=k.size;have h:=B.hg;refine⟨bk,bb,b,cs,f,B.box.ofKeep k,B.move λc e=>k.get c ?_,B.ok,B.ob,B.oi,B.lb,by omega⟩;rcases e with e|e|⟨i,hi,e⟩;have:=(B.ok c e).2.1;omega;have:=(B.ob c e).2.1;omega;have:=(B.oi i hi c e).2.1;omega
theorem Own.ot(H:Own lo hi g b0 v sk si):∃bs:List Nat,OT g v bs (Yi v sk si)/\∀c∈bs,lo<=c/\c≠b0:=by obtain⟨bk,bb,b,cs,f,B⟩:=H;refine⟨_,B.p.ot,λc e=>?_⟩;rcases YN.1 e with h|h|⟨i,hi,h⟩;exact⟨(B.ok c h).1,(B.ok c h).2.2⟩;exact⟨(B.ob c h).1,(B.ob c h).2.2⟩;exact⟨(B.oi i hi c h).1,(B.oi i hi c h).2.2⟩
theorem Own.new{k:Int}(B:Blk g b0 (Yi (.mk k s [] []) ⟨Td,0,0⟩ ⟨Td,0,0⟩).toArray)(h:lo<=b0)(e:hi<=g.size):Own lo hi g b0 (.mk k s [] []) ⟨Td,0,0⟩ ⟨Td,0,0⟩:= ⟨[],[],0,#[],λ_=>[],B,⟨⟨rfl,zbn _,zbn _,.inl ⟨rfl,rfl,rfl⟩⟩,⟨rfl,zbn _,zbn _⟩,.inl ⟨rfl,rfl,rfl⟩,λi hi=>absurd hi (Nat.not_lt_zero i),zeo,λc b=>(by cases b),λc b=>(by cases b),λc b=>(by cases b),λi j hi=>absurd hi (Nat.not_lt_zero i)⟩,λc b=>(by cases b),λc b=>(by cases b),λi hi=>absurd hi (Nat.not_lt_zero i),h,e⟩
theorem Ke:qo Tp 22=Ta:=by kernel_rfl
theorem Hy:ya Tp 22=1:=by kernel_rfl
theorem EP:qo Tp 23=Ta:=by kernel_rfl
theorem Fx:ya Tp 23=1:=by kernel_rfl
theorem Own.key(H:Own lo hi g b0 v sk si)(S:lo<=g.size)(y:v.keys.length<=1048576)(U:Blk g bv #[.string s]) (O:∀(g':zc) (s':Sl),Own lo g'.size g' b0 (.mk v.kind v.text (v.keys++[s]) v.items) s' si->Keep lo g g'->g.size<=g'.size->K g'):
  Qa Tp (zav #[22,22] 22 #[.slice sk.a sk.len sk.cap,.slice (Tc ⟨bv,0,Td⟩) 1 cv]) g (λw D=>∃x:Sl,w=.slice x.a x.len x.cap/\XRunU Tp (zag 22 (.pointer (Tc ⟨b0,2,Td⟩)) (.slice x.a x.len x.cap)) D K):=by
 obtain⟨bk,bb,b,cs,A,B⟩:=H;refine NY B.p.keys U y λs' D k I E z1 G=>⟨s',rfl,?_⟩;have C:=B.box.lt;have Y:=B.hg;have m:∀c∈bk,lo<=c/\c<g.size/\c≠b0:=λc f=>by have:=B.ok c f;exact⟨this.1,by omega,this.2.2⟩
 have n:∀c∈bb,lo<=c/\c<g.size/\c≠b0:=λc f=>by have:=B.ob c f;exact⟨this.1,by omega,this.2.2⟩
 have o:∀i,i<v.items.length->∀c∈A i,lo<=c/\c<g.size/\c≠b0:=λi hi c f=>by have:=B.oi i hi c f;exact⟨this.1,by omega,this.2.2⟩
 have t:b0∉bk:=λh=>(m b0 h).2.2 rfl;refine j5 Ke Hy (B.box.keep (G b0 C t)) (by show 2<4;omega) rfl λF P Z J=>?_;have M:k<D.size:=by obtain⟨_,_,_,h|⟨V,cs',e,_,h,_⟩⟩:=I;exact absurd h.1 (by simp);rw[zcg]at e;rw[e.1];exact h.lt
 have r:lo<=k/\k≠b0:=by rcases E with h|h;exact⟨(m k h).1,(m k h).2.2⟩;exact⟨by omega,by omega⟩
 have q:∀c,c<g.size->c∉bk->c≠k:=λc f y e=>by subst e;rcases E with h|h;exact y h;omega
 have z:∀c,c<g.size->c∉bk->c≠b0->F[c]?=g[c]?:=λc f y h0=>(J c h0).trans (G c f y);have u:∀i,i<v.items.length->∀c∈A i,c∉bk:=λi hi c f h=>B.p.d2 c h i hi f;refine O F s' ⟨[k],bb,b,cs,A,P,⟨I.frame λc f=>J c ?_,B.p.hn,?_,λi hi=>(B.p.hi i hi).frame λc f=>z c (o i hi c f).2.1 (u i hi c f) (o i hi c f).2.2,by simp,λc f=>?_,λc f i hi l=>?_,B.p.d3,B.p.d4⟩,λc f=>?_,λc f=>?_,λi hi c f=>?_,B.lb,zaf _⟩ ⟨by omega,λj hj=>z j (by omega) (λh=>?_) ?_⟩ (by omega);rw[zbm.1 f];exact r.2;rcases B.p.hz with h|⟨h1,L,Q,N⟩;exact .inl h;have l:b∈bb:=by rw[h1];simp
 exact .inr ⟨h1,L,Q.keep (z b (n b l).2.1 (λh=>B.p.d1 b h l) (n b l).2.2),N⟩;rw[zbm.1 f];intro l;exact q k (n k l).2.1 (λh=>B.p.d1 k h l) rfl;rw[zbm.1 f]at l;exact q k (o i hi k l).2.1 (u i hi k l) rfl;rw[zbm.1 f];exact⟨r.1,by omega,r.2⟩;have:=n c f;exact⟨this.1,by omega,this.2.2⟩;have:=o i hi c f;exact⟨this.1,by omega,this.2.2⟩;have:=(m j h).1;omega;have:=B.lb;omega
theorem Own.item(H:Own lo hi g b0 v sk si)(aa:lo<=g.size)(A:v.items.length<=1000000){w:Tr}{L I:Sl}(hv:Blk g bv (Yi w L I).toArray){bw:List Nat}(G:OT g w bw (Yi w L I))(Y:bv∉bw)(F:∀c∈bw,lo<=c/\c≠b0/\hi<=c) (hK:∀(g':zc) (s':Sl),Own lo g'.size g' b0 (.mk v.kind v.text v.keys (v.items++[w])) sk s'->Keep lo g g'->g.size<=g'.size->K g'):
  Qa Tp (zav #[23,23] 23 #[.slice si.a si.len si.cap,.slice (Tc ⟨bv,0,Td⟩) 1 cv]) g (λu Q=>∃x:Sl,u=.slice x.a x.len x.cap/\XRunU Tp (zag 23 (.pointer (Tc ⟨b0,3,Td⟩)) (.slice x.a x.len x.cap)) Q K):=by
 obtain⟨bk,bb,b,cs,z,B⟩:=H;refine qge B.p (λc f=>rfl) hv (by omega) λs' Q l cs' e1 e2 e3 U V Z D z1 O=>⟨s',rfl,?_⟩;have M:=B.box.lt;have hg:=B.hg;have q:∀c∈bk,lo<=c/\c<g.size/\c≠b0:=λc f=>by have:=B.ok c f;exact⟨this.1,by omega,this.2.2⟩
 have s:∀c∈bb,lo<=c/\c<g.size/\c≠b0:=λc f=>by have:=B.ob c f;exact⟨this.1,by omega,this.2.2⟩
 have r:∀i,i<v.items.length->∀c∈z i,lo<=c/\c<g.size/\c≠b0:=λi hi c f=>by have:=B.oi i hi c f;exact⟨this.1,by omega,this.2.2⟩
 have o:∀c∈bw,c∉bk/\c∉bb/\∀i,i<v.items.length->c∉z i:=λc f=>by have h1:=(F c f).2.2;exact⟨λh=>by have:=(B.ok c h).2.1;omega,λh=>by have:=(B.ob c h).2.1;omega,λi hi h=>by have:=(B.oi i hi c h).2.1;omega⟩
 have C:b0∉bb:=λh=>(B.ob b0 h).2.2 rfl;refine j5 EP Fx (B.box.keep (O b0 M C)) (by show 3<4;omega) rfl λJ u1 u2 P=>?_;have n:lo<=l/\l≠b0:=by rcases D with⟨h,m⟩|h;rw[h];exact⟨(s b m).1,(s b m).2.2⟩;exact⟨by omega,by omega⟩
 have t:∀c,c<g.size->c∉bb->c≠l:=λc f A e=>by subst e;rcases D with⟨h,m⟩|h;rw[h]at A;exact A m;omega
 have E:∀c,c<g.size->c∉bb->c≠b0->J[c]?=g[c]?:=λc f A h0=>(P c h0).trans (O c f A);have y:∀i,i<v.items.length->∀c∈z i,c∉bb:=λi hi c f h=>B.p.d3 c h i hi f;have N:=OTp.ins (h':=J) B.p (k:=v.items.length) (zaf _) (w:=w) (bw:=bw) (cw:=Yi w L I) (G.frame λc f=>E c (G.lt c f) (o c f).2.1 (F c f).2.1) (λi hi c f=>E c (r i hi c f).2.1 (y i hi c f) (r i hi c f).2.2) e1 (U.keep (P l n.2)) e2 e3 V (by omega)
  (by
   have S:(cut cs 0 (v.items.length*4)).length<=v.items.length*4:=by unfold cut;rw[zcr];omega
   rw[Z,zcn S,zci S,zbj])
  (λi hi m=>t l (r i hi l m).2.1 (y i hi l m) rfl) (λm=>t l (G.lt l m) (o l m).2.1 rfl) (λc f i hi=>(o c f).2.2 i hi)
  (B.p.keys.frame λc f=>E c (q c f).2.1 (B.p.d1 c f) (q c f).2.2) B.p.nk (λm=>t l (q l m).2.1 (B.p.d1 l m) rfl) (λc f i hi=>B.p.d2 c f i hi) (λc f m=>(o c m).1 f)
 rw[zbw,zdw]at N;refine hK J s' ⟨bk,[l],l,cs',_,u1,N,λc f=>?_,λc f=>?_,λi hi c f=>?_,B.lb,zaf _⟩ ⟨by omega,λj hj=>E j (by omega) (λh=>?_) ?_⟩ (by omega);have:=q c f;exact⟨this.1,by omega,this.2.2⟩;rw[zbm.1 f];exact⟨n.1,by have:=U.lt;omega,n.2⟩;have f:c∈(if i<v.items.length then z i else if i=v.items.length then bw else z (i-1)):=f;have hi:i<v.items.length+1:=by
  have:(v.items++[w]).length=v.items.length+1:=by simp
  rw[<-this];exact hi
 split at f;rename_i h;have:=r i h c f;exact⟨this.1,by omega,this.2.2⟩;rw[zb (by omega)]at f;have:=G.lt c f;exact⟨(F c f).1,by omega,(F c f).2.1⟩;have:=(s j h).1;omega;have:=B.lb;omega
end
end
end Go.X
end
section
namespace Go.X
open Go Go.X Go.Proofs Go.RowKit
section
variable {M:Fr} {g:zc} {s:Sl} {k b f:Nat} {t:Bs} {u:Value}
theorem MM(ag:AgM M g){xs:List Int}(H:Rd M (.row (.int .i64)) xs [aK s])(c:k<xs.length):∃b o,s.a=Tc ⟨b,o,Td⟩/\zf g ⟨b,o+k*1,Td⟩=Tc (.int .i64 xs[k]):=by obtain⟨b,o,cs,e,h,f⟩:=Go.X.rowAt H c;exact⟨b,o,e,wO ag h f⟩
theorem HY(ag:AgM M g){xs:List Nd}(H:Rd M (.row ku) xs [aK s])(u:k<xs.length):∃(b o:Nat) (ks ps:Sl),s.a=Tc ⟨b,o,Td⟩/\zd g ⟨b,o+k*7,Td⟩ 0 [.int .i64 xs[k].1,.int .i64 xs[k].2.1.1,.int .i64 xs[k].2.1.2,.int .i64 xs[k].2.2.1.1,.int .i64 xs[k].2.2.1.2,aK ks,aK ps]/\Rd M (.row (.int .i64)) xs[k].2.2.2.1 [aK ks]:=by
 obtain⟨b,o,cs,I,B,J⟩:=Go.X.rowAt H u;obtain⟨D,P,y,m,c2,S,N,⟨z,p,A,a2,f⟩,Q,O,E,⟨r,G,C,l,h⟩,L,F,x,n,t⟩:=J;have m:D=[.int .i64 xs[k].1]:=m;have a2:z=[.int .i64 xs[k].2.1.1]:=a2;have f:p=[.int .i64 xs[k].2.1.2]:=f;have l:r=[.int .i64 xs[k].2.2.1.1]:=l;have h:G=[.int .i64 xs[k].2.2.1.2]:=h;obtain⟨ks,rfl⟩:∃ks:Sl,L=[aK ks]:=by obtain⟨w,e,a,c,q,_⟩:=n;exact⟨⟨a,_,c⟩,by rw[e,q];rfl⟩
 obtain⟨ps,rfl⟩:∃ps:Sl,F=[aK ps]:=by obtain⟨w,e,a,c,q,_⟩:=t;exact⟨⟨a,_,c⟩,by rw[e,q];rfl⟩
 subst m a2 f l h A C x E N;refine⟨b,o,ks,ps,I,?_,n⟩;exact mS (o:=o+k*7) (i:=0) ag B (by rw[zen];exact y)
theorem T5{nodes:List Nd}(h:RdV M oX (bl t,nodes) u):∃sl:Sl,u=.agg #[.string (bl t),aK sl]/\Rd M (.row ku) nodes [aK sl]:=by
 obtain⟨cs,rfl,i,c2,rfl,b,f⟩:=h;have b:i=[.string (bl t)]:=b;subst b;obtain⟨sl,rfl⟩:∃sl:Sl,c2=[aK sl]:=by obtain⟨w,e,a,c,q,_⟩:=f;exact⟨⟨a,_,c⟩,by rw[e,q];rfl⟩
 exact⟨sl,rfl,f⟩
theorem Mn{nodes:List Nd}{sl:Sl}(h:Rd M (.row ku) nodes [aK sl]):RdV M oX (bl t,nodes) (.agg #[.string (bl t),aK sl]):=⟨[.string (bl t),aK sl],rfl,[_],[_],rfl,rfl,h⟩
theorem Ul{gl:Fr}(q:GL gl)(C:t.length<=65536){nodes:List Nd}{x:Nd}(z:nodes[k]?=Tc x){R:Bt->Prop}(h:R (bl (pZ t x))):PC Tp gl 150 [Arg.mk oX (bl t,nodes),Arg.mk (.int .i64) (k:Int)] [.str] R:=by
 intro h0 M vs m ag A
 match vs,A with
 |[u1,u2],⟨a1,a2,_⟩=>obtain⟨sl,rfl,rd⟩:=T5 a1;obtain rfl:=jq (i:=(k:Int)) a2;obtain⟨u,rfl⟩:=za0.1 z;apply PX.of;apply V6 (bl t) sl (k:Int);intro h1;have e:Later h0 M h1 M:=Later.push ag _;have n:Blk h1 h0.size #[.string (bl t),aK sl]:=Blk.new _ _ _;clear_value h1;obtain⟨b,o,ks,ps,B,l,_⟩:=HY e.ag (rd.mono e.le) u;have D:=(rowLen rd).1;refine⟨bl t,sl,n.ld (cs:=[.string (bl t),aK sl]),sl,n.cellAdd (o:=0) (k:=1) rfl,⟨b,o,Td⟩,⟨B,by omega,by omega⟩,nodes[k].2.2.1.1,nodes[k].2.2.1.2,?_,?_⟩;simp only[zd,qy,Nat.add_assoc,Nat.reduceAdd,zao]at l ⊢;simp_all;refine(EC (gl:=gl) (t:=t) (nodes:=nodes) (p:=nodes[k].2.2.1) (R:=λr=>r=bl (xo t nodes[k].2.2.1)) rfl).go (vs:=[.agg #[.string (bl t),aK sl],.agg #[.int .i64 nodes[k].2.2.1.1,.int .i64 nodes[k].2.2.1.2]]) (m.trans e.le) e.ag (zi (Mn (rd.mono e.le)) (zi (a:=Arg.mk lA _) ⟨[_,_],rfl,[_],[_],rfl,rfl,rfl⟩ zq)) λw g M2 r L c f=>?_;subst f;refine⟨_,mZ c,?_⟩;have:=Lw t nodes[k].2.2.1;refine(Ca q (t:=xo t nodes[k].2.2.1) (by omega) (R:=λr=>R r.1) h).go (vs:=[.string (bl (xo t nodes[k].2.2.1))]) (m.trans (e.le.trans L.le)) L.ag (zi (a:=Arg.mk .str _) (rdStr _) zq) λw E y r s c f=>?_;exact⟨_,_,_,Iz c,y,r.1,e.trans (L.trans s),Y5.2 (rdStr _),f⟩
theorem qtq:qo Tp 176=Ta:=by kernel_rfl
theorem VZ:ya Tp 176=7:=by kernel_rfl
theorem YD:qo Tp 25=Ta:=by kernel_rfl
theorem ME:ya Tp 25=4:=by kernel_rfl
theorem Wb{x y z w:Value}(B:Blk g b #[x,y,z,w]){k:Int}{s:Bt}{sk si:Sl}{K:zc->Prop}(f:∀g',(∀j,j≠b->g'[j]?=g[j]?)->g'.size=g.size->Blk g' b #[.int .i64 k,.string s,aK sk,aK si]->K g'):
  XRunU Tp (zag 25 (.pointer (Tc ⟨b,0,Td⟩)) (.agg #[.int .i64 k,.string s,aK sk,aK si])) g K:=by
 refine Qz (vs:=[.int .i64 k,.string s,aK sk,aK si]) YD B rfl ME (zaf _) (λu c=>?_) λg' e i h=>f g' h i e;simp at c;rcases c with rfl|rfl|rfl|rfl <;> rfl
def iG(t:Bs)(nodes:List Nd)(f:Nat)(x:Nd)(n:Nat):Tr:=.mk x.1 (bl (kZ x.1 (xo t x.2.1))) (if x.1=6 then(x.2.2.2.1.take n).map λc=>bl (sB t nodes c)else []) ((x.2.2.2.1.take n).map λc=>mW t nodes f c.toNat)
theorem R8{nodes:List Nd}{x:Nd}(b:nodes[k]?=Tc x):iG t nodes f x x.2.2.2.1.length=mW t nodes (f+1) k:=by unfold iG;rw[mW,b,zbw]
theorem z6n{nodes:List Nd}{x:Nd}{n:Nat}(b:n<x.2.2.2.1.length):iG t nodes f x (n+1)=.mk x.1 (bl (kZ x.1 (xo t x.2.1))) (if x.1=6 then(iG t nodes f x n).keys++[bl (sB t nodes x.2.2.2.1[n])]else(iG t nodes f x n).keys) ((iG t nodes f x n).items++[mW t nodes f x.2.2.2.1[n].toNat]):=by unfold iG;rw[zar b,zb9,zb9];simp_all
section
variable {t : Bs} {nodes : List Nd} {lvs : List Nat} {gl : Fr}
theorem wd{u v:Value}(B:Blk g b #[u,v]):zd g ⟨b,0,Td⟩ 0 [u,v]:=B.ld (cs:=[u,v])
def OC(F:FuncId)(t:Bs)(nodes:List Nd)(gl:Fr)(k:Nat)(c:List Value)(v:Tr):Prop:=
 ∀(h:zc) (M:Fr) (e:Sl),Fr.le gl M->AgM M h->Rd M (.row ku) nodes [aK e]->∀(K:Value->zc->Prop),(∀(h':zc) (bs:List Nat) (sk si:Sl),Keep h.size h h'->OT h' v bs (Yi v sk si)->(∀b∈bs,h.size<=b)->K (.agg #[.int .i64 v.kind,.string v.text,aK sk,aK si]) h') ->
  XC Tp F ([Value.agg #[.string (bl t),aK e],zez .i64 (k:Int)]++c).toArray h K
set_option maxRecDepth 100000 in
set_option maxHeartbeats 4000000 in
theorem JD(hg:GL gl)(ht:t.length<=65536)(G:GoodN lvs nodes)(bo:∀x∈nodes,x.2.2.2.1.length<=200000):∀(f k l:Nat) (L:Int),lvs[k]?=Tc l->33-l<=f->1<=L->L<=(l:Int)->OC 89 t nodes gl k [.int .i64 L] (mW t nodes f k)
 |0,k,l,L,hl,hf,_,_=>by have:=G.lv k l hl;omega
 |f+1,k,l,L,hl,hf,hL1,hL2=>by
  intro h M J hM ag rd K hK;have aE:k<nodes.length:=by have:=(za0.1 hl).1;have:=G.len;omega
  have hx:nodes[k]?=Tc nodes[k]:=zaj aE;have cb:=G.lv k l hl;have ab:=G.kid k l nodes[k] hx hl;have bB:=bo _ (zay aE);generalize bz:nodes[k]=x at hx ab bB;have co:=(rowLen rd).1;show XC Tp _ #[.agg #[.string (bl t),aK J],.int .i64 (k:Int),.int .i64 L] h K;apply zv9;intro h1 F;have k1:Keep h.size h h1:=Keep.push _ _ (zaf _);have k2:Keep h1.size h1 F:=Keep.push _ _ (zaf _);have z1:h1.size=h.size+1:=zau _;have z2:F.size=h1.size+1:=zau _;have D1:Blk h1 h.size #[.string (bl t),aK J]:=Blk.new _ _ _;have R2:Blk F h1.size #[.int .i64 0,.string ⟨#[]⟩,.slice Td 0 0,.slice Td 0 0]:=Blk.new _ _ _;clear_value h1 F;have aP:Keep h.size h F:=k1.trans (c:=F) (m:=h.size) ⟨k2.size,λj q=>k2.get j (by omega)⟩ (zaf _);have D2:=D1.keep (k2.get h.size (by omega));have bA:=ag.keep aP;obtain⟨nb,no,ks,ps,e1,e2,e3⟩:=HY bA rd aE;rw[bz]at e2 e3;have bV:=(rowLen e3).1;refine⟨J,by rw[qy];exact D2.cell rfl,_,⟨e1,by omega,by omega⟩,x.1,x.2.1.1,x.2.1.2,x.2.2.1.1,x.2.2.1.2,ks,ps,?_,?_⟩;rw[qy,zao];exact e2;intro bj;obtain⟨bU,cc,bD⟩:=wq (g:=bj) rfl;clear_value bj;refine Qz (vs:=jN (x,⟨ks,[],ps,[]⟩)) qtq bD rfl VZ (zaf _) (Hv _) λb z bZ bI=>?_;have z:Blk b F.size #[.int .i64 x.1,.int .i64 x.2.1.1,.int .i64 x.2.1.2,.int .i64 x.2.2.1.1,.int .i64 x.2.2.1.2,aK ks,aK ps]:=z;have N:Keep F.size F b:=⟨by omega,λj q=>(bI j (by omega)).trans (bU.get j q)⟩;have Z:Keep h.size h b:=aP.trans (c:=b) (m:=h.size) ⟨N.size,λj q=>N.get j (by omega)⟩ (zaf _);have aH:=D2.keep (N.get h.size (by omega));have bF:=R2.keep (N.get h1.size (by omega));intro aV a7;have aS:∀(P:Nat) (Y:zc),b.size<=P->Keep b.size b Y->Blk Y P #[.int .i64 x.1,.string (bl (kZ x.1 (xo t x.2.1))),.slice Td 0 0,.slice Td 0 0]->aV ⟨P,0,Td⟩ Y:=by
   intro P Y bT aT a1;refine a7 ⟨P,0,Td⟩ Y ?_;have bO:=z.keep (aT.get F.size (by omega));have bN:=a1.lt;refine⟨ks,by rw[qy];exact bO.cell rfl,λi s=>∃(n:Nat) (sk si:Sl),i=(n:Int)/\n<=x.2.2.2.1.length/\Own b.size s.size s P (iG t nodes f x n) sk si/\Keep b.size b s,λi _=>x.2.2.2.1.length-i.toNat,⟨0,⟨Td,0,0⟩,⟨Td,0,0⟩,rfl,by omega,?_,aT⟩,?_⟩;have e0:iG t nodes f x 0=.mk x.1 (bl (kZ x.1 (xo t x.2.1))) [] []:=by unfold iG;simp
   rw[e0];exact Own.new a1 bT (zaf _);rintro i s ⟨n,sk,si,rfl,hn,B,A⟩;have bm:=z.keep (A.get F.size (by omega));have be:=aH.keep (A.get h.size (by omega));have bP:=bF.keep (A.get h1.size (by omega));have ax:Keep h.size h s:=Z.trans (c:=s) (m:=h.size) ⟨A.size,λj q=>A.get j (by omega)⟩ (zaf _);have ay:=ag.keep ax;have cn:=A.size;refine⟨λaa=>?_,λbS=>?_⟩;have aa:n<x.2.2.2.1.length:=by have:=zB aa;omega
   obtain⟨j,ej,cj,aA⟩:=ab _ (zay aa);have q:j<nodes.length:=by have:=(za0.1 aA).1;have:=G.len;omega
   have b7:=G.lv j (l+1) aA;obtain⟨ib,io,f1,f2⟩:=MM ay e3 aa;rw[ej]at f2;refine⟨ks,by rw[qy];exact bm.cell rfl,_,⟨f1,by omega,by omega⟩,(j:Int),by rw[qy,zao];exact f2,J,λ_=>by rw[qy];exact be.cell rfl,?_⟩;have hc:(bif (bif (decide ((j:Int)<0))then Ta else(decide ((j:Int)>=((J.len:Nat):Int))))then Ta else(decide (L>32)))=Tb:=by rw[zF (by omega),zI,zF (by omega),zI,zF (by omega)]
   rw[hc];refine⟨λh=>(by cases h),λ_=>?_⟩;intro bQ bg;have a8:nodes[j]?=Tc nodes[j]:=zaj q;have aU:sB t nodes x.2.2.2.1[n]=pZ t nodes[j]:=by unfold sB;rw[ej,zao,a8]
   have ah:=z6n (t:=t) (nodes:=nodes) (f:=f) aa;rw[aU,ej,zao]at ah;have body:∀(o:zc) (aC:List Bt) (aF:Sl),aC=(if x.1=6 then(iG t nodes f x n).keys++[bl (pZ t nodes[j])]else(iG t nodes f x n).keys)->Own b.size o.size o P (.mk x.1 (bl (kZ x.1 (xo t x.2.1))) aC (iG t nodes f x n).items) aF si->Keep b.size b o->bQ o:=by
    intro o aC aF bE aJ ae;refine bg o ?_;have b8:=ae.size;have bL:=aH.keep (ae.get h.size (by omega));have bn:Keep h.size h o:=Z.trans (c:=o) (m:=h.size) ⟨ae.size,λj q=>ae.get j (by omega)⟩ (zaf _);have ai:=aJ.box.lt;refine⟨si,by rw[qy];exact aJ.box.cell rfl,bl t,J,wd bL,?_⟩;rw[im (by omega)];refine JD hg ht G bo f j (l+1) (L+1) aA (by omega) (by omega) (by omega) o M J hM (ag.keep bn) rd _ λb9 bw wk wi ar ow aB=>⟨_,_,_,_,rfl,?_⟩;have cq:=ar.size;refine⟨by rw[qy];exact ar.get P ai,?_⟩;intro S;obtain⟨au,ca,bJ⟩:=wq (g:=S) rfl;clear_value S;refine⟨by rw[qy];exact(au.get P (by omega)).trans (ar.get P ai),?_⟩;have D:Keep o.size o S:=ar.trans (c:=S) (m:=o.size) ⟨au.size,λj q=>au.get j (by omega)⟩ (zaf _);have aY:Keep b.size b S:=ae.trans (c:=S) (m:=b.size) ⟨D.size,λj q=>D.get j (by omega)⟩ (zaf _);have aM:(iG t nodes f x n).items.length<=1000000:=by unfold iG;simp;omega
    rw[qy];refine Own.item (aJ.keep D) (by omega) aM bJ (ow.frame λc hc=>au.get c (ow.lt c hc)) (λhm=>by have:=ow.lt _ hm;omega) (λc hc=>⟨by have:=aB c hc;omega,by have:=aB c hc;omega,aB c hc⟩) λg' s2 O' k' z'=>⟨⟨n+1,aF,s2,by rw[im (by omega)];omega,by omega,?_,aY.trans (c:=g') (m:=b.size) k' (zaf _)⟩,?_⟩;rw[ah,<-bE];exact O';show x.2.2.2.1.length-(zaa .i64 ((n:Int)+1)).toNat<x.2.2.2.1.length-(n:Int).toNat;rw[im (by omega)];omega
   refine⟨x.1,by rw[qy];exact bm.cell rfl,λh6=>?_,λh6=>?_⟩;have h6:x.1=6:=by simpa using h6
   have af:=B.box.lt;refine⟨sk,by rw[qy];exact B.box.cell rfl,bl t,J,wd be,?_⟩;refine(Ul hg ht (nodes:=nodes) (k:=j) a8 (R:=λr=>r=bl (pZ t nodes[j])) rfl).go hM ay (zi (a:=Arg.mk oX _) ⟨[.string (bl t),aK J],rfl,[.string (bl t)],[aK J],rfl,rfl,rd⟩ (zi (a:=Arg.mk (.int .i64) _) (Yb _ _) zq)) λv b6 M' r Lt hv hr=>⟨r,mZ hv,?_⟩;subst hr;have ap:=Lt.keep;have ck:=ap.size;refine⟨by rw[qy];exact ap.get P af,?_⟩;intro V;obtain⟨aG,cd,bC⟩:=wq (g:=V) rfl;clear_value V;refine⟨by rw[qy];exact(aG.get P (by omega)).trans (ap.get P af),?_⟩;have C:Keep s.size s V:=ap.trans (c:=V) (m:=s.size) ⟨aG.size,λj q=>aG.get j (by omega)⟩ (zaf _);have bq:Keep b.size b V:=A.trans (c:=V) (m:=b.size) ⟨C.size,λj q=>C.get j (by omega)⟩ (zaf _);have ba:(iG t nodes f x n).keys.length<=1048576:=by unfold iG;simp[h6];omega
   rw[qy];refine Own.key (B.keep C) (by omega) ba bC λg' s2 O' k' z'=>body g' _ s2 (by rw[zb h6]) O' (bq.trans (c:=g') (m:=b.size) k' (zaf _));have h6:¬x.1=6:=by simpa using h6
   exact body s (iG t nodes f x n).keys sk (by rw[za h6]) B A;have br:n=x.2.2.2.1.length:=by have:=zC bS;omega
   subst br;have eN:=R8 (t:=t) (f:=f) hx;rw[eN]at B;refine⟨_,_,sk,si,B.box.ld (cs:=Yi _ sk si),?_⟩;refine Wb bP λg2 f2 z2 B2=>⟨_,_,sk,si,B2.ld (cs:=[_,_,aK sk,aK si]),?_⟩;obtain⟨bs,ot,aL⟩:=B.ot;refine hK g2 bs sk si (ax.trans (c:=g2) (m:=h.size) ⟨by omega,λj q=>f2 j (by omega)⟩ (zaf _)) (ot.frame λc hc=>f2 c (by have:=(aL c hc).1;omega)) λc hc=>by have:=(aL c hc).1;omega
  have cm:=Lw t x.2.1;have bh:∀{g:zc} {Q:Value->zc->Prop},AgM M g->(∀g',Keep g.size g g'->Q (.string (bl (xo t x.2.1))) g')->XC Tp 149 #[.agg #[.string (bl t),aK J],.agg #[.int .i64 x.2.1.1,.int .i64 x.2.1.2]] g Q:=λ {g Q} agg hQ=>by refine(EC (gl:=gl) (t:=t) (nodes:=nodes) (p:=x.2.1) (R:=λr=>r=bl (xo t x.2.1)) rfl).go hM agg (zi (a:=Arg.mk oX _) ⟨[.string (bl t),aK J],rfl,[.string (bl t)],[aK J],rfl,rfl,rd⟩ (zi (a:=Arg.mk lA _) ⟨[.int .i64 x.2.1.1,.int .i64 x.2.1.2],rfl,_,_,rfl,rfl,rfl⟩ zq)) λv g' M' r L hv hr=>?_;subst hr;rw[mZ hv];exact hQ g' L.keep
  have aI:∀{g:zc} {Q:Value->zc->Prop},AgM M g->(∀g',Keep g.size g g'->Q (.string (bl (kZ x.1 (xo t x.2.1)))) g')->XC Tp 148 #[.int .i64 x.1,.string (bl (xo t x.2.1))] g Q:=λ {g Q} agg hQ=>by refine(qf7 hg (k:=x.1) (t:=xo t x.2.1) (by omega) (R:=λr=>r=bl (kZ x.1 (xo t x.2.1))) rfl).go hM agg (zi (a:=Arg.mk (.int .i64) _) (Yb _ _) (zi (a:=Arg.mk .str _) (rdStr _) zq)) λv g' M' r L hv hr=>?_;subst hr;rw[mZ hv];exact hQ g' L.keep
  have y:=ag.keep Z;have u:∀(hh hA:zc),Keep b.size b hh->Keep hh.size hh hA->Blk hA hh.size #[.int .i64 0,.string ⟨#[]⟩,.slice Td 0 0,.slice Td 0 0]->XRunU Tp (zag 25 (.pointer (Tc ⟨hh.size,0,Td⟩)) (.agg #[.int .i64 x.1,.string (bl (kZ x.1 (xo t x.2.1))),.slice Td 0 0,.slice Td 0 0])) hA (λg=>aV ⟨hh.size,0,Td⟩ g):=λhh hA kh kA BA=>
   Wb (sk:=⟨Td,0,0⟩) (si:=⟨Td,0,0⟩) BA λg2 f2 z2 B2=>aS hh.size g2 kh.size (kh.trans (c:=g2) (m:=b.size) ⟨by have:=kh.size;have:=kA.size;omega,λj q=>by have:=kh.size;rw[f2 j (by omega)];exact kA.get j (by omega)⟩ (zaf _)) B2
  have O:∀{g:zc},Keep b.size b g->g[F.size]?=b[F.size]?:=λk=>k.get F.size (by omega);refine⟨x.1,by rw[qy];exact z.cell rfl,x.1,by rw[qy];exact z.cell rfl,bl t,J,wd aH,x.2.1.1,x.2.1.2,?_,bh y λbM e=>⟨_,rfl,by rw[qy];exact O e,by rw[qy];exact O e,aI (y.keep e) λw U=>⟨_,rfl,?_,?_,?_⟩,?_⟩,?_⟩;rw[qy];exact⟨by rw[qy];exact z.cell rfl,by rw[qy];exact z.cell rfl,trivial⟩;rw[qy];exact O (e.trans (c:=w) (m:=b.size) ⟨U.size,λj q=>U.get j (by have:=e.size;omega)⟩ (zaf _));intro bG;have kk:Keep b.size b w:=e.trans (c:=w) (m:=b.size) ⟨U.size,λj q=>U.get j (by have:=e.size;omega)⟩ (zaf _);exact u w bG kk (Keep.push _ _ (zaf _)) (Blk.new _ _ _);intro aQ;have kk:Keep b.size b w:=e.trans (c:=w) (m:=b.size) ⟨U.size,λj q=>U.get j (by have:=e.size;omega)⟩ (zaf _);have aN:Keep w.size w aQ:=Keep.push _ _ (zaf _);refine⟨by rw[qy];exact(aN.get F.size (by have:=kk.size;omega)).trans (O kk),?_⟩;exact u w aQ kk aN (Blk.new _ _ _);intro an;obtain⟨az,cu,bu⟩:=wq (g:=an) rfl;clear_value an;have cg:=e.size;have I:Keep b.size b an:=e.trans (c:=an) (m:=b.size) ⟨az.size,λj q=>az.get j (by omega)⟩ (zaf _);refine⟨by rw[qy];exact O I,by rw[qy];exact O I,aI (y.keep I) λbi am=>⟨_,rfl,?_,?_⟩⟩;rw[qy];exact O (I.trans (c:=bi) (m:=b.size) ⟨am.size,λj q=>am.get j (by omega)⟩ (zaf _));exact u bM bi e ⟨by have:=am.size;omega,λj q=>by rw[am.get j (by omega)];exact az.get j q⟩ (bu.keep (am.get _ (by omega)));intro aZ;obtain⟨E,cp,bH⟩:=wq (g:=aZ) rfl;clear_value aZ;refine⟨by rw[qy];exact O E,E.get h.size (by omega),by rw[qy];exact O E,by rw[qy];exact O E,bh (y.keep E) λa6 aj=>⟨_,rfl,?_⟩⟩;have bY:=aj.size;have H:Keep b.size b a6:=E.trans (c:=a6) (m:=b.size) ⟨aj.size,λj q=>aj.get j (by omega)⟩ (zaf _);refine⟨by rw[qy];exact O H,by rw[qy];exact O H,aI (y.keep H) λaO ak=>⟨_,rfl,?_,?_⟩⟩;rw[qy];exact O (H.trans (c:=aO) (m:=b.size) ⟨ak.size,λj q=>ak.get j (by omega)⟩ (zaf _));exact u b aO (Keep.refl _ _) ⟨by have:=ak.size;omega,λj q=>by rw[ak.get j (by omega),aj.get j (by omega)];exact E.get j q⟩ ((bH.keep (aj.get _ (by omega))).keep (ak.get _ (by omega)))
end
end
section
theorem XM:qo Tp 78=Ta:=by kernel_rfl
theorem Rm:ya Tp 78=3:=by kernel_rfl
section
variable {t : Bs} {nodes : List Nd} {lvs : List Nat} {gl : Fr}
end
end
section
theorem UI:ElemT Tp 112 176 (.agg #[.int .i64 0,.int .i64 0,.int .i64 0,.int .i64 0,.int .i64 0,.slice Td 0 0,.slice Td 0 0]) 7 88:=⟨by kernel_rfl,⟨Tryz.t176,by kernel_rfl,by kernel_rfl,by kernel_rfl,by kernel_rfl⟩,rfl,by decide⟩
theorem qtt:qo Tp 112=Ta:=by kernel_rfl
theorem YO:ya Tp 112=1:=by kernel_rfl
theorem Vq:qo Tp 105=Ta:=by kernel_rfl
theorem qtw:ya Tp 105=1:=by kernel_rfl
section
variable {lo : Nat} {M gl : Fr} {bp : Nat} {s : Bs}
set_option maxRecDepth 100000 in
set_option maxHeartbeats 4000000 in
theorem VO(hg:GL gl)(hM:Fr.le gl M)(hs:s.length<=65536):∀d:Nat,d<=32->zU lo M bp s (33-(d:Int)) (gT s d):=by
 intro d;induction d with
 |zero=>intro hd key g st a e O P h4 hT hw K hK;apply Yj;intro h1 Y;have k1:Keep g.size g h1:=Keep.push _ _ (zaf _);have k2:Keep h1.size h1 Y:=Keep.push _ _ (zaf _);have z1:h1.size=g.size+1:=zau _;have B1:Blk h1 g.size #[.pointer (Tc ⟨bp,0,Td⟩)]:=Blk.new _ _ _;clear_value h1 Y;have q:Keep g.size g Y:=k1.trans k2 (by omega);have B2:=B1.keep (k2.get g.size (by omega));refine⟨_,B2.cell rfl,vz (P.keep q) ⟨_,rfl,?_⟩⟩;refine(Fb (k:=st.kind) (R:=λr=>r=Qp st.kind) rfl).go hM (P.keep q).ag (zi (a:=Arg.mk (.int .i64) _) (Yb _ _) zq) λv h8 M' r L hv hr=>⟨r,lh hv,?_⟩;subst hr;have B:=L.keep;have k8:Keep g.size g h8:=q.trans B q.size;have H:=B2.keep (B.get g.size (by have:=q.size;have:=k2.size;omega));refine⟨λu=>⟨_,H.cell rfl,?_⟩,λu=>⟨λhy=>⟨_,H.cell rfl,?_⟩,λhy=>?_⟩⟩;refine mf (P.keep k8) λg' E n=>⟨Tb,rfl,hK Tb g' st _ _ O E ((Stp.keep (O:=O) k8).trans n) (zaf _) ?_⟩;rw[gT,zb (by simpa using u)];exact⟨rfl,rfl⟩;refine mf (P.keep k8) λg' E n=>⟨Tb,rfl,hK Tb g' st _ _ O E ((Stp.keep (O:=O) k8).trans n) (zaf _) ?_⟩;rw[gT,za (by simpa using u)];exact⟨rfl,rfl⟩;exact absurd (zC hy) (by omega)
 |succ d ih=>
  intro hd key g st a e O P h4 hT hw K hK;have ih:=ih (by omega);have aE:=qF s d;apply Yj;intro h1 Y;have k1:Keep g.size g h1:=Keep.push _ _ (zaf _);have k2:Keep h1.size h1 Y:=Keep.push _ _ (zaf _);have z1:h1.size=g.size+1:=zau _;have z2:Y.size=h1.size+1:=zau _;have B1:Blk h1 g.size #[.pointer (Tc ⟨bp,0,Td⟩)]:=Blk.new _ _ _;have Bk2:Blk Y h1.size #[.int .i64 key.1,.int .i64 key.2]:=Blk.new _ _ _;clear_value h1 Y;have q:Keep g.size g Y:=k1.trans k2 (by omega);have B2:=B1.keep (k2.get g.size (by omega));refine⟨_,B2.cell rfl,vz (P.keep q) ⟨_,rfl,?_⟩⟩;refine(Fb (k:=st.kind) (R:=λr=>r=Qp st.kind) rfl).go hM (P.keep q).ag (zi (a:=Arg.mk (.int .i64) _) (Yb _ _) zq) λv h8 M' r L hv hr=>⟨r,lh hv,?_⟩;subst hr;have B:=L.keep;have k8:Keep g.size g h8:=q.trans B q.size;have z8:Y.size<=h8.size:=B.size;have H:=B2.keep (B.get g.size (by omega));have br:=Bk2.keep (B.get h1.size (by omega));have P8:=P.keep k8;have S8:Stp g O h8 O:=Stp.keep k8;refine⟨λu=>⟨_,H.cell rfl,?_⟩,λu=>⟨λhy=>?_,λhy=>?_⟩⟩;refine mf P8 λg' E n=>⟨Tb,rfl,hK Tb g' st _ _ O E (S8.trans n) (zaf _) ?_⟩;rw[gT,zb (by simpa using u)];exact⟨rfl,rfl⟩;have:=zB hy;omega;have u:¬Qp st.kind=0:=by simpa using u
  have Z:=CX u;obtain⟨t,r,er⟩:=zb3 Z;have bq:=P8;obtain⟨rs,lf,na,sl,b,cs,W,ay,eO⟩:=bq;have aN:na.length=st.nodes.length:=by rw[<-ay,zaw]
  have ae:sl.len=st.nodes.length:=by rw[W.ns.len,aN]
  refine⟨_,H.cell rfl,_,rfl,sl,by rw[qy];exact W.blk.cell rfl,?_⟩;rw[ae];refine⟨λhz=>⟨_,H.cell rfl,?_⟩,λhz=>?_⟩;refine mf P8 λg' E n=>⟨Tb,rfl,hK Tb g' st _ _ O E (S8.trans n) (zaf _) ?_⟩;have hz:st.nodes.length=4096:=by have:=zB hz;omega
  rw[gT,za u,zb hz];exact⟨rfl,rfl⟩;have hz:¬st.nodes.length=4096:=λh=>by simp_all
  have eV:gT s (d+1) key st=match lK s (gT s d) st.nodes.length (Qp st.kind) (st.open key)with
   |.inl st'=>.inl (st'.setTo st.nodes.length)
   |.inr e=>.inr e:=by rw[gT,za u,za hz];try rfl
  have rd:=W.rd;have hl:=(rowLen W.rd).1;rw[er]at rd hl;rw[zbi]at hl;obtain⟨tb,o,e1,e2,e3,e4⟩:=pv W.ag rd (k:=0) (by simp);have be:st.kind=t.1:=by unfold PSt.kind;rw[er]
  have aS:bp<h8.size:=W.blk.lt;have aH:∀c,O c->c<g.size:=λc h=>(P.own h).2.1;refine⟨_,H.cell rfl,_,rfl,sl,by rw[qy];exact W.blk.cell rfl,_,H.cell rfl,_,H.cell rfl,_,rfl,sl,by rw[qy];exact W.blk.cell rfl,_,H.cell rfl,_,rfl,rs,by rw[qy];exact W.blk.cell rfl,_,⟨e1,by omega,by omega⟩,t.2.1,t.2.2,?_,key.1,key.2,br.ld (cs:=[.int .i64 key.1,.int .i64 key.2]),rfl,rfl,rfl,?_⟩;rw[qy,qy];exact⟨by rw[qy];exact e3,by rw[qy];exact e4,trivial⟩;intro S;obtain⟨A,bM,a7⟩:=wq (g:=S) rfl;clear_value S;refine⟨by rw[qy];exact A.get bp aS,A.get g.size (by omega),A.get g.size (by omega),?_⟩;have aQ:NSt lo h8 M na sl b S na cs:=⟨W.ns.frame A.size λc hc=>A.get c (W.ns.own hc).2.1,A.size,λc h=>.inl h,λj F _=>A.get j F⟩;obtain⟨C,ba⟩:=W.nst aQ;have an:lo<=S.size:=by have:=(C.own (.inl rfl));omega
  refine NS.push UI (by omega) C.ag an C.ns (x:=(Qp st.kind,t.2,key,[],[])) rfl rfl a7 (by omega) λs' bL b' cs' aJ bF aC aa=>⟨s',rfl,_,rfl,?_⟩;have bo:¬iW na sl b g.size:=λh=>by have:=aH g.size (by rw[eO];exact .inr h);omega
  refine⟨(aa g.size (by omega) bo).trans (A.get g.size (by omega)),?_⟩;rw[qy];have ak:¬iW (na++[((Qp st.kind,t.2,key,[],[]),i3)]) s' b' bp:=λh=>by rcases aC bp h with h|h;exact W.nb h;omega
  have aA:=C.blk.keep (aa bp (by omega) C.nb);refine j5 qtt YO aA (by show 4<7;omega) rfl λah u1 u2 u3=>?_;have bh:PW lo ah M bp s st.rest st.last a e rs lf (na++[((Qp st.kind,t.2,key,[],[]),i3)]) s' b' cs':=by refine⟨u1,W.rd,aJ.frame (by omega) λc hc=>u3 c λh=>ak (h ▸ hc),rZ C.ag λj F hm=>?_,W.bl,ak⟩;rw[u3 j λh=>hm (h ▸ W.bl.2)];exact aa j F λh=>hm (C.ns.own h).2.2
  have aI:Stp S (kc bp na sl b) ah (kc bp (na++[((Qp st.kind,t.2,key,[],[]),i3)]) s' b'):=by refine⟨by omega,λc h=>?_,λj F hn=>?_⟩;rcases h with h|h;exact .inl (.inl h);rcases aC c h with h|h;exact .inl (.inr h);exact .inr h;rw[u3 j λh=>hn (.inl h)];exact aa j F λh=>hn (.inr h)
  have aB:PaS lo ah M bp s ⟨st.rest,st.last,st.nodes++[(Qp st.kind,t.2,key,[],[])]⟩ a e (kc bp (na++[((Qp st.kind,t.2,key,[],[]),i3)]) s' b'):=⟨rs,lf,_,_,_,_,bh,by simp_all,rfl⟩;have G:Stp h8 O ah (kc bp (na++[((Qp st.kind,t.2,key,[],[]),i3)]) s' b'):=by rw[eO];exact ba.trans aI
  generalize kc bp (na++[((Qp st.kind,t.2,key,[],[]),i3)]) s' b'=O45 at aB G;have ab:¬O g.size:=λh=>by grind
  have aM:=H.keep (G.fr g.size (by omega) ab);refine⟨_,aM.cell rfl,Bm aB Z λf I a8=>⟨rfl,?_⟩⟩;have aG:(⟨st.rest,st.last,st.nodes++[(Qp st.kind,t.2,key,[],[])]⟩:PSt).skip=st.open key:=by unfold PSt.skip PSt.open;rw[be];dsimp only;rw[er]
  rw[aG]at I;have z:=G.trans a8;have a6:=z.le;have aj:∀c,c<h8.size->¬O c->¬O45 c:=λc hc hn h=>by rcases G.sub c h with h|h;exact hn h;omega
  have ai:=H.keep (z.fr g.size (by omega) ab);have U:=Gk (key:=key) Z hz;have aO:(st.open key).nodes.length=st.nodes.length+1:=Aa Z;intro aY ap;have fin:∀(bb:Bool) (g':zc) (st':PSt) (a' e':Int) (O':Nat->Prop),PaS lo g' M bp s st' a' e' O'->Stp g O g' O'->(st.open key).nodes.length<=st'.nodes.length->g'[g.size]?=f[g.size]?->Cy (lK s (gT s d) st.nodes.length (Qp st.kind) (st.open key)) bb st' a' e'->aY bb g':=by
   intro bb g' st' a' e' O' E n n' bi V;refine ap bb g' ?_;have B':=ai.keep bi;obtain⟨bG,bH,az,aP,b1,bC,W1,Q,bJ⟩:=E;have aF:st.nodes.length<az.length:=by
    have:az.length=st'.nodes.length:=by rw[<-Q,zaw]
    omega
   obtain⟨q1,q2,q3,q4,q5⟩:=W1.ns.cell aF;refine⟨_,B'.cell rfl,_,rfl,aP,by rw[qy];exact W1.blk.cell rfl,_,B'.cell rfl,_,rfl,st'.last,by rw[qy,qy];exact W1.blk.cell rfl,⟨b1,0,Td⟩,⟨q1,by omega,by have:=W1.ns.len;omega⟩,?_⟩;rw[qy,qy,qy,zao,za5,ae];refine j5 JF FK q2 (by omega) rfl λg2 u1 u2 u3=>?_;obtain⟨W2,S2⟩:=W1.nst (W1.ns.toB aF u1 u2 u3);refine hK bb g2 (st'.setTo st.nodes.length) a' e' _ ⟨_,_,_,_,_,_,W2,?_,rfl⟩ (n.trans (by grind)) (by rw[Cs];omega) ?_;rw[Az (f':=rM st'.last) (λp=>rfl),Q];rfl;rw[eV];cases hr:lK s (gT s d) st.nodes.length (Qp st.kind) (st.open key)with
   |inl x=>rw[hr]at V;exact⟨V.1,by rw[V.2]⟩
   |inr x=>rw[hr]at V;exact V
  have au:zaa .i64 (33-((d+1:Nat):Int)+1)=33-(d:Int):=by rw[im (by omega)];omega
  have bI:=U.t;refine⟨λh5=>⟨_,ai.cell rfl,_,ai.cell rfl,?_⟩,λh5=>⟨λh6=>?_,λh6=>?_⟩⟩;have h5:Qp st.kind=5:=by simpa using h5
  refine Hs (J:=λ_=>False) (D:=λ_=>False) (HI:=λ_ _=>True) (kid:=lO (gT s d)) (λ_ _ _ _ _=>trivial) au (O3 ih) (F8 aE) (by kernel_rfl) (by omega) I trivial (λj F=>F.elim) (U.m h4) (by omega) (λx u=>hw x (U.w x u)) (by omega) λbb g' st' a' e' O' E n n' V=>⟨bb,rfl,fin bb g' st' a' e' O' E ?_ n' ?_ ?_⟩;exact(S8.trans z).trans ⟨n.le,n.sub,λj F hn=>n.fr j F hn (λh=>h)⟩;exact n.fr g.size (by omega) (aj _ (by omega) ab) (λh=>h);rw[ae]at V;unfold lK;grind;have h5:¬Qp st.kind=5:=by simpa using h5
  have h6:Qp st.kind=6:=by simpa using h6
  intro i af;have aV:Keep f.size f i:=Keep.push _ _ (zaf _);have ar:Keep i.size i af:=Keep.push _ _ (zaf _);have bA:i.size=f.size+1:=zau _;have bB:af.size=i.size+1:=zau _;have bm:MapAt i f.size []:=MapAt.new _;have aU:Blk af i.size #[.map Td]:=Blk.new _ _ _;clear_value i af;refine j5 Vq qtw aU (by simp) rfl λam u1 u2 u3=>?_;have N:Keep f.size f am:=⟨by omega,λj F=>by rw[u3 j (by omega),ar.get j (by omega),aV.get j F]⟩;have bj:MapAt am f.size []:=(bm.keep (ar.get _ (by omega))).keep (u3 _ (by omega));have bn:=I.keep N;have ax:=ai.keep (N.get g.size (by omega));have bE:Stp f O45 am O45:=Stp.keep N;have bz:∀c,O45 c->c<f.size:=λc h=>(I.own h).2.1;have bg:∀c,g.size<=c->M c=Td:=λc hc=>by
   cases e:M c with
   |none=>rfl
   |some x=>have:=P.ag.lt e;omega
  refine⟨_,ax.cell rfl,?_⟩;refine Hs (J:=λj=>j=f.size) (D:=λj=>j=g.size\/j=i.size\/j=f.size) (HI:=λσ g'=>Blk g' g.size #[.pointer (Tc ⟨bp,0,Td⟩)]/\Blk g' i.size #[.map (Tc f.size)]/\v4 f.size σ g') (kid:=jX s (gT s d)) (λσ x y u hf=>⟨u.1.keep (hf _ (.inl rfl)),u.2.1.keep (hf _ (.inr (.inl rfl))),?_⟩) au ?_ (Gv aE) (by kernel_rfl) (by omega) bn ⟨ax,u1,[],bj,λk=>rfl⟩ (λj F=>?_) (U.m h4) (by omega) (λx u=>hw x (U.w x u)) (by omega) λbb g' st' a' e' O' E n n' V=>⟨bb,rfl,fin bb g' st' a' e' O' E ?_ n' ?_ ?_⟩;obtain⟨l,ml,mk⟩:=u.2.2;exact⟨l,ml.keep (hf _ (.inr (.inr rfl))),mk⟩;intro σ x bD a1 e1 O1 P1 I1 J1 bu aT aL K1 aZ;show XC Tp _ #[.int .i64 (33-(d:Int)),.pointer (Tc ⟨g.size,0,Td⟩),.pointer (Tc ⟨i.size,0,Td⟩)] x K1;apply Nj;refine⟨_,I1.1.cell rfl,_,I1.2.1.cell rfl,?_⟩;refine VD hg hM hs ih (J:=λj=>j=g.size\/j=i.size\/j=f.size) (.inr (.inr rfl)) P1 I1.2.2 J1 bu aT aL (λj F=>bg j (by omega)) λbb g' st' a' e' O' σ' E n n' H' V=>⟨bb,rfl,aZ bb g' st' a' e' O' σ' E n n' (λhb=>⟨I1.1.keep ?_,I1.2.1.keep ?_,H' hb⟩) V⟩;have:=J1 g.size (.inl rfl);exact n.fr _ this.1 this.2 (by omega);have:=J1 i.size (.inr (.inl rfl));exact n.fr _ this.1 this.2 (by omega);grind;refine(S8.trans z).trans ⟨by have:=n.le;omega,λc h=>?_,λj F hn=>?_⟩;rcases n.sub c h with h|h;exact .inl h;omega;rw[n.fr j (by omega) hn (by omega)];exact N.get j F;rw[n.fr g.size (by omega) (aj _ (by omega) ab) (by omega)];exact N.get _ (by omega);rw[ae]at V;unfold lK;grind;have h5:¬Qp st.kind=5:=by simpa using h5
  have h6:¬Qp st.kind=6:=by simpa using h6
  refine fin Ta f (st.open key) a e O45 I (S8.trans z) (zaf _) rfl ?_;unfold lK;rw[za h5,za h6];exact⟨rfl,rfl⟩
end
end
section
variable {s:Bs} {f a t:Nat} {k:Int}
theorem TkS.frame{h:zc}{M:Fr}{b2 b3 b4 b5 bc D l:Nat}{rec:iI}{out:List Tk}{sl:Sl}{bs:List Nat}{g g':zc}(S:TkS h M b2 b3 b4 b5 bc D l rec s out sl bs g)(A:Apart h b2 b3 b4 b5 bc D l)(hz:g.size<=g'.size)(f:∀j,j<g.size->g'[j]?=g[j]?):TkS h M b2 b3 b4 b5 bc D l rec s out sl bs g':=by have i:=lt_of_some S.rc;have:=A.lo;have:=A.a3;have:=A.a4;have:=A.a5;have:=A.ac;have:=A.aD;have:=A.al;have k:=S.keep.size;exact⟨⟨by omega,λj e=>(f j (by omega)).trans (S.keep.get j e)⟩,S.c.keep (f _ (by omega)),(f _ (by omega)).trans S.d,(f _ i).trans S.rc,S.r2.keep (f _ (by omega)),S.r3.keep (f _ (by omega)),S.r4.keep (f _ (by omega)),S.r5.keep (f _ (by omega)),S.o.frame (λc b=>f c (S.o.own c b).2.1) (Fr.le.refl _) λc b=>(S.o.own c b).2.2⟩
theorem WJ{o:List Tk}(b:a<s.length)(h:gP s a=(k,t,0)):jB (f+1) s a o=jB f s t (o++[(k,((a:Int),(t:Int)))]):=by rw[jB,zb b,h];rfl
theorem UQ{k e:Int}{o:List Tk}(b:a<s.length)(h:gP s a=(k,t,e))(c:¬e=0):jB (f+1) s a o=([],t,e):=by rw[jB,zb b,h];simp only;rw[za c]
theorem XV{o:List Tk}(b:¬a<s.length):jB f s a o=(o,a,0):=by
 cases f with
 |zero=>rfl
 |succ f=>rw[jB,za b]
section
variable {h : zc} {M gl : Fr} {b2 b3 b4 b5 bc D l : Nat} {rec : iI} {s : Bs} {sl : Sl} {bs : List Nat} {g : zc}
abbrev Rt(b2 b3 b4 b5:Nat)(x9 x8 x0:Value):aR:=[(0,[],x0),(2,[],.pointer (Tc ⟨b2,0,Td⟩)),(3,[],.pointer (Tc ⟨b3,0,Td⟩)),(4,[],.pointer (Tc ⟨b4,0,Td⟩)),(5,[],.pointer (Tc ⟨b5,0,Td⟩)),(8,[],x8),(9,[],x9)]
set_option maxRecDepth 100000 in
set_option maxHeartbeats 4000000 in
theorem QJ(A:Apart h b2 b3 b4 b5 bc D l)(hg:GL gl)(hM:Fr.le gl M)(ag:AgM M h)(S:TkS h M b2 b3 b4 b5 bc D l rec s [] sl bs g){x9 x8 x0:Value} (p:∀{v1 v2:Value} {P:zc} {K:Value->zc->Prop},P[l]?=Tc (.loop (rec .ready Td))->lq Tp 25 (lc (codeOf Tryz.f145)) (kO (codeOf Tryz.f145)) rec l K (putO (putO (Rt b2 b3 b4 b5 x9 x8 x0) (Tc 10) [] v1) (Tc 11) [] v2) P->YX Tp l #[v1,v2] P K) {Q:zc->Prop} (hN:∀g out sl bs,TkS h M b2 b3 b4 b5 bc D l rec s out sl bs g->Zg s=(out,s.length,0)->out.length<=100000->Q g) (hE:∀(g:zc) (t:Nat) (e:Int),¬e=0->Zg s=([],t,e)->Keep h.size h g->g[D]?=Tc (.deferred (Tc []))->g[l]?=Tc (.loop (rec .done (Tc .ret)))->Blk g b2 #[.slice Td 0 0]->Blk g b3 #[.int .i64 (t:Int)]->Blk g b4 #[.int .i64 e]->Q g):
  kd Tp 273 #[.func (.yield l) #[] #[],.pointer (Tc ⟨bc,0,Td⟩)] g (λ_ g'=>Q g'):=by
 have:=A.lo;have:=A.a3;have:=A.a4;have:=A.a5;have:=A.ac;have:=A.aD;have:=A.al;apply XS;refine⟨bl s,S.c.cell rfl,λn=>?_,λu=>?_⟩;have q:65536<s.length:=by rw[zu]at n;simp at n;omega
 refine p S.rc (TkS.err A S (by omega) λg' B q2 r q4 q5 q6=>⟨Tb,rfl,?_⟩);refine hE g' 0 3 (by omega) ?_ B q2 r q4 q5 q6;unfold Zg;rw[zb q];have C:s.length<=65536:=by rw[zu]at u;simp at u;omega
 have hR:Zg s=jB s.length s 0 []:=by unfold Zg;rw[za (by omega)]
 refine⟨λk g'=>∃(a f:Nat) (out:List Tk) (ah:Sl) (L:List Nat),k=(a:Int)/\a<=s.length/\s.length-a<=f/\out.length<=a/\Zg s=jB f s a out/\TkS h M b2 b3 b4 b5 bc D l rec s out ah L g',λk _=>s.length-k.toNat,⟨0,s.length,[],sl,bs,rfl,by omega,by omega,zaf _,hR,S⟩,?_⟩;rintro k g1 ⟨a,f,out,O,G,rfl,ha,hf,ho,N,m⟩;refine⟨bl s,m.c.cell rfl,λw=>⟨bl s,m.c.cell rfl,?_⟩,λz=>?_⟩;have i:a<s.length:=by rw[zu]at w;simp at w;omega
 obtain⟨f,rfl⟩:∃f',f=f'+1:=⟨f-1,by omega⟩;have aa:AgM M g1:=ag.keep m.keep;refine Nv hg hM aa C i λg2 k2=>?_;obtain⟨tk,t,e,b⟩:∃k t e,gP s a=(k,t,e):=⟨_,_,_,rfl⟩;have z2:=k2.size;by_cases y:e=0;subst y;have hp:=Hm i (by rw[b]);rw[b]at hp;have ai:a<t:=hp.1;have Y:t<=s.length:=hp.2;have U:mR s a=.tuple #[.agg #[.int .i64 tk,.int .i64 (a:Int),.int .i64 (t:Int)],.int .i64 0]:=by unfold mR;rw[b,zb rfl]
 refine⟨tk,a,t,0,U,?_⟩;intro F;obtain⟨V,z3,B3⟩:=wq (g:=F) rfl;clear_value F;refine nD B3 λZ B q2 r=>⟨tk,a,t,r.ld,?_⟩;have I:∀j,j<g1.size->Z[j]?=g1[j]?:=λj J=>by rw[B j (by omega),V.get j (by omega),k2.get j J]
 have E:=m.frame A (by omega) I;have ll:=lt_of_some m.rc;refine p E.rc (TkS.round A ag E (by omega) λg5 af ab S5 z5 f5=>⟨Ta,rfl,λH=>by simp at H,λ_=>?_⟩);refine⟨t,?_,⟨t,f,_,af,ab,rfl,Y,by omega,?_,?_,S5⟩,?_⟩;rw[qy,qy];refine(r.keep (f5 g2.size (by omega) (by omega) (by omega) λhm=>?_)).cell rfl;have:=(m.o.own g2.size hm).2.1;omega;rw[zat];show out.length+1<=t;omega;rw[N,WJ i b];show s.length-(t:Int).toNat<s.length-(a:Int).toNat;rw[zao,zao];omega;have U:=uY b y;refine⟨0,t,t,e,U,?_⟩;intro F;obtain⟨V,z3,B3⟩:=wq (g:=F) rfl;clear_value F;refine nD B3 λZ B q2 r=>⟨0,t,t,r.ld,?_⟩;have I:∀j,j<g1.size->Z[j]?=g1[j]?:=λj J=>by rw[B j (by omega),V.get j (by omega),k2.get j J]
 have E:=m.frame A (by omega) I;refine p E.rc (TkS.err A E y λg5 w1 w2 w3 w4 w5 w6=>⟨Tb,rfl,λ_=>?_,λH=>by simp at H⟩);exact hE g5 t e y (by rw[N,UQ i b y]) w1 w2 w3 w4 w5 w6;have x:¬a<s.length:=by rw[zu]at z;simp at z;omega
 have ae:a=s.length:=by omega
 exact hN g1 out O G m (by rw[N,XV x,ae]) (by omega)
end
end
end Go.X
end
section
namespace Go.X
open Go Go.X Go.Proofs Go.RowKit
set_option maxRecDepth 100000 in
set_option maxHeartbeats 4000000 in
section
theorem NJ{gl M:Fr}(hg:GL gl)(hM:Fr.le gl M){h:zc}(ag:AgM M h){s:Bs}{K:Value->zc->Prop} (U:∀(h':zc) (M':Fr) (t:Sl),Later h M h' M'->Rd M' (.row lH) (Zg s).1 [aK t]->K (.tuple #[aK t,.int .i64 ((Zg s).2.1:Nat),.int .i64 (Zg s).2.2]) h'):
  XC Tp 145 #[.string (bl s)] h K:=by
 apply Sx;intro h1 m r y;have k1:Keep h.size h h1:=Keep.push _ _ (zaf _);have k2:Keep h1.size h1 m:=Keep.push _ _ (zaf _);have I:Keep m.size m r:=Keep.push _ _ (zaf _);have D:Keep r.size r y:=Keep.push _ _ (zaf _);have z1:h1.size=h.size+1:=zau _;have z2:m.size=h1.size+1:=zau _;have z3:r.size=m.size+1:=zau _;have z4:y.size=r.size+1:=zau _;have B1:Blk h1 h.size #[.slice Td 0 0]:=Blk.new _ _ _;have B2:Blk m h1.size #[.int .i64 0]:=Blk.new _ _ _;have B3:Blk r m.size #[.int .i64 0]:=Blk.new _ _ _;have B4:Blk y r.size #[.slice Td 0 0]:=Blk.new _ _ _;clear_value y r m h1;apply Ol;intro b;obtain⟨B,z5,B5⟩:=wq (g:=b) rfl;clear_value b;refine⟨_,rfl,_,_,rfl,by kernel_rfl,λrec F=>?_⟩;have e5:∀j,j<h.size->b[j]?=h[j]?:=λj i=>by rw[B.get j (by omega),D.get j (by omega),I.get j (by omega),k2.get j (by omega),k1.get j i]
 have A:Apart h h.size h1.size m.size r.size y.size b.size (b.size+1):=⟨by omega,by omega,by omega,by omega,by omega,by omega,rfl⟩;obtain⟨g0,l⟩:∃g0,g0=(b.push (.deferred (Tc []))).push (.loop (rec .ready Td)):=⟨_,rfl⟩;have gz:g0.size=b.size+2:=by rw[l,zau,zau]
 have x:∀j,j<b.size->g0[j]?=b[j]?:=λj i=>by rw[l,Array.getElem?_push_lt (by rw[zau];omega)];rw[Array.getElem_push_lt i,zbl i]
 have gD:g0[b.size]?=Tc (.deferred (Tc [])):=by rw[l,Array.getElem?_push_lt (by rw[zau];omega),Array.getElem_push_eq]
 have E:g0[b.size+1]?=Tc (.loop (rec .ready Td)):=by
  rw[l];have:b.size+1=(b.push (.deferred (Tc []))).size:=by rw[zau]
  rw[this,Array.getElem?_push_size]
 rw[<-l];clear l;have S:TkS h M h.size h1.size m.size r.size y.size b.size (b.size+1) rec s [] ⟨Td,0,0⟩ [] g0:= ⟨⟨by omega,λj i=>(x j (by omega)).trans (e5 j i)⟩,B5.keep (x _ (by omega)),gD,E,B1.keep (by rw[x _ (by omega),B.get _ (by omega),D.get _ (by omega),I.get _ (by omega),k2.get _ (by omega)]),B2.keep (by rw[x _ (by omega),B.get _ (by omega),D.get _ (by omega),I.get _ (by omega)]),B3.keep (by rw[x _ (by omega),B.get _ (by omega),D.get _ (by omega)]),B4.keep (by rw[x _ (by omega),B.get _ (by omega)]),.nil⟩;refine QJ A hg hM ag S (x9:=_) (x8:=_) (x0:=_) F ?_ ?_;intro g out sl bs p z ho;have ll:=lt_of_some p.rc;refine .inl ⟨p.rc,?_⟩;obtain⟨k,f⟩:∃k,k=g.setIfInBounds (b.size+1) (.loop (rec .exhausted Td)):=⟨_,rfl⟩;have z6:k.size=g.size:=by rw[f,zbc]
 have n:∀j,j≠b.size+1->k[j]?=g[j]?:=λj i=>by rw[f];exact q9 i
 rw[<-f];clear f;refine⟨sl,(p.r5.keep (n _ (by omega))).cell rfl,?_⟩;refine j5 yG y0 (p.r2.keep (n _ (by omega))) (by show 0<1;omega) rfl λg7 u1 u3 O=>?_;refine j5 Hd Dv (p.r3.keep ((O _ (by omega)).trans (n _ (by omega)))) (by show 0<1;omega) rfl λg8 Y v3 J=>?_;refine j5 Kc FX (p.r4.keep ((J _ (by omega)).trans ((O _ (by omega)).trans (n _ (by omega))))) (by show 0<1;omega) rfl λu w1 w3 w2=>?_;have H:∀j,j≠b.size+1->j≠h.size->j≠h1.size->j≠m.size->u[j]?=g[j]?:=λj a1 a2 a3 a4=>by rw[w2 j a4,J j a3,O j a2,n j a1]
 refine⟨(H _ (by omega) (by omega) (by omega) (by omega)).trans p.d,?_⟩;have q:∀j,j≠b.size->(u.setIfInBounds b.size (.deferred Td))[j]?=u[j]?:=λj i=>q9 i;have P:Blk (u.setIfInBounds b.size (.deferred Td)) h.size #[aK sl]:=u1.keep (by rw[q _ (by omega),w2 _ (by omega),J _ (by omega)]);have L:Blk (u.setIfInBounds b.size (.deferred Td)) h1.size #[.int .i64 (((bl s).size:Nat):Int)]:=Y.keep (by rw[q _ (by omega),w2 _ (by omega)]);have N:Blk (u.setIfInBounds b.size (.deferred Td)) m.size #[.int .i64 0]:=w1.keep (q _ (by omega));refine⟨sl,P.cell rfl,_,L.cell rfl,0,N.cell rfl,?_⟩;have C:Keep h.size h (u.setIfInBounds b.size (.deferred Td)):=by have:=p.keep.size;refine⟨by rw[zbc];omega,λj i=>?_⟩;rw[q j (by omega),H j (by omega) (by omega) (by omega) (by omega)];exact p.keep.get j i
 have G:=p.o.own;have ox:=p.o.frame (h':=u.setIfInBounds b.size (.deferred Td)) (λc w=>by have:=G c w;rw[q c (by omega),H c (by omega) (by omega) (by omega) (by omega)]) (Fr.le.refl M) λc w=>(G c w).2.2;have:=U _ (MxL M (u.setIfInBounds b.size (.deferred Td)) bs) sl (MxL.later ag C λc w=>by have:=G c w;omega) (by rw[z];exact ox.rd (ag.keep C) (λc w=>w) (by omega));rw[z]at this;rw[zu];exact this;intro g t e he z Q V gr q2 Z q4;refine .inr ⟨gr,?_⟩;obtain⟨k,f⟩:∃k,k=g.setIfInBounds (b.size+1) (.loop (rec .exhausted (Tc .ret))):=⟨_,rfl⟩;have z6:k.size=g.size:=by rw[f,zbc]
 have n:∀j,j≠b.size+1->k[j]?=g[j]?:=λj i=>by rw[f];exact q9 i
 rw[<-f];clear f;refine⟨(n _ (by omega)).trans V,?_⟩;have q:∀j,j≠b.size->(k.setIfInBounds b.size (.deferred Td))[j]?=k[j]?:=λj i=>q9 i;have P:Blk (k.setIfInBounds b.size (.deferred Td)) h.size #[.slice Td 0 0]:=q2.keep (by rw[q _ (by omega),n _ (by omega)]);have L:Blk (k.setIfInBounds b.size (.deferred Td)) h1.size #[.int .i64 (t:Int)]:=Z.keep (by rw[q _ (by omega),n _ (by omega)]);have N:Blk (k.setIfInBounds b.size (.deferred Td)) m.size #[.int .i64 e]:=q4.keep (by rw[q _ (by omega),n _ (by omega)]);refine⟨⟨Td,0,0⟩,P.cell rfl,_,L.cell rfl,e,N.cell rfl,?_⟩;have C:Keep h.size h (k.setIfInBounds b.size (.deferred Td)):=by have:=Q.size;refine⟨by rw[zbc];omega,λj i=>?_⟩;rw[q j (by omega),n j (by omega)];exact Q.get j i
 have:=U _ M ⟨Td,0,0⟩ (Later.same ag C) (by rw[z];exact⟨_,rfl,Td,0,rfl,⟨by simp,by simp⟩,.inl rfl⟩);rw[z]at this;exact this
end
end Go.X
end
section
namespace Go.X
open Go Go.X Go.Proofs Go.RowKit
section
theorem Dz:∀(f:Nat) (s:Bs) (a:Nat) (o:List Tk),(jB f s a o).1.length<=o.length+f
 |0,s,a,o=>Nat.le_add_right _ _
 |f+1,s,a,o=>by rw[jB];split;split;have:=Dz f s (gP s a).2.1 (o++[((gP s a).1,((a:Int),((gP s a).2.1:Int)))]);grind;simp;simp
end
section
variable {lo b:Nat} {g:zc} {M:Fr} {cs:Array Value}
def lB(na:NA)(b:Nat):List Nat:=if na.length=0 then []else b::na.flatMap λp=>p.2.kb++p.2.pb
theorem ZT{na:NA}{sl:Sl}(H:NS lo g M na sl b cs){c:Nat}(h:c∈lB na b):lo<=c:=by unfold lB at h;split at h;cases h;rename_i h0;rcases zah.1 h with rfl|h;exact(H.lb (H.cell (n:=0) (by omega)).2.2.1).1;obtain⟨p,e,f⟩:=zb5.1 h;exact((H.nd p e).own (zaz.1 f)).1
theorem As{na:NA}(h:0<na.length):lB na b=b::na.flatMap λp=>p.2.kb++p.2.pb:=by unfold lB;rw[za (by omega)]
theorem NS.rd{na:NA}{sl:Sl}(H:NS lo g M na sl b cs)(ag:AgM M g)(x:na.length<=4096)(m:∀p∈na,iO p.1<=1000000):Rd (MxL M g (lB na b)) (.row ku) (na.map (·.1)) [aK sl]:=by have o:=H.len;have h:=H.cr.ro.le;refine⟨_,rfl,sl.a,sl.cap,?_,⟨by rw[zaw];omega,by rw[zaw];omega⟩,?_⟩;show aK _=_;unfold aK;rw[zaw,o];by_cases h0:na=[];left;rw[h0];rfl;have e:0<na.length:=zbo.2 h0;obtain⟨h1,k,w,s,u⟩:=H.cell e;refine .inr ⟨b,0,cs,h1,MxL.at (by rw[As e];exact zaq) k,λi hi=>?_⟩;rw[zaw]at hi;have f:=zay hi;obtain⟨t,r⟩:=H.cr.el i (jN na[i]) (by rw[zbu,zaj hi];rfl);rw[za5,show sz ku=7 from rfl,r,zdu];have I:=H.nd _ f;have n:=m _ f;unfold iO at n;have l:=I.kk.rd ag (all:=lB na b) (λc h=>by rw[As e];exact zal _ (zb5.2 ⟨_,f,zaz.2 (.inl h)⟩)) (by omega);have q:=I.pp.rd ag (all:=lB na b) (λc h=>by rw[As e];exact zal _ (zb5.2 ⟨_,f,zaz.2 (.inr h)⟩)) (by omega);refine⟨[.int .i64 na[i].1.1],[.int .i64 na[i].1.2.1.1,.int .i64 na[i].1.2.1.2,.int .i64 na[i].1.2.2.1.1,.int .i64 na[i].1.2.2.1.2,aK na[i].2.ks,aK na[i].2.ps],rfl,rfl,?_⟩;refine⟨[.int .i64 na[i].1.2.1.1,.int .i64 na[i].1.2.1.2],[.int .i64 na[i].1.2.2.1.1,.int .i64 na[i].1.2.2.1.2,aK na[i].2.ks,aK na[i].2.ps],rfl,⟨_,_,rfl,rfl,rfl⟩,?_⟩;refine⟨[.int .i64 na[i].1.2.2.1.1,.int .i64 na[i].1.2.2.1.2],[aK na[i].2.ks,aK na[i].2.ps],rfl,⟨_,_,rfl,rfl,rfl⟩,?_⟩;exact⟨[aK na[i].2.ks],[aK na[i].2.ps],rfl,l,q⟩
theorem Bf{x:Bs}{l:List Nd}{sl:Sl}(i j:Int)(h:Rd M (.row ku) l [aK sl]):Jl M [.pair .str (.row ku),.int .i64,.int .i64] ((bl x,l),i,j) (.tuple #[.agg #[.string (bl x),aK sl],.int .i64 i,.int .i64 j]):=by refine⟨[.agg #[.string (bl x),aK sl],.int .i64 i,.int .i64 j],⟨_,_,rfl,?_,_,_,rfl,Yb _ i,_,rfl,Yb _ j⟩,rfl⟩;exact⟨[.string (bl x),aK sl],rfl,[.string (bl x)],[aK sl],rfl,rfl,h⟩
theorem l6{T:Ty}:Rd M (.row T) [] [aK ⟨Td,0,0⟩]:=⟨_,rfl,Td,0,rfl,⟨by simp,by simp⟩,.inl rfl⟩
theorem SY:qo Tp 114=Ta:=by kernel_rfl
theorem RO:ya Tp 114=2:=by kernel_rfl
theorem tH{x y:Value}(B:Blk g b #[x,y]){u:Bt}{v:Sl}{K:zc->Prop}(f:∀g',(∀j,j≠b->g'[j]?=g[j]?)->g'.size=g.size->Blk g' b #[.string u,aK v]->K g'):
  XRunU Tp (zag 114 (.pointer (Tc ⟨b,0,Td⟩)) (.agg #[.string u,aK v])) g K:=by
 refine Qz (vs:=[.string u,aK v]) SY B rfl RO (zaf _) (λw c=>?_) λg' e i h=>f g' h i e;simp at c;rcases c with rfl|rfl <;> rfl
theorem SH{l:List Tk}{k:Nat}(b:k<l.length):wn (l.take (k+1))=wn (l.take k)++(if l[k].1≠1 then [l[k]]else []):=by unfold wn;rw[zar b,List.filter_append];congr 1;by_cases h:l[k].1=1;simp[h];simp[h]
end
section
variable {s:Bs}
theorem JG(h:(Zg s).2.2=0):s.length<=65536/\(Zg s).1.length<=s.length:=by unfold Zg at h ⊢;split at h;simp at h;rename_i b;rw[za b];have:=Dz s.length s 0 [];simp_all
set_option maxRecDepth 100000 in
set_option maxHeartbeats 4000000 in
theorem qco{gl:Fr}(hg:GL gl){R:(Bt×List Nd)×Int×Int->Prop}(hR:R ((bl (fR s).1.1,(fR s).1.2),(fR s).2.1,(fR s).2.2)):
  PC Tp gl 88 [Arg.mk .str (bl s)] [.pair .str (.row ku),.int .i64,.int .i64] R:=by
 intro h M vs hM ag ha
 match vs,ha with
 |[u1],⟨a1,_⟩=>
  obtain rfl:=Za (s:=bl s) a1;apply PX.of;apply TU;intro h1;obtain⟨k1,z1,B1⟩:=wq (g:=h1) rfl;clear_value h1;have aT:AgM M h1:=ag.keep k1;refine NJ hg hM aT λf M1 t G rt=>⟨t,_,_,rfl,?_⟩;have B3:=B1.keep (G.keep.get h.size (by omega));have z3:=G.keep.size;have k3:Keep h.size h f:=k1.trans (c:=f) (m:=h.size) ⟨z3,λj w=>G.keep.get j (by omega)⟩ (zaf _);have bJ:∀b,b<h.size->M1 b=M b:=λb y=>G.old b (by omega);have aM:M h.size=Td:=by
   cases e:M h.size with
   |none=>rfl
   |some x=>have:=ag.lt e;omega
  have ah:M1 h.size=Td:=by rw[G.old _ (by omega)];exact aM
  refine⟨λU=>?_,λU=>?_⟩;have U:¬(Zg s).2.2=0:=by simpa using U
  have H:fR s=(([],[]),((Zg s).2.1:Int),(Zg s).2.2):=by unfold fR;rw[za U]
  rw[H]at hR;refine tH (u:=⟨#[]⟩) (v:=⟨Td,0,0⟩) B3 λh7 f7 z7 B7=>⟨_,_,B7.ld (cs:=[.string ⟨#[]⟩,aK ⟨Td,0,0⟩]),?_⟩;exact⟨M,_,Later.same ag ⟨by omega,λj w=>by rw[f7 j (by omega)];exact k3.get j w⟩,Bf (x:=[]) (l:=[]) _ _ l6,hR⟩;have U:(Zg s).2.2=0:=by simpa using U
  obtain⟨hs,aS⟩:=JG U;have H:fR s=match gT s 32 (0,0) ⟨wn (Zg s).1,0,[]⟩with
   |.inl st=>if st.rest=[]then((s,st.nodes),(s.length:Int),0)else(([],[]),st.here s.length,2)
   |.inr e=>(([],[]),e.1,e.2):=by unfold fR;rw[zb U];rfl
  have az:=PO (Uf s);generalize (Zg s).1=tl at rt aS H az;have rl:=(rowLen rt).1;intro am;obtain⟨aO,br,a6⟩:=wq (g:=am) rfl;clear_value am;have bq:∀c,f.size<=c->M1 c=Td:=λc i=>by
   cases e:M1 c with
   |none=>rfl
   |some x=>have:=G.ag.lt e;omega
  refine⟨λk g=>∃(n:Nat) (rs:Sl) (bs:List Nat),k=(n:Int)/\n<=tl.length/\ORow (f.size+1) g M1 lH (wn (tl.take n)) rs bs/\Blk g f.size (ux s rs 0 0 ⟨Td,0,0⟩ 0 0).toArray/\Keep f.size f g,λk _=>tl.length-k.toNat,⟨0,⟨Td,0,0⟩,[],rfl,by omega,.nil,a6,aO⟩,?_⟩;rintro k g ⟨n,rs,bs,rfl,hn,ro,Bp,kg⟩;have agg:AgM M1 g:=G.ag.keep kg;have zg:f.size+1<=g.size:=by have:=Bp.lt;omega
  refine⟨λL=>?_,λbj=>?_⟩;have L:n<tl.length:=by have:=zB L;omega
  obtain⟨tb,o,e1,e2,e3,e4⟩:=pv agg rt L;have ax:=SH L;refine⟨_,⟨e1,by omega,by omega⟩,tl[n].1,tl[n].2.1,tl[n].2.2,?_,?_⟩;rw[qy,zao];exact⟨by rw[qy];exact e2,by rw[qy];exact e3,by rw[qy];exact e4,trivial⟩;intro ay;obtain⟨bn,bz,aQ⟩:=wq (g:=ay) rfl;clear_value ay;refine nD aQ λaa q1 q2 q3=>⟨tl[n].1,by rw[qy];exact q3.cell rfl,?_⟩;have Z:Keep g.size g aa:=⟨by omega,λj w=>(q1 j (by omega)).trans (bn.get j w)⟩;have D:=ro.frame (λc i=>Z.get c (ro.own c i).2.1) (Fr.le.refl M1) λc i=>(ro.own c i).2.2;have V:=Bp.keep (Z.get _ (by omega));have ar:Keep f.size f aa:=kg.trans (c:=aa) (m:=f.size) ⟨by omega,λj w=>Z.get j (by omega)⟩ (zaf _);have ab:zaa .i64 ((n:Int)+1)=((n+1:Nat):Int):=by rw[im (by omega)];omega
  rw[ab];refine⟨λy=>⟨_,rfl,rs,by rw[qy];exact V.cell rfl,tl[n].1,tl[n].2.1,tl[n].2.2,q3.ld,?_⟩,λy=>?_⟩;have y:tl[n].1≠1:=by simpa using y
  rw[zb y]at ax;intro J;obtain⟨O,bN,aG⟩:=wq (g:=J) rfl;clear_value J;refine⟨by rw[qy];exact O.get f.size (by omega),?_⟩;have ak:=D.frame (λc i=>O.get c (D.own c i).2.1) (Fr.le.refl M1) λc i=>(D.own c i).2.2;have aj:=V.keep (O.get _ (by omega));have S:Keep f.size f J:=ar.trans (c:=J) (m:=f.size) ⟨by omega,λj w=>O.get j (by omega)⟩ (zaf _);have aU:(wn (tl.take n)).length<=n:=by have:(wn (tl.take n)).length<=(tl.take n).length:=List.length_filter_le _ _;rw[zcr]at this;omega
  refine ORow.app EL (by omega) (G.ag.keep S) ak (by omega) aG (Dt _ _ _) (by omega) λs' bC aI aA bE c29 ai=>⟨s',rfl,_,rfl,?_⟩;rw[qy];have aE:f.size∉bs:=λQ=>by have:=(ro.own _ Q).1;omega
  refine j5 GZ FL (aj.keep (ai _ (by omega) aE)) (by show 1<7;omega) rfl λbg u1 u2 u3=>⟨⟨n+1,s',aI,rfl,by omega,?_,u1,?_⟩,?_⟩;rw[ax];exact aA.frame (λc i=>u3 c λe=>by grind) (Fr.le.refl M1) λc i=>(aA.own c i).2.2;refine S.trans (c:=bg) (m:=f.size) ⟨by omega,λj w=>?_⟩ (zaf _);rw[u3 j (by omega),ai j (by omega) λQ=>by have:=(ro.own j Q).1;omega];grind;grind;have aF:n=tl.length:=by have:=zC bj;omega
  subst aF;rw[zbw]at ro;have aU:(wn tl).length<=tl.length:=List.length_filter_le _ _;have bi:=ro.rd agg (all:=bs) (λc i=>i) (by omega);have aJ:AgM (MxL M1 g bs) g:=MxL.ag agg bs;have bu:∀c∈bs,f.size+1<=c:=λc i=>(ro.own c i).1;have a8:∀c,c∉bs->MxL M1 g bs c=M1 c:=λc i=>by unfold MxL;rw[za i]
  have aV:Fr.le gl (MxL M1 g bs):=hM.trans (G.le.trans (lN agg bs));have P:PaS f.size g (MxL M1 g bs) f.size s ⟨wn tl,0,[]⟩ 0 0 (kc f.size [] ⟨Td,0,0⟩ 0):=by refine⟨rs,0,[],⟨Td,0,0⟩,0,#[],⟨Bp,bi,.nil,aJ,⟨zaf _,?_⟩,?_⟩,rfl,rfl⟩;grind;rintro(⟨h1,_⟩|⟨p,hp,_⟩);exact h1 rfl;cases hp
  have hT:(⟨wn tl,0,[]⟩:PSt).T<=200000:=by unfold PSt.T;simp;omega
  have aZ:=VO (lo:=f.size) (M:=MxL M1 g bs) (bp:=f.size) (s:=s) hg aV hs 32 (zaf _) (0,0) g _ 0 0 _ P (by simp) hT az;refine aZ _ λb aH st' a' e' O' P' S' n' B=>⟨b,rfl,?_⟩;intro aP an;have fin:∀(ok:Bool) (z:zc) (r:PSt) (a1 e1:Int) (O1:Nat->Prop),PaS f.size z (MxL M1 g bs) f.size s r a1 e1 O1->Stp g (kc f.size [] ⟨Td,0,0⟩ 0) z O1->(ok=Tb->fR s=(([],[]),a1,e1))->(ok=Ta->fR s=((s,r.nodes),(s.length:Int),0)/\r.nodes.length<=4096/\r.T<=200000)->aP ok z:=by
   intro ok z r a1 e1 O1 P1 S1 hf ht;refine an ok z ?_;have be:∀c,c<f.size->¬kc f.size [] ⟨Td,0,0⟩ 0 c:=λc i=>by rintro(h1|⟨h1,_⟩|⟨p,hp,_⟩);omega;exact h1 rfl;cases hp
   have Y:∀j,j<f.size->z[j]?=f[j]?:=λj w=>(S1.fr j (by omega) (be j w)).trans (kg.get j w);have bD:=S1.le;have Bd:=B3.keep (Y h.size (by omega));have a7:=P1;obtain⟨ae,ba,A,C,b1,ap,I,q,bm⟩:=a7;have bF:=I.blk.lt;refine⟨λho=>⟨_,rfl,a1,by rw[qy];exact I.blk.cell rfl,_,rfl,e1,by rw[qy];exact I.blk.cell rfl,rfl,rfl,?_⟩,λho=>⟨_,rfl,C,by rw[qy];exact I.blk.cell rfl,?_⟩⟩;have ho:ok=Tb:=by simpa using ho
   refine tH (u:=⟨#[]⟩) (v:=⟨Td,0,0⟩) Bd λbL aC bM aN=>?_;have E:=aC f.size (by omega);refine⟨by rw[qy];exact E,by rw[qy];exact E,by rw[qy];exact E,_,_,aN.ld (cs:=[.string ⟨#[]⟩,aK ⟨Td,0,0⟩]),?_⟩;rw[hf ho]at hR;exact⟨M,_,Later.same ag ⟨by omega,λj w=>by rw[aC j (by omega),Y j (by omega)];exact k3.get j w⟩,Bf (x:=[]) (l:=[]) _ _ l6,hR⟩;have ho:ok=Ta:=by simpa using ho
   obtain⟨bh,bI,bH⟩:=ht ho;refine tH (u:=bl s) (v:=C) Bd λN af bG bo=>⟨_,_,bo.ld (cs:=[.string (bl s),aK C]),?_⟩;rw[bh]at hR;rw[zu];have aY:MxL M1 g bs h.size=Td:=by rw[a8 _ λQ=>by grind];exact ah
   have au:NS f.size N (MxL M1 g bs) A C b1 ap:=I.ns.frame (by omega) λc i=>af c λe=>by have:=(I.ns.own i).1;omega
   have F:AgM (MxL M1 g bs) N:=rZ I.ag λj w Q=>af j λe=>Q (e ▸ aY);have bB:A.length=r.nodes.length:=by rw[<-q,zaw]
   have aB:=au.rd F (by omega) λp hp=>by
    have:p.1∈r.nodes:=by rw[<-q];exact List.mem_map_of_mem hp
    have:=Cv this;omega
   rw[q]at aB;refine⟨MxL (MxL M1 g bs) N (lB A b1),_,⟨⟨by omega,λj w=>by rw[af j (by omega),Y j (by omega)];exact k3.get j w⟩,?_,λc i=>?_,MxL.ag F _⟩,Bf _ _ aB,hR⟩;exact G.le.trans ((lN agg bs).trans (lN F _));have h1:c∉lB A b1:=λQ=>by have:=ZT au Q;omega
   have e1:MxL (MxL M1 g bs) N (lB A b1) c=MxL M1 g bs c:=by unfold MxL;rw[za h1]
   grind
  have aL:=P';obtain⟨ae,ba,A,C,b1,ap,I,q,bm⟩:=aL;have bA:=(rowLen I.rd).1;refine⟨_,λ_=>rfl,ae,λ_=>by rw[qy];exact I.blk.cell rfl,λi=>?_,λi=>?_⟩;have y:b=Ta/\0<st'.rest.length:=by
   cases b with
   |false=>simp at i
   |true=>grind
  refine mf P' λg' P2 S2=>⟨Tb,rfl,fin Tb g' st' _ _ O' P2 (S'.trans S2) (λ_=>?_) (λh=>(by cases h))⟩;rw[H];cases hr:gT s 32 (0,0) ⟨wn tl,0,[]⟩with
  |inl x=>rw[hr]at B;rw[B.2]at y ⊢;grind
  |inr x=>rw[hr]at B;rw[B.1]at y;grind
  refine fin b aH st' a' e' O' P' S' (λy=>?_) (λy=>?_);rw[H];cases hr:gT s 32 (0,0) ⟨wn tl,0,[]⟩with
  |inl x=>rw[hr]at B;rw[B.1]at y;cases y
  |inr x=>rw[hr]at B;rw[B.2]
  subst y;have hz:st'.rest=[]:=by
   have:¬0<ae.len:=by simpa using i
   exact zbq.1 (by omega)
  cases hr:gT s 32 (0,0) ⟨wn tl,0,[]⟩with
  |inl x=>rw[hr]at B H;have okv:=qF s 32 _ _ _ hr;rw[<-B.2]at okv H;dsimp only at H;rw[zb hz]at H;exact⟨H,okv.m (by simp),by have:=okv.t;omega⟩
  |inr x=>rw[hr]at B;exact absurd B.1 (by simp)
end
end Go.X
end
section
namespace Go.X
section
theorem OL(D:Bt)(h:zc)(R:Value->zc->Prop) (H:let b:=h.push (.cells tC 25);XC Tp 88 #[.string D] b (λc d=>∃e f g i,c=.tuple #[.agg #[.string e,aK f],iV g,iV i]/\let j:=d.push (.cells #[.string (⟨#[]⟩:Bt),.slice Td 0 0] 114);XRunU Tp (zag 114 (.pointer (Tc ⟨d.size,0,Td⟩)) (.agg #[.string e,aK f])) j (λk=>((i != 0)=Ta->XRunU Tp (zag 25 (.pointer (Tc ⟨h.size,0,Td⟩)) (tZ)) k (λl=>∃m n o p,zd l ⟨h.size,0,Td⟩ 0 (tL m n o p)/\R (.tuple #[tA m n o p,iV g,iV i]) l))/\((i != 0)=Tb->∃q r,zd k ⟨d.size,0,Td⟩ 0 [.string q,aK r]/\XC Tp 89 #[.agg #[.string q,aK r],iV 0,iV 1] k (λs t=>∃u v w x,s=tA u v w x/\XRunU Tp (zag 25 (.pointer (Tc ⟨h.size,0,Td⟩)) (tA u v w x)) t (λy=>∃z A B C,zd y ⟨h.size,0,Td⟩ 0 (tL z A B C)/\R (.tuple #[tA z A B C,iV g,iV 0]) y)))))):
  XC Tp 48 #[.string D] h R:=
 XF ⟨[],[],[]⟩ [.cell 2 25,.tmp 3,.tmp 4] 22 Tryz.func48 H
end
end Go.X
end
section
namespace Go.X
open Go Go.X Go.Proofs Go.RowKit
section
variable {s:Bs} {M:Fr}
theorem XD(h:(fR s).2.2=0):(Zg s).2.2=0:=by unfold fR at h;split at h;assumption;exact h
theorem Nc{x:Bs×List Nd}{i j:Int}{v:Value}(h:Jl M [.pair .str (.row ku),.int .i64,.int .i64] ((bl x.1,x.2),i,j) v):∃sl:Sl,v=.tuple #[.agg #[.string (bl x.1),aK sl],.int .i64 i,.int .i64 j]/\Rd M (.row ku) x.2 [aK sl]:=by
 obtain⟨vs,⟨r,rest,rfl,m,p,f,rfl,l,o,rfl,hz⟩,rfl⟩:=h;rw[jq l,jq hz];obtain⟨cs,rfl,n,c2,rfl,b,k⟩:=m;have b:n=[.string (bl x.1)]:=b;subst b;obtain⟨sl,rfl⟩:∃sl:Sl,c2=[aK sl]:=by obtain⟨w,e,a,c,q,_⟩:=k;exact⟨⟨a,_,c⟩,by rw[e,q];rfl⟩
 exact⟨sl,rfl,k⟩
set_option maxRecDepth 100000 in
set_option maxHeartbeats 2000000 in
theorem Nt{gl:Fr}(J:GL gl){h:zc}(I:Fr.le gl M)(ag:AgM M h){K:Value->zc->Prop} (t:∀(h':zc) (bs:List Nat) (sk si:Sl),Keep h.size h h'->OT h' (W9 s).1 bs (Yi (W9 s).1 sk si)->(∀b∈bs,h.size<=b)->K (.tuple #[.agg #[.int .i64 (W9 s).1.kind,.string (W9 s).1.text,aK sk,aK si],.int .i64 (W9 s).2.1,.int .i64 (W9 s).2.2]) h'):
  XC Tp 48 #[.string (bl s)] h K:=by
 apply OL;intro h1;obtain⟨H,z1,R1⟩:=wq (g:=h1) rfl;clear_value h1;refine(qco J (s:=s) (R:=λr=>r=((bl (fR s).1.1,(fR s).1.2),(fR s).2.1,(fR s).2.2)) rfl).go I (ag.keep H) (zi (a:=Arg.mk .str _) (rdStr _) zq) λv w M' r L hv hr=>?_;subst hr;obtain⟨sl,rfl,rd⟩:=Nc hv;refine⟨_,sl,_,_,rfl,?_⟩;have A:=L.keep;have z3:=A.size;have E:Keep h.size h w:=H.trans (c:=w) (m:=h.size) ⟨z3,λj o=>A.get j (by omega)⟩ (zaf _);have Q:=R1.keep (A.get h.size (by omega));intro O;obtain⟨V,z8,S⟩:=wq (g:=O) rfl;clear_value O;refine tH (u:=bl (fR s).1.1) (v:=sl) S λn f9 z9 N=>?_;have q:Keep w.size w n:=⟨by omega,λj o=>(f9 j (by omega)).trans (V.get j o)⟩;have l:Keep h.size h n:=E.trans (c:=n) (m:=h.size) ⟨q.size,λj o=>q.get j (by omega)⟩ (zaf _);have P:=Q.keep (q.get h.size (by omega));refine⟨λe=>?_,λe=>?_⟩;have e:¬(fR s).2.2=0:=by simpa using e
 have D:W9 s=(.mk 0 (bl []) [] [],(fR s).2.1,(fR s).2.2):=by unfold W9;rw[za e]
 rw[D]at t;refine Wb (k:=0) (s:=⟨#[]⟩) (sk:=⟨Td,0,0⟩) (si:=⟨Td,0,0⟩) P λg f z B=>⟨_,_,_,_,B.ld (cs:=[.int .i64 0,.string ⟨#[]⟩,aK ⟨Td,0,0⟩,aK ⟨Td,0,0⟩]),?_⟩;obtain⟨bs,ot,y⟩:=(Own.new (lo:=h.size) (hi:=g.size) (b0:=h.size) (k:=0) (s:=bl []) B (zaf _) (zaf _)).ot;exact t g bs ⟨Td,0,0⟩ ⟨Td,0,0⟩ (l.trans (c:=g) (m:=h.size) ⟨by omega,λj o=>f j (by omega)⟩ (zaf _)) ot (λb p=>(y b p).1);have e:(fR s).2.2=0:=by simpa using e
 obtain⟨lvs,G,e1,Z,e3,e4⟩:=qb1 e;obtain⟨hs,Y⟩:=JG (XD e);have D:W9 s=(mW s (fR s).1.2 33 0,(s.length:Int),0):=by unfold W9;rw[zb e]
 rw[D]at t;rw[e1]at N;rw[Z];refine⟨_,sl,N.ld (cs:=[.string (bl s),aK sl]),?_⟩;have C:AgM M' n:=L.ag.keep q;refine JD J hs G (λx e=>by have:=e4 x e;unfold iO at this;omega) 33 0 1 1 rfl (by omega) (by omega) (by omega) n M' sl (I.trans L.le) C rd _ λaa bs sk si i ot p=>⟨_,_,sk,si,rfl,?_⟩;have U:=i.size;refine Wb (P.keep (i.get h.size (by omega))) λg f z B=>⟨_,_,sk,si,B.ld (cs:=[_,_,aK sk,aK si]),?_⟩;exact t g bs sk si (l.trans (c:=g) (m:=h.size) ⟨by omega,λj o=>by rw[f j (by omega)];exact i.get j (by omega)⟩ (zaf _)) (ot.frame λc F=>f c (by have:=p c F;omega)) (λc F=>by have:=p c F;omega)
end
section
section
variable {t : Bs} {nodes : List Nd} {lvs : List Nat} {gl : Fr}
theorem x7(i:GL gl){s:Bs}{R:Tr×Int×Int->Prop}(c:R (W9 s)):PC Tp gl 48 [Arg.mk .str (bl s)] [.tree,.int .i64,.int .i64] R:=by
 intro h M vs e ag b
 match vs,b with
 |[u1],⟨a1,_⟩=>obtain rfl:=Za (s:=bl s) a1;apply PX.of;exact Nt i e ag λh' bs sk si k ot f=>⟨MxL M h' bs,_,MxL.later ag k f,⟨[_,_,_],⟨_,_,rfl,ot.rdv,_,_,rfl,Yb _ _,_,rfl,Yb _ _⟩,rfl⟩,c⟩
end
end
end Go.X
end
section
namespace Go.X
section
theorem QP{gl:Fr}(n:GL gl){v:Tr}{s:Bt}(m:(lb s).length<=1048576){R:Int->Prop}(h:R (Ym v s)):PC Tp gl 186 [Arg.mk .tree v,Arg.mk .str s] [.int .i64] R:=by
 apply WU;unfold Ym at h;refine⟨λe=>?_,λe=>⟨λf=>?_,λf=>?_⟩⟩;have b:v.kind=6:=by simpa using e
 rw[zb b]at h;exact IU h;have b:v.kind≠6:=by simpa using e
 have c:v.kind=5:=by simpa using f
 rw[za b,zb c]at h;have hi:=QD n (l:=lb s) m (R:=λr=>r=i9 (lb s)) rfl;rw[jL]at hi;refine hi.mono λr k=>?_;subst k;refine⟨λi=>?_,λi=>?_⟩;rw[zb (by simpa using i)]at h;exact h;rw[za (by simpa using i)]at h;exact h;have b:v.kind≠6:=by simpa using e
 have c:v.kind≠5:=by simpa using f
 rw[za b,za c]at h;exact h
end
end Go.X
end
section
namespace Go.X.U
section
variable {o:Oper} {ρ:Operand -> Value} {h h':zc} {a b:Act} {P:Program} {ops:Array Oper} {listed:Array Bool} {i n:Nat}
def lI(o:Oper):Option Bool:=match o.op with
 |.fieldAddr _ _ _=>Tc Ta
 |.indexAddr _ _ _=>Tc Ta
 |.move _=>Tc Ta
 |.assign _=>Tc Ta
 |.load _ _=>Tc Tb
 |.binOp _ _ _ _ _=>Tc Ta
 |.call c=>match c.callee with
  |.builtin .len=>Tc Ta
  |_=>Td
 |_=>Td
def qg(o:Oper):Bool:=match lI o with
 |some _=>Ta
 |none=>Tb
def ql(o:Oper):Bool:=match lI o with
 |some b=>!b
 |none=>Tb
def heavyL:Nat->List Oper->List Nat
 |_,[]=>[]
 |k,o::l=>bif qg o then heavyL (k+1) l else k::heavyL (k+1) l
def mH(ops:Array Oper):List Nat->Bool
 |[]=>Ta
 |[_]=>Ta
 |i::j::l=>bif Region.waitsFor .any ops j i then mH ops (j::l)else Tb
def Qf(ops:Array Oper)(i:Nat):List Nat->Bool
 |[]=>Tb
 |j::l=>bif Region.waitsFor .any ops j i then Ta else Qf ops i l
def l5(ops:Array Oper)(T:List Nat):Nat->Bool
 |0=>Tb
 |k+1=>bif (match ops[k]? with
  |some o=>bif ql o then !(Qf ops k T)else Tb
  |none=>Tb)then Ta else l5 ops T k
def rn(l:List Oper):Bool:=l.all λo=>match o.guard with
 |none=>Zs o.op
 |some _=>Tb
def m9(ops:Array Oper):Nat->Bool
 |0=>Ta
 |k+1=>bif (match ops[k]? with
  |some o=>bif Zc ops k (tmpsOf o.op.operands.toList) ops.size then(bif qg o then(heavyL 0 ops.toList).all λj=>!(Region.waitsFor .any ops k j)||(match yp ops j with
   |some t=>!(memN (tmpsOf o.op.operands.toList) t)
   |none=>Ta)else Ta)else Tb
  |none=>Ta)then m9 ops k else Tb
def mixB(ops:Array Oper):Bool:=bif rn ops.toList then(bif ym ops ops.size then(bif Yh ops ops.size then(bif mH ops (heavyL 0 ops.toList)then m9 ops ops.size else Tb)else Tb)else Tb)else Tb
def jU(o:Oper)(ρ:Operand->Value)(h h':zc):Prop:=match o.op with
 |.load _ x=>∀c,ρ x=.pointer (Tc c)->h'[c.block]?=h[c.block]?
 |_=>True
theorem OD(o:Oper)(ρ:Operand->Value)(h:zc):jU o ρ h h:=by unfold jU;grind
theorem C5{ρ b:Operand->Value}(e:∀x∈o.op.operands.toList,ρ x=b x)(H:jU o ρ h h'):jU o b h h':=by unfold jU at H ⊢;split;rename_i t x f;rw[f]at H e;exact λc i=>H c (by rw[e x (by simp[Op.operands]),i]);trivial
def qS(P:Program)(o:Oper)(ρ:Operand->Value)(h:zc)(K:Value->Prop):Prop:=match o.op with
 |.call _=>kG P (execOp ρ o) K
 |_=>Q8 P o ρ Td h K
def nr(ops:Array Oper)(T:List Nat)(e:aR)(h0 h':zc):Nat->Prop
 |0=>True
 |k+1=>match ops[k]? with
  |some o=>bif ql o then(bif Qf ops k T then nr ops T e h0 h' k else(match o.op with
   |.load _ x=>(match Wl e [] x with
    |some (.pointer (Tc c))=>h'[c.block]?=h0[c.block]?/\nr ops T e h0 h' k
    |_=>False)
   |_=>False))else nr ops T e h0 h' k
  |none=>nr ops T e h0 h' k
theorem E0{ops:Array Oper}{T:List Nat}{e:aR}{h0 h':zc}:∀{m:Nat},nr ops T e h0 h' m->∀k ok,k<m->ops[k]?=Tc ok->ql ok=Ta->Qf ops k T=Tb->∃t x c,ok.op=.load t x/\Wl e [] x=Tc (.pointer (Tc c))/\h'[c.block]?=h0[c.block]?
 |0,_,k,_,hk,_,_,_=>by omega
 |m+1,H,k,ok,hk,ho,hl,ha=>by
  unfold nr at H;rcases zbf k m with h1|h1;have b:nr ops T e h0 h' m:=by split at H;grind;exact H
  exact E0 b k ok h1 ho hl ha;grind
def wU(P:Program)(n:Nat)(h:zc)(K:aR->Prop):List Oper->aR->Prop
 |[],e=>K e
 |o::l,e=>bif qg o then(bif jf n [] o.dst then(bif Zs o.op then(bif known e [] o.op.operands.toList then qS P o (iP e []) h λv=>wU P n h K l (putO e o.dst [] v)else False)else False)else False)else wU P n h K l e
def wT(P:Program)(n:Nat)(ops:Array Oper)(h0:zc)(K:aR->zc->Prop):List Nat->List Nat->aR->zc->Prop
 |_,[],e,h=>K (clean e) h
 |T,j::l,e,h=>match ops[j]? with
  |some o=>bif jf n [] o.dst then lu P o e [] h λv h'=>(bif l5 ops (j::T) ops.size then nr ops (j::T) (putO e o.dst [] v) h0 h' ops.size/\wT P n ops h0 K (j::T) l (putO e o.dst [] v) h' else wT P n ops h0 K (j::T) l (putO e o.dst [] v) h')else False
  |none=>False
def Zt:Nat->List Oper->(Nat->Value)->Act->Act
 |_,[],_,a=>a
 |k,o::l,f,a=>Zt (k+1) l f (bif qg o then a.put o.dst (f k)else a)
theorem xh{a b:Act}:∀{l:List Operand},(∀t∈tmpsOf l,qa a t=qa b t)->∀x∈l,a.eval x=b.eval x
 |[],_,x,c=>by cases c
 |y::l,h,x,c=>by
  rcases zah.1 c with rfl|c;cases x with
  |tmp t=>exact h t (by simp[tmpsOf])
  |const v=>rfl
  |global g=>rfl
  |func f=>rfl
  refine xh (l:=l) (λt e=>h t ?_) x c;cases y <;> simp[tmpsOf,e]
theorem Qg(c:Zs o.op=Ta)(h:∀t∈tmpsOf o.op.operands.toList,qa a t=qa b t):execOp a.eval o=execOp b.eval o:= execOp_congr o (λcs b e=>by rw[e]at c;cases c) λx f=>xh h x (by simpa using f)
theorem He{q:Addr}(e:h'[q.block]?=h[q.block]?):zf h' q=zf h q:=by unfold zf;rw[e]
theorem XU(q:Addr)(i:Nat):(q.add i).block=q.block:=by unfold zae;split <;> rfl
theorem G8{h h':zc}{q:Addr}(e:h'[q.block]?=h[q.block]?):∀{vs:List Value} {i:Nat},zd h q i vs->zd h' q i vs
 |[],_,_=>trivial
 |_::_,i,⟨h1,h2⟩=>⟨(He (q:=q.add i) (by rw[XU];exact e)).trans h1,G8 e h2⟩
theorem Bw(p:qg o=Ta){K:Value->Prop}(H:qS P o ρ h K):
  ∃v,K v/\∀h',(ql o=Tb\/jU o ρ h h')->QExec P (execOp ρ o) h' (.value v):=by
 unfold qS at H;cases ho:o.op with
 |load t x=>
  rw[ho]at H;simp only at H;unfold Q8 at H;rw[ho]at H;simp only at H;unfold mn at H;split at H;rename_i q b k n;obtain⟨y,h1,e⟩:=H;refine⟨_,e,λh' f=>?_⟩;have m:h'[q.block]?=h[q.block]?:=by rcases f with f|f;unfold ql lI at f;simp_all;unfold jU at f;simp_all
  simp only[execOp,ho,k];exact(pC n (by rw[He m];exact h1.out trivial)).val;rename_i q l k n;obtain⟨vs,h0,⟨h1,e⟩,_⟩:=Ys H (wv l);refine⟨_,e,λh' f=>?_⟩;have m:h'[q.block]?=h[q.block]?:=by rcases f with f|f;unfold ql lI at f;simp_all;unfold jU at f;simp_all
  simp only[execOp,ho,k];exact(pP n h0 (G8 m (h1.out trivial))).val;exact H.elim
 |fieldAddr t x i=>rw[ho]at H;simp only at H;unfold Q8 at H;rw[ho]at H;obtain⟨v,h1,e⟩:=qf H Td;exact⟨v,h1,λh' _=>e trivial h'⟩
 |indexAddr t x i=>
  rw[ho]at H;simp only at H;unfold Q8 at H;rw[ho]at H;simp only at H;cases he:kK P t with
  |false=>simp_all
  |true=>rw[he]at H;obtain⟨v,h1,e⟩:=Zi (Zb he) H;refine⟨v,h1,λh' _=>?_⟩;simp only[execOp,ho];exact(e trivial h').val
 |move x=>rw[ho]at H;simp only at H;unfold Q8 at H;rw[ho]at H;obtain⟨v,h1,e⟩:=qf H Td;exact⟨v,h1,λh' _=>e trivial h'⟩
 |assign x=>rw[ho]at H;simp only at H;unfold Q8 at H;rw[ho]at H;obtain⟨v,h1,e⟩:=qf H Td;exact⟨v,h1,λh' _=>e trivial h'⟩
 |binOp r t x y t'=>rw[ho]at H;simp only at H;unfold Q8 at H;rw[ho]at H;simp only at H;obtain⟨v,h1,e⟩:=tM ho H;exact⟨v,h1,λh' _=>e trivial h'⟩
 |call c=>rw[ho]at H;simp only at H;obtain⟨v,h1,e⟩:=qf H Td;exact⟨v,h1,λh' _=>e trivial h'⟩
 |_=>unfold qg lI at p;simp_all
theorem Je(σ:Nat->Value):valid σ []:=by unfold valid;trivial
theorem E5:∀{l:List Oper} {k:Nat} {f:Nat->Value} {a:Act},(Zt k l f a).tmps.size=a.tmps.size/\(Zt k l f a).defers=a.defers
 |[],_,_,_=>⟨rfl,rfl⟩
 |o::l,k,f,a=>by unfold Zt;have:=E5 (l:=l) (k:=k+1) (f:=f) (a:=bif qg o then a.put o.dst (f k)else a);rw[this.1,this.2];grind [size_put,yy]
theorem qq{d:Option Nat}{u:Value}{s:Nat}(h:d≠Tc s):qa (a.put d u) s=qa a s:=by
 cases d with
 |none=>rfl
 |some t=>grind [qt]
theorem uI{s:Nat}:∀{l:List Oper} {k:Nat} {f:Nat->Value} {a:Act},(∀o∈l,qg o=Ta->o.dst≠Tc s)->qa (Zt k l f a) s=qa a s
 |[],_,_,_,_=>rfl
 |o::l,k,f,a,h=>by unfold Zt;rw[uI λc b=>h c (zal _ b)];grind [qq,zaq]
theorem xN{P:Program}{n:Nat}{h:zc}{K:aR->Prop}:∀{l:List Oper} {k:Nat} {e:aR} {a:Act},wU P n h K l e->Sat n e a->∃(f:Nat->Value) (e':aR),K e'/\Sat n e' (Zt k l f a) /\
  ∀i o,l[i]?=Tc o->qg o=Ta->Zs o.op=Ta/\jf n [] o.dst=Ta/\∀h',(ql o=Tb\/jU o (Zt k (l.take i) f a).eval h h')->QExec P (execOp (Zt k (l.take i) f a).eval o) h' (.value (f (k+i)))
 |[],k,e,a,H,hs=>⟨λ_=>undef,e,H,hs,λi o h=>by simp at h⟩
 |o::l,k,e,a,H,hs=>by
  unfold wU at H;cases hq:qg o with
  |false=>
   rw[hq]at H;obtain⟨f,e',h1,u,q⟩:=xN (k:=k+1) H hs;refine⟨f,e',h1,by unfold Zt;grind,λi p hi c=>?_⟩;cases i with
   |zero=>simp_all
   |succ i=>have:=q i p (by simpa using hi) c;rw[zdf];unfold Zt;grind
  |true=>
   rw[hq]at H;simp only[zH]at H;cases hd:jf n [] o.dst with
   |false=>simp_all
   |true=>
    rw[hd]at H;simp only[zH]at H;cases hns:Zs o.op with
    |false=>simp_all
    |true=>
     rw[hns]at H;simp only[zH]at H;cases hk:known e [] o.op.operands.toList with
     |false=>simp_all
     |true=>
      rw[hk]at H;simp only[zH]at H;obtain⟨v,t,z⟩:=Bw hq H;obtain⟨f,e',h1,u,q⟩:=xN (k:=k+1) (a:=a.put o.dst v) t (hs.putO hd (λ_=>rfl) λA=>absurd (Je _) A);have s:∀(m:List Oper) (j:Nat) (b:Act),Zt (k+1+j) m (λx=>if x=k then v else f x) b=Zt (k+1+j) m f b:=by
       intro m;induction m with
       |nil=>intro j b;rfl
       |cons p m B=>intro j b;unfold Zt;dsimp only;rw[za (show¬k+1+j=k by omega),show k+1+j+1=k+1+(j+1)by omega,B]
      refine⟨λx=>if x=k then v else f x,e',h1,?_,λi p hi c=>?_⟩;unfold Zt;rw[hq,zH];dsimp only;rw[zb rfl];have:=s l 0 (a.put o.dst v);simp_all;cases i with
      |zero=>simp at hi;subst hi;rw[List.take_zero,zen];dsimp only;rw[zb rfl];refine⟨hns,hd,λh' w=>?_⟩;show QExec P (execOp a.eval o) h' _;rw[qI hs (Je _) hns hk];exact z h' (w.imp id λr=>C5 (λx y=>Yx hs (Je _) hk x y) r)
      |succ i=>have:=q i p (by simpa using hi) c;rw[zdf];unfold Zt;rw[hq,zH];dsimp only;rw[zb rfl];have C:=s (l.take i) 0 (a.put o.dst v);grind
theorem xY{next:Act->World->Prop}{Q:Exit->Act->World->Prop}{r:Result Next}(k:b.defers=[])
  (H:o.upon P b (λc w=>c.defers=[]/\∀v,c=b.put o.dst v->next (a.put o.dst v) w) (λ_ _ _=>False) r):o.upon P a next Q r:=by
 have lo:¬LetsOut (λ(_:Exit) (_:Act) (_:World)=>False):=λh=>by obtain⟨_,_,h⟩:=h;exact h
 cases r with
 |ok x w=>
  cases x with
  |value v=>exact H.2 v rfl
  |skip=>exact H.2 undef rfl
  |defer d=>have:=H.1;rw[yy]at this;cases this
  |enter f args=>refine Calls.mono (show Calls P f args w _ from H) λe w' i=>?_;grind
  |row row args=>exact Rows.mono (show Rows P row args w _ from H) λv w' i=>i.2 v rfl
  |_=>exact H
 |halt x w=>cases x <;> first|exact H.elim|exact H
theorem Yu{j:Nat}:∀{l:List Oper} {k:Nat},j∈heavyL k l↔k<=j/\∃o,l[j-k]?=Tc o/\qg o=Tb
 |[],k=>by simp[heavyL]
 |o::l,k=>by
  unfold heavyL;cases hq:qg o with
  |true=>rw[zH,Yu (l:=l)];grind
  |false=>rw[zI,zah,Yu (l:=l)];grind
theorem J5:∀{l:List Oper} {k:Nat},(heavyL k l).Nodup
 |[],_=>zeo
 |o::l,k=>by
  unfold heavyL;cases qg o with
  |true=>exact J5
  |false=>exact zcv.2 ⟨λh=>by have:=(Yu.1 h).1;omega,J5⟩
theorem Jf{ops:Array Oper}:∀{m:Nat},m9 ops m=Ta->∀k o,k<m->ops[k]?=Tc o->Zc ops k (tmpsOf o.op.operands.toList) ops.size=Ta/\(qg o=Ta->∀j∈heavyL 0 ops.toList,Region.waitsFor .any ops k j=Ta->∀t,yp ops j=Tc t->t∉tmpsOf o.op.operands.toList)
 |0,_,k,o,hk,_=>by omega
 |m+1,h,k,o,hk,ho=>by
  unfold m9 at h;split at h;rename_i c b;cases hs:Zc ops m (tmpsOf c.op.operands.toList) ops.size with
  |false=>simp_all
  |true=>
   rw[hs,zH]at h;rcases zbf k m with h1|h1;refine Jf (m:=m) ?_ k o h1 ho;simp_all;have:k=m:=by omega
   subst this;have:c=o:=za6 (b.symm.trans ho);subst this;refine⟨hs,λe j f i t l=>?_⟩;rw[e,zH]at h;cases hall:(heavyL 0 ops.toList).all λj=>!(Region.waitsFor .any ops k j)||(match yp ops j with
    |some t=>!(memN (tmpsOf c.op.operands.toList) t)
    |none=>Ta)with
   |false=>simp_all
   |true=>have:=zas.1 hall j f;simp_all[Bool.not_true,Bool.false_or,Qd]
  rename_i b;rw[zH]at h;rcases zbf k m with h1|h1;exact Jf h k o h1 ho;grind
theorem JA{ops:Array Oper}:∀{l:List Nat},mH ops l=Ta->∀q i j,l[q]?=Tc i->l[q+1]?=Tc j->Region.waitsFor .any ops j i=Ta
 |[],_,q,i,j,h,_=>by simp at h
 |[_],_,q,i,j,_,h=>by simp at h
 |a::b::l,h,q,i,j,h1,h2=>by
  unfold mH at h;cases hw:Region.waitsFor .any ops b a with
  |false=>simp_all
  |true=>
   rw[hw,zH]at h;cases q with
   |zero=>simp_all
   |succ q=>exact JA h q i j (by simpa using h1) (by simpa using h2)
theorem A0{ops:Array Oper}{i:Nat}:∀{l:List Nat},Qf ops i l=Ta->∃j∈l,Region.waitsFor .any ops j i=Ta
 |[],h=>by cases h
 |j::l,h=>by
  unfold Qf at h;cases hw:Region.waitsFor .any ops j i with
  |true=>simp_all
  |false=>rw[hw,zI]at h;obtain⟨b,h1,c⟩:=A0 h;grind
theorem Kb{ops:Array Oper}{T:List Nat}:∀{m:Nat},l5 ops T m=Tb->∀k o,k<m->ops[k]?=Tc o->ql o=Ta->Qf ops k T=Ta
 |0,_,k,o,hk,_,_=>by omega
 |m+1,h,k,o,hk,ho,hl=>by
  unfold l5 at h;cases hb:(match ops[m]? with
   |some o=>bif ql o then !(Qf ops m T)else Tb
   |none=>Tb)with
  |true=>simp_all
  |false=>rw[hb,zI]at h;rcases zbf k m with h1|h1;exact Kb h k o h1 ho hl;grind
theorem Zj{i p:Nat}(hi:i∈Region.ready .any ops listed)(f:Region.waitsFor .any ops i p=Ta):listed.getD p Tb=Ta:=by obtain⟨n,h,e,l,m,c⟩:=Region.waitsFor_spec f;obtain⟨_,o,k,b⟩:=mem_ready.1 hi;grind
theorem jo(inv:HeadInv .any ops n listed){i p:Nat}(hi:listed.getD i Tb=Ta)(f:Region.waitsFor .any ops i p=Ta):listed.getD p Tb=Ta:=by obtain⟨l,c,e,h,k,b⟩:=Region.waitsFor_spec f;rw[<-b];exact inv.closed i l c hi e h k
theorem Xm{p:Nat->Bool}{N:Nat}(h:∃k,k<N/\p k=Tb):∃k,k<N/\p k=Tb/\∀j,j<k->p j=Ta:=by
 obtain⟨k,h1,c⟩:=h;induction k using zee with
 |_ k b=>grind
theorem Ga(h:mixB ops=Ta):rn ops.toList=Ta/\ym ops ops.size=Ta/\Yh ops ops.size=Ta/\mH ops (heavyL 0 ops.toList)=Ta/\m9 ops ops.size=Ta:=by unfold mixB at h;simp_all
theorem MX{l:List Oper}(h:rn l=Ta):∀o∈l,o.guard=Td/\Zs o.op=Ta:=by intro o b;have:=zas.1 h o b;grind
theorem FW:∀{l m:List Oper} {k:Nat} {f:Nat->Value} {a:Act},Zt k (l++m) f a=Zt (k+l.length) m f (Zt k l f a)
 |[],m,k,f,a=>rfl
 |o::l,m,k,f,a=>by have e:∀b,Zt k (o::b) f a=Zt (k+1) b f (bif qg o then a.put o.dst (f k)else a):=λ_=>rfl;rw[zby,e,e,FW,show k+1+l.length=k+(o::l).length by simp;omega]
theorem VK(b:ops[i]?=Tc o):ops.toList[i]?=Tc o:=by simp_all
theorem An(b:ops.toList[i]?=Tc o):ops[i]?=Tc o:=by simp_all
structure StM (P:Program) (n:Nat) (ops:Array Oper) (h0:zc) (K:aR->zc->Prop) (f:Nat->Value) (a0:Act) (listed:Array Bool) (a b:Act) (e:aR) (h:zc) (done todo:List Nat):Prop where
 inv:HeadInv .any ops ops.size listed
 ag:∀s,(∀i o,ops[i]?=Tc o->qg o=Ta->listed.getD i Tb=Tb->o.dst≠Tc s)->qa a s=qa b s
 sz:a.tmps.size=n
 ad:a.defers=[]
 sb:Sat n e b
 qv:∀i o t,ops[i]?=Tc o->qg o=Ta->o.dst=Tc t->qa b t=f i/\t<n
 qx:∀i o,ops[i]?=Tc o->qg o=Ta->∀h',(ql o=Tb\/jU o b.eval h0 h')->QExec P (execOp b.eval o) h' (.value (f i))
 tt:heavyL 0 ops.toList=done.reverse++todo
 ch:∀j,j∈heavyL 0 ops.toList->(listed.getD j Tb=Ta↔j∈done)
 wt:wT P n ops h0 K done todo e h
 kp:∀i o,ops[i]?=Tc o->ql o=Ta->listed.getD i Tb=Tb->jU o b.eval h0 h
 sm:Same (j4 ops.toList) a0 a
theorem pH{o:Oper}:∀{l:List Oper},o∈l->∀i,o.dst=Tc i->i∈j4 l
 |[],h,_,_=>by cases h
 |x::l,h,i,hi=>by unfold j4;rcases zah.1 h with rfl|h;simp_all;have:=pH h i hi;grind
theorem qi{k:Nat}(h:ops[k]?=Tc o):yp ops k=o.dst:=by simp[yp,h]
theorem WT{h0:zc}{K:aR->zc->Prop}{Q:Exit->Act->World->Prop}(B:World)(au:mixB ops=Ta){f:Nat->Value}{a0:Act} (hQ:∀e' a' d' h',Sat n e' a'->Same (j4 ops.toList) a0 a'->K e' h'->Q .normal a' (mk B d' h')):
  ∀(N:Nat) (U:List Nat) (listed:Array Bool) (a b:Act) (e:aR) (h:zc) (d:Nat) (done todo:List Nat),U.length=N->U.Nodup->(∀k,k∈U↔k<ops.size/\listed.getD k Tb=Tb) -> StM P n ops h0 K f a0 listed a b e h done todo->wpAny P .any ops Q N listed a (mk B d h):=by
 obtain⟨aS,aj,bi,aa,H⟩:=Ga au;have ar:∀(i:Nat) (o:Oper),ops[i]?=Tc o->o.guard=Td/\Zs o.op=Ta:=λi o A=>MX aS o (by grind);have fin:∀{listed:Array Bool} {a b:Act} {e:aR} {h:zc} {d:Nat} {done todo:List Nat},(∀k,k<ops.size->listed.getD k Tb=Ta)->StM P n ops h0 K f a0 listed a b e h done todo->Q .normal a (mk B d h):=by
  intro listed a b e h d done todo C S;have y:todo=[]:=by
   cases todo with
   |nil=>rfl
   |cons j l=>
    have q:j∈heavyL 0 ops.toList:=by rw[S.tt];simp
    have z:j<ops.size:=by obtain⟨_,o,A,_⟩:=Yu.1 q;have:=(za0.1 A).1;simpa using this
    have w:=(S.ch j q).1 (C j z);have hn:=J5 (l:=ops.toList) (k:=0);rw[S.tt,zc6]at hn;exact absurd rfl (hn.2.2 j (by simpa using w) j (by simp))
  have M:=S.wt;rw[y]at M;unfold wT at M;have hv:∀s,qa a s=qa b s:=λs=>S.ag s λi o A hq O=>by grind
  have hs:Sat n e a:=⟨S.ad,S.sz,λx hx=>by have:=S.sb.all x hx;have e1:qa a=qa b:=funext hv;grind⟩;exact hQ _ _ _ _ hs.clean S.sm M
 intro N;induction N with
 |zero=>
  intro U listed a b e h d done todo hU _ D S;have ba:U=[]:=zbq.1 hU;subst ba;have C:∀k,k<ops.size->listed.getD k Tb=Ta:=λk hk=>by simp_all
  refine⟨?_,fin C S⟩;rw[List.eq_nil_iff_forall_not_mem];intro j q;obtain⟨h1,o,A,_⟩:=mem_ready.1 q;grind
 |succ N ih=>
  intro U listed a b e h d done todo hU af D S;have bj:∃k,k<ops.size/\listed.getD k Tb=Tb:=by
   cases U with
   |nil=>cases hU
   |cons k U=>exact⟨k,(D k).1 zaq⟩
  refine⟨λhr=>?_,λi hi=>?_⟩;exfalso;obtain⟨k,Y,an,a6⟩:=Xm bj;have:k∈Region.ready .any ops listed:=mem_ready.2 ⟨by rw[<-an];simp[S.inv.size,Y],ops[k],zbl Y,λx hx hb=>a6 _ (qh aj k ops[k] Y (zbl Y) x hx hb)⟩;simp_all
  ·obtain⟨aF,o,A,C⟩:=mem_ready.1 hi;have ae:listed.getD i Tb=Tb:=getD_both aF;have z:i<ops.size:=(zai.1 A).1;obtain⟨hg,bh⟩:=ar i o A;have aI:i<listed.size:=by rw[S.inv.size];exact z
   have aL:(U.erase i).length=N:=by rw[zdr ((D i).2 ⟨z,ae⟩),hU];rfl
   have G:(U.erase i).Nodup:=af.erase i;have I:∀k,k∈U.erase i↔k<ops.size/\(listed.setIfInBounds i Ta).getD k Tb=Tb:=λk=>by rw[af.mem_erase_iff,D k];by_cases hk:i=k;simp_all;rw[getD_set_ne Tb hk];grind
   have F:=S.inv.set hi z;have L:∀k,k≠i->(listed.setIfInBounds i Ta).getD k Tb=listed.getD k Tb:=λk hk=>getD_set_ne Tb (Ne.symm hk);have J:(listed.setIfInBounds i Ta).getD i Tb=Ta:=by simp[aI]
   obtain⟨V,bm⟩:=Jf H i o z A;have ay:∀t∈tmpsOf o.op.operands.toList,qa a t=qa b t:=λt ht=>S.ag t λk ok p hq O w=>by have M:=jm V k t (zai.1 p).1 (by rw[qi p,w]) ht;grind [Zj]
   have ai:=Qg bh ay;unfold wpOp;rw[A];simp only;have ap:za8 o (yielded ops a.tmps)=Ta:=by unfold za8;rw[hg]
   rw[zb ap];left;unfold Oper.wp;rw[ai];cases hq:qg o with
   |true=>
    have hx:=S.qx i o A hq h (by
     cases O:ql o with
     |false=>exact .inl rfl
     |true=>exact .inr (S.kp i o A O ae)) B d
    rw[hx,Oper.upon_value];have aC:i∉heavyL 0 ops.toList:=λhm=>by obtain⟨_,o',bu,bq⟩:=Yu.1 hm;grind
    refine ih _ _ _ b e h d done todo aL G I { S with inv:=F,ag:=λs hs=>?_,sz:=by rw[size_put];exact S.sz,ad:=by rw[yy];exact S.ad,ch:=λj q=>?_,kp:=λk ok p O hk=>?_,sm:=S.sm.trans (Same.put a o.dst _ λt ht=>pH (by grind) t ht) };by_cases w:o.dst=Tc s;obtain⟨hv,Z⟩:=S.qv i o s A hq w;rw[w,jy (by rw[S.sz];exact Z),hv];rw[qq w];refine S.ag s λk ok p E a1=>?_;grind;have:j≠i:=λe=>aC (e ▸ q);rw[L j this];exact S.ch j q;by_cases a8:k=i;grind;rw[L k a8]at hk;exact S.kp k ok p O hk
   |false=>
    have aO:i∈heavyL 0 ops.toList:=Yu.2 ⟨zbn _,o,by grind,hq⟩;have aM:=J5 (l:=ops.toList) (k:=0);have aP:i∉done:=λw=>by rw[(S.ch i aO).2 w]at ae;cases ae
    have y:∃rest,todo=i::rest:=by
     have aN:i∈todo:=by have:=aO;rw[S.tt,zaz]at this;rcases this with h1|h1;grind;exact h1
     cases todo with
     |nil=>cases aN
     |cons j rest=>
      rcases zah.1 aN with rfl|hr;simp
      ·exfalso;obtain⟨m,hm,em⟩:=zcf hr;have hp:∃pr,(j::rest)[m]?=Tc pr:=⟨_,zaj (by simp;omega)⟩;obtain⟨pr,aH⟩:=hp;have M:=JA aa (done.reverse.length+m) pr i (by rw[S.tt,zcm (by omega),Nat.add_sub_cancel_left];exact aH) (by rw[S.tt,zcm (by omega),show done.reverse.length+m+1-done.reverse.length=m+1 by omega,List.getElem?_cons_succ,zaj hm,em]);have aJ:pr∈j::rest:=zbv aH;have az:pr∈heavyL 0 ops.toList:=by rw[S.tt];exact za4 _ aJ
       have w:=(S.ch pr az).1 (Zj hi M);rw[S.tt,zc6]at aM;grind
    obtain⟨rest,rfl⟩:=y;have hW:=S.wt;unfold wT at hW;rw[A]at hW;simp only at hW;cases w:jf n [] o.dst with
    |false=>grind
    |true=>
     rw[w,zH]at hW;refine xY (b:=b) S.sb.defers ?_;refine AC hW S.sb (Je _) B d λv d' h' hK=>⟨by rw[yy];exact S.sb.defers,λv2 aY=>?_⟩;have aV:b.put o.dst v2=b.put o.dst v:=aY.symm;have ab:∀j,j∈heavyL 0 ops.toList->((listed.setIfInBounds i Ta).getD j Tb=Ta↔j∈i::done):=λj q=>by by_cases aE:j=i;grind;rw[L j aE,S.ch j q];simp[aE]
     have aQ:l5 ops (i::done) ops.size=Tb->∀k ok,ops[k]?=Tc ok->ql ok=Ta->(listed.setIfInBounds i Ta).getD k Tb=Ta:=λO k ok p am=>by
      obtain⟨j,q,M⟩:=A0 (Kb O k ok (zai.1 p).1 p am);have aB:(listed.setIfInBounds i Ta).getD j Tb=Ta:=by rcases zah.1 q with rfl|q;exact J;exact getD_set_true ((S.ch j (by rw[S.tt];simp[q])).2 q)
      exact jo F aB M
     have aG:wT P n ops h0 K (i::done) rest (putO e o.dst [] v) h'/\(∀k ok,ops[k]?=Tc ok->ql ok=Ta->(listed.setIfInBounds i Ta).getD k Tb=Tb->jU ok (b.put o.dst v).eval h0 h'):=by
      cases O:l5 ops (i::done) ops.size with
      |true=>
       rw[O,zH]at hK;refine⟨hK.2,λk ok p am hf=>?_⟩;have a7:Qf ops k (i::done)=Tb:=by
        cases ha:Qf ops k (i::done)with
        |false=>rfl
        |true=>
         exfalso;obtain⟨j,q,M⟩:=A0 ha;have aB:(listed.setIfInBounds i Ta).getD j Tb=Ta:=by rcases zah.1 q with rfl|q;exact J;exact getD_set_true ((S.ch j (by rw[S.tt];simp[q])).2 q)
         grind [jo]
       obtain⟨t,x,c,be,hc,hb⟩:=E0 hK.1 k ok (zai.1 p).1 p am a7;unfold jU;rw[be];intro c' br;have:=qz (S.sb.putO w (λ_=>rfl) λhv=>absurd (Je _) hv) (c:=[]) (Je _) hc;grind
      |false=>grind
     have aZ:∀k ok t,ops[k]?=Tc ok->qg ok=Ta->ok.dst=Tc t->o.dst≠Tc t:=λk ok t p E ak ax=>by have:=y5 bi k i t (zai.1 p).1 z (by rw[qi p,ak]) (by rw[qi A,ax]);grind
     refine ih _ _ _ (b.put o.dst v) (putO e o.dst [] v) h' d' (i::done) rest aL G I ⟨F,λs hs=>?_,by rw[size_put];exact S.sz,by rw[yy];exact S.ad,S.sb.putO w (λ_=>rfl) λhv=>absurd (Je _) hv,λk ok t p E ak=>?_,λk ok p E bg hh=>?_,by rw[S.tt];simp,ab,aG.1,aG.2,S.sm.trans (Same.put a o.dst _ λt ht=>pH (by grind) t ht)⟩;have aT:∀u,(∀k ok,ops[k]?=Tc ok->qg ok=Ta->listed.getD k Tb=Tb->ok.dst≠Tc s)->o.dst≠Tc s->qa (a.put o.dst u) s=qa (b.put o.dst v) s:=λu h1 h2=>by rw[qq h2,qq h2];exact S.ag s h1
     have aU:∀k ok,ops[k]?=Tc ok->qg ok=Ta->listed.getD k Tb=Tb->ok.dst≠Tc s:=λk ok p E a1=>by grind
     by_cases ah:o.dst=Tc s;rw[<-aV,ah];have Z:s<n:=by rw[ah]at w;unfold jf at w;simp at w;exact w.2
     rw[jy (by rw[S.sz];exact Z),jy (by rw[S.sb.size];exact Z)];exact aT v2 aU ah;have:=S.qv k ok t p E ak;grind [qq];have an:=ar k ok p;have aA:∀t∈tmpsOf ok.op.operands.toList,qa (b.put o.dst v) t=qa b t:=λt ht=>by refine qq λax=>?_;obtain⟨bn,bo⟩:=Jf H k ok (zai.1 p).1 p;grind [jm,qi]
     rw[Qg (b:=b) an.2 aA];exact S.qx k ok p E bg (hh.imp id λr=>C5 (xh aA) r)
theorem mix_sound{K:aR->zc->Prop}{Q:Exit->Act->World->Prop}(B:World)(q:mixB ops=Ta){e:aR} (H:wU P n h (λe'=>wT P n ops h K [] (heavyL 0 ops.toList) e' h) ops.toList e) (L:Sat n e a)
  (hQ:∀e' a' d' h',Sat n e' a'->Same (j4 ops.toList) a a'->K e' h'->Q .normal a' (mk B d' h')) (d:Nat):wpAny P .any ops Q ops.size (zbr ops.size Tb) a (mk B d h):=by
 obtain⟨aa,w,V,J,y⟩:=Ga q;obtain⟨f,e1,HT,G,hf⟩:=xN (k:=0) H L;have A:∀(i:Nat) (o:Oper),ops[i]?=Tc o->ops.toList[i]?=Tc o:=λi o c=>VK c;have b:∀i,Zt 0 ops.toList f a=Zt (0+(ops.toList.take i).length) (ops.toList.drop i) f (Zt 0 (ops.toList.take i) f a):=λi=>by rw[<-FW,zce]
 refine WT B q (f:=f) hQ ops.size (zbk ops.size) _ a (Zt 0 ops.toList f a) e1 h d [] (heavyL 0 ops.toList) List.length_range zd9 (λk=>by simp_all) ⟨⟨by simp,λj oj _ A=>(by rw[getD_replicate_false]at A;cases A),λt ht af=>by omega⟩,λs ab=>?_,L.size,L.defers,G,λi o t c D M=>?_,λi o c D h' hh=>?_,by simp,λj hj=>by rw[getD_replicate_false];simp,HT,λ_ _ _ _ _=>OD _ _ _,Same.refl _ _⟩;refine(uI λo c D=>?_).symm;grind [zcf,An,zaj,getD_replicate_false];obtain⟨h1,C,h3⟩:=hf i o (A i o c) D;have E:t<n:=by rw[M]at C;unfold jf at C;simp at C;exact C.2
 refine⟨?_,E⟩;have p:=(zai.1 c).1;have F:(ops.toList.take i).length=i:=by simp;omega
 rw[b i,F,za5];have Z:ops.toList.drop i=o::ops.toList.drop (i+1):=by have:=(za0.1 (A i o c));rw[za9 this.1,this.2]
 rw[Z];unfold Zt;rw[D,zH,uI λI u Y z=>?_];rw[M,jy (by rw[E5.1,L.size];exact E)];obtain⟨m,hm,S⟩:=zcf u;have l:ops[i+1+m]?=Tc I:=by
  have:ops.toList[i+1+m]?=Tc I:=by rw[<-zbs,zaj hm,S]
  exact An this
 have:=y5 V i (i+1+m) t p (zai.1 l).1 (by rw[qi c,M]) (by rw[qi l,z]);omega;obtain⟨h1,C,h3⟩:=hf i o (A i o c) D;have N:∀t∈tmpsOf o.op.operands.toList,qa (Zt 0 ops.toList f a) t=qa (Zt 0 (ops.toList.take i) f a) t:=λt ht=>by
  have p:=(zai.1 c).1;rw[b i];refine uI λI u Y z=>?_;obtain⟨m,hm,S⟩:=zcf u;have l:ops[i+m]?=Tc I:=by
   have:ops.toList[i+m]?=Tc I:=by rw[<-zbs,zaj hm,S]
   exact An this
  obtain⟨U,_⟩:=Jf y i o p c;have hw:=jm U (i+m) t (zai.1 l).1 (by rw[qi l,z]) ht;obtain⟨oj,O,x,hx,hb,ae⟩:=Region.waitsFor_spec hw;have:=qh w i oj p O x hx hb;omega
 have:=h3 h' (hh.imp id λr=>C5 (xh N) r);rw[za5]at this;grind [Qg]
end
end Go.X.U
end
section
namespace Go.X
section
variable {P:Program} {n id m i i5:Nat} {ops:Array Oper} {e:aR} {h:zc} {a:Act} {ro:Option Nat} {t:Array Value} {v:Value}
def Q1:Code->Nat->Array Oper
 |.region id ops _,i=>bif Nat.beq id i then ops else #[]
 |.seq x y,i=>bif Nat.beq (Q1 x i).size 0 then Q1 y i else Q1 x i
 |.cond _ x y,i=>bif Nat.beq (Q1 x i).size 0 then Q1 y i else Q1 x i
 |.block _ x,i=>Q1 x i
 |.loop x,i=>Q1 x i
 |.rangeFunc _ _ x y,i=>bif Nat.beq (Q1 x i).size 0 then Q1 y i else Q1 x i
 |_,_=>#[]
def kR(P:Program)(n:Nat)(ro:Nat->Array Oper):List Nat->(aR->zc->Prop)->aR->zc->Prop
 |[],K,e,h=>K e h
 |i::l,K,e,h=>wR P n (ro i) (λe' h'=>kR P n ro l K e' h') (ro i).toList e h
def slotsOf(e:aR):List Nat->Option (List Value)
 |[]=>Tc []
 |i::l=>match jt e i,slotsOf e l with
  |some v,some vs=>Tc (v::vs)
  |_,_=>Td
def vg(l:List Nat)(R:List Value->zc->Prop)(e:aR)(h:zc):Prop:=match slotsOf e l with
 |some vs=>R vs h
 |none=>False
def oe(P:Program)(n:Nat)(ops:Array Oper)(K:aR->zc->Prop)(e:aR)(h:zc):Prop:=
 bif U.mixB ops then U.wU P n h (λe'=>U.wT P n ops h K [] (U.heavyL 0 ops.toList) e' h) ops.toList e else False
def rJ(P:Program)(n:Nat)(ro:Nat->Array Oper)(ids:List Nat)(b:Nat)(C:zc->Prop)(g:zc->zc)(R:zc->Prop)(e:aR)(h:zc):Prop:=
 kR P n ro ids (λc h1=>C h1/\oe P n (ro b) (λ_ f=>R f) c (g h1)) e h
theorem F9{K:aR->zc->Prop}(H:oe P n ops K e h)(B:World)(k:Sat n e a){R:Act->World->Prop}
  (c:∀e' a' b h',Sat n e' a'->K e' h'->R a' (mk B b h')) (d:Nat):wpAny P .any ops (jC R) ops.size (zbr ops.size Tb) a (mk B d h):=by
 unfold oe at H;cases hB:U.mixB ops with
 |false=>simp_all
 |true=>rw[hB]at H;exact U.mix_sound B hB H k (λe' a' b h' f l i=>c e' a' b h' f i) d
theorem BP{K:aR->zc->Prop}(H:wR P n ops K ops.toList e h)(B:World)(d:Nat)(i:Sat n e a){Q:Exit->Act->World->Prop}
  (k:∀e' a' b h',Sat n e' a'->K e' h'->Q .normal a' (mk B b h')):(zc8 id ops Tb).wp P Q a (mk B d h):=
 wp_region_list (Xl B _ _ _ _ _ H i λe' a' b h' c l f=>k e' a' b h' c f)
theorem GW(c:ops.toList.all yw=Ta){K:aR->zc->Prop}(H:wR P n ops K ops.toList e h)(B:World)(d:Nat)(f:Sat n e a){Q:Exit->Act->World->Prop}
  (i:∀e' a' b h',Sat n e' a'->K e' h'->Q .normal a' (mk B b h')):(zc8 id ops Tb).wpIn (rf ro) m P Q a (mk B d h):=by
 refine wpIn_region_list ?_;rw[<-zbj ops.toList];exact pJ (K:=λa' w'=>Q .normal a' w') ops.toList [] _ _ c (Xl B _ _ _ _ _ H f λe' a' b h' k o l=>i e' a' b h' k l) λa w h=>h
theorem Tx(r:P.follows .mixedOrders=Ta)(b:ops.toList.all yw=Ta){K:aR->zc->Prop}(H:oe P n ops K e h)(B:World)(d:Nat)(p:Sat n e a){Q:Exit->Act->World->Prop}
  (q:∀e' a' l h',Sat n e' a'->K e' h'->Q .normal a' (mk B l h')):(zc8 id ops Ta).wpIn (rf ro) m P Q a (mk B d h):=by
 have h1:(zc8 id ops Ta).wpIn (rf ro) m P (jC λa' w'=>Q .normal a' w') a (mk B d h):=by refine wpIn_region_any r (te (λi o k=>?_) _ _ _ _ (F9 H B p q (d+1)));rw[zas]at b;obtain⟨f,e⟩:=zai.1 k;exact b o (by grind)
 exact wpIn_mono h1 λx a' w' c=>by
  cases x with
  |normal=>exact c
  |_=>exact c.elim
theorem Tq(l:P.follows .mixedOrders=Ta){K:aR->zc->Prop}(H:oe P n ops K e h)(B:World)(d:Nat)(k:Sat n e a)(D:List Deferred){Q:Exit->Act->World->Prop}
  (m:∀e' a' b h',Sat n e' a'->K e' h'->Q .normal (Q7 D a') (mk B b h')):(zc8 id ops Ta).wp P Q (Q7 D a) (mk B d h):=by
 have h1:=wp_region_any (id:=id) (w:=mk B d h) (a:=Q7 D a) l (rq (D:=D) _ _ _ _ (F9 (R:=λa' w'=>∃e' b h',w'=mk B b h'/\Sat n e' a'/\K e' h') H B k (λe' a' b h' f i=>⟨e',b,h',rfl,f,i⟩) (d+1)));exact wp_mono h1 λx a' w' c=>by
  cases x with
  |normal=>obtain⟨a0,rfl,e',b,h',rfl,f,i⟩:=c;grind
  |_=>exact c.elim
theorem GR(b:a.defers=[])(hz:a.tmps.size=n)(c:∀x∈e,x.2.1=[]/\qa a x.1=x.2.2):Sat n e a:= ⟨b,hz,λx h=>by obtain⟨h1,f⟩:=c x h;unfold fact;rw[h1];exact⟨λ_=>f,λi=>absurd trivial i⟩⟩
theorem xQ{i j:Nat}{D:List Deferred}(h:j≠i):qa { tmps:=t.setIfInBounds i v,defers:=D } j=qa { tmps:=t,defers:=D } j:=by unfold qa;simp only[zbp];grind
theorem JM{D:List Deferred}(h:i<t.size):qa { tmps:=t.setIfInBounds i v,defers:=D } i=v:=by unfold qa;simp_all
abbrev oB:=LoopState->Option Code->Loop
theorem Vo(hm:P.follows .mixedOrders=Ta){n l i c:Nat}{ro:Nat->Array Oper}{q f i5 I:Nat}{fn:FuncId}{tmps:Array Value}{D:Nat}(U:i≠c)(aa:i<n)(Z:c<n)(hz:tmps.size=n) (A:(ro q).toList.all yw=Ta) (E:(ro f).toList.all yw=Ta) (C:(ro i5).toList.all yw=Ta) {rec:oB} (b:rec=λst pe=>{ state:=st,pending:=pe,fn:=fn,tmps:=tmps,params:=#[i,c],assign:=.seq (.region q (ro q) Tb) (.region f (ro f) Tb),body:=.block I (.region i5 (ro i5) Ta),defers:=D }) {o p:Value} (he:∀x∈e,x.2.1=[]/\x.1≠i/\x.1≠c/\tmps.getD x.1 undef=x.2.2) (hl:h[l]?=Tc (.loop (rec .ready Td))) {K:Value->zc->Prop}
  (H:rJ P n ro [q,f] i5 (λh1=>h1[l]?=Tc (.loop (rec .ready Td))) (λh1=>h1.setIfInBounds l (.loop (rec .busy Td))) (λr=>r[l]?=Tc (.loop (rec .busy Td))/\K (.bool Ta) (r.setIfInBounds l (.loop (rec .ready Td)))) ((i,[],o)::(c,[],p)::e) h):YX P l #[o,p] h K:=by
 intro m B d;have J:(mk B d h).heap[l]?=Tc (.loop (rec .ready Td)):=hl;have O:=run_yield (P:=P) (w:=mk B d h) (args:=#[o,p]) J (by rw[b];rfl);refine⟨_,_,_,_,O,?_⟩;rw[b]at O ⊢;have key:RoundIn (rf Td) m P l fn ((tmps.setIfInBounds i o).setIfInBounds c p) (.seq (.region q (ro q) Tb) (.region f (ro f) Tb)) (.block I (.region i5 (ro i5) Ta)) (mk B d h) (λe w'=>∃v d' h',e=.returned v/\w'=mk B d' h'/\K v h'):=by
  refine roundIn_of_wpIn (F:=rf Td) trivial ?_;have hF:(rf Td).inRound l=rf (Tc l):=rfl;rw[hF];have hs:Sat n ((i,[],o)::(c,[],p)::e) { tmps:=(tmps.setIfInBounds i o).setIfInBounds c p,defers:=[] }:=by refine GR rfl (by simp[hz]) ?_;intro x t;rcases zah.1 t with rfl|t;simp_all[xQ,JM];rcases zah.1 t with rfl|t;simp_all[JM];obtain⟨q1,q2,Y,q4⟩:=he x t;exact⟨q1,by rw[xQ Y,xQ q2];exact q4⟩
  unfold rJ kR kR kR at H;refine wpIn_seq (GW A H B d hs λe1 a1 N h1 s1 k1=>?_);show(zc8 f (ro f) Tb).wpIn (rf (Tc l)) m P _ a1 (mk B N h1);refine GW E k1 B N s1 λe2 a2 u r s2 k2=>?_;obtain⟨S,k4⟩:=k2;have z:(mk B u r).heap[l]?=Tc (.loop (rec .ready Td)):=S;have Q:=run_beginRound (P:=P) z (by rw[b]);refine⟨_,Q,?_⟩;have k:({ rec .ready Td with state:=.busy }:Loop)=rec .busy Td:=by rw[b]
  rw[k];show(Code.block I (.region i5 (ro i5) Ta)).wpIn (rf (Tc l)) m P _ a2 (mk B u (r.setIfInBounds l (.loop (rec .busy Td))));refine wpIn_block (Tx hm C k4 B u s2 λe3 a3 M L s3 V=>?_);obtain⟨k6,k7⟩:=V;have y:(mk B M L).heap[l]?=Tc (.loop (rec .busy Td)):=k6;have s:=run_endRound (P:=P) Td y;simp only[Exit.inBlock];refine⟨_,_,s,.bool Ta,M,L.setIfInBounds l (.loop (rec .ready Td)),rfl,?_,k7⟩;have G:({ rec .busy Td with state:=if(Td:Option Code).isNone then .ready else .done,pending:=Td }:Loop)=rec .ready Td:=by rw[b];rfl
  rw[G];rfl
 simp_all
theorem qo6{q o i5 s b:Nat}{R:List Value->zc->Prop}(H:vg [q,o,i5,s,b] R e h):∃l f i m c,jt e q=Tc l/\jt e o=Tc f/\jt e i5=Tc i/\jt e s=Tc m/\jt e b=Tc c/\R [l,f,i,m,c] h:=by unfold vg at H;split at H;rename_i vs k;simp only[slotsOf]at k;split at k;rename_i l x h1 n;split at n;rename_i f u z p;split at p;rename_i i w B t;split at t;rename_i m y A r;split at r;simp_all;cases r;cases t;cases p;cases n;cases k;exact H.elim
def v9(P:Program)(n:Nat)(ro:Nat->Array Oper)(b:Nat)(rs:List ResultVar)(D:Nat)(R:Value->zc->Prop)(e:aR)(h:zc):Prop:=
 oe P n (ro b) (λe h1=>h1[D]?=Tc (.deferred (Tc []))/\jV P (h1.setIfInBounds D (.deferred Td)) e rs λvs=>R (jM vs) (h1.setIfInBounds D (.deferred Td))) e h
theorem Ue(hm:P.follows .mixedOrders=Ta){f:FuncId}{fn:Func}{ro:Nat->Array Oper}{rs:List ResultVar}(hf:P.funcs[f]?=Tc fn) (hb:fn.body=Tc (.seq (.region 0 (ro 0) Tb) (.seq (.region 1 (ro 1) Tb) (.seq (.seq (.region 2 (ro 2) Tb) (.block 0 (.rangeFunc (.tmp 12) #[13,14] (.seq (.region 3 (ro 3) Tb) (.region 4 (ro 4) Tb)) (.block 1 (.region 5 (ro 5) Ta))))) (.seq (.region 6 (ro 6) Ta) .ret))))) (E:(ro 3).toList.all yw=Ta) (O:(ro 4).toList.all yw=Ta) (M:(ro 5).toList.all yw=Ta) (hr:fn.results.toList=rs) (hn:fn.ntmps=n) (af:15<=n) (vs:List Value) (hz:Nat.ble vs.length n=Ta) {R:Value->zc->Prop}
  (H:kR P n ro [0,1,2] (vg [1,2,5,7,12] λl h1=>∃G D v5 A g lb,l=[G,D,v5,A,.func (.func g) #[] lb]/\zo P g=Ta /\
   ∀rec:oB,(∀{k i:Value} {p:zc} {K:Value->zc->Prop},p[h1.size+1]?=Tc (.loop (rec .ready Td)) ->
     rJ P n ro [3,4] 5 (λb=>b[h1.size+1]?=Tc (.loop (rec .ready Td))) (λb=>b.setIfInBounds (h1.size+1) (.loop (rec .busy Td))) (λh4=>h4[h1.size+1]?=Tc (.loop (rec .busy Td))/\K (.bool Ta) (h4.setIfInBounds (h1.size+1) (.loop (rec .ready Td)))) [(13,[],k),(14,[],i),(2,[],D),(7,[],A)] p->YX P (h1.size+1) #[k,i] p K) ->
    kd P g (#[.func (.yield (h1.size+1)) #[] #[]]++lb) ((h1.push (.deferred (Tc []))).push (.loop (rec .ready Td))) λ_ m=>m[h1.size+1]?=Tc (.loop (rec .ready Td)) /\ v9 P n ro 6 rs h1.size R [(1,[],G),(2,[],D),(5,[],v5),(7,[],A)] (m.setIfInBounds (h1.size+1) (.loop (rec .exhausted Td)))) (jO 0 vs) h):XC P f vs.toArray h R:=by
 intro B d;refine callsIn_wide.1 (callsIn_of_wp_marks (F:=Fence.wide) (n:=1) hf hb trivial ?_ rfl);subst hn;have ai:vs.length<=fn.ntmps:=zbz hz;have hs:Sat fn.ntmps (jO 0 vs) { tmps:=vs.toArray++zbr (fn.ntmps-vs.toArray.size) undef,defers:=[] }:=by
  refine⟨rfl,by simp;omega,?_⟩;refine Wq vs.toArray _ vs 0 λj v hj=>?_;have aa:j<vs.length:=by rcases zbf j vs.length with h|h;exact h;simp_all
  simp only[za5,zbp];rw[zcu (by simpa using aa)];simp[hj]
 unfold kR kR kR kR at H;refine wpIn_seq (wpIn_wide.2 (BP H B d hs λe1 a1 d1 h1 s1 k1=>?_));show Code.wpIn Fence.wide 1 P _ _ a1 (mk B d1 h1);refine wpIn_seq (wpIn_wide.2 (BP k1 B d1 s1 λe2 a2 d2 p s2 k2=>?_));show Code.wpIn Fence.wide 1 P _ _ a2 (mk B d2 p);refine wpIn_seq (wpIn_seq (wpIn_wide.2 (BP k2 B d2 s2 λe3 o w b e k3=>?_)));show Code.wpIn Fence.wide 1 P _ _ o (mk B w b);obtain⟨u1,u2,u5,u7,ah,q1,q2,q5,q7,I,G,D,v5,A,g,lb,C,hg,HR⟩:=qo6 k3;simp only[zcg,and_true]at C;obtain⟨rfl,rfl,rfl,rfl,rfl⟩:=C;have w1:=jv e q1;have w2:=jv e q2;have w5:=jv e q5;have w7:=jv e q7;have ab:=jv e I;refine wpIn_block (wpIn_rangeFunc λN _=>?_);obtain⟨rec,c⟩:∃rec:oB,rec=λst pe=>{ state:=st,pending:=pe,fn:=N,tmps:=o.tmps,params:=#[13,14],assign:=.seq (.region 3 (ro 3) Tb) (.region 4 (ro 4) Tb),body:=.block 1 (.region 5 (ro 5) Ta),defers:=b.size }:=⟨_,rfl⟩;have Z:=HR rec (λ {k i p K} C S=>Vo hm (by decide) (by omega) (by omega) e.size E O M c (λx u=>by rcases zah.1 u with rfl|u;exact⟨rfl,(by omega),(by omega),w2⟩;rw[zbm]at u;subst u;exact⟨rfl,(by omega),(by omega),w7⟩) C S);have r:o.eval (.tmp 12)=.func (.func g) #[] lb:=ab;refine⟨b.size+1,[{ target:=.collected b.size,args:=#[] }],mk B w ((b.push (.deferred (Tc []))).push (.loop (rec .ready Td))),{ target:=.fn (.func g) lb,args:=#[.func (.yield (b.size+1)) #[] #[]] },mk B w ((b.push (.deferred (Tc []))).push (.loop (rec .ready Td))),g,#[.func (.yield (b.size+1)) #[] #[]]++lb,mk B w ((b.push (.deferred (Tc []))).push (.loop (rec .ready Td))),?_,?_,λ_ _=>trivial,?_,λ_=>zaf _,?_⟩;rw[c];exact run_enterLoop_outer _ _ _ _ _;simp only[resolve,r];simp[go_sem,zdt];simp only[invoke];exact Jw hg _ _;have hc:=Z 0 B w;refine CallsIn.mono (F:=Fence.wide) hc ?_;rintro e' w' ⟨v,t,m,rfl,rfl,Y,ht⟩;have y:(mk B t m).heap[b.size+1]?=Tc (.loop (rec .ready Td)):=Y;have q:(Instr.endLoop (b.size+1)).run P (mk B t m)=.ok Td (mk B t (m.setIfInBounds (b.size+1) (.loop (rec .exhausted Td)))):=by have:=run_endLoop (P:=P) y (by simp_all);rw[c]at this ⊢;exact this
 refine⟨Td,_,q,?_⟩;simp only[Exit.inBlock];show Code.wpIn Fence.wide 1 P (.seq (.region 6 (ro 6) Ta) .ret) _ _ (mk B t (m.setIfInBounds (b.size+1) (.loop (rec .exhausted Td))));have J:Sat fn.ntmps [(1,[],u1),(2,[],u2),(5,[],u5),(7,[],u7)] o:=GR e.defers e.size λx u=>by grind
 have ha:({ o with defers:=[{ target:=.collected b.size,args:=#[] }]++o.defers }:Act)=Q7 [{ target:=.collected b.size,args:=#[] }] o:=by unfold Q7;rw[e.defers];rfl
 rw[ha];refine wpIn_seq (wpIn_wide.2 (Tq hm ht B t J _ λe6 a6 z h6 s6 k6=>?_));show Code.wpIn Fence.wide 1 P .ret _ _ (mk B z h6);refine wpIn_ret ?_;obtain⟨hD,s⟩:=k6;obtain⟨v',V,L⟩:=Qi s6 hr s;have ae:(mk B z h6).heap[b.size]?=Tc (.deferred (Tc [])):=hD;have Q:=run_takeDeferred (P:=P) ae;have U:(Q7 [{ target:=.collected b.size,args:=#[] }] a6).defers=[{ target:=.collected b.size,args:=#[] }]:=by unfold Q7;rw[s6.defers];rfl
 show LeavesInM _ _ _ _ _ _ (Q7 [{ target:=.collected b.size,args:=#[] }] a6).defers _ _;rw[U];exact⟨by simp,.inl ⟨_,_,rfl,Q,v',L B z,v',z,h6.setIfInBounds b.size (.deferred Td),rfl,rfl,V⟩⟩
end
section
theorem VH(r:Nat)(M:Addr)(c2:Addr)(h:zc)(R:Value->zc->Prop) (H:∃p:Sl,zf h M=Tc (.slice p.a p.len p.cap)/\∃(F:Int->zc->Prop) (L:Int->zc->Nat),F 0 h/\∀m:Int,∀y:zc,F m y->(((decide ((m:Int)<((p.len:Nat):Int)))=Ta->∃J:Addr,(p.a=Tc J/\0<=(m:Int)/\(m:Int)<((p.len:Nat):Int))/\∃A:Bt,zf y (J.add ((m:Int).toNat*1))=Tc (.string A)/\∃C:Int,∃B:Bt,∃i:Sl,∃f:Sl,zd y c2 0 [.int .i64 C,.string B,.slice i.a i.len i.cap,.slice f.a f.len f.cap]/\XC Tp 186 #[.agg #[.int .i64 C,.string B,.slice i.a i.len i.cap,.slice f.a f.len f.cap],.string A] y (λI u=>∃b:Int,I=.int .i64 b/\((decide ((b:Int)<0))=Ta->R (.tuple #[]) u)/\((decide ((b:Int)<0))=Tb->∃o:Sl,zf u (zae c2 3)=Tc (.slice o.a o.len o.cap)/\∃E:Addr,(o.a=Tc E/\0<=(b:Int)/\(b:Int)<((o.len:Nat):Int))/\∃w:Int,∃x:Bt,∃l:Sl,∃k:Sl,zd u (E.add ((b:Int).toNat*4)) 0 [.int .i64 w,.string x,.slice l.a l.len l.cap,.slice k.a k.len k.cap]/\XRunU Tp (zag 25 (.pointer (Tc c2)) (.agg #[.int .i64 w,.string x,.slice l.a l.len l.cap,.slice k.a k.len k.cap])) u (λD=>∃s:Int,∃t:Bt,∃e:Sl,∃c:Sl,zd D c2 0 [.int .i64 s,.string t,.slice e.a e.len e.cap,.slice c.a c.len c.cap]/\YX Tp r #[.int .i64 b,.agg #[.int .i64 s,.string t,.slice e.a e.len e.cap,.slice c.a c.len c.cap]] D (λG z=>∃q:Bool,G=.bool q/\((!q)=Ta->R (.tuple #[]) z)/\((!q)=Tb->(F (zaa .i64 (m+1)) z/\L (zaa .i64 (m+1)) z<L m y)))))))/\((decide ((m:Int)<((p.len:Nat):Int)))=Tb->R (.tuple #[]) y))):
  kd Tp 185 #[.func (.yield r) #[] #[],.pointer (Tc M),.pointer (Tc c2)] h R:=
 yY Tryz.mixed ⟨[],[(1,[(9,.one (.int .i64))])],[]⟩ [.func (.yield r) #[] #[],.pointer (Tc M),.pointer (Tc c2)] (rs:=[]) (n:=29) Tryz.func185 (by kernel_rfl) (by kernel_rfl) (by kernel_rfl) (by kernel_rfl) (Eq.mp (by kernel_rfl) H)
theorem ZB(n:Int)(o:Bt)(f:Sl)(i:Sl)(b:Sl)(h:zc)(R:List Value->zc->Prop) (H:let r:zc:=zb4 h (.cells #[.int .i64 n,.string o,.slice f.a f.len f.cap,.slice i.a i.len i.cap] 25);let p:zc:=zb4 r (.cells #[.int .i64 0,.string (⟨#[]⟩:Bt),.slice Td 0 0,.slice Td 0 0] 25);let q:zc:=zb4 p (.cells #[.slice Td 0 0] 80);∃l:Int,∃m:Bt,∃c:Sl,∃e:Sl,zd q ⟨zax h,0,Td⟩ 0 [.int .i64 l,.string m,.slice c.a c.len c.cap,.slice e.a e.len e.cap]/\XC Tp 114 #[.agg #[.int .i64 l,.string m,.slice c.a c.len c.cap,.slice e.a e.len e.cap],.slice b.a b.len b.cap] q (λs t=>∃k:Value,s=k/\R [.slice b.a b.len b.cap,.pointer (Tc ⟨zax h,0,Td⟩),.pointer (Tc ⟨zax r,0,Td⟩),.pointer (Tc ⟨zax p,0,Td⟩),k] t)):
  kR Tp 27 (Q1 (codeOf Tryz.f68)) [0,1,2] (vg [1,2,5,7,12] R) [(0,[],.agg #[.int .i64 n,.string o,.slice f.a f.len f.cap,.slice i.a i.len i.cap]),(1,[],.slice b.a b.len b.cap)] h:=
 Eq.mp (by kernel_rfl) H
theorem TN(u:Int)(q:Int)(o:Bt)(l:Sl)(k:Sl)(z:Addr)(w:Addr)(h:zc)(C:zc->Prop)(g:zc->zc)(R:zc->Prop) (H:let x:zc:=zb4 h (.cells #[.int .i64 0,.string (⟨#[]⟩:Bt),.slice Td 0 0,.slice Td 0 0] 25);XRunU Tp (zag 25 (.pointer (Tc ⟨zax h,0,Td⟩)) (.agg #[.int .i64 q,.string o,.slice l.a l.len l.cap,.slice k.a k.len k.cap])) x (λi=>C i/\∃f:Sl,zf (g i) w=Tc (.slice f.a f.len f.cap)/\∃n:Int,∃m:Bt,∃b:Sl,∃e:Sl,zd (g i) ⟨zax h,0,Td⟩ 0 [.int .i64 n,.string m,.slice b.a b.len b.cap,.slice e.a e.len e.cap]/\let p:zc:=zb4 (g i) (.cells #[.int .i64 u] 3);((p)[(⟨zax h,0,Td⟩:Addr).block]?=((g i))[(⟨zax h,0,Td⟩:Addr).block]?/\(p)[(w:Addr).block]?=((g i))[(w:Addr).block]?/\True)/\Qa Tp (zav #[80,80] 80 #[.slice f.a f.len f.cap,.slice (Tc ⟨zax (g i),0,Td⟩) 1 1]) p (λy s=>∃c:Sl,y=.slice c.a c.len c.cap/\((s)[(⟨zax h,0,Td⟩:Addr).block]?=((g i))[(⟨zax h,0,Td⟩:Addr).block]?/\True)/\XRunU Tp (zag 80 (.pointer (Tc w)) (.slice c.a c.len c.cap)) s (λr=>((r)[(⟨zax h,0,Td⟩:Addr).block]?=((g i))[(⟨zax h,0,Td⟩:Addr).block]?/\True)/\XRunU Tp (zag 25 (.pointer (Tc z)) (.agg #[.int .i64 n,.string m,.slice b.a b.len b.cap,.slice e.a e.len e.cap])) r (λt=>R t))))):
  rJ Tp 27 (Q1 (codeOf Tryz.f68)) [3,4] 5 C g R [(13,[],.int .i64 u),(14,[],.agg #[.int .i64 q,.string o,.slice l.a l.len l.cap,.slice k.a k.len k.cap]),(2,[],.pointer (Tc z)),(7,[],.pointer (Tc w))] h:=
 Eq.mp (by kernel_rfl) H
theorem Nw(s:Sl)(u:Addr)(t:Addr)(r:Addr)(h:zc)(C:zc->Prop)(g:zc->zc)(R:Value->zc->Prop) (H:∃c:Sl,zf h r=Tc (.slice c.a c.len c.cap)/\∃o:Int,∃m:Bt,∃b:Sl,∃f:Sl,zd h u 0 [.int .i64 o,.string m,.slice b.a b.len b.cap,.slice f.a f.len f.cap]/\∃i:Sl,zf h r=Tc (.slice i.a i.len i.cap)/\XRunU Tp (zag 25 (.pointer (Tc t)) (.agg #[.int .i64 o,.string m,.slice b.a b.len b.cap,.slice f.a f.len f.cap])) h (λn=>((n)[(r:Addr).block]?=(h)[(r:Addr).block]?/\True)/\C n/\∃p:Int,∃q:Bt,∃k:Sl,∃l:Sl,zd (g n) t 0 [.int .i64 p,.string q,.slice k.a k.len k.cap,.slice l.a l.len l.cap]/\R (.tuple #[.slice c.a c.len c.cap,.agg #[.int .i64 p,.string q,.slice k.a k.len k.cap,.slice l.a l.len l.cap],.bool ((((i.len:Nat):Int):Int)==((s.len:Nat):Int))]) (g n))):
  oe Tp 27 ((Q1 (codeOf Tryz.f68)) 6) (λe h1=>C h1/\jV Tp (g h1) e [.tmp 4,.cell 5 25,.tmp 6] λvs=>R (jM vs) (g h1)) [(1,[],.slice s.a s.len s.cap),(2,[],.pointer (Tc u)),(5,[],.pointer (Tc t)),(7,[],.pointer (Tc r))] h:=
 Eq.mp (by kernel_rfl) H
end
section
variable {h0 g g' h:zc} {M:Fr} {sp sk si:Sl} {w x:Tr}
theorem OX:ElemT Tp 80 3 (.int .i64 0) 1 8:=⟨by kernel_rfl,⟨Tryz.t3,by kernel_rfl,by kernel_rfl,by kernel_rfl,by kernel_rfl⟩,rfl,by omega⟩
theorem qo7:qo Tp 80=Ta:=by kernel_rfl
theorem Ur:ya Tp 80=1:=by kernel_rfl
def jJ(l:List Int):List Value:=l.map (zez .i64)
structure LI (h0:zc) (M:Fr) (rec:oB) (sp:Sl) (w x:Tr) (os:List Int) (g:zc):Prop where
 keep:Keep h0.size h0 g
 size:h0.size+7<=g.size
 v:∃sk si,Blk g h0.size (zx w.kind w.text sk si).toArray/\Rd M (.row .str) w.keys [aK sk]/\Rd M (.row .tree) w.items [aK si]
 z:Blk g (h0.size+1) (zx 0 ⟨#[]⟩ ⟨Td,0,0⟩ ⟨Td,0,0⟩).toArray
 o:∃so,Blk g (h0.size+2) #[aK so]/\Owns g (h0.size+7) 3 1 so (jJ os)/\so.len=os.length
 c:∃sk si,Blk g (h0.size+3) (zx x.kind x.text sk si).toArray/\Rd M (.row .str) x.keys [aK sk]/\Rd M (.row .tree) x.items [aK si]
 p:Blk g (h0.size+4) #[aK sp]
 d:g[h0.size+5]?=Tc (.deferred (Tc []))
 l:g[h0.size+6]?=Tc (.loop (rec .ready Td))
theorem LI.frame{rec:oB}{os:List Int}(I:LI h0 M rec sp w x os g)(k:Keep g.size g g'):LI h0 M rec sp w x os g':=by have t:=I.size;have u:=k.size;obtain⟨sk,si,n,h,e⟩:=I.v;obtain⟨so,s,q,b⟩:=I.o;obtain⟨tk,m,r,c2,f⟩:=I.c;exact⟨⟨by have:=I.keep.size;omega,λi hi=>(k.get i (by omega)).trans (I.keep.get i hi)⟩,by omega,⟨sk,si,n.ofKeep k,h,e⟩,I.z.ofKeep k,⟨so,s.ofKeep k,q.keepN k,b⟩,⟨tk,m,r.ofKeep k,c2,f⟩,I.p.ofKeep k,by rw[k.get _ (by omega)];exact I.d,by rw[k.get _ (by omega)];exact I.l⟩
theorem Wc{l i:Nat}{o:Obj}(hi:i≠l):(h.setIfInBounds l o)[i]?=h[i]?:=zcs (Ne.symm hi)
theorem I4{l:Nat}{o:Obj}(b:l<h.size):(h.setIfInBounds l o)[l]?=Tc o:=Array.getElem?_setIfInBounds_self_of_lt b
set_option maxRecDepth 100000 in
set_option maxHeartbeats 2000000 in
theorem Oa{rec:oB}{os:List Int}(I:LI h0 M rec sp w x os h)(r:Int)(am:os.length<1000000)(hk:Rd M (.row .str) x.keys [aK sk])(hi:Rd M (.row .tree) x.items [aK si]){K:Value->zc->Prop} (hK:∀h',LI h0 M rec sp x x (os++[r]) h'->K (.bool Ta) h'):
  rJ Tp 27 (Q1 (codeOf Tryz.f68)) [3,4] 5 (λC=>C[h0.size+6]?=Tc (.loop (rec .ready Td))) (λC=>C.setIfInBounds (h0.size+6) (.loop (rec .busy Td))) (λh4=>h4[h0.size+6]?=Tc (.loop (rec .busy Td))/\K (.bool Ta) (h4.setIfInBounds (h0.size+6) (.loop (rec .ready Td)))) [(13,[],.int .i64 r),(14,[],.agg #[.int .i64 x.kind,.string x.text,.slice sk.a sk.len sk.cap,.slice si.a si.len si.cap]),(2,[],.pointer (Tc ⟨h0.size,0,Td⟩)),(7,[],.pointer (Tc ⟨h0.size+2,0,Td⟩))] h:=by
 have hs:=I.size;obtain⟨so,o1,o2,o3⟩:=I.o;obtain⟨vk,vi,v1,v2,v3⟩:=I.v;obtain⟨ck,ci,c1,c2,c3⟩:=I.c;have s:∀p,so.a=Tc p->h0.size+7<=p.block/\p.block<h.size:=λp q=>o2.base_le p q;refine TN r x.kind x.text sk si ⟨h0.size,0,Td⟩ ⟨h0.size+2,0,Td⟩ h _ _ _ ?_;intro F;obtain⟨Q,an,Z⟩:=wq (g:=F) rfl;clear_value F;refine xf Z rfl _ _ _ _ λB ae ak O=>?_;have J:∀i,i<h.size->B[i]?=h[i]?:=λi hi=>(O i (by omega)).trans (Q.get i hi);refine⟨by rw[J _ (by omega)];exact I.l,?_⟩;generalize L:B.setIfInBounds (h0.size+6) (.loop (rec .busy Td))=G;have zG:G.size=h.size+1:=by rw[<-L,zbc];omega
 have V:∀i,i<h.size->i≠h0.size+6->G[i]?=h[i]?:=λi hi hn=>by rw[<-L,Wc hn];exact J i hi
 have lG:G[h0.size+6]?=Tc (.loop (rec .busy Td)):=by rw[<-L];exact I4 (by omega)
 have bG:Blk G h.size (zx x.kind x.text sk si).toArray:=ae.keep (by rw[<-L,Wc (by omega)]);have oG:Blk G (h0.size+2) #[aK so]:=o1.keep (V _ (by omega) (by omega));refine⟨so,oG.cell (o:=0) rfl,x.kind,x.text,sk,si,bG.ld (cs:=zx x.kind x.text sk si),?_⟩;intro f;have aj:f.size=h.size+2:=by show(G.push _).size=_;rw[zau,zG]
 obtain⟨k,_,N⟩:=wq (g:=f) rfl;clear_value f;refine⟨⟨k.get _ (by show h.size<_;omega),k.get _ (by show h0.size+2<_;omega),trivial⟩,?_⟩;have D:Owns f (h0.size+7) 3 1 so (jJ os):=o2.keep λp q=>by have:=s p q;rw[k.get _ (by omega),V _ (by omega) (by omega)]
 refine Zk OX D (src:=⟨Tc ⟨G.size,0,Td⟩,1,1⟩) (news:=[.int .i64 r]) (n:=f.size) ?_ rfl (by simp[Value.oneCell']) (by simp only;omega) (by simp only;omega) (by omega) λs' u q1 q2 q3 q4 q5=>⟨s',rfl,?_⟩;refine .inr ⟨G.size,0,rfl,by omega,λi v U=>?_⟩
 match i,U with
 |0,U=>cases U;exact N.cell rfl
 have y:∀i,i<f.size->(∀p,so.a=Tc p->i≠p.block)->u[i]?=f[i]?:=q3;have H:u[h.size]?=G[h.size]?:=(y _ (by omega) λp q=>by have:=s p q;omega).trans (k.get _ (by omega));refine⟨⟨H,trivial⟩,?_⟩;have b:∀i,i<h0.size+7->i≠h0.size+6->u[i]?=h[i]?:=λi hi hn=>(y i (by omega) λp q=>by have:=s p q;omega).trans ((k.get _ (by omega)).trans (V i (by omega) hn));have S:u[h0.size+6]?=Tc (.loop (rec .busy Td)):=(y _ (by omega) λp q=>by have:=s p q;omega).trans ((k.get _ (by omega)).trans lG);refine Qz (vs:=[aK s']) qo7 (o1.keep (b _ (by omega) (by omega))) rfl Ur (by simp) (by simp[Value.oneCell',aK]) λai A af m=>?_;have aa:upd #[aK so] 0 [aK s']=#[aK s']:=by simp[upd]
 rw[aa]at A;refine⟨⟨(m _ (by show h.size≠_;omega)).trans H,trivial⟩,?_⟩;refine xf (v1.keep ((m _ (by omega)).trans (b _ (by omega) (by omega)))) rfl _ _ _ _ λE ab ah t=>?_;have P:E[h0.size+6]?=Tc (.loop (rec .busy Td)):=(t _ (by omega)).trans ((m _ (by omega)).trans S);refine⟨P,hK _ ?_⟩;have low:∀i,i<h0.size+7->i≠h0.size+6->i≠h0.size->i≠h0.size+2->(E.setIfInBounds (h0.size+6) (.loop (rec .ready Td)))[i]?=h[i]?:=λi hi h1 h2 C=>(Wc h1).trans ((t _ h2).trans ((m _ C).trans (b i hi h1)));have Y:s'.len=so.len+1:=q1;refine⟨⟨by rw[zbc];have:=I.keep.size;omega,λi hi=>(low i (by omega) (by omega) (by omega) (by omega)).trans (I.keep.get i hi)⟩,by rw[zbc];omega,⟨sk,si,ab.keep (Wc (by omega)),hk,hi⟩,I.z.keep (low _ (by omega) (by omega) (by omega) (by omega)),⟨s',A.keep ((Wc (by omega)).trans (t _ (by omega))),?_,by rw[Y,o3];simp⟩,⟨ck,ci,c1.keep (low _ (by omega) (by omega) (by omega) (by omega)),c2,c3⟩,I.p.keep (low _ (by omega) (by omega) (by omega) (by omega)),(low _ (by omega) (by omega) (by omega) (by omega)).trans I.d,I4 (by omega)⟩;have e:jJ (os++[r])=jJ os++[.int .i64 r]:=by unfold jJ;rw[zb9];rfl
 rw[e];refine q2.keep λp q=>?_;have:=q2.base_le p q;rw[Wc (by omega),t _ (by omega),m _ (by omega)]
theorem LI.setC{rec:oB}{w x y:Tr}{os:List Int}(I:LI h0 M rec sp w x os g)(hz:g'.size=g.size)(b:∀j,j≠h0.size+3->g'[j]?=g[j]?)(m:Blk g' (h0.size+3) (zx y.kind y.text sk si).toArray)(n:Rd M (.row .str) y.keys [aK sk])(hi:Rd M (.row .tree) y.items [aK si]):LI h0 M rec sp w y os g':=by have s:=I.size;obtain⟨vk,vi,q,k,h⟩:=I.v;obtain⟨so,r,c,f⟩:=I.o;refine⟨⟨by have:=I.keep.size;omega,λi hi=>(b i (by omega)).trans (I.keep.get i hi)⟩,by omega,⟨vk,vi,q.keep (b _ (by omega)),k,h⟩,I.z.keep (b _ (by omega)),⟨so,r.keep (b _ (by omega)),c.keep λp e=>b _ (by have:=c.base_le p e;omega),f⟩,⟨sk,si,m,n,hi⟩,I.p.keep (b _ (by omega)),(b _ (by omega)).trans I.d,(b _ (by omega)).trans I.l⟩
theorem HJ(M:Fr)(xs:List Int):RowC M (.int .i64) xs (jJ xs):=by
 refine⟨by simp[sz,jJ],λi hi=>?_⟩;simp only[sz,zdc];have b:i<(jJ xs).length:=by unfold jJ;simpa using hi
 rw[za9 b,zdf,List.take_zero];simp only[jJ,zdu];rfl
theorem QZ(ag:AgM M h0)(k:Keep h0.size h0 h){base:Nat}(p:h0.size<=base){so:Sl}{xs:List Int}(H:Owns h base 3 1 so (jJ xs))(e:so.len=xs.length)(l:xs.length<=140737488355328):∃M',Later h0 M h M'/\RdV M' (.row (.int .i64)) xs (aK so):=by rcases Owns.blk H with⟨c,s⟩|⟨b,cs,m,o,n,r,f,q⟩;refine⟨M,Later.same ag k,?_⟩;have:xs=[]:=zbb (by omega);subst this;rw[W0 rfl];exact⟨_,rfl,so.a,so.cap,by rw[aK,c];rfl,⟨by simp,by simp⟩,.inl rfl⟩;refine⟨MxL M h [b],MxL.later ag k (λx i=>by simp at i;omega),?_⟩;rw[W0 rfl,aK,m,e];refine RowC.rd (cs:=cs) (HJ _ xs) (MxL.at (by simp) n) ?_ ⟨l,by omega⟩;rw[<-f,e];rfl
set_option maxRecDepth 100000 in
set_option maxHeartbeats 800000 in
theorem Pp{gl:Fr}(hg:GL gl){v:Tr}(hv:Sm v)(ho:j7 zh v=Ta){p:List Bt}(hp:SL p){R:List Int×Tr×Bool->Prop}(hR:R ((j9 v p).map (λq=>(q.1:Int)),lastT v (j9 v p),decide ((j9 v p).length=p.length))):
  PC Tp gl 68 [Arg.mk .tree v,Arg.mk (.row .str) p] [.row (.int .i64),.tree,.bool] R:=by
 intro h M vs hM ag ha
 match vs,ha with
 |[u,w],⟨hu,hw,_⟩=>
  have hu:RdV M .tree v u:=hu;obtain⟨sk,si,rfl,rk,ri⟩:=yj hu;obtain⟨sp,rfl,hr⟩:=oC hw;have hr:Rd M (.row .str) p [aK sp]:=hr;obtain⟨V,aP,aL⟩:=rowLen hr;have aO:=hp.n;apply PX.of;obtain⟨RR,ah⟩:∃RR:Value->zc->Prop,RR=λv h'=>∃M' r,Later h M h' M'/\Jl M' [.row (.int .i64),.tree,.bool] r v/\R r:=⟨_,rfl⟩;refine XC.mono (R:=RR) ?_ (λv h' hx=>by rw[ah]at hx;exact hx);refine Ue (P:=Tp) Tryz.mixed (ro:=Q1 (codeOf Tryz.f68)) (n:=27) (rs:=[.tmp 4,.cell 5 25,.tmp 6]) Tryz.func68 (by kernel_rfl) (by kernel_rfl) (by kernel_rfl) (by kernel_rfl) (by kernel_rfl) (by kernel_rfl) (by decide) [.agg #[.int .i64 v.kind,.string v.text,aK sk,aK si],aK sp] (by kernel_rfl) ?_;refine ZB v.kind v.text sk si sp h _ ?_;intro h1 C A;have z1:h1.size=h.size+1:=zau _;have z2:C.size=h1.size+1:=zau _;have z3:A.size=C.size+1:=zau _;have k1:Keep h.size h h1:=Keep.push _ _ (zaf _);have k2:Keep h1.size h1 C:=Keep.push _ _ (zaf _);have k3:Keep C.size C A:=Keep.push _ _ (zaf _);have b1:Blk h1 h.size (zx v.kind v.text sk si).toArray:=Blk.new _ _ _;have b2:Blk C h1.size (zx 0 ⟨#[]⟩ ⟨Td,0,0⟩ ⟨Td,0,0⟩).toArray:=Blk.new _ _ _;have b3:Blk A C.size #[aK ⟨Td,0,0⟩]:=Blk.new _ _ _;clear_value h1 C A;refine⟨v.kind,v.text,sk,si,((b1.ofKeep k2).ofKeep k3).ld (cs:=zx v.kind v.text sk si),?_⟩;apply OG v.kind v.text sk si sp;intro D t;have z4:D.size=A.size+1:=zau _;have z5:t.size=D.size+1:=zau _;have k4:Keep A.size A D:=Keep.push _ _ (zaf _);have k5:Keep D.size D t:=Keep.push _ _ (zaf _);have b4:Blk D A.size (zx v.kind v.text sk si).toArray:=Blk.new _ _ _;have b5:Blk t D.size #[aK sp]:=Blk.new _ _ _;clear_value D t;have e1:h1.size=h.size+1:=z1;have e2:C.size=h.size+2:=by omega
  have e3:A.size=h.size+3:=by omega
  have e4:D.size=h.size+4:=by omega
  have e5:t.size=h.size+5:=by omega
  refine⟨_,rfl,_,_,_,_,_,_,rfl,by kernel_rfl,?_⟩;rw[e1,e2,e3,e4,e5,show h.size+5+1=h.size+6 from rfl];intro rec hY;have K0:Keep h.size h t:=(((k1.trans k2 (by omega)).trans k3 (by omega)).trans k4 (by omega)).trans k5 (by omega);obtain⟨H,m⟩:∃H,(t.push (.deferred (Tc []))).push (.loop (rec .ready Td))=H:=⟨_,rfl⟩;have z6:H.size=h.size+7:=by rw[<-m,zau,zau];omega
  have S:Keep t.size t H:=by rw[<-m];exact(Keep.push t (.deferred (Tc [])) (zaf _)).trans (Keep.push _ _ (by rw[zau];omega)) (zaf _)
  have I0:LI h M rec sp v v [] H:=by refine⟨K0.trans S (by omega),by omega,⟨sk,si,(((b1.ofKeep k2).ofKeep k3).ofKeep k4 |>.ofKeep k5).ofKeep S,rk,ri⟩,?_,⟨⟨Td,0,0⟩,?_,Owns.nil _ _ _ _,rfl⟩,⟨sk,si,?_,rk,ri⟩,?_,?_,?_⟩;rw[<-e1];exact((b2.ofKeep k3).ofKeep k4 |>.ofKeep k5).ofKeep S;rw[<-e2];exact((b3.ofKeep k4).ofKeep k5).ofKeep S;rw[<-e3];exact(b4.ofKeep k5).ofKeep S;rw[<-e4];exact b5.ofKeep S;rw[<-m,zea,za (by rw[zau];omega),<-e5];exact w8 _ _;rw[<-m];have:=w8 (t.push (.deferred (Tc []))) (.loop (rec .ready Td));rw[zau,e5]at this;exact this
  rw[m];clear m;have fin:∀(w:Tr) (done:List (Nat×Tr)) (g:zc),j9 v p=done->lastT v done=w->LI h M rec sp w w (done.map λq=>(q.1:Int)) g ->
    (g[h.size+6]?=Tc (.loop (rec .ready Td))/\v9 Tp 27 (Q1 (codeOf Tryz.f68)) 6 [.tmp 4,.cell 5 25,.tmp 6] (h.size+5) RR [(1,[],.slice sp.a sp.len sp.cap),(2,[],.pointer (Tc ⟨h.size,0,Td⟩)),(5,[],.pointer (Tc ⟨h.size+1,0,Td⟩)),(7,[],.pointer (Tc ⟨h.size+2,0,Td⟩))] (g.setIfInBounds (h.size+6) (.loop (rec .exhausted Td)))):=by
   intro w done g x N I;refine⟨I.l,?_⟩;have hs:=I.size;obtain⟨so,o1,o2,o3⟩:=I.o;obtain⟨vk,vi,v1,v2,v3⟩:=I.v;obtain⟨G,hG⟩:∃G,g.setIfInBounds (h.size+6) (.loop (rec .exhausted Td))=G:=⟨_,rfl⟩;have zG:G.size=g.size:=by rw[<-hG,zbc]
   have Q:∀i,i≠h.size+6->G[i]?=g[i]?:=λi hi=>by rw[<-hG];exact Wc hi
   rw[hG];unfold v9;refine Nw sp ⟨h.size,0,Td⟩ ⟨h.size+1,0,Td⟩ ⟨h.size+2,0,Td⟩ G (λh1=>h1[h.size+5]?=Tc (.deferred (Tc []))) (λh1=>h1.setIfInBounds (h.size+5) (.deferred Td)) RR ?_;have oG:Blk G (h.size+2) #[aK so]:=o1.keep (Q _ (by omega));refine⟨so,oG.cell (o:=0) rfl,w.kind,w.text,vk,vi,(v1.keep (Q _ (by omega))).ld (cs:=zx w.kind w.text vk vi),so,oG.cell (o:=0) rfl,?_⟩;refine xf (I.z.keep (Q _ (by omega))) rfl _ _ _ _ λak aB aM B=>?_;refine⟨⟨B _ (by show h.size+2≠_;omega),trivial⟩,(B _ (by omega)).trans ((Q _ (by omega)).trans I.d),w.kind,w.text,vk,vi,(aB.keep (Wc (by omega))).ld (cs:=zx w.kind w.text vk vi),?_⟩;have KF:Keep h.size h (ak.setIfInBounds (h.size+5) (.deferred Td)):=⟨by rw[zbc];have:=I.keep.size;omega,λi hi=>by rw[Wc (by omega),B _ (by omega),Q _ (by omega)];exact I.keep.get i hi⟩;have OF:Owns (ak.setIfInBounds (h.size+5) (.deferred Td)) (h.size+7) 3 1 so (jJ (done.map λq=>(q.1:Int))):=o2.keep λq hq=>by have:=o2.base_le q hq;rw[Wc (by omega),B _ (by omega),Q _ (by omega)]
   have J:=E6 v p;rw[x]at J;obtain⟨M',L',aE⟩:=QZ ag KF (by omega) OF o3 (by rw[zaw];omega);rw[ah];refine⟨M',(done.map (λq=>(q.1:Int)),w,decide (done.length=p.length)),L',⟨[aK so,.agg #[.int .i64 w.kind,.string w.text,aK vk,aK vi],.bool (decide (done.length=p.length))],⟨_,_,rfl,aE,_,_,rfl,zn (Rd.mono L'.le v2) (Rd.mono L'.le v3),_,rfl,rdBool _⟩,?_⟩,?_⟩
   ·have aF:(((so.len:Nat):Int)==((sp.len:Nat):Int))=decide (done.length=p.length):=by rw[o3,V,zaw,za7];simp;omega
    rw[aF];rfl
   rw[x,N]at hR;exact hR
  show kd Tp 185 #[.func (.yield (h.size+6)) #[] #[],.pointer (Tc ⟨h.size+4,0,Td⟩),.pointer (Tc ⟨h.size+3,0,Td⟩)] H _;refine VH (h.size+6) ⟨h.size+4,0,Td⟩ ⟨h.size+3,0,Td⟩ H _ ?_;refine⟨sp,I0.p.cell (o:=0) rfl,λi g=>∃(k:Nat) (w:Tr) (done:List (Nat×Tr)),i=k/\k<=p.length/\Sm w/\j7 zh w=Ta/\done.length=k/\j9 v p=done++j9 w (p.drop k)/\lastT v done=w/\LI h M rec sp w w (done.map λq=>(q.1:Int)) g,λi _=>p.length-i.toNat,⟨0,v,[],rfl,by omega,hv,ho,rfl,by simp,rfl,I0⟩,?_⟩;rintro i g ⟨k,w,done,rfl,hk,hw,au,J,b,ai,I⟩;refine⟨λhc=>?_,λhc=>?_⟩
  ·have f:k<p.length:=by simp at hc;omega
   have agg:AgM M g:=ag.keep I.keep;refine mJ agg hr f rfl rfl ?_;obtain⟨ck,ci,c1,c2,c3⟩:=I.c;refine⟨w.kind,w.text,ck,ci,c1.ld (cs:=zx w.kind w.text ck ci),?_⟩;have aH:=hp.s _ (zay f);have aA:PC Tp gl 186 [Arg.mk .tree w,Arg.mk .str p[k]] [.int .i64] (λr=>r=Ym w p[k]):=QP hg aH rfl;refine aA.go (vs:=[.agg #[.int .i64 w.kind,.string w.text,aK ck,aK ci],.string p[k]]) hM agg (zi (zn c2 c3) (zi (rdStr _) zq)) λq am aN r ar ab O=>?_;have O:r=Ym w p[k]:=O;subst O;have L:=I.frame ar.keep;have y:p.drop k=p[k]::p.drop (k+1):=za9 f;refine⟨Ym w p[k],lh ab,λaa=>?_,λaf=>?_⟩
   ·have E:Ym w p[k]<0:=by simpa using aa
    rw[y,C3 E,zbj]at b;exact fin w done am b ai L
   ·have az:¬Ym w p[k]<0:=by simpa using af
    obtain⟨j,hj,F⟩:∃j:Nat,Ym w p[k]=j/\j<w.items.length:=by rcases GK (ye au) p[k]with e|e;omega;exact e
    have aj:=c1.ofKeep ar.keep;have U:AgM M am:=ag.keep L.keep;obtain⟨aQ,_,_⟩:=rowLen c3;obtain⟨a,xk,xi,ea,aI,an,Y⟩:=lF U c3 F;have hm:w.items[j]∈w.items:=zay F;rw[hj];refine⟨ci,aj.cellAdd (o:=0) (k:=3) rfl,a,⟨ea,by omega,by omega⟩,w.items[j].kind,w.items[j].text,xk,xi,by rw[zao];exact aI,?_⟩;refine xf aj rfl _ _ _ _ λZ ae aC ax=>?_;have ap:LI h M rec sp w w.items[j] (done.map λq=>(q.1:Int)) Z:=L.setC aC ax ae an Y;refine⟨w.items[j].kind,w.items[j].text,xk,xi,ae.ld (cs:=zx w.items[j].kind w.items[j].text xk xi),?_⟩;have key:∀K:Value->zc->Prop,(∀h',LI h M rec sp w.items[j] w.items[j] ((done.map λq=>(q.1:Int))++[(j:Int)]) h'->K (.bool Ta) h')->YX Tp (h.size+6) #[.int .i64 (j:Int),.agg #[.int .i64 w.items[j].kind,.string w.items[j].text,.slice xk.a xk.len xk.cap,.slice xi.a xi.len xi.cap]] Z K:=λK hK=>
     @hY _ _ _ K ap.l (Oa (K:=K) ap (j:Int) (by rw[zaw];omega) an Y hK)
    refine key _ λaJ aG=>⟨Ta,rfl,λhx=>(by cases hx),λ_=>?_⟩;have ay:=Ze f (by omega);rw[ay];refine⟨⟨k+1,w.items[j],done++[(j,w.items[j])],rfl,by omega,hw.item hm,zk au hm,by simp[J],?_,by unfold lastT;simp,by rw[zb9];exact aG⟩,by simp only[zao];omega⟩;rw[b,y,wH hj F];simp
  ·have f:k=p.length:=by simp at hc;omega
   subst f;rw[zdw]at b;have:j9 w []=[]:=by simp[j9]
   rw[this,zbj]at b;exact fin w done g b ai I
end
section
variable {gl:Fr} {v x:Tr}
theorem ZJ(O:GL gl)(D:Sm v)(I:jw v=Ta){R:Tr->Prop}(Q:R v):PC Tp gl 69 [Arg.mk .tree v] [.tree] R:=by
 intro h M vs G ag L
 match vs,L with
 |[u],⟨o,_⟩=>have o:RdV M .tree v u:=o;have m:=o;obtain⟨sk,si,rfl,V,ri⟩:=yj o;apply PX.of;apply zsm v.kind v.text sk si;intro h1 f;have U:h1.size=h.size+1:=zau _;have z2:f.size=h1.size+1:=zau _;have N:Keep h.size h h1:=Keep.push _ _ (zaf _);have k2:Keep h1.size h1 f:=Keep.push _ _ (zaf _);have E:Blk h1 h.size (zx v.kind v.text sk si).toArray:=Blk.new _ _ _;have b2:Blk f h1.size (zx 0 ⟨#[]⟩ ⟨Td,0,0⟩ ⟨Td,0,0⟩).toArray:=Blk.new _ _ _;clear_value h1 f;have q:Keep h.size h f:=N.trans k2 (by omega);have y:=ag.keep q;refine⟨v.kind,v.text,sk,si,(E.ofKeep k2).ld (cs:=zx v.kind v.text sk si),?_⟩;have c:PC Tp gl 65 [Arg.mk .tree v] [.bool] (λr=>r=jw v):=oq O D rfl;refine c.go (vs:=[.agg #[.int .i64 v.kind,.string v.text,aK sk,aK si]]) G y (zi m zq) λw J Z r n l A=>?_;have A:r=jw v:=A;refine⟨r,dK l,λt=>?_,λt=>?_⟩;rw[A,I]at t;cases t;refine⟨v.kind,v.text,sk,si,((E.ofKeep k2).ofKeep n.keep).ld (cs:=zx v.kind v.text sk si),?_⟩;have k:Keep h.size h J:=q.trans n.keep (by have:=q.size;omega);refine(qfq (bR v) v (zaf _) D (ag.keep k) m).mono ?_;rintro w' h4 ⟨x,bs,z,s,rfl,ot,e⟩;have z3:=n.keep.size;have S:=x.size;refine⟨v.kind,v.text,z,s,rfl,?_⟩;refine xf (((b2.ofKeep n.keep).ofKeep x)) rfl _ _ _ _ λF b5 Y C=>?_;have P:Keep h.size h F:=⟨by have:=k.size;omega,λi hi=>by rw[C i (by omega),x.get i (by have:=k.size;omega)];exact k.get i hi⟩;have B:=ot.frame λb p=>C b (by have:=e b p;omega);have H:=k.size;exact⟨v.kind,v.text,z,s,b5.ld (cs:=zx v.kind v.text z s),MxL M F bs,v,MxL.later ag P (λb p=>by have:=e b p;omega),Y5.2 B.rdv,Q⟩
theorem z6q(h:Z1 v=Ta)(e:x∈v.items):Z1 x=Ta:=by
 unfold Z1 at h ⊢;simp at h ⊢;have h1:=yl e;have i:bK x<=Jp v.items:=by
  have c:∀l:List Tr,x∈l->bK x<=Jp l:=by
   intro l;induction l with
   |nil=>intro b;cases b
   |cons y l f=>intro b;rw[Jp];rcases zah.1 b with rfl|b;omega;have:=f b;omega
  exact c _ e
 have k:=W8 v;omega
theorem qcs(h:jw v=Ta)(b:x∈v.items):jw x=Ta:=by unfold jw at h ⊢;rw[zan]at h ⊢;exact⟨z6q h.1 b,zk h.2 b⟩
theorem KP(h:jw v=Ta):j7 zh v=Ta:=by unfold jw at h;rw[zan]at h;exact h.2
theorem WV(n:Nat):∀(v:Tr) (p:List Bt),p.length<=n->jw v=Ta->Sm v->jw (lastT v (j9 v p))=Ta/\Sm (lastT v (j9 v p)):=by
 induction n with
 |zero=>intro v p f b c;have:p=[]:=zbb (by omega);subst this;exact⟨b,c⟩
 |succ n l=>
  intro v p f b c
  match p with
  |[]=>exact⟨b,c⟩
  |s::p=>rcases GK (ye (KP b)) s with e|⟨k,e,i⟩;rw[C3 (by omega)];exact⟨b,c⟩;rw[wH e i,IM];have h:=zay i;exact l v.items[k] p (by simpa using f) (qcs b h) (c.item h)
theorem GB(f:GL gl)(i:Sm v){p:List Bt}(k:SL p){R:Tr×Bool->Prop}(c:R (p6 v p)):PC Tp gl 32 [Arg.mk .tree v,Arg.mk (.row .str) p] [.tree,.bool] R:=by
 apply zmv;rw[xb];unfold p6 at c;refine oq f i ⟨λb=>b=kE p,λ_=>qfy f k rfl,λb m=>?_⟩;cases ho:jw v with
 |false=>rw[ho]at c;exact⟨λ_=>c,λe=>by cases e⟩
 |true=>
  have h:b=kE p:=m (by rw[ho];rfl);subst h;cases hr:kE p with
  |false=>rw[ho,hr]at c;exact⟨λ_=>c,λe=>by cases e⟩
  |true=>
   rw[ho,hr,zed,zb rfl]at c;refine⟨λe=>(by cases e),λ_=>?_⟩;refine Pp f i (KP ho) k ⟨λe=>?_,λe=>?_⟩;have:Qo v p=Td:=by unfold Qo;rw[za (by simpa using e)]
   rw[this]at c;exact c;have:Qo v p=Tc (lastT v (j9 v p)):=by unfold Qo;rw[zb (by simpa using e)]
   rw[this]at c;obtain⟨h1,l⟩:=WV p.length v p (zaf _) ho i;rw[xb];refine ZJ f l h1 ?_;rw[show Tr.mk (lastT v (j9 v p)).kind (lastT v (j9 v p)).text (lastT v (j9 v p)).keys (lastT v (j9 v p)).items=lastT v (j9 v p)from xb _];exact c
end
end Go.X
end
section
namespace Go.X
open Go Go.X Go.Proofs Go.RowKit
section
variable {k:Int} {s:Bt} {a b:Sl} {f:FuncId} {args:Array Value} {h:zc} {g:Bool} {M:Fr}
def ij(k:Int)(s:Bt)(a b:Sl):Value:=.agg #[.int .i64 k,.string s,aK a,aK b]
theorem qlz{k f:Int}{s s':Bt}{a b a' e:Sl}(h:ij k s a b=ij f s' a' e):k=f/\s=s'/\a=a'/\b=e:=by unfold ij aK at h;injection h with h;simp only[Array.mk.injEq,zcg,and_true]at h;obtain⟨h1,c,l,i⟩:=h;injection h1 with _ h1;injection c with c;injection l with e1 e2 e3;injection i with f1 f2 f3;refine⟨h1,c,?_,?_⟩;cases a;cases a';simp_all;cases b;cases e;simp_all
theorem mK(i:g=Ta){Kt:Int->Bt->Sl->Sl->zc->Prop}(E:XC Tp f args h λv h'=>∃k s a b,v=ij k s a b/\Kt k s a b h'):
  ∃J:Value->zc->Prop,(g=Ta->XC Tp f args h λv h'=>∃k:Int,∃s:Bt,∃a:Sl,∃b:Sl,v=ij k s a b/\J (ij k s a b) h')/\(g=Tb->∃k:Int,∃s:Bt,∃a:Sl,∃b:Sl,J (ij k s a b) h) /\ (g=Ta->∀v h',J v h'->∃k:Int,∃s:Bt,∃a:Sl,∃b:Sl,v=ij k s a b)/\∀k:Int,∀s:Bt,∀a:Sl,∀b:Sl,∀h',J (ij k s a b) h'->Kt k s a b h':=by
 refine⟨λv h'=>∃k s a b,v=ij k s a b/\Kt k s a b h',λ_=>XC.mono E λv h' ⟨k,s,a,b,e,H⟩=>⟨k,s,a,b,e,k,s,a,b,rfl,H⟩,λc=>(by rw[i]at c;cases c),λ_ v h' ⟨k,s,a,b,e,_⟩=>⟨k,s,a,b,e⟩,λk s a b h' ⟨m,s',a',l,e,H⟩=>?_⟩;obtain⟨rfl,rfl,rfl,rfl⟩:=qlz e;exact H
theorem og(c:g=Ta){Kt:Bool->zc->Prop}(E:XC Tp f args h λv h'=>∃r,v=.bool r/\Kt r h'):
  ∃J:Value->zc->Prop,(g=Ta->XC Tp f args h λv h'=>∃r:Bool,v=.bool r/\J (.bool r) h')/\(g=Tb->∃r:Bool,J (.bool r) h)/\(g=Ta->∀v h',J v h'->∃r:Bool,v=.bool r)/\∀r:Bool,∀h',J (.bool r) h'->Kt r h':=by
 refine⟨λv h'=>∃r,v=.bool r/\Kt r h',λ_=>XC.mono E λv h' ⟨r,e,H⟩=>⟨r,e,r,rfl,H⟩,λb=>(by rw[c]at b;cases b),λ_ v h' ⟨r,e,_⟩=>⟨r,e⟩,λr h' ⟨i,e,H⟩=>?_⟩;injection e with e;subst e;exact H
theorem pK{h h1:zc}{s:Sl}(f:g=Ta){Kt:Sl->zc->Prop}(E:Kt s h1):
  ∃J:Value->zc->Prop,(g=Ta->J (aK s) h1)/\(g=Tb->∃x:Sl,J (aK x) h)/\(g=Ta->∀v h',J v h'->∃x:Sl,v=aK x)/\∀x:Sl,∀h',J (aK x) h'->Kt x h':=by
 refine⟨λv h'=>∃x,v=aK x/\Kt x h',λ_=>⟨s,rfl,E⟩,λc=>(by rw[f]at c;cases c),λ_ v h' ⟨x,e,_⟩=>⟨x,e⟩,λx h' ⟨b,e,H⟩=>?_⟩;have:x=b:=by unfold aK at e;injection e with e1 e2 e3;cases x;cases b;simp_all
 subst this;exact H
theorem SP{b:Nat}(n:M b=Td){h f:Tr}{w1 w2:List Value}(h1:Rd M .tree h w1)(m:Rd M .tree f w2)(k:w1.length=4)(o:w2.length=4):Rd (Mx M b (w1++w2).toArray) (.row .tree) [h,f] [aK ⟨Tc ⟨b,0,Td⟩,2,2⟩]:=by
 have le:Fr.le M (Mx M b (w1++w2).toArray):=λc cs e=>by unfold Mx;by_cases l:c=b;subst l;rw[n]at e;cases e;rw[za l];exact e
 refine⟨_,rfl,_,_,rfl,by simp,.inr ⟨b,0,_,rfl,by unfold Mx;rw[zb rfl],λi hi=>?_⟩⟩;have hi:i<2:=hi;rcases(by omega:i=0\/i=1)with rfl|rfl;have:cut (w1++w2).toArray (0+0*sz .tree) (sz .tree)=w1:=by show List.take 4 (List.drop 0 (w1++w2))=w1;rw[zc2,<-k,List.take_left]
 rw[this];exact Rd.mono le h1;have:cut (w1++w2).toArray (0+1*sz .tree) (sz .tree)=w2:=by show List.take 4 (List.drop 4 (w1++w2))=w2;rw[List.drop_left' k,<-o,zbw]
 rw[this];exact Rd.mono le m
theorem Aw{T:Tr}(h:RdV M .tree T (ij k s a b)):Rd M .tree T [.int .i64 k,.string s,aK a,aK b]:=by
 unfold RdV at h;simp only[gO,if_true]at h;obtain⟨cs,e,c⟩:=h;unfold ij at e;injection e with e;have:cs=[.int .i64 k,.string s,aK a,aK b]:=by have:=congrArg Array.toList e;simpa using this.symm
 rw[<-this];exact c
section
variable {gl : Fr} {b2 b29 : Nat} {k2 k29 : Int} {s2 : Bt} {a2 c2 a29 c29 : Sl} {h : zc} {M : Fr}
end
end
end Go.X
end
section
namespace Go.X
section
theorem yz(b:Nat)(I:Addr)(h:zc)(R:Value->zc->Prop) (H:∃s:Option Nat,zf h I=Tc (.map s)/\Qa Tp (zet 137 (.map s)) h (λG F=>∃k:Option Addr,G=.pointer k/\∃(o:zc->Prop) (p:zc->Nat),o F/\∀m:zc,o m->(Qa Tp (zep (.pointer k) Tb 0) m (λz l=>(z=.tuple #[.bool Tb]/\(Tb=Ta->Qa Tp (zeu (.pointer k)) l (λy B=>∃r u:Value,y=.tuple #[r,u]/\YX Tp b #[r] B (λx f=>∃e:Bool,x=.bool e/\((!e)=Ta->R (.tuple #[]) f)/\((!e)=Tb->(o f/\p f<p m)))))/\(Tb=Tb->R (.tuple #[]) l))\/∃C A:Value,z=.tuple #[.bool Ta,C,A]/\(Ta=Ta->Qa Tp (zeu (.pointer k)) l (λD E=>∃q w:Value,D=.tuple #[q,w]/\YX Tp b #[q] E (λt i=>∃c:Bool,t=.bool c/\((!c)=Ta->R (.tuple #[]) i)/\((!c)=Tb->(o i/\p i<p m)))))/\(Ta=Tb->R (.tuple #[]) l))))):
  kd Tp 183 #[.func (.yield b) #[] #[],.pointer (Tc I)] h R:=
 yY Tryz.mixed ⟨[],[(1,[])],[]⟩ [.func (.yield b) #[] #[],.pointer (Tc I)] (rs:=[]) (n:=14) Tryz.func183 (by kernel_rfl) (by kernel_rfl) (by kernel_rfl) (by kernel_rfl) (Eq.mp (by kernel_rfl) H)
theorem Z3(k:Sl)(f:Value)(h:zc)(R:Value->zc->Prop) (H:let c:zc:=zb4 h (.cells #[.slice k.a k.len k.cap] 22);∃(o:FuncId) (l:Array Value),f=.func (.func o) #[] l/\zo Tp o=Ta/\∀e:iI,(∀{q:Value} {m:zc} {p:Value->zc->Prop},m[(zax c+1)]?=Tc (.loop (e .ready Td))->lq Tp 13 (lc (codeOf Tryz.f247)) (kO (codeOf Tryz.f247)) e (zax c+1) p (putO [(0,[],.slice k.a k.len k.cap),(1,[],f),(2,[],.pointer (Tc ⟨zax h,0,Td⟩)),(4,[],.slice Td 0 0),(6,[],f)] (Tc 7) [] q) m->YX Tp (zax c+1) #[q] m p)->kd Tp o (#[.func (.yield (zax c+1)) #[] #[]]++l) (zb4 (zb4 c (.deferred (Tc []))) (.loop (e .ready Td))) λ_ r=>rK e (zax c+1) (λi=>∃b:Sl,zf i ⟨zax h,0,Td⟩=Tc (.slice b.a b.len b.cap)/\(i)[zax c]?=Tc (.deferred (Tc []))/\R (.slice b.a b.len b.cap) (Array.setIfInBounds i (zax c) (.deferred Td))) (λi=>(i)[zax c]?=Tc (.deferred (Tc []))/\R (.slice Td 0 0) (Array.setIfInBounds i (zax c) (.deferred Td))) r):
  XC Tp 247 #[.slice k.a k.len k.cap,f] h R:=
 GQ Tryz.mixed [.slice k.a k.len k.cap,f] (rs:=[.tmp 4]) (n:=13) Tryz.func247 (by kernel_rfl) (by kernel_rfl) (by kernel_rfl) (by kernel_rfl) H (pl:=[]) (by kernel_rfl)
theorem Z4(x0:Value)(r:Value)(n:Addr)(p:Value)(q:Value)(o:Bt)(rec:iI)(l:Nat)(K:Value->zc->Prop)(h:zc) (H:(h)[l]?=Tc (.loop (rec .ready Td))/\let e:zc:=Array.setIfInBounds h l (.loop (rec .busy Td));∃c:Sl,zf e n=Tc (.slice c.a c.len c.cap)/\let i:zc:=zb4 e (.cells #[.string o] 9);Qa Tp (zav #[22,22] 22 #[.slice c.a c.len c.cap,.slice (Tc ⟨zax e,0,Td⟩) 1 1]) i (λk m=>∃b:Sl,k=.slice b.a b.len b.cap/\XRunU Tp (zag 22 (.pointer (Tc n)) (.slice b.a b.len b.cap)) m (λf=>(f)[l]?=Tc (.loop (rec .busy Td))/\K (.bool Ta) (Array.setIfInBounds f l (.loop (rec .ready Td)))))):
  lq Tp 13 (lc (codeOf Tryz.f247)) (kO (codeOf Tryz.f247)) rec l K [(7,[],.string o),(0,[],x0),(1,[],r),(2,[],.pointer (Tc n)),(4,[],p),(6,[],q)] h:=
 Eq.mp (by kernel_rfl) H
end
section
theorem zam(k:FuncId)(i:Array Value)(l:Array Value)(h:zc)(R:Value->zc->Prop) (H:XC Tp 181 #[.func (.func k) i l] h (λb c=>∃d,b=aK d/\XC Tp 182 #[aK d] c (λe f=>e=.tuple #[]/\R (aK d) f))):
  XC Tp 109 #[.func (.func k) i l] h R:=
 XF ⟨[],[],[]⟩ [.tmp 2] 9 Tryz.func109 H
theorem jd(b:Option Nat)(h:zc)(R:Value->zc->Prop) (H:let a:=h.push (.cells #[.map b] 137);R (.func (.func 183) #[] #[.pointer (Tc ⟨h.size,0,Td⟩)]) a):
  XC Tp 110 #[.map b] h R:=
 XF ⟨[],[],[]⟩ [.tmp 2] 4 Tryz.func110 H
theorem Xa(f:FuncId)(e:Array Value)(i:Array Value)(h:zc)(R:Value->zc->Prop) (H:XC Tp 247 #[.slice Td 0 0,.func (.func f) e i] h (λb c=>∃d,b=aK d/\R (aK d) c)):
  XC Tp 181 #[.func (.func f) e i] h R:=
 XF ⟨[],[],[]⟩ [.tmp 2] 5 Tryz.func181 H
end
end Go.X
end
section
namespace Go.X
open Go Go.Proofs Go.Shelf Go.RowKit
section
def ztm:Go.Shelf.Ren:=⟨fun|190=>182|125=>249|258=>248|128=>305|129=>306|302=>296|303=>297|304=>298|305=>299|306=>300|307=>301|308=>302|309=>303|310=>304|333=>353|329=>354|330=>355|334=>356|335=>357|336=>358|344=>382|n=>n,fun|31=>22|9=>9|3=>3|46=>244|0=>0|51=>287|53=>272|4=>4|183=>281|182=>280|131=>182|5=>5|218=>316|222=>320|228=>333|229=>334|n=>n,fun|n=>n⟩
theorem IS:Go.Proofs.Lays.n190 Tp ztm:=by constructor <;> intros <;> kernel_rfl
open Go.Sort Go.RowKit in
theorem TW(blk off cap:Nat)(ss:List (List UInt8))(w:World)(f:Holds encStr w blk off ss.toArray)(b:blk<w.heap.size)(c:ss.length<4611686018427387904):
  Calls Tp 182 #[.slice (Tc ⟨blk,off,Td⟩) ss.length cap] w λe w'=>
   e=.returned (.tuple #[])/\∃n os,w'=grow (putRow encStr (Sort.ahead w n) blk off (ss.mergeSort λx y=>decide (x<=y)).toArray) os:=Any.slices_Sort_string IS blk off cap ss w f b c
open Go.RowKit Go.Sort in
theorem Wd(p:Option Addr)(cap:Nat)(w:World): Calls Tp 182 #[.slice p 0 cap] w λe w'=>e=.returned (.tuple #[])/\w'=w:=Any.slices_Sort_string_none IS p cap w
end
end Go.X
end
section
namespace Go.X
open Go Go.Lib
section
def xp(xs:List Bt):List Bt:=((xs.map lb).mergeSort λx y=>decide (x<=y)).map bl
theorem xC{xs ys:List Bt}(h:xs.Perm ys):xp xs=xp ys:=by unfold xp;rw[mergeSort_of_perm (h.map lb)]
theorem wa(xs:List Bt):(xp xs).Perm xs:=by
 have h:=(List.mergeSort_perm (xs.map lb) λx y=>decide (x<=y)).map bl;rw[zb6]at h;have e:bl ∘ lb=id:=by funext x;exact jL x
 rw[e,List.map_id]at h;exact h
theorem zw6(xs:List Bt):(xp xs).length=xs.length:=(wa xs).length_eq
end
end Go.X
end
section
namespace Go.X
open Go Go.X Go.Proofs Go.RowKit Go.Sort Go.Shelf
section
variable {h:zc} {s:Sl} {xs:List Bt} {K:Value -> zc -> Prop} {c m:Nat}
theorem XC.of_below{P:Program}{f:FuncId}{args:Array Value}{R:Value->zc->Prop}(H:∀B d,Calls P f args (mk B d h) λe w'=>∃v,e=.returned v/\w'.os=B.os/\w'.tape=B.tape/\w'.output=B.output/\R v w'.heap):XC P f args h R:=by intro B d;refine(H B d).mono ?_;rintro e w' ⟨v,rfl,h1,c,i,b⟩;refine⟨v,w'.drawn,w'.heap,rfl,?_,b⟩;cases w';simp only[mk]at *;simp_all
theorem By{base:Nat}(H:Owns h base 9 1 s (xs.map za1)):s.len=xs.length:=by have:=H.length;grind
theorem qcv{base:Nat}(H:Owns h base 9 1 s (xs.map za1))(t:xs.length<=1000000):
  XC Tp 182 #[.slice s.a s.len s.cap] h λv h'=>v=.tuple #[]/\Owns h' base 9 1 s ((xp xs).map za1)/\h.size<=h'.size/\∀i,i<h.size->(∀p,s.a=Tc p->i≠p.block)->h'[i]?=h[i]?:=by
 refine XC.of_below λB d=>?_;have z:s.len=xs.length:=By H;have k:(xs.map lb).length=xs.length:=by simp
 have c:(xp xs).map za1=((xs.map lb).mergeSort λx y=>decide (x<=y)).map encStr:=by unfold xp;rw[zb6];rfl
 rcases H.2 with⟨q,h0⟩|⟨g,cap,m,q,o,F,J,I,D,L⟩;have E:xs=[]:=zbb (by omega);subst E;rw[h0];refine(Wd s.a s.cap (mk B d h)).mono ?_;rintro e w' ⟨rfl,rfl⟩;exact⟨_,rfl,rfl,rfl,rfl,rfl,by rw[show xp []=[]from List.Perm.eq_nil (wa [])];exact H,zaf _,λ_ _ _=>rfl⟩;simp only[zbg]at q;obtain⟨A,_,rfl⟩:=q;have f:(mk B d h).heap[g]?=Tc (.cells m 9 (0,0)):=F;have r:g<(mk B d h).heap.size:=(zai.1 f).1;have G:Holds encStr (mk B d h) g 0 (xs.map lb).toArray:=holds_of_block f (by simp_all);have C:=TW g 0 s.cap (xs.map lb) (mk B d h) G r (by rw[k];omega);rw[k,<-z]at C;rw[A];refine C.mono ?_;rintro e w' ⟨rfl,n,os,rfl⟩;have b:=grownBy_sorted (w:=mk B d h) (g:=g) (n:=n) (os:=os) ((xs.map lb).mergeSort λx y=>decide (x<=y)).toArray;refine⟨_,rfl,b.os,b.tape,b.output,rfl,?_,b.size,λi hi l=>b.block i hi λe=>l _ rfl (by simpa using e)⟩;have u:=ownsRow_sorted (w:=mk B d h) (base:=base) (n:=n) (os:=os) (ss:=xs.map lb) (ts:=(xs.map lb).mergeSort λx y=>decide (x<=y)) (by simp) o f (by omega) I (by simpa using D);rw[<-c,k,<-z]at u;show World.ownsRow _ base _ 1 (.slice s.a s.len s.cap) s.len _;rw[A];exact u
theorem qsf:za3.underlying 137=Tc (.map 9 25):=by kernel_rfl
theorem WE:zo Tp 183=Ta:=by kernel_rfl
theorem IW:∀{xs ys:List Bt},xs.Nodup->(∀x∈xs,x∈ys)->xs.length<=ys.length
 |[],_,_,_=>zbn _
 |x::xs,ys,hn,hs=>by
  rw[zcv]at hn;have c:=hs x zaq;obtain⟨a,b,rfl⟩:=List.append_of_mem c;have:=IW (ys:=a++b) hn.2 λy e=>by grind
  grind
structure KyS (h:zc) (m:Nat) (rec:iI) (ps:List (Bt×Value)) (g:zc) (xs:List Bt) (sl:Sl):Prop where
 keep:Keep h.size h g
 d:g[h.size+1]?=Tc (.deferred (Tc []))
 rc:g[h.size+2]?=Tc (.loop (rec .ready Td))
 box:Blk g h.size #[aK sl]
 o:Owns g (h.size+4) 9 1 sl (xs.map za1)
 it:MapIt g (h.size+3) m (gM ps) (xs.reverse.map za1)
 nd:xs.Nodup
 sub:∀x∈xs,x∈ps.map (·.1)
 gz:h.size+4<=g.size
theorem R0(ps:List (Bt×Value)):(gM ps).map (·.1)=(ps.map (·.1)).map za1:=by unfold gM;simp
theorem RJ{ks:List Bt}(h:ks.Nodup):(ks.map za1).Nodup:=by grind
section
variable {h : zc} {m : Nat} {rec : iI} {ps : List (Bt × Value)} {g : zc} {xs : List Bt} {sl : Sl}
set_option maxRecDepth 100000 in
theorem KyS.round(S:KyS h m rec ps g xs sl)(hm:m<h.size)(hx:xs.length<=1000000){e:zc}{k:Bt}(u:MapIt e (h.size+3) m (gM ps) ((k::xs.reverse).map za1))(Y:e.size=g.size)(D:∀j,j≠h.size+3->e[j]?=g[j]?)(hk:k∉xs)(M:k∈ps.map (·.1)) {V J x0 I:Value} (O:∀g' y,KyS h m rec ps g' (xs++[k]) y->g'[h.size+3]?=e[h.size+3]?->g'[m]?=e[m]?->K (.bool Ta) g'):
  lq Tp 13 (lc (codeOf Tryz.f247)) (kO (codeOf Tryz.f247)) rec (h.size+2) K [(7,[],.string k),(0,[],x0),(1,[],I),(2,[],.pointer (Tc ⟨h.size,0,Td⟩)),(4,[],J),(6,[],V)] e:=by
 apply Z4;have gz:=S.gz;have ky:=S.keep.size;refine⟨by grind [rc],?_⟩;intro c;have G:∀j,j≠h.size+2->c[j]?=e[j]?:=λj l=>q9 l;have U:c[h.size+2]?=Tc (.loop (rec .busy Td)):=set_self (by omega);have z2:c.size=e.size:=zbc;clear_value c;have t:∀j,j≠h.size+2->j≠h.size+3->c[j]?=g[j]?:=λj a b=>(G j a).trans (D j b);have B:Blk c h.size #[aK sl]:=S.box.keep (t _ (by omega) (by omega));refine⟨sl,B.cell rfl,?_⟩;intro r;obtain⟨z,z3,Q⟩:=wq (g:=r) rfl;clear_value r;have P:Owns c (h.size+4) 9 1 sl (xs.map za1):=S.o.keep λp f=>by have:=S.o.base_le p f;grind
 have A:=P.keepN z;have hl:=By S.o;refine Zk elemStr A (src:=⟨Tc ⟨c.size,0,Td⟩,1,1⟩) (news:=[.string k]) (n:=r.size) ?_ rfl (by simp[Value.oneCell']) (by grind) (by grind) (by omega) λs' E q1 C F q4 q5=>⟨s',rfl,?_⟩;refine .inr ⟨c.size,0,rfl,by omega,λi v s=>?_⟩
 match i,s with
 |0,s=>cases s;exact Q.cell rfl
 have q:∀j,j<h.size+4->E[j]?=c[j]?:=λj l=>by rw[F j (by omega) λp f=>by have:=A.base_le p f;omega];exact z.get j (by omega)
 refine j5 Ij JL (B.keep (q _ (by omega))) (by simp) rfl λw H Z N=>?_;have x:∀j,j<h.size+4->j≠h.size->w[j]?=c[j]?:=λj l h0=>(N j h0).trans (q j l);have L:w[h.size+2]?=Tc (.loop (rec .busy Td)):=by rw[x _ (by omega) (by omega)];exact U
 refine⟨L,O _ s' ⟨?_,?_,set_self (by omega),?_,?_,?_,?_,?_,?_⟩ ?_ ?_⟩;refine S.keep.trans ⟨by grind,λj l=>?_⟩ (zaf _);grind;grind [d];exact Blk.keep H (q9 (by omega));have:Owns w (h.size+4) 9 1 s' ((xs++[k]).map za1):=by rw[zb9];exact C.keep λp f=>by have:=C.base_le p f;grind
 exact this.keep λp f=>by have:=this.base_le p f;grind
 rw[List.reverse_append];refine u.keep ?_ ?_;simp_all;grind;grind [nd];grind [sub];grind;simp_all;grind
end
set_option maxRecDepth 100000 in
theorem PL{ps:List (Bt×Value)}(C:Blk h c #[.map (Tc m)])(W:MapW h m (gM ps))(O:(ps.map (·.1)).Nodup)(hl:ps.length<=1000000) (Z:∀(h':zc) (sl:Sl) (xs:List Bt),Keep h.size h h'->Owns h' h.size 9 1 sl (xs.map za1)->xs.Perm (ps.map (·.1))->K (.slice sl.a sl.len sl.cap) h'):
  XC Tp 247 #[.slice Td 0 0,.func (.func 183) #[] #[.pointer (Tc ⟨c,0,Td⟩)]] h K:=by
 apply Z3 ⟨Td,0,0⟩;intro h1;obtain⟨U,Y,B1⟩:=wq (g:=h1) rfl;clear_value h1;have P:=W.lt;have hc:=C.lt;refine⟨_,_,rfl,WE,λrec L=>?_⟩;obtain⟨f,b⟩:∃f:zc,f=((h1.push (.deferred (Tc []))).push (.loop (rec .ready Td))):=⟨_,rfl⟩;have Q:Keep h1.size h1 f:=by rw[b];exact(Keep.push _ _ (zaf _)).trans (Keep.push _ _ (by simp)) (zaf _)
 have z4:f.size=h1.size+2:=by rw[b,zau,zau]
 have N:f[h1.size]?=Tc (.deferred (Tc [])):=by rw[b,zea,za (by simp)];exact w8 _ _
 have M:f[h1.size+1]?=Tc (.loop (rec .ready Td)):=by rw[b];have:=w8 (h1.push (.deferred (Tc []))) (.loop (rec .ready Td));rw[zau]at this;exact this
 rw[<-b];clear b;have l:Keep h.size h f:=U.trans Q (by omega);have E:h1.size=h.size+1:=Y;rw[E]at N M L ⊢;apply yz;refine⟨Tc m,(C.keep (l.get c hc)).cell rfl,?_⟩;have W4:MapW f m (gM ps):=W.keep (l.get m P);refine KE qsf W4 λh5 z5 t r=>⟨Tc ⟨f.size,0,Td⟩,rfl,λg=>∃xs sl,KyS h m rec ps g xs sl,λg=>leftN g (h.size+3) m,⟨[],⟨Td,0,0⟩,?_⟩,?_⟩;have F:f.size=h.size+3:=by omega
 rw[F]at r;exact⟨l.trans t (by omega),(t.get _ (by omega)).trans N,(t.get _ (by omega)).trans M,(B1.ofKeep Q).keep (t.get _ (by omega)),Owns.nil _ _ _ _,r,zeo,λx i=>(by cases i),by omega⟩;have F:f.size=h.size+3:=by omega
 rw[F];rintro g ⟨xs,sl,S⟩;have u:((gM ps).map (·.1)).Nodup:=by rw[R0];exact RJ O
 have w:xs.length<=1000000:=by have h1:=IW S.nd S.sub;rw[zaw]at h1;omega
 refine Em S.it u (by omega) (λn=>.inl ⟨rfl,(λi=>by cases i),λ_=>.inl ⟨S.rc,?_⟩⟩) λk v D V g1 y s z I H=>.inr ⟨k,v,rfl,λ_=>?_,λi=>by cases i⟩;have aa:=S.gz;refine⟨sl,?_,?_,Z _ sl xs ?_ ?_ ?_⟩;exact(S.box.keep (q9 (by omega))).cell rfl;rw[q9 (by omega)];exact S.d;refine S.keep.trans ⟨by simp,λj hj=>?_⟩ (zaf _);grind;refine(S.o.keep λp B=>?_).base (by omega);have:=S.o.base_le p B;grind;refine(List.perm_ext_iff_of_nodup S.nd O).2 λa=>⟨S.sub a,λha=>?_⟩;obtain⟨p,B,rfl⟩:=zb1.1 ha;have:=n (.string p.1,p.2) (zb1.2 ⟨p,B,rfl⟩);simp_all;obtain⟨⟨J,vv⟩,q,e⟩:=zb1.1 D;injection e with E e2;subst E;subst e2;have A:J∉xs:=λi=>V (zb1.2 ⟨J,List.mem_reverse.2 i,rfl⟩);refine JW s ⟨_,_,rfl,L ?_ ?_⟩;rw[I _ (by omega)];exact S.rc;refine S.round P w y z I A (zb1.2 ⟨_,q,rfl⟩) λg' G S' q1 q2=>⟨Ta,rfl,(λi=>by cases i),λ_=>⟨⟨_,G,S'⟩,?_⟩⟩;grind [leftN.keep]
theorem YL{ps:List (Bt×Value)}(C:Blk h c #[.map (Tc m)])(W:MapW h m (gM ps))(n:(ps.map (·.1)).Nodup)(k:ps.length<=1000000) (r:∀h' sl,Keep h.size h h'->Owns h' h.size 9 1 sl ((xp (ps.map (·.1))).map za1)->K (.slice sl.a sl.len sl.cap) h'):
  XC Tp 109 #[.func (.func 183) #[] #[.pointer (Tc ⟨c,0,Td⟩)]] h K:=by
 apply zam;apply Xa;refine PL C W n k λh1 sl xs e l b=>⟨sl,rfl,sl,rfl,?_⟩;have f:xs.length<=1000000:=by rw[b.length_eq,zaw];exact k
 refine XC.mono (qcv l f) ?_;rintro v h2 ⟨rfl,s,q,o⟩;refine⟨rfl,r h2 sl ⟨zbx e.size q,λi hi=>?_⟩ (by rw[<-xC b];exact s)⟩;refine(o i (zdj hi e.size) λp b=>?_).trans (e.get i hi);have:=(l.base_le p b).1;omega
end
end Go.X
end
section
namespace Go.X
open Go Go.Lib
section
def ie:List (Bt×Tr)->Bt->Tr
 |[],_=>.mk 0 (bl []) [] []
 |p::l,k=>if p.1=k then p.2 else ie l k
mutual
def ze:Tr->Tr
 |.mk k s ks xs=>if k=6 then .mk k s (xp ks) ((xp ks).map λq=>ie (ks.zip (sA xs)) q)else .mk k s [] (sA xs)
def sA:List Tr->List Tr
 |[]=>[]
 |x::l=>ze x::sA l
end
def Yf(v:Tr):Tr:=if jw v=Ta then ze v else .mk 0 (bl []) [] []
theorem Dp:∀l:List Tr,sA l=l.map ze
 |[]=>rfl
 |x::l=>by rw[sA,Dp l];rfl
theorem jj(v:Tr):ze v=if v.kind=6 then .mk v.kind v.text (xp v.keys) ((xp v.keys).map λq=>ie (v.keys.zip (v.items.map ze)) q)else .mk v.kind v.text [] (v.items.map ze):=by
 cases v with
 |mk k s ks xs=>rw[ze,Dp]
theorem vV(k:Bt):∀(ks:List Bt) (ys:List Tr),ks.length=ys.length->k∈ks->∃(j:Nat) (h1:j<ks.length) (l:j<ys.length),ks[j]=k/\ie (ks.zip ys) k=ys[j]/\∀us:List Value,us.length=ks.length->gR (ks.zip us) k=us[j]?
 |[],_,_,h=>by cases h
 |z::ks,[],h,_=>by simp at h
 |z::ks,y::ys,h,hk=>by
  by_cases hz:z=k;refine⟨0,by simp,by simp,hz,?_,λus b=>?_⟩;rw[zb8,ie,zb hz];rfl
  match us,b with
  |u::us,_=>rw[zb8,gR,zb hz];rfl
  have c:k∈ks:=by rcases zah.1 hk with e|e;simp_all;exact e
  obtain⟨j,h1,l,f,m,i⟩:=vV k ks ys (by simpa using h) c;refine⟨j+1,by simp;omega,by simp;omega,by simpa using f,?_,λus b=>?_⟩;rw[zb8,ie,za hz,m];rfl
  match us,b with
  |u::us,b=>rw[zb8,gR,za hz,i us (by simpa using b)];rfl
end
end Go.X
end
section
namespace Go.X
open Go Go.X Go.Proofs Go.RowKit
section
variable {ks:List Bt}
theorem Owns.frz{h g:zc}{M M':Fr}(L:Later h M g M'){s:Sl}{base:Nat}(o:Owns g base 9 1 s (ks.map za1))(B:h.size<=base)(D:ks.length<=1000000):
  ∃M2,Later h M g M2/\(∀c,c<base->M2 c=M' c)/\Rd M2 (.row .str) ks [aK s]:=by
 have n:=By o;rcases o.2 with⟨k,h0⟩|⟨b,cap,f,k,m,p,A,C,z,r⟩;have l:ks=[]:=zbb (by omega);subst l;simp only[zbg]at k;refine⟨M',L,λ_ _=>rfl,⟨_,rfl,s.a,s.cap,?_,⟨by simp,by simp⟩,.inl rfl⟩⟩;show aK s=_;unfold aK;rw[h0];rfl;simp only[zbg]at k;obtain⟨u,_,y⟩:=k;have w:Blk g b f:=⟨_,p⟩;refine⟨MxL M' g [b],⟨L.keep,L.le.trans (lN L.ag _),λx l=>?_,MxL.ag L.ag _⟩,λc y=>?_,⟨_,rfl,s.a,s.cap,?_,⟨by omega,by omega⟩,.inr ⟨b,0,f,u,MxL.at (by simp) w,λi hi=>?_⟩⟩⟩;unfold MxL;rw[za (by simp;omega)];exact L.old x l;unfold MxL;grind;show aK s=_;unfold aK;rw[n];show cut f (0+i*1) 1=[.string ks[i]];apply zbt;intro q;rw[yd];by_cases t:q<1;have:q=0:=by omega
 subst this;rw[zb t];have e:(f.toList.take (s.len*1))[i]?=(ks.map za1)[i]?:=by rw[r]
 grind;simp_all
structure SrS (h:zc) (M:Fr) (r o lo:Nat) (k:Int) (s:Bt) (sk:Sl) (xs:List Tr) (g:zc) (M':Fr) (so:Sl) (bs:List Nat):Prop where
 L:Later h M g M'
 res:Blk g r #[.int .i64 0,.string ⟨#[]⟩,.slice Td 0 0,.slice Td 0 0]
 out:Blk g o #[.int .i64 k,.string s,aK sk,aK so]
 row:ORow lo g M' .tree xs so bs
 nO:M' o=Td
 nR:M' r=Td
 hr:h.size<=r
 ro:r<o
 ol:o<lo
 lg:lo<=g.size
section
variable {h : zc} {M : Fr} {r o lo : Nat} {k : Int} {s : Bt} {sk : Sl} {xs : List Tr} {g : zc} {M' : Fr} {so : Sl} {bs : List Nat}
theorem SrS.add(S:SrS h M r o lo k s sk xs g M' so bs)(hn:xs.length<=1000000){O:zc}{M1:Fr}(m:Later g M' O M1){x:Tr}{xk xi:Sl}(Q:RdV M1 .tree x (.agg #[.int .i64 x.kind,.string x.text,aK xk,aK xi])){K:zc->Prop}
  (hK:∀g' H q,SrS h M r o lo k s sk (xs++[x]) g' M1 H q->(∀j,j<lo->j≠o->g'[j]?=g[j]?)->K g'):
  let i:=O.push (.cells #[.int .i64 x.kind,.string x.text,aK xk,aK xi] 25)
  Qa Tp (zav #[23,23] 23 #[aK so,.slice (Tc ⟨O.size,0,Td⟩) 1 1]) i (λv n=>∃z:Sl,v=aK z/\XRunU Tp (zag 23 (.pointer (Tc (zae ⟨o,0,Td⟩ 3))) (aK z)) n K):=by
 intro i;obtain⟨B,ae,U⟩:=wq (g:=i) rfl;clear_value i;have z1:=m.keep.size;have P:=S.hr;have J:=S.ro;have y:=S.ol;have af:=S.lg;have p:Later g M' i M1:=m.trans (Later.same m.ag B);have u:=S.row.call p;have rd:Rd M1 .tree x [.int .i64 x.kind,.string x.text,aK xk,aK xi]:=by
  unfold RdV at Q;simp only[gO,if_true]at Q;obtain⟨cs,e,P⟩:=Q;injection e with e;have:cs=[.int .i64 x.kind,.string x.text,aK xk,aK xi]:=by have:=congrArg Array.toList e;simpa using this.symm
  rw[<-this];exact P
 refine ORow.app Br (by omega) p.ag u (by omega) U rd hn λs' n q l aa ab C=>⟨s',rfl,?_⟩;have F:∀c∈bs,lo<=c/\c<g.size/\M' c=Td:=S.row.own;have t:∀j,j<lo->n[j]?=g[j]?:=λj D=>by rw[C j (by omega) (λV=>by grind),B.get j (by omega)];exact m.keep.get j (by omega)
 rw[qe];refine j5 EP Fx (S.out.keep (t o y)) (by simp) rfl λw u1 u3 N=>?_;have f:∀j,j<lo->j≠o->w[j]?=g[j]?:=λj D h0=>(N j h0).trans (t j D);have A:∀c∈q,lo<=c/\c<n.size/\M1 c=Td:=l.own;have hg:=S.L.keep.size;refine hK w s' q ⟨⟨⟨by omega,λj D=>?_⟩,S.L.le.trans m.le,λb Z=>?_,?_⟩,?_,u1,?_,?_,?_,P,J,y,by omega⟩ f;rw[f j (by omega) (by omega)];exact S.L.keep.get j D;rw[m.old b (by omega)];exact S.L.old b Z;intro c cs e;have E:=p.ag.lt e;have I:c∉bs:=λV=>by obtain⟨_,h1,Y⟩:=F c V;rw[m.old c h1,Y]at e;cases e
 have G:c≠o:=λh=>by subst h;rw[m.old c (by omega),S.nO]at e;cases e
 rw[N c G,C c E I];exact p.ag c cs e;exact S.res.keep (f r (by omega) (by omega));exact l.frame (λc E=>N c (by grind)) (Fr.le.refl _) λc E=>(A c E).2.2;rw[m.old o (by omega)];exact S.nO;rw[m.old r (by omega)];exact S.nR
theorem SrS.fin(S:SrS h M r o lo k s sk xs g M' so bs)(O:xs.length<=1000000)(I:Rd M' (.row .str) ks [aK sk]){w:Tr}(N:Tr.mk k s ks xs=w):
  ∃(D:Int) (A:Bt) (x u:Sl),zd g ⟨o,0,Td⟩ 0 [.int .i64 D,.string A,aK x,aK u]/\XRunU Tp (zag 25 (.pointer (Tc ⟨r,0,Td⟩)) (.agg #[.int .i64 D,.string A,aK x,aK u])) g λi=>
   ∃(y:Int) (E:Bt) (z B:Sl),zd i ⟨r,0,Td⟩ 0 [.int .i64 y,.string E,aK z,aK B]/\∃M2 q,Later h M i M2/\Jl M2 [.tree] q (.agg #[.int .i64 y,.string E,aK z,aK B])/\q=w:=by
 refine⟨k,s,sk,so,S.out.ld (cs:=[_,_,aK sk,aK so]),?_⟩;refine Wb S.res λm t U Q=>⟨k,s,sk,so,Q.ld (cs:=[_,_,aK sk,aK so]),?_⟩;have V:=S.hr;have H:=S.ro;have F:=S.ol;have J:=S.lg;have p:∀c∈bs,lo<=c/\c<g.size/\M' c=Td:=S.row.own;have f:AgM M' m:=λc cs e=>by rw[t c (λh=>by grind [nR])];exact S.L.ag c cs e
 have l:ORow lo m M' .tree xs so bs:=S.row.frame (λc n=>t c (by grind)) (Fr.le.refl _) λc n=>(p c n).2.2;have C:Later h M m M':=⟨⟨by omega,λj P=>by rw[t j (by omega)];exact S.L.keep.get j P⟩,S.L.le,S.L.old,f⟩;refine⟨MxL M' m bs,_,⟨C.keep,C.le.trans (lN f bs),λb G=>?_,MxL.ag f bs⟩,Y5.2 (zn (v:=.mk k s ks xs) (I.mono (lN f bs)) (l.rd f (λc n=>n) O)),N⟩;unfold MxL;rw[za (λY=>by grind)];exact S.L.old b G
end
set_option maxRecDepth 100000 in
set_option maxHeartbeats 2000000 in
theorem zS:∀(n:Nat) (v:Tr),n<=1000000->bR v<=n->j7 zh v=Ta->Sm v->∀(h:zc) (M:Fr) (u:Value),AgM M h->RdV M .tree v u->PX Tp 66 #[u] h M [.tree] (λq=>q=ze v)
 |0,v,_,hz,_,_=>by have:=Ja v;omega
 |n+1,v,hn,hz,hok,hsm=>by
  intro h M u ag hu;have aQ:=hu;obtain⟨sk,si,rfl,rk,ri⟩:=yj hu;have f:=hok;rw[y9,zan]at f;have be:v.items.length<=1000000:=by have:=J4 v.items;rw[Y9]at hz;omega
  have ih:∀(i:Nat) (hi:i<v.items.length) (h:zc) (M:Fr) (u:Value),AgM M h->RdV M .tree v.items[i] u->PX Tp 66 #[u] h M [.tree] (λq=>q=ze v.items[i]):=λi hi=>by
   have hm:=zay hi;have hs:=yl hm;have ak:j7 zh v.items[i]=Ta:=by rw[j8,zas]at f;exact f.2 _ hm
   exact zS n v.items[i] (by omega) (by omega) ak (hsm.item hm)
  obtain⟨li,_,_⟩:=rowLen ri;apply PX.of;apply S0 v.kind v.text sk si;intro h1;obtain⟨k1,z1,B1⟩:=wq (g:=h1) rfl;clear_value h1;intro l;obtain⟨k2,z2,R2⟩:=wq (g:=l) rfl;clear_value l;have B2:=B1.ofKeep k2;refine⟨v.kind,B2.cellAdd (o:=0) (k:=0) rfl,v.text,B2.cellAdd (o:=0) (k:=1) rfl,?_⟩;intro h5;obtain⟨k5,z5,O5⟩:=wq (g:=h5) rfl;clear_value h5;refine Wb (sk:=⟨Td,0,0⟩) (si:=⟨Td,0,0⟩) O5 λZ f6 z6 O6=>?_;have k6:Keep l.size l Z:=⟨by omega,λj C=>by rw[f6 j (by omega)];exact k5.get j C⟩;have I:Keep h.size h Z:=(k1.trans k2 (by omega)).trans k6 (by omega);have B6:=B2.ofKeep k6;have R6:=R2.ofKeep k6;have aC:=ag.keep I;refine⟨v.kind,B6.cellAdd (o:=0) (k:=0) rfl,λhx=>?_,λhx=>?_⟩;have Z:v.kind≠6:=by simpa using hx
  have hS:ze v=.mk v.kind v.text [] (v.items.map ze):=by rw[jj,za Z]
  refine⟨si,B6.cellAdd (o:=0) (k:=3) rfl,λi g=>∃(m:Nat) (M':Fr) (so:Sl) (bs:List Nat),i=(m:Int)/\m<=v.items.length/\SrS h M h1.size l.size (l.size+1) v.kind v.text ⟨Td,0,0⟩ ((v.items.take m).map ze) g M' so bs,λi _=>v.items.length-i.toNat,⟨0,M,⟨Td,0,0⟩,[],rfl,zbn _,⟨Later.same ag I,R6,O6,ORow.nil,ag.none (by omega),ag.none (by omega),by omega,by omega,by omega,by omega⟩⟩,?_⟩;rintro i g ⟨m,M',so,bs,rfl,hm,S⟩;have s:=S.L.ag;refine⟨λJ=>?_,λJ=>?_⟩;have b:m<v.items.length:=by have:=zB J;omega
  obtain⟨a,ck,ci,ea,aO,t1,t2⟩:=lF s (ri.mono S.L.le) b;refine⟨a,⟨ea,by omega,by omega⟩,v.items[m].kind,v.items[m].text,ck,ci,by rw[zao];exact aO,?_⟩;intro ap;obtain⟨aI,a6,aF⟩:=wq (g:=ap) rfl;clear_value ap;refine Wb aF λV aG aZ aM=>?_;have ax:Keep g.size g V:=⟨by omega,λj C=>by rw[aG j (by omega)];exact aI.get j C⟩;have a8:=S.out.lt;refine⟨so,(S.out.ofKeep ax).cellAdd (o:=0) (k:=3) rfl,v.items[m].kind,v.items[m].text,ck,ci,aM.ld (cs:=[_,_,aK ck,aK ci]),?_⟩;have au:Later g M' V M':=Later.same s ax;refine(ih m b _ _ _ au.ag (zn t1 t2)).go λw aS M2 q D t hq=>?_;subst hq;obtain⟨xk,xi,rfl,y1,y2⟩:=yj (Y5.1 t);have a1:=D.keep.size;have ho:aS[l.size]?=V[l.size]?:=D.keep.get _ (by omega);refine⟨_,_,xk,xi,rfl,by rw[qe];exact ho,?_⟩;intro bg;refine⟨by rw[qe];grind,S.add (by grind) (au.trans D) (zn y1 y2) λg' H G S' _=>⟨⟨m+1,M2,H,G,by rw[Ze b (by omega)],b,?_⟩,?_⟩⟩;rw[zar b,zb9];exact S';grind [Ze];have b:m=v.items.length:=by have:=zC J;omega
  subst b;rw[zbw]at S;exact S.fin (by simp_all) l6 hS.symm;have P:v.kind=6:=by simpa using hx
  have hS:ze v=.mk v.kind v.text (xp v.keys) ((xp v.keys).map λq=>ie (v.keys.zip (v.items.map ze)) q):=by rw[jj,zb P]
  have r:=f.1;have aL:v.keys.Nodup:=by unfold zh xn at r;simp[P]at r;exact r.1.1.2
  have aH:v.keys.length=v.items.length:=by unfold zh at r;simp[P]at r;exact r.1.2
  refine⟨v.kind,v.text,sk,si,B6.ld (cs:=[_,_,aK sk,aK si]),?_⟩;refine yP aL aH (by omega) aC aQ λbr m us ai aY bu aV an=>⟨Tc m,rfl,?_⟩;have bo:=ai.size;apply jd;intro Y;obtain⟨ab,ba,aA⟩:=wq (g:=Y) rfl;clear_value Y;have N:MapW Y m (gM (v.keys.zip us)):=an.keep (ab.get m an.lt);have aE:(v.keys.zip us).map (·.1)=v.keys:=List.map_fst_zip (by omega);refine⟨_,rfl,YL aA N (by grind) (by simp;omega) λE sl F ar=>⟨sl,rfl,?_⟩⟩;rw[aE]at ar;have bj:=F.size;have bm:(xp v.keys).length=v.keys.length:=zw6 _;have z:Keep Z.size Z E:=(ai.trans ab (by omega)).trans F (by omega);have ah:Keep h.size h E:=I.trans z (by omega);obtain⟨M2,D,B,O⟩:=Owns.frz (Later.same ag ah) ar (by omega) (by omega);have aU:Blk E l.size #[.int .i64 v.kind,.string v.text,aK ⟨Td,0,0⟩,aK ⟨Td,0,0⟩]:=O6.keep (z.get _ (by omega));have ay:M2 l.size=Td:=by rw[B _ (by omega)];exact ag.none (by omega)
  have aT:M2 h1.size=Td:=by rw[B _ (by omega)];exact ag.none (by omega)
  rw[qe];refine j5 Ke Hy aU (by simp) rfl λy ae bi A=>?_;have az:Later h M y M2:=⟨⟨by omega,λj C=>by rw[A j (by omega)];exact D.keep.get j C⟩,D.le,D.old,λc cs e=>by rw[A c (λh=>by simp_all)];exact D.ag c cs e⟩;have af:MapW y m (gM (v.keys.zip us)):=N.keep ((A m (by omega)).trans (F.get m N.lt));have aj:=af.lt;refine⟨sl,Blk.cell (o:=2) ae rfl,λi g=>∃(p:Nat) (M':Fr) (so:Sl) (bs:List Nat),i=(p:Int)/\p<=(xp v.keys).length/\SrS h M h1.size l.size y.size v.kind v.text sl (((xp v.keys).take p).map λq=>ie (v.keys.zip (v.items.map ze)) q) g M' so bs/\Fr.le M2 M'/\(∀j,j<y.size->j≠l.size->g[j]?=y[j]?),λi _=>(xp v.keys).length-i.toNat,⟨0,M2,⟨Td,0,0⟩,[],rfl,zbn _,⟨az,R6.keep ((A _ (by omega)).trans (z.get _ (by omega))),ae,ORow.nil,ay,aT,by omega,by omega,by omega,zaf _⟩,Fr.le.refl _,λ_ _ _=>rfl⟩,?_⟩;obtain⟨bh,_,_⟩:=rowLen O;rintro i g ⟨p,M',so,bs,rfl,hp,S,U,fg⟩;have s:=S.L.ag;refine⟨λJ=>?_,λJ=>?_⟩;have b:p<(xp v.keys).length:=by have:=zB J;omega
  obtain⟨a,aJ,x,aN,aB⟩:=mJ s (O.mono U) b (i:=(p:Int)) rfl (L:=sl.len) rfl (Q:=λx=>x=(xp v.keys)[p]) rfl;subst aB;refine⟨a,aJ,(xp v.keys)[p],aN,so,S.out.cellAdd (o:=0) (k:=3) rfl,?_⟩;have aP:(xp v.keys)[p]∈v.keys:=(wa v.keys).mem_iff.1 (zay b);obtain⟨j,j1,j2,e1,e2,e3⟩:=vV (xp v.keys)[p] v.keys (v.items.map ze) (by simp_all) aP;rw[zaw]at j2;have am:j<us.length:=by omega
  obtain⟨ck,ci,eu,t1,t2⟩:=yj (aV j j2 am);have wg:MapW g m (gM (v.keys.zip us)):=af.keep (fg m aj (by omega));refine⟨v.items[j].kind,v.items[j].text,ck,ci,?_,rfl,?_⟩;have:=Xs mapVal wg.at (xp v.keys)[p] Tb;have eg:jE (v.keys.zip us) (xp v.keys)[p] (.agg #[.int .i64 0,.string ⟨#[]⟩,.slice Td 0 0,.slice Td 0 0])=us[j]:=by unfold jE;rw[e3 us (by omega),zaj am];rfl
  rw[za (by simp),eg,eu]at this;exact this;refine(ih j j2 _ _ _ s (zn (t1.mono S.L.le) (t2.mono S.L.le))).go λw aa M3 q L3 t hq=>?_;subst hq;obtain⟨xk,xi,rfl,y1,y2⟩:=yj (Y5.1 t);have bq:=L3.keep.size;have a7:=S.lg;have ho:aa[l.size]?=g[l.size]?:=L3.keep.get _ (by omega);refine⟨_,_,xk,xi,rfl,by rw[qe];exact ho,?_⟩;intro bn;refine⟨by rw[qe];exact((Keep.push aa _ (zaf _)).get l.size (by omega)).trans ho,S.add (by grind) L3 (zn y1 y2) λg' H G S' f'=>⟨⟨p+1,M3,H,G,by rw[Ze b (by omega)],b,?_,U.trans L3.le,λj C h0=>(f' j C h0).trans (fg j C h0)⟩,?_⟩⟩;rw[zar b,zb9,zbh,List.map_nil,e2,zdu];exact S';show(xp v.keys).length-(zaa .i64 ((p:Int)+1)).toNat<(xp v.keys).length-(p:Int).toNat;rw[Ze b (by omega)];omega;have b:p=(xp v.keys).length:=by have:=zC J;omega
  subst b;rw[zbw]at S;exact S.fin (by simp_all) (O.mono U) hS.symm
end
end Go.X
end
section
namespace Go.X
open Go Go.Lib
section
variable {xs ys:List Tr} {α:Type} {v:Tr}
theorem qcz(h:xs.Perm ys):Z0 xs=Z0 ys:=by
 induction h with
 |nil=>rfl
 |cons x _ c=>rw[Z0,Z0,c]
 |swap x y l=>simp only[Z0];omega
 |trans _ _ a b=>rw[a,b]
theorem LG(h:xs.Perm ys):Jp xs=Jp ys:=by
 induction h with
 |nil=>rfl
 |cons x _ c=>rw[Jp,Jp,c]
 |swap x y l=>simp only[Jp];omega
 |trans _ _ a b=>rw[a,b]
theorem Py{xs ys:List Nat}(h:xs.Perm ys):xs.sum=ys.sum:=by grind
theorem Eb{p:α->Bool}{xs ys:List α}(h:xs.Perm ys):xs.all p=ys.all p:=by grind
theorem qK:∀(ks:List Bt) (ys:List Tr),ks.Nodup->ks.length=ys.length->(ks.map λq=>(q,ie (ks.zip ys) q))=ks.zip ys
 |[],ys,_,_=>by simp
 |k::ks,[],_,h=>by simp at h
 |k::ks,y::ys,hn,h=>by rw[zcv]at hn;rw[zbh,zb8];congr 1;rw[ie,zb rfl];rw[<-qK ks ys hn.2 (by simpa using h)];refine zds λq b=>?_;have:k≠q:=λe=>hn.1 (e ▸ b);rw[ie,za this];congr 2;exact qK ks ys hn.2 (by simpa using h)
structure SrtF (v w:Tr):Prop where
 k:w.kind=v.kind
 t:w.text=v.text
 kp:w.keys.Perm v.keys
 ip:w.items.Perm (v.items.map ze)
 zp:(w.keys.zip w.items).Perm (v.keys.zip (v.items.map ze))
theorem oy(b:zh v=Ta)(c:v.kind≠6):v.keys=[]:=by unfold zh at b;grind
theorem Z5(b:zh v=Ta)(c:v.kind=6):v.keys.Nodup/\v.keys.length=v.items.length:=by unfold zh xn at b;simp_all
theorem J6(h:zh v=Ta):SrtF v (ze v):=by
 rw[jj];by_cases b:v.kind=6;rw[zb b];obtain⟨i,m⟩:=Z5 h b;have hz:=qK v.keys (v.items.map ze) i (by simp_all);have c:=(wa v.keys).map λq=>(q,ie (v.keys.zip (v.items.map ze)) q);rw[hz]at c;have e:∀l:List Bt,l.zip (l.map λq=>ie (v.keys.zip (v.items.map ze)) q)=l.map λq=>(q,ie (v.keys.zip (v.items.map ze)) q):=by
  intro l;induction l with
  |nil=>rfl
  |cons x l k=>simp_all
 refine⟨rfl,rfl,wa _,?_,?_⟩;have:=c.map (·.2);rw[zb6,List.map_snd_zip (by simp_all)]at this;exact this;simp_all;rw[za b];have f:=oy h b;exact⟨rfl,rfl,by rw[f],.refl _,by rw[f]⟩
theorem NH{a:List α}:a.isEmpty=decide (a.length=0):=by grind
theorem Mj{a b:List Bt}(h:a.Perm b):xn a=xn b:=by unfold xn;grind
theorem VS{v w:Tr}(h1:w.kind=v.kind)(b:w.text=v.text)(e:w.keys.length=v.keys.length)(f:w.items.length=v.items.length)(c:xn w.keys=xn v.keys):zh w=zh v:=by unfold zh;grind [NH]
theorem Gw(c:Bool)(nd lv:Nat)(ps:List Bs):(Bl c nd lv ps).length+(if ps=[]then 0 else 1)=(ps.map λp=>p.length+(1+(mC c nd lv).length)).sum:=by
 cases ps with
 |nil=>rfl
 |cons p ps=>
  have:∀b:List Bs,(b.flatMap λq=>44::(mC c nd lv++q)).length=(b.map λp=>p.length+(1+(mC c nd lv).length)).sum:=by
   intro b;induction b with
   |nil=>rfl
   |cons q b e=>grind
  rw[Bl,zat,zat,this,zbh,List.sum_cons,za (by simp)];omega
theorem IN{b:Bool}{nd lv:Nat}{ps c:List Bs}(h:(ps.map zdh).Perm (c.map zdh)):(nU b nd lv ps).length=(nU b nd lv c).length:=by
 have e:(ps=[])↔(c=[]):=by have:=h.length_eq;rw[zaw,zaw]at this;rw[<-zbq,<-zbq,this]
 have h1:=Gw b nd (lv+1) ps;have i:=Gw b nd (lv+1) c;have f:=Py (h.map λn=>n+(1+(mC b nd (lv+1)).length));rw[zb6,zb6]at f;have f:(ps.map λp=>p.length+(1+(mC b nd (lv+1)).length)).sum=(c.map λp=>p.length+(1+(mC b nd (lv+1)).length)).sum:=f;unfold nU;grind
theorem Gq{α β γ:Type}(f:α->β->γ):∀(a:List α) (b:List β),List.zipWith f a b=(a.zip b).map λp=>f p.1 p.2
 |[],_=>by simp
 |_::_,[]=>by simp
 |x::a,y::b=>by rw[List.zipWith_cons_cons,zb8,zbh,Gq f a b]
structure SrtG (v:Tr):Prop where
 sz:bR (ze v)=bR v
 dp:bK (ze v)=bK v
 okv:j7 mA (ze v)=j7 mA v
 nok:j7 zh (ze v)=Ta
 tx:∀m,iE m v->iE m (ze v)
 len:∀(ln:Bool) (N lv:Nat),(iT ln N (ze v) lv).length=(iT ln N v lv).length
theorem Ly{f:Tr->Tr}:∀{l:List Tr},(∀x∈l,bR (f x)=bR x)->Z0 (l.map f)=Z0 l
 |[],_=>rfl
 |x::l,h=>by rw[zbh,Z0,Z0,h x zaq,Ly λy b=>h y (zal _ b)]
theorem Ev{f:Tr->Tr}:∀{l:List Tr},(∀x∈l,bK (f x)=bK x)->Jp (l.map f)=Jp l
 |[],_=>rfl
 |x::l,h=>by rw[zbh,Jp,Jp,h x zaq,Ev λy b=>h y (zal _ b)]
theorem Dc:∀(n:Nat) (v:Tr),bR v<=n->j7 zh v=Ta->SrtG v
 |0,v,h,_=>by have:=Ja v;omega
 |n+1,v,hz,hok=>by
  rw[y9,zan,j8,zas]at hok;obtain⟨o,f⟩:=hok;have S:=J6 o;have e:∀x∈v.items,SrtG x:=λx b=>Dc n x (by have:=yl b;omega) (f x b);have l:zh (ze v)=zh v:=VS S.k S.t S.kp.length_eq (by rw[S.ip.length_eq,zaw]) (Mj S.kp);refine⟨?_,?_,?_,?_,λm h=>?_,λc N lv=>?_⟩;rw[Y9,Y9 v,qcz S.ip,Ly λx b=>(e x b).sz];rw[W8,W8 v,LG S.ip,Ev λx b=>(e x b).dp];rw[y9,y9 _ v,j8,j8,Eb S.ip,zey];have u:mA (ze v)=mA v:=by unfold mA;rw[l,S.k]
  rw[u];congr 1;rw[za7,zas,zas];exact⟨λa x b=>by rw[<-(e x b).okv];exact a x b,λa x b=>by show j7 mA (ze x)=Ta;rw[(e x b).okv];exact a x b⟩;rw[y9,l,o,zcq,j8,Eb S.ip,zey,zas];exact λx b=>(e x b).nok;rw[mw]at h ⊢;obtain⟨⟨h1,r,s⟩,w⟩:=h;refine⟨⟨by rw[S.t];exact h1,by rw[S.kp.length_eq];exact r,λk f=>s k (S.kp.mem_iff.1 f)⟩,ov.2 λx b=>?_⟩;obtain⟨y,i,rfl⟩:=zb1.1 (S.ip.mem_iff.1 b);exact(e y i).tx m (ov.1 w y i);rw[KV,KV (v:=v),S.k,S.t];split;rfl;split;rfl;split;simp only[zat,zbi];congr 2;refine IN ?_;rw[zb6,zb6];have h1:=S.ip.map λx=>(iT c N x (lv+1)).length;rw[zb6]at h1;refine h1.trans ?_;have:v.items.map ((λx=>(iT c N x (lv+1)).length) ∘ ze)=v.items.map (zdh ∘ λx=>iT c N x (lv+1)):=zds λx b=>(e x b).len c N (lv+1);rw[this];split;simp only[zat,zbi];congr 2;refine IN ?_;have conv:∀(ks:List Bt) (xs:List Tr),(List.zipWith (mr c) ks (xs.map λx=>iT c N x (lv+1))).map zdh=(ks.zip xs).map λp=>(mr c p.1 (iT c N p.2 (lv+1))).length:=by intro ks xs;rw[Gq,List.zip_map_right,zb6,zb6];rfl
  rw[conv,conv];have h1:=S.zp.map λp=>(mr c p.1 (iT c N p.2 (lv+1))).length;refine h1.trans ?_;rw[List.zip_map_right,zb6];have:(v.keys.zip v.items).map ((λp=>(mr c p.1 (iT c N p.2 (lv+1))).length) ∘ Prod.map id ze)=(v.keys.zip v.items).map λp=>(mr c p.1 (iT c N p.2 (lv+1))).length:=zds λp q=>by have:=(e p.2 (List.of_mem_zip q).2).len c N (lv+1);show(mr c p.1 (iT c N (ze p.2) (lv+1))).length=_;unfold mr;simp_all
  rw[this];rfl
theorem Bo(h:jw v=Ta):zy (ze v)=zy v:=by unfold jw at h;rw[zan]at h;have S:=Dc (bR v) v (zaf _) h.2;have e:∀w:Tr,zy w=(Z1 w&&j7 mA w):=λw=>rfl;rw[e,e,S.okv];unfold Z1;rw[S.sz,S.dp]
theorem OV(h:zy v=Ta):jw v=Ta:=by have e:zy v=(Z1 v&&j7 mA v):=rfl;rw[e,zan]at h;unfold jw;rw[h.1,zcq];exact Jv (λx b=>by unfold mA at b;simp_all) v h.2
theorem Kf(h:Sm v):Sm (Yf v):=by unfold Yf;by_cases b:jw v=Ta;rw[zb b];unfold jw at b;rw[zan]at b;have S:=Dc (bR v) v (zaf _) b.2;exact⟨by rw[S.sz];exact h.sz,S.tx _ h.tx⟩;rw[za b];exact⟨by decide,by rw[mw];exact⟨⟨by decide,by decide,by decide⟩,trivial⟩⟩
theorem Um:zy (Yf v)=zy v:=by
 unfold Yf;by_cases b:jw v=Ta;rw[zb b];exact Bo b;rw[za b];cases hr:zy v with
 |true=>exact absurd (OV hr) b
 |false=>rfl
end
end Go.X
end
section
namespace Go.X
open Go Go.X Go.Proofs Go.RowKit
set_option maxRecDepth 100000 in
section
theorem vt{gl:Fr}(S:GL gl){v:Tr}(N:Sm v){R:Tr->Prop}(o:R (Yf v)):PC Tp gl 31 [Arg.mk .tree v] [.tree] R:=by
 intro h M vs P ag ha
 match vs,ha with
 |[u],⟨D,_⟩=>
  have D:RdV M .tree v u:=D;have y:=D;obtain⟨sk,si,rfl,rk,ri⟩:=yj D;apply PX.of;apply WS v.kind v.text sk si;intro h1;obtain⟨O,z1,B1⟩:=wq (g:=h1) rfl;clear_value h1;intro C;obtain⟨k2,z2,U⟩:=wq (g:=C) rfl;clear_value C;have H:=B1.ofKeep k2;have F:Keep h.size h C:=O.trans k2 (by omega);have J:Later h M C M:=Later.same ag F;refine⟨v.kind,v.text,sk,si,H.ld (cs:=[_,_,aK sk,aK si]),?_⟩;refine(oq S N (R:=λr=>r=jw v) rfl).go (vs:=[.agg #[.int .i64 v.kind,.string v.text,aK sk,aK si]]) P J.ag (zi y zq) λw Z E r n p hr=>?_;subst hr;have z8:=n.keep.size;have I:=U.keep (n.keep.get h1.size (by omega));have B8:=H.keep (n.keep.get h.size (by omega));have G:E h1.size=Td:=by rw[n.old _ (by omega)];exact ag.none (by omega)
  have A:=J.trans n;have l:∀{g g':zc} {M':Fr},Later h M g M'->M' h1.size=Td->(∀j,j≠h1.size->g'[j]?=g[j]?)->g'.size=g.size->Later h M g' M':=λ {g g' M'} L hn f z=>⟨⟨by have:=L.keep.size;omega,λj hj=>by rw[f j (by omega)];exact L.keep.get j hj⟩,L.le,L.old,λc cs e=>by rw[f c (λh=>by subst h;rw[hn]at e;cases e)];exact L.ag c cs e⟩;refine⟨_,dK p,λb=>?_,λb=>?_⟩;have b:jw v=Tb:=by simpa using b
  unfold Yf at o;rw[za (by rw[b];simp)]at o;refine Wb (k:=0) (s:=⟨#[]⟩) (sk:=⟨Td,0,0⟩) (si:=⟨Td,0,0⟩) I λg f z B=>⟨_,_,_,_,B.ld (cs:=[.int .i64 0,.string ⟨#[]⟩,aK ⟨Td,0,0⟩,aK ⟨Td,0,0⟩]),?_⟩;exact⟨E,_,l A G f z,Y5.2 (zn (v:=.mk 0 (bl []) [] []) l6 l6),o⟩;have b:jw v=Ta:=by simpa using b
  unfold Yf at o;rw[zb b]at o;unfold jw Z1 at b;simp only[zan,zA]at b;refine⟨v.kind,v.text,sk,si,B8.ld (cs:=[_,_,aK sk,aK si]),?_⟩;refine(zS (bR v) v (by omega) (zaf _) b.2 N Z E _ n.ag (RdV.mono n.le y)).go λw Y t q i m V=>?_;subst V;obtain⟨xk,xi,rfl,Q,y2⟩:=yj (Y5.1 m);have aa:=i.keep.size;refine⟨_,_,xk,xi,rfl,?_⟩;refine Wb (I.keep (i.keep.get h1.size (by omega))) λg f z B=>⟨_,_,xk,xi,B.ld (cs:=[_,_,aK xk,aK xi]),?_⟩;have x:t h1.size=Td:=by rw[i.old _ (by omega)];exact G
  exact⟨t,_,l (A.trans i) x f z,Y5.2 (zn Q y2),o⟩
end
end Go.X
end
section
namespace Go.X
open Go Go.X Go.Proofs Go.RowKit
section
theorem Z6{g:zc}{M:Fr}(ag:AgM M g){k:Int}{s:Bt}{sk si:Sl}{K:zc->Prop}(c:∀g',Later g M g' M->g'.size=g.size+1->Blk g' g.size #[.int .i64 k,.string s,aK sk,aK si]->K g'):
  XRunU Tp (zag 25 (.pointer (Tc ⟨g.size,0,Td⟩)) (.agg #[.int .i64 k,.string s,aK sk,aK si])) (zb4 g (.cells #[.int .i64 0,.string ⟨#[]⟩,.slice Td 0 0,.slice Td 0 0] 25)) K:=by
 have e:Keep g.size g (zb4 g (.cells #[.int .i64 0,.string ⟨#[]⟩,.slice Td 0 0,.slice Td 0 0] 25)):=Keep.push _ _ (zaf _);have i:(zb4 g (.cells #[.int .i64 0,.string ⟨#[]⟩,.slice Td 0 0,.slice Td 0 0] 25)).size=g.size+1:=zau _;have b:Blk (zb4 g (.cells #[.int .i64 0,.string ⟨#[]⟩,.slice Td 0 0,.slice Td 0 0] 25)) g.size #[.int .i64 0,.string ⟨#[]⟩,.slice Td 0 0,.slice Td 0 0]:=Blk.new _ _ _;refine Wb b λg' f z B=>c g' (Later.same ag ⟨by omega,λj h=>by grind⟩) (by omega) B
end
end Go.X
end
section
namespace Go.X
open Go Go.Lib
section
variable {ks:List Bt} {x y a b:Tr}
theorem T9{ys:List Tr}(c:ks.Nodup)(b:ks.length=ys.length):(ks.map λq=>ie (ks.zip ys) q)=ys:=by have:=congrArg (List.map (·.2)) (qK ks ys c b);rw[zb6,List.map_snd_zip (by omega)]at this;exact this
theorem ZY(h:ks.Nodup):(xp ks).Nodup:=(wa ks).nodup_iff.2 h
theorem wS:∀(n:Nat) (v:Tr),bR v<=n->j7 zh v=Ta->ze (ze v)=ze v
 |0,v,h,_=>by have:=Ja v;omega
 |n+1,v,hz,hok=>by
  rw[y9,zan,j8,zas]at hok;obtain⟨f,l⟩:=hok;have p:∀x∈v.items,ze (ze x)=ze x:=λx b=>wS n x (by have:=yl b;omega) (l x b);have S:=J6 f;have hi:∀x∈(ze v).items,ze x=x:=λx b=>by obtain⟨y,o,rfl⟩:=zb1.1 (S.ip.mem_iff.1 b);exact p y o
  have i:(ze v).items.map ze=(ze v).items:=by
   conv=>rhs;rw[<-List.map_id (ze v).items]
   exact zds λx b=>hi x b
  rw[jj (ze v),S.k,i];by_cases c:v.kind=6;rw[zb c];obtain⟨r,m⟩:=Z5 f c;have e:(ze v).keys=xp v.keys:=by rw[jj,zb c]
  have q:xp (ze v).keys=(ze v).keys:=by rw[e];exact xC (wa _)
  rw[q,T9 (by rw[e];exact ZY r) (by rw[S.kp.length_eq,S.ip.length_eq,zaw];exact m),<-S.k];simp;rw[za c];have e:(ze v).keys=[]:=by rw[jj,za c]
  rw[<-e,<-S.k];simp
theorem FI{α:Type}[DecidableEq α]:∀{xs ys:List α},xs.Nodup->(∀x∈xs,x∈ys)->xs.length<=ys.length
 |[],ys,_,_=>zbn _
 |x::xs,ys,hn,h=>by
  rw[zcv]at hn;have c:=h x zaq;have:=FI (ys:=ys.erase x) hn.2 λy b=>by grind
  grind
theorem qgq{xs ys:List Bt}(c:xs.Nodup)(b:ys.Nodup)(f:xs.length=ys.length)(h:∀x∈xs,x∈ys):xs.Perm ys:=by
 refine(List.perm_ext_iff_of_nodup c b).2 λz=>⟨h z,λhz=>?_⟩;refine zc0 λe=>?_;have:=FI (xs:=z::xs) (ys:=ys) (zcv.2 ⟨e,c⟩) λy b=>by grind
 grind
theorem wG(f:Tr->Tr)(q:Bt):∀(ks:List Bt) (ys:List Tr),ks.length=ys.length->q∈ks->ie (ks.zip (ys.map f)) q=f (ie (ks.zip ys) q)
 |[],_,_,h=>by cases h
 |z::ks,[],h,_=>by simp at h
 |z::ks,y::ys,h,hk=>by rw[zbh,zb8,zb8,ie,ie];by_cases hz:z=q;simp_all;rw[za hz,za hz];rcases zah.1 hk with e|e;simp_all;exact wG f q ks ys (by simpa using h) e
def mj(b:List Bt)(ys:List Tr)(q:Tr->Tr->Bool)(k:Bt)(x:Tr):Bool:=decide (k∈b)&&q x (ie (b.zip ys) k)
noncomputable def iM(x y:Tr):Bool:=@decide (ze x=ze y) (Classical.propDecidable _)
theorem uT:iM x y=Ta↔ze x=ze y:=@decide_eq_true_iff _ (Classical.propDecidable _)
theorem qpa(h:¬ze x=ze y):iM x y=Tb:=@decide_eq_false _ (Classical.propDecidable _) h
theorem Nk(t:zh a=Ta)(r:zh b=Ta)(n:a.kind=6)(s:a.kind=b.kind)(o:a.text=b.text)(u:a.items.length=b.items.length):((a.keys.zip a.items).all λp=>mj b.keys b.items iM p.1 p.2)=Ta↔ze a=ze b:=by
 obtain⟨na,m⟩:=Z5 t n;obtain⟨nb,lb⟩:=Z5 r (by omega);have k:=qK a.keys a.items na m;rw[jj a,jj b,zb n,zb (by omega),zas];have key:∀q∈a.keys,q∈b.keys->(mj b.keys b.items iM q (ie (a.keys.zip a.items) q)=Ta↔ie (a.keys.zip (a.items.map ze)) q=ie (b.keys.zip (b.items.map ze)) q):=λq c l=>by rw[wG ze q _ _ m c,wG ze q _ _ lb l];unfold mj;rw[zan,zA,uT];simp_all
 constructor;intro H;have c:∀q∈a.keys,mj b.keys b.items iM q (ie (a.keys.zip a.items) q)=Ta:=λq c=>by
  have:(q,ie (a.keys.zip a.items) q)∈a.keys.zip a.items:=by rw[<-k];exact zb1.2 ⟨q,c,by rw[k]⟩
  exact H _ this
 have f:∀q∈a.keys,q∈b.keys:=λq h=>by have:=c q h;unfold mj at this;simp_all
 have e:=qgq na nb (by omega) f;rw[<-xC e,s,o];congr 1;refine zds λq h=>?_;have h:=(wa _).mem_iff.1 h;simp_all;intro H p e;injection H with e1 e2 e3 e4;have i:a.keys.Perm b.keys:=(wa a.keys).symm.trans (e3 ▸ wa b.keys);rw[<-e3]at e4;rw[<-k]at e;obtain⟨q,c,rfl⟩:=zb1.1 e;exact(key q c (i.mem_iff.1 c)).2 (List.map_inj_left.1 e4 q ((wa _).mem_iff.2 c))
theorem Eo:∀(xs ys:List Tr),xs.length=ys.length->(((xs.zip ys).all λp=>iM p.1 p.2)=Ta↔xs.map ze=ys.map ze)
 |[],[],_=>by simp
 |[],_::_,h=>by simp at h
 |_::_,[],h=>by simp at h
 |x::xs,y::ys,h=>by rw[zb8,zcx,zan,Eo xs ys (by simpa using h),zbh,zbh,zcg];rw[uT]
theorem NG(c:¬a.kind=6)(f:a.kind=b.kind)(e:a.text=b.text)(h:a.items.length=b.items.length):((a.items.zip b.items).all λp=>iM p.1 p.2)=Ta↔ze a=ze b:=by rw[Eo _ _ h,jj a,jj b,za c,za (by omega),f,e];simp
theorem ZI(c:zh a=Ta)(f:zh b=Ta)(h:a.kind≠b.kind\/a.text≠b.text\/a.items.length≠b.items.length):¬ze a=ze b:=λe=>by have A:=J6 c;have B:=J6 f;rcases h with h|h|h;exact h (by rw[<-A.k,<-B.k,e]);exact h (by rw[<-A.t,<-B.t,e]);refine h ?_;have h1:=A.ip.length_eq;have i:=B.ip.length_eq;simp_all
end
end Go.X
end
section
namespace Go.X
open Go Go.X Go.Proofs Go.Lib
section
variable {gl:Fr}
theorem Kl:zo Tp 265=Ta:=by kernel_rfl
theorem AP(a b:Bt):(a.toList==b.toList)=decide (a=b):=by rw[za7];simp only[ByteArray.toList_eq,beq_iff_eq,zA];constructor;intro h;cases a;simp_all;grind
theorem Gy{v:Tr}(h:zh v=Ta)(b:v.kind=6):v.keys.Nodup/\v.keys.length=v.items.length:=by refine⟨?_,Ee h b⟩;unfold zh at h;simp[b]at h;have:=h.1.1;unfold xn at this;simp_all
set_option maxHeartbeats 1000000 in
theorem ql1:∀(n:Nat) (a b:Tr),bR a<=n->Sm a->Sm b->j7 zh a=Ta->j7 zh b=Ta->∀{R:Bool->Prop},R (zj a b)->PC Tp gl 265 [Arg.mk .tree a,Arg.mk .tree b] [.bool] R:=by
 intro n;induction n with
 |zero=>intro a _ h;have:=Ja a;omega
 |succ n ih=>
  intro a b hn G F H J R hR h M vs hM ag s
  match vs,s with
  |[u1,u2],⟨t,o,_⟩=>
  have t:RdV M .tree a u1:=t;have o:RdV M .tree b u2:=o;obtain⟨sk,si,rfl,rk,ri⟩:=yj t;obtain⟨tk,B,rfl,P,p⟩:=yj o;obtain⟨li,_,_⟩:=rowLen ri;obtain⟨ai,_,_⟩:=rowLen p;apply PX.of;apply zsq a.kind a.text sk si b.kind b.text tk B;intro h1 l;have k1:Keep h.size h h1:=Keep.push _ _ (zaf _);have k2:Keep h1.size h1 l:=Keep.push _ _ (zaf _);have b1:Blk h1 h.size (zx a.kind a.text sk si).toArray:=Blk.new _ _ _;have b2:Blk l h1.size (zx b.kind b.text tk B).toArray:=Blk.new _ _ _;have z1:h1.size=h.size+1:=zau _;have z2:l.size=h1.size+1:=zau _;clear_value h1 l;have c:=b1.ofKeep k2;have kk:Keep h.size h l:=k1.trans k2 (by omega);have A:Later h M l M:=Later.same ag kk;intro K5 S;have f:∀x:Bool,(x=Ta->zj a b=Tb)->(x=Tb->a.kind=b.kind/\a.text=b.text/\a.items.length=b.items.length)->K5 x l:=by
   intro x ak I;refine S x l ⟨λk=>⟨M,_,A,Y5.2 (rdBool _),?_⟩,λk=>?_⟩;grind;obtain⟨e1,e2,e3⟩:=I k;have Q:zj a b=(if a.kind=6 then om a.keys a.items b else oA a.items b.items):=by rw[qC];simp[e1,e2,e3]
   rw[Q]at hR;refine⟨a.kind,c.cellAdd (by rfl),λh6=>?_,λh6=>?_⟩;have i:¬a.kind=6:=by simpa using h6
   rw[za i,Be _ _ e3]at hR;refine⟨si,c.cellAdd (by rfl),B,b2.cellAdd (by rfl),?_⟩;refine(qa4 (gl:=gl) Kl (q:=zj) (xs:=a.items) (ys:=b.items) (λx k y D=>ih x y (by have:=yl k;omega) (G.item k) (F.item D) (zk H k) (zk J D) rfl) hM A.ag ri p).go λw ae Y r L e u=>?_;have u:r=_:=u;subst u;refine⟨_,dK e,Y,_,A.trans L,Y5.2 (rdBool _),?_⟩;grind;have i:a.kind=6:=by simpa using h6
   rw[zb i,Cw _ _ _ (Ee (ye H) i)]at hR;obtain⟨na,la⟩:=Gy (ye H) i;obtain⟨nb,lb⟩:=Gy (ye J) (by omega);refine⟨a.kind,a.text,sk,si,c.ld (cs:=zx a.kind a.text sk si),b.kind,b.text,tk,B,b2.ld (cs:=zx b.kind b.text tk B),?_⟩;refine yP na la G.items A.ag (zn rk ri) λah m1 ua z aj Z ra w1=>⟨Tc m1,rfl,z.get h1.size (by omega),?_⟩;have m:=A.ag.keep z;refine yP nb lb F.items m (zn P p) λV m2 ub C af U rb w2=>⟨Tc m2,rfl,?_⟩;have E:Later h M V M:=(A.trans (Later.same A.ag z)).trans (Later.same m C);refine(MS (gl:=gl) Kl (q:=zj) na la lb Z U ⟨G.items,F.items⟩ (λx k y D=>ih x y (by have:=yl k;omega) (G.item k) (F.item D) (zk H k) (zk J D) rfl) hM E.ag (w1.keep (C.get _ w1.lt)) w2 ra rb).go λw ab N r L e u=>?_;have u:r=_:=u;subst u;refine⟨_,dK e,N,_,E.trans L,Y5.2 (rdBool _),?_⟩;grind
  refine⟨a.kind,c.cellAdd (by rfl),b.kind,b2.cellAdd (by rfl),λhk=>f _ (λ_=>?_) (λO=>?_),λhk=>?_⟩;grind [qC];grind;have aa:a.kind=b.kind:=by simpa using hk
  refine⟨a.text,c.cellAdd (by rfl),b.text,b2.cellAdd (by rfl),λht=>f _ (λ_=>?_) (λO=>?_),λht=>⟨si,c.cellAdd (by rfl),B,b2.cellAdd (by rfl),f _ (λO=>?_) (λO=>?_)⟩⟩;grind [qC];grind;grind [qC];grind [AP]
theorem V4(k:GL gl){a b:Tr}(e:Sm a)(i:Sm b){R:Bool->Prop}(h:R (jw a&&(jw b&&zj a b))):PC Tp gl 198 [Arg.mk .tree a,Arg.mk .tree b] [.bool] R:=by
 apply Tz;simp only[xb];refine oq k e ⟨λr=>r=jw b,λ_=>oq k i rfl,λr l=>⟨λx=>x=zj a b,λc=>?_,λx m=>?_⟩⟩;cases h1:jw a with
 |false=>rw[h1]at c;cases c
 |true=>rw[h1,zH]at c;have f:=l h1;rw[c]at f;exact ql1 _ a b (zaf _) e i (Lj h1) (Lj f.symm) rfl
 grind
theorem To{keys:List Bt}{x:Bt}{k:Nat}(b:k<keys.length):idxFromS (keys.drop k) x k=if keys[k]=x then(k:Int)else idxFromS (keys.drop (k+1)) x (k+1):=by rw[za9 b,idxFromS]
end
end Go.X
end
section
namespace Go.X
open Go Go.Lib
section
def iK:Bs:=[116,121,112,101]
def jA:Bs:=[101,110,117,109]
def xw:Bs:=[108,101,97,115,116]
def iF:Bs:=[109,111,115,116]
def xx:Bs:=[115,104,111,114,116]
def jY:Bs:=[108,111,110,103]
def jr:Bs:=[110,101,101,100]
def jg:Bs:=[99,108,111,115,101,100]
def je:Bs:=[105,116,101,109,115]
def zr:Bs:=[109,101,109,98,101,114,115]
def hX:Bs:=[97,108,108]
def hO:Bs:=[97,110,121]
def iY:Bs:=[110,111,116]
def sWords:List Bs:=[iK,jA,xw,iF,xx,jY,jr,jg,je,zr,hX,hO,iY]
def sKinds:List Bs:=[[110,117,108,108],[98,111,111,108],[110,117,109,98,101,114],[115,116,114,105,110,103],[97,114,114,97,121],[111,98,106,101,99,116]]
def kW(s:Bs):Int:=if s∈sKinds then(sKinds.idxOf s:Int)+1 else 0
def ww(v:Tr):Int×Bool:=oD (zw (lb v.text)).1
def Yg(r:Tr->Bool)(q:Bs)(v:Tr):Bool:=
 if q=iK then decide (v.kind=4)&&decide (0<kW (lb v.text))
 else if q=jA then decide (v.kind=5)
 else if q=xw\/q=iF then decide (v.kind=3)
 else if q=xx\/q=jY then decide (v.kind=3)&&((ww v).2&&decide (0<=(ww v).1))
 else if q=jr then decide (v.kind=5)&&v.items.all λx=>decide (x.kind=4)
 else if q=jg then decide (v.kind=2)
 else if q=je\/q=iY then r v
 else if q=zr then decide (v.kind=6)&&v.items.all r
 else if q=hX\/q=hO then decide (v.kind=5)&&v.items.all r
 else Tb
def qb:Nat->Tr->Bool
 |0,_=>Tb
 |n+1,v=>decide (v.kind=6)&&(v.keys.zip v.items).all λp=>Yg (qb n) (lb p.1) p.2
def Yp(v:Tr):Bool:=zy v&&qb (bK v) v
def jh(s:Tr)(q:Bt):Option Tr:=if 0<=idxOfS s.keys q then s.items[(idxOfS s.keys q).toNat]? else Td
def t7(s:Tr):List Bt:=if Yp s=Ta then(sWords.filter λw=>decide (0<=idxOfS s.keys (bl w))).map bl else []
def wy(v:Tr):Int:=if v.kind=5\/v.kind=6 then v.items.length else if v.kind=4 then(Lib.runeCount v.text:Int)else -1
abbrev cR:=List Bt×Bs
def eR(b:Bool)(p:List Bt)(w:Bs):List cR:=if b=Ta then []else [(p,w)]
variable (same : Tr -> Tr -> Bool) (cmp : Tr -> Tr -> Int)
def J7(fl:Tr->Tr->List Bt->List cR)(s:Tr)(w:Bs)(x v:Tr)(p:List Bt):List cR:=
 if w=iK then eR (decide (v.kind=kW (lb x.text))) p w
 else if w=jA then eR (x.items.any λy=>same y v) p w
 else if w=xw then eR (decide (v.kind≠3)||decide (0<=cmp v x)) p w
 else if w=iF then eR (decide (v.kind≠3)||decide (cmp v x<=0)) p w
 else if w=xx then eR (decide (wy v<0)||decide ((ww x).1<=wy v)) p w
 else if w=jY then eR (decide (wy v<=(ww x).1)) p w
 else if w=jr then if v.kind=6 then(x.items.filter λy=>decide (idxOfS v.keys y.text<0)).map λy=>(p++[y.text],w)else []
 else if w=jg then if lb x.text=[116,114,117,101]then(v.keys.filter λk=>decide (idxOfS (((jh s (bl zr)).map Tr.keys).getD []) k<0)).map λk=>(p++[k],w)else []
 else if w=je then if v.kind=5 then(zbk v.items.length).flatMap λ(i:Nat)=>v.items[i]?.elim [] λy=>fl x y (p++[bl (Lib.itoa i)])else []
 else if w=zr then(v.keys.zip v.items).flatMap λm=>(jh x m.1).elim [] λy=>fl y m.2 (p++[m.1])
 else if w=hX then x.items.flatMap λy=>fl y v p
 else if w=hO then eR (x.items.any λy=>(fl y v []).isEmpty) p w
 else eR (!(fl x v []).isEmpty) p w
def zm:Nat->Tr->Tr->List Bt->List cR
 |0,_,_,_=>[]
 |n+1,s,v,p=>sWords.flatMap λw=>(jh s (bl w)).elim [] λx=>J7 same cmp (zm n) s w x v p
end
section
variable {v s x:Tr} {w:Bs}
theorem Z7{α:Type}{p q:α->Bool}:∀{l:List α},(∀x∈l,p x=q x)->l.all p=l.all q
 |[],_=>rfl
 |x::l,h=>by rw[zcx,zcx,h x (by simp),Z7 λy b=>h y (by simp[b])]
theorem Z8{α:Type}{p q:α->Bool}:∀{l:List α},(∀x∈l,p x=q x)->l.any p=l.any q
 |[],_=>rfl
 |x::l,h=>by rw[List.any_cons,List.any_cons,h x (by simp),Z8 λy b=>h y (by simp[b])]
theorem qw{α β:Type}{p q:α->List β}:∀{l:List α},(∀x∈l,p x=q x)->l.flatMap p=l.flatMap q
 |[],_=>rfl
 |x::l,h=>by rw[zb0,zb0,h x (by simp),qw λy b=>h y (by simp[b])]
theorem z6t{r b:Tr->Bool}{q:Bs}(h0:r v=b v)(h:∀x∈v.items,r x=b x):Yg r q v=Yg b q v:=by unfold Yg;rw[h0,Z7 h]
theorem oH{ks:List Bt}{xs:List Tr}{p:Bt×Tr}(h:p∈ks.zip xs):p.2∈xs:=(List.of_mem_zip (a:=p.1) (b:=p.2) h).2
theorem CH:∀(n m:Nat) (v:Tr),bK v<=n->bK v<=m->qb n v=qb m v
 |0,_,v,h,_=>by rw[W8]at h;omega
 |_,0,v,_,h=>by rw[W8]at h;omega
 |n+1,m+1,v,h,h'=>by rw[qb,qb];congr 1;refine Z7 λp b=>?_;have hi:=xm (oH b);refine z6t (CH n m _ (by omega) (by omega)) λx c=>CH n m _ ?_ ?_;all_goals have:=xm c;omega
theorem yf{q:Bt}(h:jh s q=Tc x):x∈s.items:=by unfold jh at h;split at h;exact zbv h;cases h
variable {same : Tr -> Tr -> Bool} {cmp : Tr -> Tr -> Int}
theorem Vr{fl b:Tr->Tr->List Bt->List cR}{p:List Bt}(h0:∀v p,fl x v p=b x v p)(h:∀y∈x.items,∀v p,fl y v p=b y v p):
  J7 same cmp fl s w x v p=J7 same cmp b s w x v p:=by
 unfold J7;rw[h0 v []];rw[Z8 (l:=x.items) (p:=λy=>(fl y v []).isEmpty) (q:=λy=>(b y v []).isEmpty) λy c=>by rw[h y c]];rw[qw (l:=x.items) (p:=λy=>fl y v p) (q:=λy=>b y v p) λy c=>h y c v p];rw[qw (l:=v.keys.zip v.items) (p:=λm=>(jh x m.1).elim [] λy=>fl y m.2 (p++[m.1])) (q:=λm=>(jh x m.1).elim [] λy=>b y m.2 (p++[m.1])) λm _=>by
  cases e:jh x m.1 with
  |none=>rfl
  |some y=>exact h y (yf e) _ _]
 rw[qw (l:=zbk v.items.length) (p:=λ(i:Nat)=>v.items[i]?.elim [] λy=>fl x y (p++[bl (Lib.itoa i)])) (q:=λ(i:Nat)=>v.items[i]?.elim [] λy=>b x y (p++[bl (Lib.itoa i)])) λi _=>by
  cases v.items[i]? with
  |none=>rfl
  |some y=>exact h0 _ _]
theorem Yv:∀(n m:Nat) (s v:Tr) (p:List Bt),bK s<=n->bK s<=m->zm same cmp n s v p=zm same cmp m s v p
 |0,_,s,_,_,h,_=>by rw[W8]at h;omega
 |_,0,s,_,_,_,h=>by rw[W8]at h;omega
 |n+1,m+1,s,v,p,h,h'=>by
  rw[zm,zm];refine qw λw _=>?_;cases e:jh s (bl w)with
  |none=>rfl
  |some x=>have hi:=xm (yf e);refine Vr (λv p=>Yv n m _ _ _ (by omega) (by omega)) λy b v p=>Yv n m _ _ _ ?_ ?_;all_goals have:=xm b;omega
def ahead(p:List Bt)(f:cR):cR:=(p++f.1,f.2)
theorem ahead_ahead(p q:List Bt)(l:List cR):(l.map (ahead q)).map (ahead p)=l.map (ahead (p++q)):=by rw[zb6];congr 1;funext f;simp[ahead]
theorem Zp(b:Bool)(p:List Bt)(w:Bs):eR b p w=(eR b [] w).map (ahead p):=by unfold eR ahead;split <;> simp
theorem uM{α β γ:Type}(f:β->γ)(g:α->List β)(l:List α):(l.flatMap g).map f=l.flatMap λx=>(g x).map f:=by
 induction l with
 |nil=>rfl
 |cons x l b=>rw[zb0,zb0,zb9,b]
theorem ja{c:Prop}[Decidable c]{p:List Bt}{a b a' e:List cR}(h1:a=a'.map (ahead p))(f:b=e.map (ahead p)):(if c then a else b)=(if c then a' else e).map (ahead p):=by by_cases h:c;rw[zb h,zb h,h1];rw[za h,za h,f]
theorem yt{o:Option Tr}{p:List Bt}{f g:Tr->List cR}(h:∀y,f y=(g y).map (ahead p)):o.elim [] f=(o.elim [] g).map (ahead p):=by
 cases o with
 |none=>rfl
 |some y=>exact h y
theorem Oc{fl:Tr->Tr->List Bt->List cR}(h:∀y u p,fl y u p=(fl y u []).map (ahead p))(p:List Bt):
  J7 same cmp fl s w x v p=(J7 same cmp fl s w x v []).map (ahead p):=by
 have step:∀y u (k:Bt),fl y u (p++[k])=(fl y u ([]++[k])).map (ahead p):=λy u k=>by rw[h y u (p++[k]),h y u ([]++[k]),ahead_ahead];rfl
 unfold J7;refine ja (Zp _ _ _) (ja (Zp _ _ _) (ja (Zp _ _ _) (ja (Zp _ _ _) (ja (Zp _ _ _) (ja (Zp _ _ _) (ja (ja ?_ rfl) (ja (ja ?_ rfl) (ja (ja ?_ rfl) (ja ?_ (ja ?_ (ja (Zp _ _ _) (Zp _ _ _))))))))))));rw[zb6];rfl;rw[zb6];rfl;rw[uM];exact qw λi _=>yt λy=>step _ _ _;rw[uM];exact qw λm _=>yt λy=>step _ _ _;rw[uM];exact qw λy _=>h y v p
theorem Jg:∀(n:Nat) (s v:Tr) (p:List Bt),zm same cmp n s v p=(zm same cmp n s v []).map (ahead p)
 |0,_,_,_=>rfl
 |n+1,s,v,p=>by rw[zm,zm,uM];exact qw λw _=>yt λx=>Oc (λy u q=>Jg n y u q) p
end
section
variable {w:Bs} {v:Tr} {n:Nat}
variable {same : Tr -> Tr -> Bool} {cmp : Tr -> Tr -> Int}
def qn(w:Bs)(x:Tr):Tr:=.mk 6 ⟨#[]⟩ [bl w] [x]
def Zq(l:List Tr):Tr:=.mk 5 ⟨#[]⟩ [] l
def fitsT(same:Tr->Tr->Bool)(cmp:Tr->Tr->Int)(s v:Tr):Bool:=Yp s&&(zy v&&(zm same cmp (bK s) s v []).isEmpty)
theorem Hf(w q:Bs)(x:Tr):jh (qn w x) (bl q)=if q=w then Tc x else Td:=by unfold jh qn;show(if 0<=idxFromS [bl w] (bl q) 0 then [x][(idxFromS [bl w] (bl q) 0).toNat]? else Td)=_;rw[idxFromS];by_cases h:q=w;subst h;simp;have:bl w≠bl q:=λe=>h (by have:=congrArg lb e;rw[yo,yo]at this;exact this.symm);rw[za h,za this];rfl
theorem RV(c:w∈sWords)(n:Nat)(x v:Tr)(p:List Bt):zm same cmp (n+1) (qn w x) v p=J7 same cmp (zm same cmp n) (qn w x) w x v p:=by
 rw[zm];have nd:sWords.Nodup:=by decide
 have key:∀l:List Bs,l.Nodup->(l.flatMap λq=>(jh (qn w x) (bl q)).elim [] λy=>J7 same cmp (zm same cmp n) (qn w x) q y v p)=if w∈l then J7 same cmp (zm same cmp n) (qn w x) w x v p else []:=by
  intro l b;induction l with
  |nil=>rfl
  |cons q l e=>
   rw[zb0,e (zcv.1 b).2,Hf];by_cases h:q=w;subst h;rw[zb rfl,za (zcv.1 b).1,zb (by simp)];simp;rw[za h];have:(w∈q::l)↔w∈l:=by simp[Ne.symm h]
   simp only[this];rfl
 rw[key _ nd,zb c]
theorem pA(w:Bs)(x:Tr):bK (qn w x)=bK x+1:=by simp[qn,bK,Jp]
theorem tU(w:Bs)(x:Tr):bR (qn w x)=bR x+1:=by simp[qn,bR,Z0];omega
theorem Yw(v:Tr):zy v=Ta↔bR v<=4096/\bK v<=32/\j7 (λx=>decide (x.kind≠7)&&zh x) v=Ta:=by unfold zy Z1;simp[and_assoc]
theorem Ce(b:gL w=Ta){x:Tr}(h:zy x=Ta)(h1:bR x<=4095)(f:bK x<=31):zy (qn w x)=Ta:=by
 rw[Yw]at *;rw[tU,pA];refine⟨by omega,by omega,?_⟩;rw[y9];have e:zh (qn w x)=(xn [bl w]&&decide ((1:Nat)=1)&&(lb (⟨#[]⟩:Bt)==[])):=rfl;have c:lE (λx=>decide (x.kind≠7)&&zh x) (qn w x).items=Ta:=by show(j7 _ x&&Ta)=Ta;rw[h.2.2];rfl
 rw[c,e];simp[xn,yo,b];exact(by decide:¬(6:Int)=7)
theorem E1{l:List Tr}(h:∀x∈l,zy x=Ta)(h1:Z0 l<=4095)(f:Jp l<=31):zy (Zq l)=Ta:=by rw[Yw];refine⟨by simp[Zq,bR];omega,by simp[Zq,bK];omega,?_⟩;rw[y9,j8];have e:zh (Zq l)=(lb (⟨#[]⟩:Bt)==[]&&Ta):=rfl;have b:(Zq l).items.all (j7 λx=>decide (x.kind≠7)&&zh x)=Ta:=zas.2 λx c=>((Yw x).1 (h x c)).2.2;rw[b,e];simp[Zq];exact(by decide:(decide ¬(5:Int)=7)=Ta)
theorem BL(l:List Tr):bK (Zq l)=Jp l+1:=by simp[Zq,bK]
theorem zP(l:List Tr):bR (Zq l)=Z0 l+1:=by simp[Zq,bR];omega
theorem Uo(n:Nat)(x:Tr):qb (n+1) (qn w x)=Yg (qb n) w x:=by rw[qb];simp[qn,yo]
theorem p9(h:bK v<=n):Yp v=(zy v&&qb n v):=by unfold Yp;rw[CH (bK v) n v (zaf _) h]
theorem tP{s v:Tr}(h:bK s<=n):fitsT same cmp s v=(Yp s&&(zy v&&(zm same cmp n s v []).isEmpty)):=by unfold fitsT;rw[Yv (bK s) n s v [] (zaf _) h]
theorem OM(h:w∈sWords):gL w=Ta:=by
 have:sWords.all gL=Ta:=by kernel_rfl
 exact zas.1 this w h
end
section
variable {s x:Tr} {n:Nat} {l:List Tr} {w:Bs}
variable {same : Tr -> Tr -> Bool} {cmp : Tr -> Tr -> Int} {fl : Tr -> Tr -> List Bt -> List cR} {r : Tr -> Bool} {s x v : Tr} {p : List Bt}
theorem mz:J7 same cmp fl s hX x v p=x.items.flatMap λy=>fl y v p:=by kernel_rfl
theorem nl:J7 same cmp fl s hO x v p=eR (x.items.any λy=>(fl y v []).isEmpty) p hO:=by kernel_rfl
theorem nh:J7 same cmp fl s iY x v p=eR (!(fl x v []).isEmpty) p iY:=by kernel_rfl
theorem Q2:J7 same cmp fl s je x v p=if v.kind=5 then(zbk v.items.length).flatMap λ(i:Nat)=>v.items[i]?.elim [] λy=>fl x y (p++[bl (Lib.itoa i)])else []:=by kernel_rfl
theorem wo:J7 same cmp fl s zr x v p=(v.keys.zip v.items).flatMap λm=>(jh x m.1).elim [] λy=>fl y m.2 (p++[m.1]):=by kernel_rfl
theorem AS:Yg r hX x=(decide (x.kind=5)&&x.items.all r):=by kernel_rfl
theorem HQ:Yg r hO x=(decide (x.kind=5)&&x.items.all r):=by kernel_rfl
theorem IP:Yg r iY x=r x:=by kernel_rfl
theorem Iu:Yg r je x=r x:=by kernel_rfl
theorem EW:Yg r zr x=(decide (x.kind=6)&&x.items.all r):=by kernel_rfl
theorem jk(h:Yp s=Ta):zy s=Ta:=by unfold Yp at h;simp at h;exact h.1
theorem lX(h:Yp s=Ta)(b:bK s<=n):qb n s=Ta:=by rw[p9 b]at h;simp at h;exact h.2
theorem vo{α β:Type}{f:α->List β}:∀l:List α,(l.flatMap f).isEmpty=l.all λx=>(f x).isEmpty
 |[]=>rfl
 |x::l=>by rw[zb0,zcx,<-vo l];cases f x <;> rfl
theorem GM(b:Bool)(p:List Bt)(w:Bs):(eR b p w).isEmpty=b:=by cases b <;> rfl
theorem Lc(h:x∈l)(b:Jp l<=n):bK x<=n:=zbx (D4 h) b
theorem SD(b:w∈sWords)(h:zy x=Ta)(h1:bR x<=4095)(c:bK x<=31):Yp (qn w x)=Yg (qb (bK x)) w x:=by rw[p9 (n:=bK x+1) (by rw[pA];exact zaf _),Ce (OM b) h h1 c,Uo];rfl
theorem uZ(b:w∈sWords){x v:Tr}(h:zy x=Ta)(h1:bR x<=4095)(f:bK x<=31)(e:zy v=Ta)(c:Yg (qb (bK x)) w x=Ta):
  fitsT same cmp (qn w x) v=(J7 same cmp (zm same cmp (bK x)) (qn w x) w x v []).isEmpty:=by
 unfold fitsT;rw[SD b h h1 f,c,e,pA,RV b];rfl
theorem Df(c:w=hX\/w=hO)(e:∀x∈l,Yp x=Ta)(h1:Z0 l<=4000)(o:Jp l<=30)(i:zy v=Ta):
  fitsT same cmp (qn w (Zq l)) v=if w=hX then l.all λx=>fitsT same cmp x v else l.any λx=>fitsT same cmp x v:=by
 have m:zy (Zq l)=Ta:=E1 (λx b=>jk (e x b)) (by omega) (by omega);have f:w∈sWords:=by rcases c with rfl|rfl <;> decide
 have k:Yg (qb (bK (Zq l))) w (Zq l)=Ta:=by have:(Zq l).items.all (qb (bK (Zq l)))=Ta:=zas.2 λx b=>lX (e x b) (by rw[BL];exact Lc (l:=l) b (by omega));rcases c with rfl|rfl;rw[AS,this];rfl;rw[HQ,this];rfl
 have h:∀x∈l,(zm same cmp (bK (Zq l)) x v []).isEmpty=fitsT same cmp x v:=λx b=>by rw[tP (n:=bK (Zq l)) (by rw[BL];exact Lc b (by omega)),e x b,i];rfl
 rw[uZ f m (by rw[zP];omega) (by rw[BL];omega) i k];rcases c with rfl|rfl;rw[mz,vo,zb rfl];exact Z7 λx b=>h x b
 rw[nl,GM,za (by decide)];exact Z8 λx b=>h x b
theorem QT(b:Yp s=Ta)(h1:bR s<=4000)(e:bK s<=30)(c:zy v=Ta):fitsT same cmp (qn iY s) v=!fitsT same cmp s v:=by rw[uZ (by decide) (jk b) (by omega) (by omega) c (by rw[IP];exact lX b (zaf _)),nh,GM];unfold fitsT;rw[b,c];rfl
theorem Is(b:Yp s=Ta)(h1:bR s<=4000)(m:bK s<=30)(c:∀x∈l,zy x=Ta)(o:Z0 l<=4000)(n:Jp l<=30):fitsT same cmp (qn je s) (Zq l)=l.all λx=>fitsT same cmp s x:=by
 rw[uZ (by decide) (jk b) (by omega) (by omega) (E1 c (by omega) (by omega)) (by rw[Iu];exact lX b (zaf _)),Q2,zb (by rfl:(Zq l).kind=5),vo];have key:∀i∈zbk l.length,((l[i]?.elim [] λy=>zm same cmp (bK s) s y ([]++[bl (Lib.itoa i)])).isEmpty)=l[i]?.elim Ta λy=>fitsT same cmp s y:=λi hi=>by
  cases e:l[i]? with
  |none=>rfl
  |some y=>show(zm same cmp (bK s) s y _).isEmpty=fitsT same cmp s y;rw[Jg];unfold fitsT;rw[b,c y (zbv e)];cases zm same cmp (bK s) s y [] <;> rfl
 have f:=Z7 key;refine f.trans ?_;rw[za7,zas,zas];constructor;intro h x k;obtain⟨i,hi,rfl⟩:=zcf k;have:=h i (zcd.2 hi);rw[zaj hi]at this;exact this;intro h i hi;rw[zaj (zcd.1 hi)];exact h _ (zay _)
theorem Pk(b:Yp s=Ta)(h1:bR s<=4000)(h:bK s<=29)(e:zy v=Ta)(k:bR v<=4000)(i:bK v<=30)(c:gL w=Ta):fitsT same cmp (qn zr (qn w s)) (qn w v)=fitsT same cmp s v:=by have f:=Ce c (jk b) (by omega) (by omega);rw[uZ (by decide) f (by rw[tU];omega) (by rw[pA];omega) (Ce c e (by omega) (by omega)) (by rw[EW];show(Ta&&(qb (bK (qn w s)) s&&Ta))=Ta;rw[lX b (by rw[pA];omega)];rfl),wo];show(([(bl w,v)]:List (Bt×Tr)).flatMap _).isEmpty=_;rw[vo];show((((jh (qn w s) (bl w)).elim [] λy=>zm same cmp (bK (qn w s)) y v ([]++[bl w])).isEmpty)&&Ta)=_;rw[Hf,zb rfl];show((zm same cmp (bK (qn w s)) s v _).isEmpty&&Ta)=_;rw[Jg,tP (n:=bK (qn w s)) (by rw[pA];omega),b,e];cases zm same cmp (bK (qn w s)) s v [] <;> rfl
theorem Ma(ks:List Bt)(b:ks=[])(c:zy v=Ta):fitsT same cmp (.mk 6 ⟨#[]⟩ ks []) v=Ta:=by
 subst b;unfold fitsT;have e:Yp (.mk 6 ⟨#[]⟩ [] [])=Ta:=by kernel_rfl
 have f:zm same cmp (bK (.mk 6 ⟨#[]⟩ [] [])) (.mk 6 ⟨#[]⟩ [] []) v []=[]:=by kernel_rfl
 rw[e,c,f];rfl
end
section
def rQ(i:Nat):Bt:=bl (Lib.itoa (i:Int))
section
variable (rw : List Tr -> List Tr -> Option (List (Nat × Nat)))
end
end
section
theorem BZ{l:List Bt}(h:l.Nodup){i:Nat}(hi:i<l.length):idxOfS l l[i]=(i:Int):=by rcases oV l[i] l 0 with⟨_,b⟩|⟨k,h1,b,c⟩;simp_all;unfold idxOfS;rw[h1,za5];rw[zaj b]at c;rw[(List.getElem_inj h).1 (za6 c)]
end
section
theorem JX(i:Nat):lb (rQ i)=decDigits i:=by unfold rQ;rw[yo,Mm]
theorem Oo{i:Nat}(h:i<=1000000):i9 (lb (rQ i))=((i:Int),Ta):=by
 rw[JX];obtain⟨k,e,l,f⟩:=Jc i i (zaf _);have n:=zta h;have m:1<=(decDigits i).length:=by
  cases hq:decDigits i with
  |nil=>exact absurd hq e
  |cons c t=>simp
 unfold i9;rw[za (by
  rintro(h1|h1|⟨h1,b⟩);omega;omega;by_cases h0:1<=i;exact f h0 b;have:i=0:=by omega
  subst this;rw[decDigits,dif_pos (by omega)]at h1;simp at h1),zb k,l]
variable {t : Bt} {xs : List Tr}
end
section
theorem V1{v:Tr}(h:zh v=Ta)(b:v.kind=6):v.keys.Nodup:=by unfold zh at h;simp[b]at h;have:=h.1.1;unfold xn at this;simp_all
end
section
variable {v:Tr}
variable {same : Tr -> Tr -> Bool} {cmp : Tr -> Tr -> Int} {fl : Tr -> Tr -> List Bt -> List cR} {s x v : Tr} {p : List Bt}
theorem oT:J7 same cmp fl s iK x v p=eR (decide (v.kind=kW (lb x.text))) p iK:=by kernel_rfl
theorem o5:J7 same cmp fl s jA x v p=eR (x.items.any λy=>same y v) p jA:=by kernel_rfl
theorem Xb:J7 same cmp fl s xw x v p=eR (decide (v.kind≠3)||decide (0<=cmp v x)) p xw:=by kernel_rfl
theorem oI:J7 same cmp fl s iF x v p=eR (decide (v.kind≠3)||decide (cmp v x<=0)) p iF:=by kernel_rfl
theorem Jh:J7 same cmp fl s xx x v p=eR (decide (wy v<0)||decide ((ww x).1<=wy v)) p xx:=by kernel_rfl
theorem pn:J7 same cmp fl s jY x v p=eR (decide (wy v<=(ww x).1)) p jY:=by kernel_rfl
theorem J8:J7 same cmp fl s jr x v p=if v.kind=6 then(x.items.filter λy=>decide (idxOfS v.keys y.text<0)).map λy=>(p++[y.text],jr)else []:=by kernel_rfl
theorem Zr:J7 same cmp fl s jg x v p=if lb x.text=[116,114,117,101]then(v.keys.filter λk=>decide (idxOfS (((jh s (bl zr)).map Tr.keys).getD []) k<0)).map λk=>(p++[k],jg)else []:=by kernel_rfl
def We(v:Tr)(f:cR):Prop:=
 if f.2=jr then f.1≠[]/\Qo v f.1=Td/\∃x,Qo v (kq f.1)=Tc x/\x.kind=6
 else ∃x,Qo v f.1=Tc x
theorem xg{w:Bs}{b:Bool}{f:cR}(c:w≠jr)(h:f∈eR b [] w):We v f:=by unfold eR at h;split at h;cases h;rw[zbm]at h;subst h;unfold We;rw[za c];exact⟨v,CN v⟩
theorem OI{v x:Tr}{s:Bt}{k:Nat}(n:Ym v s=k)(o:v.items[k]?=Tc x){f:cR}(h:We x f):We v (ahead [s] f):=by
 obtain⟨c,e⟩:=za0.1 o;have step:∀p,Qo v (s::p)=Qo x p:=λp=>by rw[HO n c,e]
 obtain⟨p,w⟩:=f;unfold We at *;by_cases b:w=jr;have h:p≠[]/\Qo x p=Td/\∃y,Qo x (kq p)=Tc y/\y.kind=6:=by rw[zb b]at h;exact h
 obtain⟨h1,i,y,m,q⟩:=h;rw[zb (show(ahead [s] (p,w)).2=jr from b)];have:kq (s::p)=s::kq p:=by
  unfold kq;cases p with
  |nil=>exact absurd rfl h1
  |cons a l=>simp
 refine⟨by simp[ahead],?_,y,?_,q⟩;show Qo v (s::p)=Td;rw[step];exact i;show Qo v (kq (s::p))=Tc y;rw[this,step];exact m;rw[za (show¬(ahead [s] (p,w)).2=jr from b)];have h:∃y,Qo x p=Tc y:=by rw[za b]at h;exact h
 obtain⟨y,h⟩:=h;exact⟨y,by show Qo v (s::p)=Tc y;rw[step];exact h⟩
theorem AR(h:zh v=Ta){k:Bt}(c:k∈v.keys):v.kind=6:=by
 unfold zh at h;have:v.keys.isEmpty=Tb:=by cases e:v.keys with|nil=>rw[e]at c;cases c|cons a l=>rfl
 rw[this]at h;by_cases b:v.kind=6;exact b;rw[za b]at h;simp at h
theorem Nn(h:zh v=Ta)(b:v.kind=6):v.keys.length=v.items.length:=by unfold zh at h;simp[b]at h;exact h.1.2
theorem FQ(h:zh v=Ta)(b:v.kind=6){i:Nat}(hi:i<v.keys.length):Ym v v.keys[i]=(i:Int):=by unfold Ym;rw[zb b,BZ (V1 h b) hi]
theorem places:∀(n:Nat) (s v:Tr),j7 zh v=Ta->bR v<=1000000->∀f∈zm same cmp n s v [],We v f
 |0,_,_,_,_,f,h=>by cases h
 |n+1,s,v,hv,hz,f,h=>by
  have p:zh v=Ta:=by rw[y9]at hv;simp at hv;exact hv.1
  rw[zm,zb5]at h;obtain⟨w,B,h⟩:=h;cases e:jh s (bl w)with
  |none=>rw[e]at h;cases h
  |some x=>
   rw[e]at h;have h:f∈J7 same cmp (zm same cmp n) s w x v []:=h;have b:∀(y u:Tr) (q:Bt) (i:Nat),v.items[i]?=Tc u->Ym v q=(i:Int)->f∈zm same cmp n y u ([]++[q])->We v f:=λy u q i E I C=>by rw[Jg]at C;obtain⟨g,G,rfl⟩:=zb1.1 C;have l:=zbv E;exact OI I E (places n y u (zk hv l) (by have:=yl l;omega) g G)
   simp only[sWords,zah,zdx,or_false]at B;rcases B with rfl|rfl|rfl|rfl|rfl|rfl|rfl|rfl|rfl|rfl|rfl|rfl|rfl;rw[oT]at h;exact xg (by decide) h;rw[o5]at h;exact xg (by decide) h;rw[Xb]at h;exact xg (by decide) h;rw[oI]at h;exact xg (by decide) h;rw[Jh]at h;exact xg (by decide) h;rw[pn]at h;exact xg (by decide) h;rw[J8]at h;split at h;rename_i c;obtain⟨y,D,rfl⟩:=zb1.1 h;have r:idxOfS v.keys y.text<0:=zB (zde.1 D).2;unfold We;rw[zb rfl];refine⟨by simp,MR (by unfold Ym;rw[zb c];exact r),v,?_,c⟩;show Qo v (kq [y.text])=Tc v;exact CN v;cases h;rw[Zr]at h;split at h;obtain⟨k,H,rfl⟩:=zb1.1 h;have l:=(zde.1 H).1;have c:=AR p l;obtain⟨i,hi,rfl⟩:=zcf l;have L:=(Nn p c);have t:i<v.items.length:=by omega
   unfold We;rw[za (show¬jg=jr by decide)];refine⟨v.items[i],?_⟩;show Qo v ([v.keys[i]])=_;rw[HO (FQ p c hi) t,CN];cases h;rw[Q2]at h;split at h;rename_i A;obtain⟨i,hi,h⟩:=zb5.1 h;have hi:=zcd.1 hi;rw[zaj hi]at h;refine b x v.items[i] (rQ i) i (zaj hi) ?_ h;have J:v.items.length<=Z0 v.items:=J4 _;have F:i<=1000000:=by rw[Y9]at hz;omega
   unfold Ym;rw[za (by rw[A];decide),zb A,Oo F,zb ⟨rfl,by show(i:Int)<_;omega⟩];cases h;rw[wo]at h;obtain⟨m,l,h⟩:=zb5.1 h;obtain⟨i,hi,rfl⟩:=zcf l;have o:i<v.keys.length:=by rw[List.length_zip]at hi;omega
   have z:i<v.items.length:=by rw[List.length_zip]at hi;omega
   rw[List.getElem_zip]at h;have c:=AR p (zay o);cases e2:jh x v.keys[i]with
   |none=>rw[e2]at h;cases h
   |some y=>rw[e2]at h;exact b y v.items[i] v.keys[i] i (zaj z) (FQ p c o) h
   rw[mz]at h;obtain⟨y,D,h⟩:=zb5.1 h;exact places n y v hv hz f h;rw[nl]at h;exact xg (by decide) h;rw[nh]at h;exact xg (by decide) h
end
section
variable {s x:Tr}
variable {same : Tr -> Tr -> Bool} {cmp : Tr -> Tr -> Int}
theorem uW(b:s.keys.Nodup){q:Bt}:jh s q=Tc x↔(q,x)∈s.keys.zip s.items:=by
 constructor;intro h;unfold jh at h;split at h;rename_i h0;have e:idxOfS s.keys q=(((idxOfS s.keys q).toNat:Nat):Int):=by omega
 exact zdm.2 ⟨_,List.getElem?_zip_eq_some.2 ⟨Ez e,h⟩⟩;cases h;intro h;obtain⟨i,hi⟩:=zdm.1 h;obtain⟨h1,c⟩:=List.getElem?_zip_eq_some.1 hi;obtain⟨f,rfl⟩:=za0.1 h1;unfold jh;rw[BZ b f,zb (by omega)];simpa using c
theorem BE(h:s.keys=[])(q:Bt):jh s q=Td:=by unfold jh;rw[h];rfl
theorem BR(c:zh s=Ta)(q:Bt):jh (ze s) q=(jh s q).map ze:=by have S:=J6 c;by_cases h:s.kind=6;obtain⟨f,m⟩:=Z5 c h;apply Option.ext;intro y;rw[uW (S.kp.nodup_iff.2 f),S.zp.mem_iff,zcz,List.zip_map_right,zb1];constructor;rintro⟨⟨a,b⟩,k,e⟩;cases e;exact⟨b,(uW f).2 k,rfl⟩;rintro⟨x,l,rfl⟩;exact⟨(q,x),(uW f).1 l,rfl⟩;have i:=oy c h;rw[BE i,BE (by have:=S.kp;rw[i]at this;exact this.eq_nil)];rfl
theorem Xc(h:x.kind≠6):(ze x).items=x.items.map ze:=by rw[jj,za h]
theorem Ji(b:zh x=Ta)(e:x.kind≠5)(c:x.kind≠6):ze x=x:=by
 have hi:x.items=[]:=by unfold zh at b;simp only[za e,za c]at b;grind
 rw[jj,za c,hi,<-oy b c];cases x;simp_all
theorem D3{l m:List Bt}(h:l.Perm m)(q:Bt):(idxOfS l q<0)↔(idxOfS m q<0):=by
 have key:∀l:List Bt,idxOfS l q<0↔q∉l:=λl=>by rcases oV q l 0 with⟨h1,b⟩|⟨k,h1,b,c⟩;unfold idxOfS;rw[h1];simp[b];unfold idxOfS;rw[h1];have:=zbv c;simp[this]
 rw[key,key,h.mem_iff]
theorem Am{n:Nat}{w:Bs}(b:qb (n+1) s=Ta)(f:zh s=Ta)(e:jh s (bl w)=Tc x):Yg (qb n) w x=Ta:=by rw[qb,zan,zas]at b;have c:s.kind=6:=zB b.1;have:=b.2 _ ((uW (Z5 f c).1).1 e);rw[yo]at this;exact this
theorem Kn{b c:Bool}(h:b=c)(p:List Bt)(w:Bs):eR b p w=eR c p w:=by rw[h]
theorem any_map{α β:Type}(f:α->β)(p:β->Bool)(l:List α):(l.map f).any p=l.any λx=>p (f x):=by rw[List.any_map];rfl
theorem EG{α β γ:Type}(f:α->β)(g:β->List γ)(l:List α):(l.map f).flatMap g=l.flatMap λx=>g (f x):=by rw[List.flatMap_map]
theorem xL(h:∀y v,j7 zh y=Ta->same (ze y) v=same y v):∀(n:Nat) (s v:Tr) (p:List Bt),qb n s=Ta->j7 zh s=Ta ->
  zm same cmp n (ze s) v p=zm same cmp n s v p
 |0,_,_,_,_,_=>rfl
 |n+1,s,v,p,hs,ho=>by
  have D:zh s=Ta:=by rw[y9,zan]at ho;exact ho.1
  rw[zm,zm];refine qw λw E=>?_;rw[BR D];cases e:jh s (bl w)with
  |none=>rfl
  |some x=>
   have b:=Am hs D e;have c:=zk ho (yf e);have o:zh x=Ta:=by rw[y9,zan]at c;exact c.1
   have S:=J6 o;show J7 same cmp (zm same cmp n) (ze s) w (ze x) v p=J7 same cmp (zm same cmp n) s w x v p;have r:∀(y u:Tr) (q:List Bt),qb n y=Ta->j7 zh y=Ta->zm same cmp n (ze y) u q=zm same cmp n y u q:=λy u q h1 G=>xL h n y u q h1 G;simp only[sWords,zah,zdx,or_false]at E;rcases E with rfl|rfl|rfl|rfl|rfl|rfl|rfl|rfl|rfl|rfl|rfl|rfl|rfl;rw[oT,oT,S.t];have C:x.kind=5:=by(have:Yg (qb n) jA x=decide (x.kind=5):=by kernel_rfl);rw[this]at b;exact zB b
   rw[o5,o5,Xc (by omega),any_map];exact Kn (Z8 λy f=>h y v (zk c f)) _ _;have H:x.kind=3:=by(have:Yg (qb n) xw x=decide (x.kind=3):=by kernel_rfl);rw[this]at b;exact zB b
   rw[Ji o (by omega) (by omega),Xb,Xb];have H:x.kind=3:=by(have:Yg (qb n) iF x=decide (x.kind=3):=by kernel_rfl);rw[this]at b;exact zB b
   rw[Ji o (by omega) (by omega),oI,oI];have B:ww (ze x)=ww x:=by unfold ww;rw[S.t]
   rw[Jh,Jh,B];have B:ww (ze x)=ww x:=by unfold ww;rw[S.t]
   rw[pn,pn,B];have C:x.kind=5:=by
    have:Yg (qb n) jr x=(decide (x.kind=5)&&x.items.all λy=>decide (y.kind=4)):=by kernel_rfl
    rw[this,zan]at b;exact zB b.1
   rw[J8,J8,Xc (by omega)];congr 1;have key:∀l:List Tr,(∀y∈l,j7 zh y=Ta)->((l.map ze).filter λy=>decide (idxOfS v.keys y.text<0)).map (λy=>(p++[y.text],jr))=(l.filter λy=>decide (idxOfS v.keys y.text<0)).map λy=>(p++[y.text],jr):=by
    intro l F;induction l with
    |nil=>rfl
    |cons y l r=>have f:=F y (by simp);rw[y9,zan]at f;have et:=(J6 f.1).t;rw[zbh,zc4,zc4,et];have:=r λz hz=>F z (by simp[hz]);split;rw[zbh,zbh,et,this];exact this
   exact key _ λy f=>zk c f;rw[Zr,Zr,S.t];congr 1;congr 1;refine List.filter_congr λk I=>?_;rw[BR D];cases e2:jh s (bl zr)with
   |none=>rfl
   |some m=>have A:=zk ho (yf e2);rw[y9,zan]at A;exact decide_eq_decide.2 (D3 (J6 A.1).kp k)
   rw[Iu]at b;rw[Q2,Q2];congr 1;refine qw λi _=>?_;cases v.items[i]? with
   |none=>rfl
   |some y=>exact r x y _ b c
   rw[EW,zan,zas]at b;rw[wo,wo];refine qw λm _=>?_;rw[BR o];cases e2:jh x m.1 with
   |none=>rfl
   |some y=>exact r y m.2 _ (b.2 y (yf e2)) (zk c (yf e2))
   rw[AS,zan,zas]at b;have C:x.kind=5:=zB b.1;rw[mz,mz,Xc (by omega),EG];exact qw λy f=>r y v p (b.2 y f) (zk c f);rw[HQ,zan,zas]at b;have C:x.kind=5:=zB b.1;rw[nl,nl,Xc (by omega),any_map];exact Kn (Z8 λy f=>by rw[r y v [] (b.2 y f) (zk c f)]) _ _;rw[IP]at b;rw[nh,nh,r x v [] b c]
end
section
variable {same : Tr -> Tr -> Bool} {cmp : Tr -> Tr -> Int}
theorem sS{α β γ:Type}{f:α->List β}{g:α->List γ}:∀{l:List α},(∀x∈l,(f x).length=(g x).length)->(l.flatMap f).length=(l.flatMap g).length
 |[],_=>rfl
 |x::l,h=>by rw[zb0,zb0,zat,zat,h x (by simp),sS λy b=>h y (by simp[b])]
theorem CM{α β:Type}{a:List α}{b:List β}(h:a.length=b.length):a.isEmpty=b.isEmpty:=by cases a <;> cases b <;> simp_all
theorem EQ(n:Nat)(s v:Tr)(p:List Bt):(zm same cmp n s v p).length=(zm same cmp n s v []).length:=by rw[Jg,zaw]
theorem Fg{v:Tr}(b:zh v=Ta):wy (ze v)=wy v:=by have S:=J6 b;unfold wy;rw[S.k,S.t,S.ip.length_eq,zaw]
theorem zV(b:∀y v,j7 zh v=Ta->same y (ze v)=same y v):∀(n:Nat) (s v:Tr),j7 zh v=Ta ->
  (zm same cmp n s (ze v) []).length=(zm same cmp n s v []).length
 |0,_,_,_=>rfl
 |n+1,s,v,ho=>by
  have o:zh v=Ta:=by rw[y9,zan]at ho;exact ho.1
  have S:=J6 o;rw[zm,zm];refine sS λw r=>?_;cases e:jh s (bl w)with
  |none=>rfl
  |some x=>
   show(J7 same cmp (zm same cmp n) s w x (ze v) []).length=(J7 same cmp (zm same cmp n) s w x v []).length;have l:∀(y u:Tr) (p q:List Bt),j7 zh u=Ta->(zm same cmp n y (ze u) p).length=(zm same cmp n y u q).length:=λy u p q h=>by rw[EQ n y _ p,EQ n y u q];exact zV b n y u h
   simp only[sWords,zah,zdx,or_false]at r;have c:v.kind=3->ze v=v:=λf=>Ji o (by omega) (by omega);rcases r with rfl|rfl|rfl|rfl|rfl|rfl|rfl|rfl|rfl|rfl|rfl|rfl|rfl;rw[oT,oT,S.k];rw[o5,o5,Z8 (q:=λy=>same y v) λy _=>b y v ho];by_cases f:v.kind=3;rw[c f];rw[Xb,Xb,S.k];simp[f];by_cases f:v.kind=3;rw[c f];rw[oI,oI,S.k];simp[f];rw[Jh,Jh,Fg o];rw[pn,pn,Fg o];rw[J8,J8,S.k];congr 1;split;congr 1;exact List.filter_congr λy _=>decide_eq_decide.2 (D3 S.kp y.text)
   rfl;rw[Zr,Zr];split;rw[zaw,zaw];exact(S.kp.filter _).length_eq;rfl;rw[Q2,Q2,S.k];split;rename_i z;rw[Xc (by omega),zaw];refine sS λi _=>?_;rw[zbu];cases e2:v.items[i]? with
   |none=>rfl
   |some y=>exact l x y _ _ (zk ho (zbv e2))
   rfl;rw[wo,wo];refine(S.zp.flatMap_right _).length_eq.trans ?_;rw[List.zip_map_right,EG];refine sS λm t=>?_;show((jh x m.1).elim [] λy=>zm same cmp n y (ze m.2) ([]++[m.1])).length=_;cases jh x m.1 with
   |none=>rfl
   |some y=>exact l y m.2 _ _ (zk ho (oH t))
   rw[mz,mz];exact sS λy _=>l y v _ _ ho;rw[nl,nl,Z8 (q:=λy=>(zm same cmp n y v []).isEmpty) λy _=>CM (l y v _ _ ho)];rw[nh,nh,CM (l x v [] [] ho)]
end
section
variable {v s:Tr}
variable {same : Tr -> Tr -> Bool} {cmp : Tr -> Tr -> Int}
theorem AK{α:Type}{l m:List α}(h:l.Perm m)(p:α->Bool):l.all p=m.all p:=by rw[za7,zas,zas];exact⟨λH x b=>H x (h.mem_iff.2 b),λH x b=>H x (h.mem_iff.1 b)⟩
theorem UU{r:Tr->Bool}{q:Bs}{x:Tr}(c:j7 zh x=Ta)(h0:r (ze x)=r x)(h:∀y∈x.items,r (ze y)=r y):Yg r q (ze x)=Yg r q x:=by
 have l:zh x=Ta:=by rw[y9,zan]at c;exact c.1
 have S:=J6 l;have e:(ze x).items.all r=x.items.all r:=by rw[AK S.ip,zey];exact Z7 h
 have i:((ze x).items.all λy=>decide (y.kind=4))=x.items.all λy=>decide (y.kind=4):=by rw[AK S.ip,zey];refine Z7 λy f=>?_;have b:=zk c f;rw[y9,zan]at b;show decide ((ze y).kind=4)=_;rw[(J6 b.1).k]
 unfold Yg ww;rw[S.k,S.t,h0,e,i]
theorem Ap:∀(n:Nat) (s:Tr),j7 zh s=Ta->qb n (ze s)=qb n s
 |0,_,_=>rfl
 |n+1,s,ho=>by
  have f:zh s=Ta:=by rw[y9,zan]at ho;exact ho.1
  have S:=J6 f;rw[qb,qb,S.k,AK S.zp,List.zip_map_right,zey];congr 1;refine Z7 λp c=>?_;have b:=zk ho (oH c);exact UU b (Ap n _ b) λy e=>Ap n y (zk b e)
theorem jl(h:zy v=Ta):j7 zh v=Ta:=by
 have e:=((Yw v).1 h).2.2;have key:∀(n:Nat) (v:Tr),bR v<=n->j7 (λx=>decide (x.kind≠7)&&zh x) v=Ta->j7 zh v=Ta:=by
  intro n;induction n with
  |zero=>intro v hz;have:=Ja v;omega
  |succ n c=>intro v hz h;rw[y9,j8,zan,zas]at h ⊢;rw[zan]at h;exact⟨h.1.2,λx b=>c x (by have:=yl b;omega) (h.2 x b)⟩
 exact key _ v (zaf _) e
theorem Qq(h:zy v=Ta):jw v=Ta:=by have h1:=(Yw v).1 h;unfold jw Z1;simp[h1.1,h1.2.1,jl h]
theorem KU(h:zy s=Ta):Yp (ze s)=Yp s:=by rw[p9 (n:=max (bK (ze s)) (bK s)) (Nat.le_max_left _ _),p9 (v:=s) (n:=max (bK (ze s)) (bK s)) (Nat.le_max_right _ _),Bo (Qq h),Ap _ _ (jl h)]
theorem Nl(b:∀y v,j7 zh y=Ta->same (ze y) v=same y v)(h:Yp s=Ta):fitsT same cmp (ze s) v=fitsT same cmp s v:=by have c:=jk h;rw[tP (n:=max (bK (ze s)) (bK s)) (Nat.le_max_left _ _),tP (s:=s) (n:=max (bK (ze s)) (bK s)) (Nat.le_max_right _ _),KU c,xL b _ _ _ _ (lX h (Nat.le_max_right _ _)) (jl c)]
theorem z6y(b:∀y v,j7 zh v=Ta->same y (ze v)=same y v)(c:zy v=Ta):fitsT same cmp s (ze v)=fitsT same cmp s v:=by unfold fitsT;rw[Bo (Qq c),CM (zV b _ s v (jl c))]
theorem SB(h1:∀y v,j7 zh y=Ta->same (ze y) v=same y v)(e:∀y v,j7 zh v=Ta->same y (ze v)=same y v)(b:Yp s=Ta)(c:zy v=Ta):
  (zm same cmp (bK (ze s)) (ze s) (ze v) []).length=(zm same cmp (bK s) s v []).length:=by
 have f:=jk b;rw[Yv (bK (ze s)) (max (bK (ze s)) (bK s)) _ _ _ (zaf _) (Nat.le_max_left _ _),xL h1 _ _ _ _ (lX b (Nat.le_max_right _ _)) (jl f),zV e _ _ _ (jl c),Yv (bK s) (max (bK (ze s)) (bK s)) s v [] (zaf _) (Nat.le_max_right _ _)]
end
section
variable {s:Tr}
variable {same : Tr -> Tr -> Bool} {cmp : Tr -> Tr -> Int}
def Xd:Tr:=.mk 6 ⟨#[]⟩ [] []
def mh:Tr:=.mk 2 (bl [102,97,108,115,101]) [] []
def jS:Tr:=.mk 3 (bl [48]) [] []
def Zh(s:Tr):Tr:=.mk 6 ⟨#[]⟩ [bl hX,bl jr,bl jg,bl zr,bl xx] [Zq [s,Xd],Zq [],mh,Xd,jS]
theorem E4(s:Tr):bR (Zh s)=bR s+7:=by simp[Zh,Zq,Xd,mh,jS,bR,Z0];omega
theorem AH(s:Tr):bK (Zh s)=bK s+2:=by have:=W8 s;simp[Zh,Zq,Xd,mh,jS,bK,Jp];omega
theorem z7a(h:zy s=Ta)(h1:bR s<=4000)(n:bK s<=30):zy (Zh s)=Ta:=by
 rw[Yw]at *;refine⟨by rw[E4];omega,by rw[AH];omega,?_⟩;have m:(λx=>decide (x.kind≠7)&&zh x) (Zh s)=Ta:=by kernel_rfl
 have i:∀l:List Tr,(λx=>decide (x.kind≠7)&&zh x) (Zq l)=Ta:=λl=>by kernel_rfl
 have b:j7 (λx=>decide (x.kind≠7)&&zh x) Xd=Ta:=by kernel_rfl
 have c:j7 (λx=>decide (x.kind≠7)&&zh x) mh=Ta:=by kernel_rfl
 have k:j7 (λx=>decide (x.kind≠7)&&zh x) jS=Ta:=by kernel_rfl
 have e:j7 (λx=>decide (x.kind≠7)&&zh x) (Zq [])=Ta:=by kernel_rfl
 have f:j7 (λx=>decide (x.kind≠7)&&zh x) (Zq [s,Xd])=Ta:=by rw[y9,zan];refine⟨i _,?_⟩;rw[j8];show(j7 _ s&&(j7 _ Xd&&Ta))=Ta;rw[h.2.2,b];rfl
 rw[y9,zan];refine⟨m,?_⟩;rw[j8];show(j7 _ (Zq [s,Xd])&&(j7 _ (Zq [])&&(j7 _ mh&&(j7 _ Xd&&(j7 _ jS&&Ta)))))=Ta;rw[b,c,k,e,f];rfl
theorem OA(h:Yp s=Ta)(h1:bR s<=4000)(e:bK s<=30):Yp (Zh s)=Ta:=by
 rw[p9 (n:=bK s+2) (by rw[AH];exact zaf _),z7a (jk h) h1 e,qb];have b:qb (bK s+1) Xd=Ta:=by rw[qb];kernel_rfl
 have l:Yg (qb (bK s+1)) hX (Zq [s,Xd])=Ta:=by rw[AS];show(Ta&&(qb (bK s+1) s&&(qb (bK s+1) Xd&&Ta)))=Ta;rw[lX h (by omega),b];rfl
 have c:Yg (qb (bK s+1)) jr (Zq [])=Ta:=by kernel_rfl
 have f:Yg (qb (bK s+1)) jg mh=Ta:=by kernel_rfl
 have i:Yg (qb (bK s+1)) zr Xd=Ta:=by kernel_rfl
 have k:Yg (qb (bK s+1)) xx jS=Ta:=by kernel_rfl
 show(Ta&&(Ta&&(Yg _ (lb (bl hX)) _&&(Yg _ (lb (bl jr)) _&&(Yg _ (lb (bl jg)) _&&(Yg _ (lb (bl zr)) _&&(Yg _ (lb (bl xx)) _&&Ta)))))))=Ta;rw[yo,yo,yo,yo,yo,l,c,f,i,k];rfl
theorem NZ(n:Nat)(v:Tr)(p:List Bt):zm same cmp n Xd v p=[]:=by
 cases n with
 |zero=>rfl
 |succ n=>rw[zm];kernel_rfl
theorem qc9(n:Nat)(s v:Tr):zm same cmp (n+1) (Zh s) v []=zm same cmp n s v []:=by
 rw[zm];have l:jh (Zh s) (bl iK)=Td:=by kernel_rfl
 have k2:jh (Zh s) (bl jA)=Td:=by kernel_rfl
 have u:jh (Zh s) (bl xw)=Td:=by kernel_rfl
 have z:jh (Zh s) (bl iF)=Td:=by kernel_rfl
 have w:jh (Zh s) (bl xx)=Tc jS:=by kernel_rfl
 have y:jh (Zh s) (bl jY)=Td:=by kernel_rfl
 have q:jh (Zh s) (bl jr)=Tc (Zq []):=by kernel_rfl
 have p:jh (Zh s) (bl jg)=Tc mh:=by kernel_rfl
 have r:jh (Zh s) (bl je)=Td:=by kernel_rfl
 have c:jh (Zh s) (bl zr)=Tc Xd:=by kernel_rfl
 have f:jh (Zh s) (bl hX)=Tc (Zq [s,Xd]):=by kernel_rfl
 have i:jh (Zh s) (bl hO)=Td:=by kernel_rfl
 have k:jh (Zh s) (bl iY)=Td:=by kernel_rfl
 have n0:(ww jS).1=0:=by kernel_rfl
 have sz:(decide (wy v<0)||decide ((ww jS).1<=wy v))=Ta:=by
  rw[n0];by_cases h:wy v<0;simp[h];have:0<=wy v:=by omega
  simp[this]
 have x:J7 same cmp (zm same cmp n) (Zh s) xx jS v []=[]:=by rw[Jh,sz];rfl
 have t:J7 same cmp (zm same cmp n) (Zh s) jr (Zq []) v []=[]:=by rw[J8];split <;> rfl
 have o:J7 same cmp (zm same cmp n) (Zh s) jg mh v []=[]:=by rw[Zr,za (by decide)]
 have b:J7 same cmp (zm same cmp n) (Zh s) zr Xd v []=[]:=by rw[wo];refine List.flatMap_eq_nil_iff.2 λm _=>?_;rw[BE rfl];rfl
 have e:J7 same cmp (zm same cmp n) (Zh s) hX (Zq [s,Xd]) v []=zm same cmp n s v []:=by rw[mz];show zm same cmp n s v []++(zm same cmp n Xd v []++[])=_;rw[NZ];simp
 simp only[sWords,zb0,List.flatMap_nil,l,k2,u,z,w,y,q,p,r,c,f,i,k,Option.elim,x,t,o,b,e,zco,zbj]
theorem Uz{s v:Tr}(h:Yp s=Ta)(h1:bR s<=4000)(b:bK s<=30):fitsT same cmp (Zh s) v=fitsT same cmp s v:=by unfold fitsT;rw[OA h h1 b,h,AH,qc9,Yv (bK s+1) (bK s) s v [] (by omega) (zaf _)]
end
end Go.X
end
section
namespace Go.X
section


theorem Jq(gl:Fr)(h:Tr)(D:Tr)(R:Bool->Prop) (H:PC Tp gl 11 [] [.bool] (λa:Bool=>PC Tp gl 12 [Arg.mk .tree (Tr.mk h.kind h.text h.keys h.items),Arg.mk .tree (Tr.mk D.kind D.text D.keys D.items)] [.bool] (λb:Bool=>∃c:Bool->Prop,((!(!b))=Ta->PC Tp gl 17 [Arg.mk .tree (Tr.mk h.kind h.text h.keys h.items)] [.bool] c)/\∀d:Bool,((!(!b))=Ta->c d)->∃e:Bool->Prop,((!(bif (!b)then Ta else(!d)))=Ta->PC Tp gl 25 [Arg.mk .tree (Tr.mk D.kind D.text D.keys D.items)] [.bool] e)/\∀f:Bool,((!(bif (!b)then Ta else(!d)))=Ta->e f)->∃g:Int->Prop,((!(bif (bif (!b)then Ta else(!d))then Ta else(!f)))=Ta->PC Tp gl 26 [Arg.mk .tree (Tr.mk h.kind h.text h.keys h.items)] [.int .i64] g)/\∀i:Int,((!(bif (bif (!b)then Ta else(!d))then Ta else(!f)))=Ta->g i)->((bif (bif (bif (!b)then Ta else(!d))then Ta else(!f))then Ta else(decide (i>28)))=Ta->R a)/\((bif (bif (bif (!b)then Ta else(!d))then Ta else(!f))then Ta else(decide (i>28)))=Tb->PC Tp gl 19 [Arg.mk .tree (Tr.mk h.kind h.text h.keys h.items),Arg.mk .tree (Tr.mk D.kind D.text D.keys D.items)] [.bool] (λj:Bool=>PC Tp gl 29 [Arg.mk (.row .str) [],Arg.mk (.row .tree) []] [.tree] (λk:Tr=>PC Tp gl 28 [Arg.mk (.row .tree) [Tr.mk h.kind h.text h.keys h.items,Tr.mk k.kind k.text k.keys k.items]] [.tree] (λl:Tr=>PC Tp gl 28 [Arg.mk (.row .tree) []] [.tree] (λm:Tr=>PC Tp gl 30 [Arg.mk (.int .i64) 0] [.tree] (λn:Tr=>PC Tp gl 29 [Arg.mk (.row .str) ([(⟨#[97,108,108]⟩:Bt),(⟨#[110,101,101,100]⟩:Bt),(⟨#[99,108,111,115,101,100]⟩:Bt),(⟨#[109,101,109,98,101,114,115]⟩:Bt),(⟨#[115,104,111,114,116]⟩:Bt)]:List Bt),Arg.mk (.row .tree) ([Tr.mk l.kind l.text l.keys l.items,Tr.mk m.kind m.text m.keys m.items,Tr.mk 2 (⟨#[102,97,108,115,101]⟩:Bt) [] [],Tr.mk k.kind k.text k.keys k.items,Tr.mk n.kind n.text n.keys n.items]:List Tr)] [.tree] (λo:Tr=>PC Tp gl 14 [Arg.mk .tree (Tr.mk h.kind h.text h.keys h.items),Arg.mk .tree (Tr.mk D.kind D.text D.keys D.items)] [.row (.pair (.row .str) .str),.int .i64] (λp:(List ((List Bt)×Bt))×Int=>PC Tp gl 31 [Arg.mk .tree (Tr.mk h.kind h.text h.keys h.items)] [.tree] (λq:Tr=>PC Tp gl 31 [Arg.mk .tree (Tr.mk D.kind D.text D.keys D.items)] [.tree] (λr:Tr=>PC Tp gl 14 [Arg.mk .tree (Tr.mk q.kind q.text q.keys q.items),Arg.mk .tree (Tr.mk r.kind r.text r.keys r.items)] [.row (.pair (.row .str) .str),.int .i64] (λs:(List ((List Bt)×Bt))×Int=>∃t:Tr->Prop,(a=Ta->PC Tp gl 31 [Arg.mk .tree (Tr.mk h.kind h.text h.keys h.items)] [.tree] t)/\∀u:Tr,(a=Ta->t u)->∃v:Bool->Prop,(a=Ta->PC Tp gl 19 [Arg.mk .tree (Tr.mk u.kind u.text u.keys u.items),Arg.mk .tree (Tr.mk D.kind D.text D.keys D.items)] [.bool] v)/\∀w:Bool,(a=Ta->v w)->∃x:Tr->Prop,((bif a then(w==j)else Tb)=Ta->PC Tp gl 31 [Arg.mk .tree (Tr.mk D.kind D.text D.keys D.items)] [.tree] x)/\∀y:Tr,((bif a then(w==j)else Tb)=Ta->x y)->∃z:Bool->Prop,((bif a then(w==j)else Tb)=Ta->PC Tp gl 19 [Arg.mk .tree (Tr.mk h.kind h.text h.keys h.items),Arg.mk .tree (Tr.mk y.kind y.text y.keys y.items)] [.bool] z)/\∀A:Bool,((bif a then(w==j)else Tb)=Ta->z A)->∃B:Bool->Prop,((bif (bif a then(w==j)else Tb)then(A==j)else Tb)=Ta->PC Tp gl 19 [Arg.mk .tree (Tr.mk o.kind o.text o.keys o.items),Arg.mk .tree (Tr.mk D.kind D.text D.keys D.items)] [.bool] B)/\∀C:Bool,((bif (bif a then(w==j)else Tb)then(A==j)else Tb)=Ta->B C)->R (bif (bif (bif (bif (bif (bif a then(w==j)else Tb)then(A==j)else Tb)then(C==j)else Tb)then(p.2==0)else Tb)then(s.2==0)else Tb)then((p.1.length:Int)==(s.1.length:Int))else Tb))))))))))))))):
  PC Tp gl 5 [Arg.mk .tree h,Arg.mk .tree D] [.bool] R:=
 PF ⟨[],[(7,12,[],[0,1,2,3,6,7,11,4,5,8,9,10],[]),(9,8,[],[0,2,1,3,4,5,6,7],[7]),(10,37,[],[0,1,2,4,6,3,5,7,8,9,10,11,14,12,13,15,16,17,18,19,21,20,22,23,24,25,26,27,28,29,30,31,32,33,34,35,36],[])],[],[]⟩ [.tmp 4] 104 Tryz.func5 H
theorem Jr(gl:Fr)(r:Tr)(h:Tr)(R:Bool->Prop) (H:PC Tp gl 11 [] [.bool] (λa:Bool=>PC Tp gl 12 [Arg.mk .tree (Tr.mk r.kind r.text r.keys r.items),Arg.mk .tree (Tr.mk h.kind h.text h.keys h.items)] [.bool] (λb:Bool=>((!b)=Ta->R a)/\((!b)=Tb->PC Tp gl 14 [Arg.mk .tree (Tr.mk r.kind r.text r.keys r.items),Arg.mk .tree (Tr.mk h.kind h.text h.keys h.items)] [.row (.pair (.row .str) .str),.int .i64] (λc:(List ((List Bt)×Bt))×Int=>((c.2 != 0)=Ta->∃d:Bool->Prop,((bif a then((c.1.length:Int)==0)else Tb)=Ta->PC Tp gl 19 [Arg.mk .tree (Tr.mk r.kind r.text r.keys r.items),Arg.mk .tree (Tr.mk h.kind h.text h.keys h.items)] [.bool] d)/\∀e:Bool,((bif a then((c.1.length:Int)==0)else Tb)=Ta->d e)->R (bif (bif a then((c.1.length:Int)==0)else Tb)then(!e)else Tb))/\((c.2 != 0)=Tb->∃(f:Int->Prop) (g:Int->Nat),f 0/\∀i:Int,f i->((decide (i<c.1.length)=Ta->∃j:(List Bt)×Bt,(0<=i/\c.1[i.toNat]?=Tc j)/\PC Tp gl 32 [Arg.mk .tree (Tr.mk h.kind h.text h.keys h.items),Arg.mk (.row .str) j.1] [.tree,.bool] (λk:Tr×Bool=>∃l:(List Bt)×Bt,(0<=i/\c.1[i.toNat]?=Tc l)/\∃m:(List Bt)×Bt,((!(bif (!(l.2.toList==(⟨#[110,101,101,100]⟩:Bt).toList))then(!k.2)else Tb))=Ta->(0<=i/\c.1[i.toNat]?=Tc m))/\((bif (bif (!(l.2.toList==(⟨#[110,101,101,100]⟩:Bt).toList))then(!k.2)else Tb)then Ta else(bif (m.2.toList==(⟨#[110,101,101,100]⟩:Bt).toList)then(bif k.2 then Ta else((j.1.length:Int)==0))else Tb))=Ta->R Tb)/\((bif (bif (!(l.2.toList==(⟨#[110,101,101,100]⟩:Bt).toList))then(!k.2)else Tb)then Ta else(bif (m.2.toList==(⟨#[110,101,101,100]⟩:Bt).toList)then(bif k.2 then Ta else((j.1.length:Int)==0))else Tb))=Tb->∃n:(List Bt)×Bt,(0<=i/\c.1[i.toNat]?=Tc n)/\((n.2.toList==(⟨#[110,101,101,100]⟩:Bt).toList)=Ta->(0<=(0:Int)/\(0:Int)<=(zaa .i64 ((j.1.length:Int)-1))/\(zaa .i64 ((j.1.length:Int)-1))<=(j.1.length:Int))/\PC Tp gl 32 [Arg.mk .tree (Tr.mk h.kind h.text h.keys h.items),Arg.mk (.row .str) (List.drop (0:Int).toNat (List.take (zaa .i64 ((j.1.length:Int)-1)).toNat j.1))] [.tree,.bool] (λo:Tr×Bool=>((bif (!o.2)then Ta else(o.1.kind != 6))=Ta->R Tb)/\((bif (!o.2)then Ta else(o.1.kind != 6))=Tb->(f (zaa .i64 (i+1))/\g (zaa .i64 (i+1))<g i))))/\((n.2.toList==(⟨#[110,101,101,100]⟩:Bt).toList)=Tb->(f (zaa .i64 (i+1))/\g (zaa .i64 (i+1))<g i)))))/\(decide (i<c.1.length)=Tb->∃p:Bool->Prop,(a=Ta->PC Tp gl 19 [Arg.mk .tree (Tr.mk r.kind r.text r.keys r.items),Arg.mk .tree (Tr.mk h.kind h.text h.keys h.items)] [.bool] p)/\∀q:Bool,(a=Ta->p q)->R (bif a then(((c.1.length:Int)==0)==q)else Tb))))))))):
  PC Tp gl 6 [Arg.mk .tree r,Arg.mk .tree h] [.bool] R:=
 PF ⟨[],[(16,11,[],[0,1,2,3,4,5,10,6,7,8,9],[9])],[(9,⟨[(9,.one (.dat (.int .i64)))],[],[2,3],[100576]⟩)],[]⟩ [.tmp 4] 118 Tryz.func6 H

theorem MW(gl:Fr)(e:Tr)(f:Tr)(R:Bool->Prop) (H:PC Tp gl 39 [Arg.mk .tree (Tr.mk e.kind e.text e.keys e.items),Arg.mk (.int .i64) 120] [.bool] (λa:Bool=>∃b:Bool->Prop,(a=Ta->PC Tp gl 39 [Arg.mk .tree (Tr.mk f.kind f.text f.keys f.items),Arg.mk (.int .i64) 60] [.bool] b)/\∀c:Bool,(a=Ta->b c)->R (bif a then c else Tb))):
  PC Tp gl 12 [Arg.mk .tree e,Arg.mk .tree f] [.bool] R:=
 PF ⟨[],[],[],[]⟩ [.tmp 4] 11 Tryz.func12 H
theorem TD(gl:Fr)(e:Tr)(f:Tr)(R:((List ((List Bt)×Bt))×Int)->Prop) (H:PC Tp gl 17 [Arg.mk .tree (Tr.mk e.kind e.text e.keys e.items)] [.bool] (λa:Bool=>∃b:Bool->Prop,((!(!a))=Ta->PC Tp gl 25 [Arg.mk .tree (Tr.mk f.kind f.text f.keys f.items)] [.bool] b)/\∀c:Bool,((!(!a))=Ta->b c)->((bif (!a)then Ta else(!c))=Ta->R ([],1))/\((bif (!a)then Ta else(!c))=Tb->PC Tp gl 49 [Arg.mk .tree (Tr.mk e.kind e.text e.keys e.items),Arg.mk .tree (Tr.mk f.kind f.text f.keys f.items),Arg.mk (.row .str) []] [.row (.pair (.row .str) .str)] (λd:List ((List Bt)×Bt)=>R (d,0))))):
  PC Tp gl 14 [Arg.mk .tree e,Arg.mk .tree f] [.row (.pair (.row .str) .str),.int .i64] R:=
 PF ⟨[],[],[],[]⟩ [.tmp 4,.tmp 5] 17 Tryz.func14 H
theorem zn6(gl:Fr)(e:Tr)(R:Bool->Prop) (H:PC Tp gl 25 [Arg.mk .tree (Tr.mk e.kind e.text e.keys e.items)] [.bool] (λa:Bool=>∃b:Bool->Prop,(a=Ta->PC Tp gl 52 [Arg.mk .tree (Tr.mk e.kind e.text e.keys e.items)] [.bool] b)/\∀c:Bool,(a=Ta->b c)->R (bif a then c else Tb))):
  PC Tp gl 17 [Arg.mk .tree e] [.bool] R:=
 PF ⟨[],[],[],[]⟩ [.tmp 2] 9 Tryz.func17 H
theorem WP(gl:Fr)(b:Tr)(c:Tr)(R:Bool->Prop) (H:PC Tp gl 14 [Arg.mk .tree (Tr.mk b.kind b.text b.keys b.items),Arg.mk .tree (Tr.mk c.kind c.text c.keys c.items)] [.row (.pair (.row .str) .str),.int .i64] (λa:(List ((List Bt)×Bt))×Int=>R (bif (a.2==0)then((a.1.length:Int)==0)else Tb))):
  PC Tp gl 19 [Arg.mk .tree b,Arg.mk .tree c] [.bool] R:=
 PF ⟨[],[],[],[]⟩ [.tmp 4] 20 Tryz.func19 H

theorem U2(gl:Fr)(b:Bt)(c:Tr)(R:Tr->Prop) (H:PC Tp gl 29 [Arg.mk (.row .str) [b],Arg.mk (.row .tree) [Tr.mk c.kind c.text c.keys c.items]] [.tree] (λa:Tr=>R (Tr.mk a.kind a.text a.keys a.items))):
  PC Tp gl 27 [Arg.mk .str b,Arg.mk .tree c] [.tree] R:=
 PF ⟨[],[],[],[]⟩ [.cell 4 25] 10 Tryz.func27 H

theorem Nu(gl:Fr)(h:Tr)(R:Bool->Prop) (H:∃(a:Int->Prop) (b:Int->Nat),a 0/\∀c:Int,a c->((decide (c<h.keys.length)=Ta->∃d,(0<=c/\h.keys[c.toNat]?=Tc d)/\∃e,(0<=c/\h.items[c.toNat]?=Tc e)/\PC Tp gl 96 [Arg.mk .str d,Arg.mk .tree (Tr.mk e.kind e.text e.keys e.items)] [.bool] (λf:Bool=>((!f)=Ta->R Tb)/\((!f)=Tb->(a (zaa .i64 (c+1))/\b (zaa .i64 (c+1))<b c))))/\(decide (c<h.keys.length)=Tb->R (h.kind==6)))):
  PC Tp gl 52 [Arg.mk .tree h] [.bool] R:=
 PF ⟨[],[],[(2,⟨[(8,.one (.dat (.int .i64)))],[],[1],[100512]⟩)],[]⟩ [.tmp 2] 25 Tryz.func52 H

theorem OE(gl:Fr)(e:Tr)(c:Bt)(R:(Tr×Bool)->Prop) (H:PC Tp gl 98 [Arg.mk (.row .str) e.keys,Arg.mk .str c] [.int .i64] (λa:Int=>(decide (a<0)=Ta->R (Tr.mk 0 (⟨#[]⟩:Bt) [] [],Tb))/\(decide (a<0)=Tb->∃b,(0<=a/\e.items[a.toNat]?=Tc b)/\R (Tr.mk b.kind b.text b.keys b.items,Ta)))):
  PC Tp gl 90 [Arg.mk .tree e,Arg.mk .str c] [.tree,.bool] R:=
 PF ⟨[],[],[],[]⟩ [.cell 4 25,.tmp 5] 19 Tryz.func90 H

theorem RS(gl:Fr)(h:Bt)(t:Tr)(R:Bool->Prop) (H:((h.toList==(⟨#[116,121,112,101]⟩:Bt).toList)=Ta->∃a:Int->Prop,((t.kind==4)=Ta->PC Tp gl 166 [Arg.mk .str t.text] [.int .i64] a)/\∀b:Int,((t.kind==4)=Ta->a b)->R (bif (t.kind==4)then(decide (b>0))else Tb))/\((h.toList==(⟨#[116,121,112,101]⟩:Bt).toList)=Tb->((h.toList==(⟨#[101,110,117,109]⟩:Bt).toList)=Ta->R (t.kind==5))/\((h.toList==(⟨#[101,110,117,109]⟩:Bt).toList)=Tb->∀c:Bool->Prop,(∀d:Bool,((d=Ta->R (t.kind==3))/\(d=Tb->∀e:Bool->Prop,(∀f:Bool,((f=Ta->PC Tp gl 167 [Arg.mk .tree (Tr.mk t.kind t.text t.keys t.items)] [.int .i64,.bool] (λg:Int×Bool=>R g.2))/\(f=Tb->((h.toList==(⟨#[110,101,101,100]⟩:Bt).toList)=Ta->∃i:Bool->Prop,((t.kind==5)=Ta->PC Tp gl 168 [Arg.mk .tree (Tr.mk t.kind t.text t.keys t.items)] [.bool] i)/\∀j:Bool,((t.kind==5)=Ta->i j)->R (bif (t.kind==5)then j else Tb))/\((h.toList==(⟨#[110,101,101,100]⟩:Bt).toList)=Tb->((h.toList==(⟨#[99,108,111,115,101,100]⟩:Bt).toList)=Ta->R (t.kind==2))/\((h.toList==(⟨#[99,108,111,115,101,100]⟩:Bt).toList)=Tb->∀k:Bool->Prop,(∀l:Bool,((l=Ta->PC Tp gl 52 [Arg.mk .tree (Tr.mk t.kind t.text t.keys t.items)] [.bool] (λm:Bool=>R m))/\(l=Tb->((h.toList==(⟨#[109,101,109,98,101,114,115]⟩:Bt).toList)=Ta->∃n:Bool->Prop,((t.kind==6)=Ta->PC Tp gl 169 [Arg.mk .tree (Tr.mk t.kind t.text t.keys t.items)] [.bool] n)/\∀o:Bool,((t.kind==6)=Ta->n o)->R (bif (t.kind==6)then o else Tb))/\((h.toList==(⟨#[109,101,109,98,101,114,115]⟩:Bt).toList)=Tb->∀p:Bool->Prop,(∀q:Bool,((q=Ta->∃r:Bool->Prop,((t.kind==5)=Ta->PC Tp gl 169 [Arg.mk .tree (Tr.mk t.kind t.text t.keys t.items)] [.bool] r)/\∀s:Bool,((t.kind==5)=Ta->r s)->R (bif (t.kind==5)then s else Tb))/\(q=Tb->R Tb))->p q)->((h.toList==(⟨#[97,108,108]⟩:Bt).toList)=Ta->p (h.toList==(⟨#[97,108,108]⟩:Bt).toList))/\((h.toList==(⟨#[97,108,108]⟩:Bt).toList)=Tb->p (h.toList==(⟨#[97,110,121]⟩:Bt).toList)))))->k l)->((h.toList==(⟨#[105,116,101,109,115]⟩:Bt).toList)=Ta->k (h.toList==(⟨#[105,116,101,109,115]⟩:Bt).toList))/\((h.toList==(⟨#[105,116,101,109,115]⟩:Bt).toList)=Tb->k (h.toList==(⟨#[110,111,116]⟩:Bt).toList))))))->e f)->((h.toList==(⟨#[115,104,111,114,116]⟩:Bt).toList)=Ta->e (h.toList==(⟨#[115,104,111,114,116]⟩:Bt).toList))/\((h.toList==(⟨#[115,104,111,114,116]⟩:Bt).toList)=Tb->e (h.toList==(⟨#[108,111,110,103]⟩:Bt).toList))))->c d)->((h.toList==(⟨#[108,101,97,115,116]⟩:Bt).toList)=Ta->c (h.toList==(⟨#[108,101,97,115,116]⟩:Bt).toList))/\((h.toList==(⟨#[108,101,97,115,116]⟩:Bt).toList)=Tb->c (h.toList==(⟨#[109,111,115,116]⟩:Bt).toList))))):
  PC Tp gl 96 [Arg.mk .str h,Arg.mk .tree t] [.bool] R:=
 PF ⟨[],[],[],[(9,⟨[(26,.one (.dat .bool))],[],[3],[101664]⟩),(12,⟨[(32,.one (.dat .bool))],[],[3],[102048]⟩),(20,⟨[(53,.one (.dat .bool))],[],[3],[103392]⟩),(25,⟨[(67,.one (.dat .bool))],[],[3],[104288]⟩)]⟩ [.tmp 4] 75 Tryz.func96 H












theorem VW(gl:Fr)(c:Tr)(R:(Int×Bool)->Prop) (H:PC Tp gl 107 [Arg.mk .str c.text] [.pair .bool (.pair .str (.int .i64)),.int .i64] (λa:(Bool×Bt×Int)×Int=>((bif (c.kind != 3)then Ta else(a.2 != 0))=Ta->R (0,Tb))/\((bif (c.kind != 3)then Ta else(a.2 != 0))=Tb->PC Tp gl 175 [Arg.mk (.pair .bool (.pair .str (.int .i64))) (a.1.1,(a.1.2.1,a.1.2.2))] [.int .i64,.bool] (λb:Int×Bool=>R (b.1,bif b.2 then(decide (b.1>=0))else Tb))))):
  PC Tp gl 167 [Arg.mk .tree c] [.int .i64,.bool] R:=
 PF ⟨[],[],[],[]⟩ [.tmp 2,.tmp 3] 32 Tryz.func167 H


theorem SI(gl:Fr)(a0:Tr)(f:Tr)(R:Int->Prop) (H:PC Tp gl 65 [Arg.mk .tree (Tr.mk a0.kind a0.text a0.keys a0.items)] [.bool] (λa:Bool=>PC Tp gl 65 [Arg.mk .tree (Tr.mk f.kind f.text f.keys f.items)] [.bool] (λb:Bool=>((bif a then b else Tb)=Ta->PC Tp gl 66 [Arg.mk .tree (Tr.mk a0.kind a0.text a0.keys a0.items)] [.tree] (λc:Tr=>PC Tp gl 66 [Arg.mk .tree (Tr.mk f.kind f.text f.keys f.items)] [.tree] (λd:Tr=>PC Tp gl 264 [Arg.mk .tree (Tr.mk c.kind c.text c.keys c.items),Arg.mk .tree (Tr.mk d.kind d.text d.keys d.items)] [.int .i64] (λe:Int=>R e))))/\((bif a then b else Tb)=Tb->(a=Ta->R 1)/\(a=Tb->(b=Ta->R (-1))/\(b=Tb->R 0)))))):
  PC Tp gl 197 [Arg.mk .tree a0,Arg.mk .tree f] [.int .i64] R:=
 PF ⟨[],[(1,3,[],[0,2,1],[]),(3,3,[],[0,2,1],[])],[],[]⟩ [.tmp 4] 25 Tryz.func197 H


theorem MU(gl:Fr)(e:Tr)(R:(Int×Bool)->Prop) (H:((e.kind==4)=Ta->PC Tp gl 276 [Arg.mk .str e.text] [.int .i64] (λa:Int=>R (a,Ta)))/\((e.kind==4)=Tb->∀b:Bool->Prop,(∀c:Bool,((c=Ta->R ((e.items.length:Int),Ta))/\(c=Tb->R (0,Tb)))->b c)->((e.kind==5)=Ta->b (e.kind==5))/\((e.kind==5)=Tb->b (e.kind==6)))):
  PC Tp gl 220 [Arg.mk .tree e] [.int .i64,.bool] R:=
 PF ⟨[],[],[],[(6,⟨[(11,.one (.dat .bool))],[],[1],[100704]⟩)]⟩ [.tmp 2,.tmp 3] 17 Tryz.func220 H




theorem Su(gl:Fr)(x0:Tr)(R:Bool->Prop) (H:R (x0.kind != 4)):
  PC Tp gl 229 [Arg.mk .tree x0] [.bool] R:=
 PF ⟨[],[],[],[]⟩ [.tmp 2] 6 Tryz.func229 H
theorem zfy(gl:Fr)(x0:Tr)(R:Bool->Prop) (H:PC Tp gl 52 [Arg.mk .tree (Tr.mk x0.kind x0.text x0.keys x0.items)] [.bool] (λa:Bool=>R (!a))):
  PC Tp gl 230 [Arg.mk .tree x0] [.bool] R:=
 PF ⟨[],[],[],[]⟩ [.tmp 2] 6 Tryz.func230 H

theorem NO(gl:Fr)(a0:Bool×Bt×Int)(h:Bool×Bt×Int)(R:Int->Prop) (H:PC Tp gl 105 [Arg.mk (.pair .bool (.pair .str (.int .i64))) (a0.1,(a0.2.1,a0.2.2))] [.bool] (λa:Bool=>PC Tp gl 105 [Arg.mk (.pair .bool (.pair .str (.int .i64))) (h.1,(h.2.1,h.2.2))] [.bool] (λb:Bool=>((bif (!a)then(!b)else Tb)=Ta->R 0)/\((bif (!a)then(!b)else Tb)=Tb->((!a)=Ta->R (-1))/\((!a)=Tb->((!b)=Ta->R 1)/\((!b)=Tb->PC Tp gl 366 [Arg.mk (.pair .bool (.pair .str (.int .i64))) (a0.1,(a0.2.1,a0.2.2))] [.int .i64] (λc:Int=>PC Tp gl 366 [Arg.mk (.pair .bool (.pair .str (.int .i64))) (h.1,(h.2.1,h.2.2))] [.int .i64] (λd:Int=>PC Tp gl 320 [Arg.mk (.int .i64) c,Arg.mk (.int .i64) d] [.int .i64] (λe:Int=>∃f:Int->Prop,((!(e != 0))=Ta->PC Tp gl 366 [Arg.mk (.pair .bool (.pair .str (.int .i64))) (a0.1,(a0.2.1,a0.2.2))] [.int .i64] f)/\∀g:Int,((!(e != 0))=Ta->f g)->((bif (e != 0)then Ta else(g==0))=Ta->R e)/\((bif (e != 0)then Ta else(g==0))=Tb->PC Tp gl 366 [Arg.mk (.pair .bool (.pair .str (.int .i64))) (a0.1,(a0.2.1,a0.2.2))] [.int .i64] (λi:Int=>PC Tp gl 367 [Arg.mk (.pair .bool (.pair .str (.int .i64))) (a0.1,(a0.2.1,a0.2.2)),Arg.mk (.pair .bool (.pair .str (.int .i64))) (h.1,(h.2.1,h.2.2))] [.int .i64] (λj:Int=>R (zaa .i64 (i*j)))))))))))))):
  PC Tp gl 318 [Arg.mk (.pair .bool (.pair .str (.int .i64))) a0,Arg.mk (.pair .bool (.pair .str (.int .i64))) h] [.int .i64] R:=
 PF ⟨[],[(1,3,[],[0,2,1],[]),(8,3,[],[0,2,1],[]),(11,4,[],[0,2,3,1],[])],[],[]⟩ [.tmp 4] 44 Tryz.func318 H
theorem Nr(gl:Fr)(e:List Int)(R:Int->Prop) (H:∃(a:Int->Prop) (b:Int->Nat),a 0/\∀c:Int,a c->((decide (c<e.length)=Ta->∃d,(0<=c/\e[c.toNat]?=Tc d)/\((d != 0)=Ta->R d)/\((d != 0)=Tb->(a (zaa .i64 (c+1))/\b (zaa .i64 (c+1))<b c)))/\(decide (c<e.length)=Tb->R 0))):
  PC Tp gl 319 [Arg.mk (.row (.int .i64)) e] [.int .i64] R:=
 PF ⟨[],[],[(3,⟨[(8,.one (.dat (.int .i64)))],[],[],[100512]⟩)],[]⟩ [.tmp 2] 18 Tryz.func319 H
theorem Ph(gl:Fr)(x0:Int)(c:Int)(R:Int->Prop) (H:PC Tp gl 368 [Arg.mk (.int .i64) x0] [.bool] (λa:Bool=>PC Tp gl 368 [Arg.mk (.int .i64) c] [.bool] (λb:Bool=>(a=Ta->(b=Ta->R 0)/\(b=Tb->R (-1)))/\(a=Tb->(b=Ta->R 1)/\(b=Tb->(decide (x0<c)=Ta->R (-1))/\(decide (x0<c)=Tb->(decide (x0>c)=Ta->R 1)/\(decide (x0>c)=Tb->R 0))))))):
  PC Tp gl 320 [Arg.mk (.int .i64) x0,Arg.mk (.int .i64) c] [.int .i64] R:=
 PF ⟨[],[],[],[]⟩ [.tmp 4] 20 Tryz.func320 H


theorem zpg(gl:Fr)(n0:Bool×Bt×Int)(R:Int->Prop) (H:((n0.2.1.toList==(⟨#[]⟩:Bt).toList)=Ta->R 0)/\((n0.2.1.toList==(⟨#[]⟩:Bt).toList)=Tb->(n0.1=Ta->R (-1))/\(n0.1=Tb->R 1))):
  PC Tp gl 366 [Arg.mk (.pair .bool (.pair .str (.int .i64))) n0] [.int .i64] R:=
 PF ⟨[],[],[],[]⟩ [.tmp 2] 10 Tryz.func366 H
theorem YY(gl:Fr)(a0:Bool×Bt×Int)(e:Bool×Bt×Int)(R:Int->Prop) (H:PC Tp gl 320 [Arg.mk (.int .i64) (zaa .i64 ((a0.2.1.size:Int)+a0.2.2)),Arg.mk (.int .i64) (zaa .i64 ((e.2.1.size:Int)+e.2.2))] [.int .i64] (λa:Int=>PC Tp gl 321 [Arg.mk .str a0.2.1,Arg.mk .str e.2.1] [.int .i64] (λb:Int=>PC Tp gl 319 [Arg.mk (.row (.int .i64)) [a,b]] [.int .i64] (λc:Int=>R c)))):
  PC Tp gl 367 [Arg.mk (.pair .bool (.pair .str (.int .i64))) a0,Arg.mk (.pair .bool (.pair .str (.int .i64))) e] [.int .i64] R:=
 PF ⟨[],[],[],[]⟩ [.tmp 4] 27 Tryz.func367 H
theorem Fw(gl:Fr)(x0:Int)(R:Bool->Prop) (H:R (x0 != x0)):
  PC Tp gl 368 [Arg.mk (.int .i64) x0] [.bool] R:=
 PF ⟨[],[],[],[]⟩ [.tmp 2] 6 Tryz.func368 H
end
end Go.X
end
