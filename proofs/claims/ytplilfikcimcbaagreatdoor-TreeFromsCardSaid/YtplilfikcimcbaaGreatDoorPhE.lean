/- A part of the proof: nothing is stated here for its own sake. -/
import Derived.Test.YtplilfikcimcbaaGreatDoorPhD
import Derived.Sort.KeysCollected
import Derived.Sort.OwnSorted
open _root_.Go.Addr renaming add->Ua
open _root_.Array renaming getElem?_eq_getElem->Vx,getElem?_eq_some_iff->Ut,getElem?_setIfInBounds_ne->Vy,push->VJ,size->UA,size_push->Ur,size_setIfInBounds->U6
open _root_.Bool renaming and_eq_false_iff->VW,and_eq_true->Ui,eq_iff_iff->Uy,false_or->XN,or_eq_true->Vq,true_and->Vo
open _root_.Go.Builtin renaming append_->Ug,len_->WF
open _root_.Go.Instr renaming entry->XS,keyThatStays->WT,lookup->XG,mapUpdate->VC,next->WS,range->YE,storeAt->Ub
open _root_.Int renaming toNat_natCast->Ue
open _root_.Go.IntKind renaming wrap->T9
open _root_.List renaming all_eq_true->Us,all_map->YO,append_assoc->UB,append_nil->UM,cons_append->UF,drop_drop->Vl,drop_eq_getElem_cons->UZ,drop_eq_nil_of_le->Vr,drop_left->YF,drop_zero->VD,eq_nil_of_length_eq_zero->UK,exists_cons_of_ne_nil->U9,ext_getElem?->Vd,filter_cons->VZ,getElem?_eq_getElem->Ul,getElem?_eq_some_iff->UE,getElem?_map->U2,getElem?_modify->Vj,getElem_map->WE,getElem_mem->Up,length->VA,length_append->Uf,length_cons->Uk,length_drop->UD,length_eq_zero_iff->Vk,length_map->Um,length_nil->UG,length_pos_iff->U5,length_replicate->VI,length_singleton->VH,length_take->UQ,map_append->U7,map_congr_left->WN,map_cons->Uq,map_fst_zip->XZ,map_id->YU,map_map->U3,map_nil->V6,mem_append->Uv,mem_append_left->Un,mem_append_right->Uw,mem_cons->Uj,mem_cons_of_mem->Uo,mem_cons_self->Uu,mem_flatMap->VO,mem_map->US,mem_range->UY,mem_singleton->Vb,mergeSort_perm->XD,nil_append->UX,nodup_cons->Vp,nodup_nil->XV,range->U8,take_append_drop->Vw,take_append_of_le_length->WH,take_left->YH,take_length->Uz,take_of_length_le->Vi,take_succ_eq_append_getElem->Uh,zip_cons_cons->Vv
open _root_.List.cons renaming injEq->Vu
open _root_.Nat renaming add_mul->VU,add_zero->WP,le_of_lt->XX,le_refl->Uc,le_trans->VB,lt_of_lt_of_le->WR,lt_or_ge->U1,min_eq_left->V9,not_lt_zero->WJ,strongRecOn->YD,zero_add->UI,zero_le->UH
open _root_.Go.Next renaming value->XQ
open _root_.Go.Proofs.Tryz renaming prog->UN
open _root_.UInt8 renaming ofNat->UL
open _root_.Go.Value renaming int->UT,string->UJ
open _root_.Go.Value.slice renaming injEq->UW
set_option linter.unusedVariables false
set_option maxRecDepth 100000
namespace Go.X
end Go.X
namespace Go.Proofs
end Go.Proofs
open Go Go.X Go.Proofs
open _root_.Bool renaming true->Ta,false->Tc
open _root_.Option renaming some->Td,none->Te
namespace Go.X
section
variable {g':zb} {s:Bt} {bv cv:Nat} {K:zb -> Prop}
structure BT (lo hi:Nat) (g:zb) (b0:Nat) (v:Tr) (sk si:Sl) (bk bb:List Nat) (b:Nat) (cs:Array Value) (bf:Nat->List Nat):Prop where
 box:Blk g b0 (Qm v sk si).toArray
 p:OTp g v sk si bk bb b cs bf
 ok:∀c∈bk,lo<=c/\c<hi/\c≠b0
 ob:∀c∈bb,lo<=c/\c<hi/\c≠b0
 oi:∀i,i<v.items.length->∀c∈bf i,lo<=c/\c<hi/\c≠b0
 lb:lo<=b0
 hg:hi<=g.size
def Own(lo hi:Nat)(g:zb)(b0:Nat)(v:Tr)(sk si:Sl):Prop:=∃(bk bb:List Nat) (b:Nat) (cs:Array Value) (bf:Nat->List Nat),BT lo hi g b0 v sk si bk bb b cs bf
section
variable {lo hi : Nat} {g : zb} {b0 : Nat} {v : Tr} {sk si : Sl}
theorem Own.box(H:Own lo hi g b0 v sk si):Blk g b0 (Qm v sk si).toArray:=by obtain⟨bk,bb,b,cs,bf,B⟩:=H;exact B.box
theorem BT.move{bk bb:List Nat}{b:Nat}{cs:Array Value}{bf:Nat->List Nat}(B:BT lo hi g b0 v sk si bk bb b cs bf)(f:∀c,c∈bk\/c∈bb\/(∃i,i<v.items.length/\c∈bf i)->g'[c]?=g[c]?):OTp g' v sk si bk bb b cs bf:= ⟨B.p.keys.frame λc e=>f c (.inl e),B.p.hn,by rcases B.p.hz with h|⟨h1,h2,l,k⟩;exact .inl h;exact .inr ⟨h1,h2,l.keep (f b (.inr (.inl (by rw[h1];simp)))),k⟩,λi hi=>(B.p.hi i hi).frame λc e=>f c (.inr (.inr ⟨i,hi,e⟩)),B.p.nk,B.p.d1,B.p.d2,B.p.d3,B.p.d4⟩
theorem Own.keep(H:Own lo hi g b0 v sk si)(k:Keep g.size g g'):Own lo hi g' b0 v sk si:=by obtain⟨bk,bb,b,cs,bf,B⟩:=H;have h:=k.size;have f:=B.hg;refine⟨bk,bb,b,cs,bf,B.box.ofKeep k,B.move λc e=>k.get c ?_,B.ok,B.ob,B.oi,B.lb,by omega⟩;rcases e with e|e|⟨i,hi,e⟩;have:=(B.ok c e).2.1;omega;have:=(B.ob c e).2.1;omega;have:=(B.oi i hi c e).2.1;omega
theorem Own.ot(H:Own lo hi g b0 v sk si):∃bs:List Nat,OT g v bs (Qm v sk si)/\∀c∈bs,lo<=c/\c≠b0:=by obtain⟨bk,bb,b,cs,bf,B⟩:=H;refine⟨_,B.p.ot,λc e=>?_⟩;rcases SZ.1 e with h|h|⟨i,hi,h⟩;exact⟨(B.ok c h).1,(B.ok c h).2.2⟩;exact⟨(B.ob c h).1,(B.ob c h).2.2⟩;exact⟨(B.oi i hi c h).1,(B.oi i hi c h).2.2⟩
theorem Own.new{k:Int}(B:Blk g b0 (Qm (.mk k s [] []) ⟨Te,0,0⟩ ⟨Te,0,0⟩).toArray)(h:lo<=b0)(e:hi<=g.size):Own lo hi g b0 (.mk k s [] []) ⟨Te,0,0⟩ ⟨Te,0,0⟩:= ⟨[],[],0,#[],λ_=>[],B,⟨⟨rfl,UH _,UH _,.inl ⟨rfl,rfl,rfl⟩⟩,⟨rfl,UH _,UH _⟩,.inl ⟨rfl,rfl,rfl⟩,λi hi=>absurd hi (WJ i),XV,λc b=>(by cases b),λc b=>(by cases b),λc b=>(by cases b),λi j hi=>absurd hi (WJ i)⟩,λc b=>(by cases b),λc b=>(by cases b),λi hi=>absurd hi (WJ i),h,e⟩
theorem mq:qj Tp 22=Ta:=by kernel_rfl
theorem mQ:jg Tp 22=1:=by kernel_rfl
theorem nz:qj Tp 23=Ta:=by kernel_rfl
theorem pn:jg Tp 23=1:=by kernel_rfl
theorem Own.key(H:Own lo hi g b0 v sk si)(P:lo<=g.size)(u:v.keys.length<=1048576)(Q:Blk g bv #[.string s]) (M:∀(g':zb) (y:Sl),Own lo g'.size g' b0 (.mk v.kind v.text (v.keys++[s]) v.items) y si->Keep lo g g'->g.size<=g'.size->K g'):
  XRun Tp (Ug #[22,22] 22 #[.slice sk.a sk.len sk.cap,.slice (Td ⟨bv,0,Te⟩) 1 cv]) g (λw C=>∃x:Sl,w=.slice x.a x.len x.cap/\XRunU Tp (Ub 22 (.pointer (Td ⟨b0,2,Te⟩)) (.slice x.a x.len x.cap)) C K):=by
 obtain⟨bk,bb,b,cs,bf,B⟩:=H;refine Is B.p.keys Q u λy C kb G D Y F=>⟨y,rfl,?_⟩;have A:=B.box.lt;have U:=B.hg;have l:∀c∈bk,lo<=c/\c<g.size/\c≠b0:=λc f=>by have:=B.ok c f;exact⟨this.1,by omega,this.2.2⟩
 have m:∀c∈bb,lo<=c/\c<g.size/\c≠b0:=λc f=>by have:=B.ob c f;exact⟨this.1,by omega,this.2.2⟩
 have n:∀i,i<v.items.length->∀c∈bf i,lo<=c/\c<g.size/\c≠b0:=λi hi c f=>by have:=B.oi i hi c f;exact⟨this.1,by omega,this.2.2⟩
 have r:b0∉bk:=λh=>(l b0 h).2.2 rfl;refine qo mq mQ (B.box.keep (F b0 A r)) (by show 2<4;omega) rfl λE N V I=>?_;have J:kb<C.size:=by obtain⟨_,_,_,h|⟨S,cs',e,_,h,_⟩⟩:=G;exact absurd h.1 (by simp);rw[Vu]at e;rw[e.1];exact h.lt
 have q:lo<=kb/\kb≠b0:=by rcases D with h|h;exact⟨(l kb h).1,(l kb h).2.2⟩;exact⟨by omega,by omega⟩
 have o:∀c,c<g.size->c∉bk->c≠kb:=λc f u e=>by subst e;rcases D with h|h;exact u h;omega
 have z:∀c,c<g.size->c∉bk->c≠b0->E[c]?=g[c]?:=λc f u h0=>(I c h0).trans (F c f u);have t:∀i,i<v.items.length->∀c∈bf i,c∉bk:=λi hi c f h=>B.p.d2 c h i hi f;refine M E y ⟨[kb],bb,b,cs,bf,N,⟨G.frame λc f=>I c ?_,B.p.hn,?_,λi hi=>(B.p.hi i hi).frame λc f=>z c (n i hi c f).2.1 (t i hi c f) (n i hi c f).2.2,by simp,λc f=>?_,λc f i hi k=>?_,B.p.d3,B.p.d4⟩,λc f=>?_,λc f=>?_,λi hi c f=>?_,B.lb,Uc _⟩ ⟨by omega,λj Z=>z j (by omega) (λh=>?_) ?_⟩ (by omega);rw[Vb.1 f];exact q.2;rcases B.p.hz with h|⟨h1,h2,O,L⟩;exact .inl h;have k:b∈bb:=by rw[h1];simp
 exact .inr ⟨h1,h2,O.keep (z b (m b k).2.1 (λh=>B.p.d1 b h k) (m b k).2.2),L⟩;rw[Vb.1 f];intro k;exact o kb (m kb k).2.1 (λh=>B.p.d1 kb h k) rfl;rw[Vb.1 f]at k;exact o kb (n i hi kb k).2.1 (t i hi kb k) rfl;rw[Vb.1 f];exact⟨q.1,by omega,q.2⟩;have:=m c f;exact⟨this.1,by omega,this.2.2⟩;have:=n i hi c f;exact⟨this.1,by omega,this.2.2⟩;have:=(l j h).1;omega;have:=B.lb;omega
theorem Own.item(H:Own lo hi g b0 v sk si)(aa:lo<=g.size)(z:v.items.length<=1000000){w:Tr}{L I:Sl}(hv:Blk g bv (Qm w L I).toArray){bw:List Nat}(G:OT g w bw (Qm w L I))(Y:bv∉bw)(F:∀c∈bw,lo<=c/\c≠b0/\hi<=c) (hK:∀(g':zb) (D:Sl),Own lo g'.size g' b0 (.mk v.kind v.text v.keys (v.items++[w])) sk D->Keep lo g g'->g.size<=g'.size->K g'):
  XRun Tp (Ug #[23,23] 23 #[.slice si.a si.len si.cap,.slice (Td ⟨bv,0,Te⟩) 1 cv]) g (λu Q=>∃x:Sl,u=.slice x.a x.len x.cap/\XRunU Tp (Ub 23 (.pointer (Td ⟨b0,3,Te⟩)) (.slice x.a x.len x.cap)) Q K):=by
 obtain⟨bk,bb,b,cs,bf,B⟩:=H;refine RR B.p (λc f=>rfl) hv (by omega) λD Q l cs' e1 e2 e3 U V Z C z1 O=>⟨D,rfl,?_⟩;have M:=B.box.lt;have hg:=B.hg;have q:∀c∈bk,lo<=c/\c<g.size/\c≠b0:=λc f=>by have:=B.ok c f;exact⟨this.1,by omega,this.2.2⟩
 have s:∀c∈bb,lo<=c/\c<g.size/\c≠b0:=λc f=>by have:=B.ob c f;exact⟨this.1,by omega,this.2.2⟩
 have r:∀i,i<v.items.length->∀c∈bf i,lo<=c/\c<g.size/\c≠b0:=λi hi c f=>by have:=B.oi i hi c f;exact⟨this.1,by omega,this.2.2⟩
 have o:∀c∈bw,c∉bk/\c∉bb/\∀i,i<v.items.length->c∉bf i:=λc f=>by have h1:=(F c f).2.2;exact⟨λh=>by have:=(B.ok c h).2.1;omega,λh=>by have:=(B.ob c h).2.1;omega,λi hi h=>by have:=(B.oi i hi c h).2.1;omega⟩
 have A:b0∉bb:=λh=>(B.ob b0 h).2.2 rfl;refine qo nz pn (B.box.keep (O b0 M A)) (by show 3<4;omega) rfl λJ u1 u2 P=>?_;have n:lo<=l/\l≠b0:=by rcases C with⟨h,m⟩|h;rw[h];exact⟨(s b m).1,(s b m).2.2⟩;exact⟨by omega,by omega⟩
 have t:∀c,c<g.size->c∉bb->c≠l:=λc f z e=>by subst e;rcases C with⟨h,m⟩|h;rw[h]at z;exact z m;omega
 have E:∀c,c<g.size->c∉bb->c≠b0->J[c]?=g[c]?:=λc f z h0=>(P c h0).trans (O c f z);have y:∀i,i<v.items.length->∀c∈bf i,c∉bb:=λi hi c f h=>B.p.d3 c h i hi f;have N:=OTp.ins (h':=J) B.p (k:=v.items.length) (Uc _) (w:=w) (bw:=bw) (cw:=Qm w L I) (G.frame λc f=>E c (G.lt c f) (o c f).2.1 (F c f).2.1) (λi hi c f=>E c (r i hi c f).2.1 (y i hi c f) (r i hi c f).2.2) e1 (U.keep (P l n.2)) e2 e3 V (by omega)
  (by
   have S:(cut cs 0 (v.items.length*4)).length<=v.items.length*4:=by unfold cut;rw[UQ];omega
   rw[Z,Vi S,Vr S,UM])
  (λi hi m=>t l (r i hi l m).2.1 (y i hi l m) rfl) (λm=>t l (G.lt l m) (o l m).2.1 rfl) (λc f i hi=>(o c f).2.2 i hi)
  (B.p.keys.frame λc f=>E c (q c f).2.1 (B.p.d1 c f) (q c f).2.2) B.p.nk (λm=>t l (q l m).2.1 (B.p.d1 l m) rfl) (λc f i hi=>B.p.d2 c f i hi) (λc f m=>(o c m).1 f)
 rw[Uz,List.drop_length]at N;refine hK J D ⟨bk,[l],l,cs',_,u1,N,λc f=>?_,λc f=>?_,λi hi c f=>?_,B.lb,Uc _⟩ ⟨by omega,λj hj=>E j (by omega) (λh=>?_) ?_⟩ (by omega);have:=q c f;exact⟨this.1,by omega,this.2.2⟩;rw[Vb.1 f];exact⟨n.1,by have:=U.lt;omega,n.2⟩;have f:c∈(if i<v.items.length then bf i else if i=v.items.length then bw else bf (i-1)):=f;have hi:i<v.items.length+1:=by
  have:(v.items++[w]).length=v.items.length+1:=by simp
  rw[<-this];exact hi
 split at f;rename_i h;have:=r i h c f;exact⟨this.1,by omega,this.2.2⟩;rw[zA (by omega)]at f;have:=G.lt c f;exact⟨(F c f).1,by omega,(F c f).2.1⟩;have:=(s j h).1;omega;have:=B.lb;omega
end
end
section
open Go.RowKit
section
variable {M:Fr} {g:zb} {s:Sl} {k b f:Nat} {t:Bs} {u:Value}
theorem gO(ag:AgM M g){xs:List Int}(H:Rd M (.row p3) xs [aK s])(c:k<xs.length):∃b o,s.a=Td ⟨b,o,Te⟩/\zc g ⟨b,o+k*1,Te⟩=Td (.int .i64 xs[k]):=by obtain⟨b,o,cs,e,h,f⟩:=Go.X.rowAt H c;exact⟨b,o,e,jt ag h f⟩
theorem wx(ag:AgM M g){xs:List Nd}(H:Rd M (.row fv) xs [aK s])(t:k<xs.length):∃(b o:Nat) (ks ps:Sl),s.a=Td ⟨b,o,Te⟩/\zd g ⟨b,o+k*7,Te⟩ 0 [.int .i64 xs[k].1,.int .i64 xs[k].2.1.1,.int .i64 xs[k].2.1.2,.int .i64 xs[k].2.2.1.1,.int .i64 xs[k].2.2.1.2,aK ks,aK ps]/\Rd M (.row p3) xs[k].2.2.2.1 [aK ks]:=by
 obtain⟨b,o,cs,F,A,G⟩:=Go.X.rowAt H t;obtain⟨c1,N,x,m,c2,O,J,⟨y,d2,z,a2,f⟩,c3,L,C,⟨p,E,B,l,h⟩,I,D,u,n,r⟩:=G;have m:c1=[.int .i64 xs[k].1]:=m;have a2:y=[.int .i64 xs[k].2.1.1]:=a2;have f:d2=[.int .i64 xs[k].2.1.2]:=f;have l:p=[.int .i64 xs[k].2.2.1.1]:=l;have h:E=[.int .i64 xs[k].2.2.1.2]:=h;obtain⟨ks,rfl⟩:∃ks:Sl,I=[aK ks]:=by obtain⟨w,e,a,c,q,_⟩:=n;exact⟨⟨a,_,c⟩,by rw[e,q];rfl⟩
 obtain⟨ps,rfl⟩:∃ps:Sl,D=[aK ps]:=by obtain⟨w,e,a,c,q,_⟩:=r;exact⟨⟨a,_,c⟩,by rw[e,q];rfl⟩
 subst m a2 f l h z B u C J;refine⟨b,o,ks,ps,F,?_,n⟩;exact mn (o:=o+k*7) (i:=0) ag A (by rw[WP];exact x)
theorem HZ{nodes:List Nd}(h:RdV M jV (bl t,nodes) u):∃sl:Sl,u=.agg #[.string (bl t),aK sl]/\Rd M (.row fv) nodes [aK sl]:=by
 obtain⟨cs,rfl,c1,c2,rfl,b,f⟩:=h;have b:c1=[.string (bl t)]:=b;subst b;obtain⟨sl,rfl⟩:∃sl:Sl,c2=[aK sl]:=by obtain⟨w,e,a,c,q,_⟩:=f;exact⟨⟨a,_,c⟩,by rw[e,q];rfl⟩
 exact⟨sl,rfl,f⟩
theorem Hp{nodes:List Nd}{sl:Sl}(h:Rd M (.row fv) nodes [aK sl]):RdV M jV (bl t,nodes) (.agg #[.string (bl t),aK sl]):=⟨[.string (bl t),aK sl],rfl,[_],[_],rfl,rfl,h⟩
theorem Iy{gl:Fr}(q:GL gl)(C:t.length<=65536){nodes:List Nd}{x:Nd}(z:nodes[k]?=Td x){R:Bt->Prop}(h:R (bl (iP t x))):PC Tp gl 285 [Arg.mk jV (bl t,nodes),Arg.mk p3 (k:Int)] [.str] R:=by
 intro h0 M vs m ag A
 match vs,A with
 |[u1,u2],⟨a1,a2,_⟩=>obtain⟨sl,rfl,rd⟩:=HZ a1;obtain rfl:=qz (i:=(k:Int)) a2;obtain⟨u,rfl⟩:=UE.1 z;apply PX.of;apply To (bl t) sl (k:Int);intro h1;have e:Later h0 M h1 M:=Later.push ag _;have n:Blk h1 h0.size #[.string (bl t),aK sl]:=Blk.new _ _ _;clear_value h1;obtain⟨b,o,ks,ps,B,l,_⟩:=wx e.ag (rd.mono e.le) u;have D:=(rowLen rd).1;refine⟨bl t,sl,n.ld (cs:=[.string (bl t),aK sl]),sl,n.cellAdd (o:=0) (k:=1) rfl,⟨b,o,Te⟩,⟨B,by omega,by omega⟩,nodes[k].2.2.1.1,nodes[k].2.2.1.2,?_,?_⟩;simp only[zd,qh,Nat.add_assoc,Nat.reduceAdd,Ue]at l ⊢;simp_all;refine(Dt (gl:=gl) (t:=t) (nodes:=nodes) (p:=nodes[k].2.2.1) (R:=λr=>r=bl (ya t nodes[k].2.2.1)) rfl).go (vs:=[.agg #[.string (bl t),aK sl],.agg #[.int .i64 nodes[k].2.2.1.1,.int .i64 nodes[k].2.2.1.2]]) (m.trans e.le) e.ag (zq (Hp (rd.mono e.le)) (zq (a:=Arg.mk gh _) ⟨[_,_],rfl,[_],[_],rfl,rfl,rfl⟩ zy)) λw g E r L c f=>?_;subst f;refine⟨_,fj c,?_⟩;have:=uy t nodes[k].2.2.1;refine(vL q (t:=ya t nodes[k].2.2.1) (by omega) (R:=λr=>R r.1) h).go (vs:=[.string (bl (ya t nodes[k].2.2.1))]) (m.trans (e.le.trans L.le)) L.ag (zq (a:=Arg.mk .str _) (rdStr _) zy) λw F y r s c f=>?_;exact⟨_,_,_,Dh c,y,r.1,e.trans (L.trans s),Yk.2 (rdStr _),f⟩
theorem OO:qj Tp 241=Ta:=by kernel_rfl
theorem Tu:jg Tp 241=7:=by kernel_rfl
theorem JZ:qj Tp 25=Ta:=by kernel_rfl
theorem Ot:jg Tp 25=4:=by kernel_rfl
theorem yq{x y z w:Value}(B:Blk g b #[x,y,z,w]){k:Int}{s:Bt}{sk si:Sl}{K:zb->Prop}(f:∀g',(∀j,j≠b->g'[j]?=g[j]?)->g'.size=g.size->Blk g' b #[.int .i64 k,.string s,aK sk,aK si]->K g'):
  XRunU Tp (Ub 25 (.pointer (Td ⟨b,0,Te⟩)) (.agg #[.int .i64 k,.string s,aK sk,aK si])) g K:=by
 refine fT (vs:=[.int .i64 k,.string s,aK sk,aK si]) JZ B rfl Ot (Uc _) (λu c=>?_) λg' e i h=>f g' h i e;simp at c;rcases c with rfl|rfl|rfl|rfl <;> rfl
def Xz(t:Bs)(nodes:List Nd)(f:Nat)(x:Nd)(n:Nat):Tr:=.mk x.1 (bl (Yr x.1 (ya t x.2.1))) (if x.1=6 then(x.2.2.2.1.take n).map λc=>bl (iA t nodes c)else []) ((x.2.2.2.1.take n).map λc=>Ys t nodes f c.toNat)
theorem Ln{nodes:List Nd}{x:Nd}(b:nodes[k]?=Td x):Xz t nodes f x x.2.2.2.1.length=Ys t nodes (f+1) k:=by unfold Xz;rw[Ys,b,Uz]
theorem QT{nodes:List Nd}{x:Nd}{n:Nat}(b:n<x.2.2.2.1.length):Xz t nodes f x (n+1)=.mk x.1 (bl (Yr x.1 (ya t x.2.1))) (if x.1=6 then(Xz t nodes f x n).keys++[bl (iA t nodes x.2.2.2.1[n])]else(Xz t nodes f x n).keys) ((Xz t nodes f x n).items++[Ys t nodes f x.2.2.2.1[n].toNat]):=by unfold Xz;rw[Uh b,U7,U7];simp_all
section
variable {t : Bs} {nodes : List Nd} {lvs : List Nat} {gl : Fr}
theorem tD{u v:Value}(B:Blk g b #[u,v]):zd g ⟨b,0,Te⟩ 0 [u,v]:=B.ld (cs:=[u,v])
def Tz(F:FuncId)(t:Bs)(nodes:List Nd)(gl:Fr)(k:Nat)(c:List Value)(v:Tr):Prop:=
 ∀(h:zb) (M:Fr) (e:Sl),Fr.le gl M->AgM M h->Rd M (.row fv) nodes [aK e]->∀(K:Value->zb->Prop),(∀(h':zb) (bs:List Nat) (sk si:Sl),Keep h.size h h'->OT h' v bs (Qm v sk si)->(∀b∈bs,h.size<=b)->K (.agg #[.int .i64 v.kind,.string v.text,aK sk,aK si]) h') ->
  XC Tp F ([Value.agg #[.string (bl t),aK e],UT .i64 (k:Int)]++c).toArray h K
set_option maxRecDepth 100000 in
set_option maxHeartbeats 4000000 in
theorem CP(hg:GL gl)(ht:t.length<=65536)(G:GoodN lvs nodes)(br:∀x∈nodes,x.2.2.2.1.length<=200000):∀(f k l:Nat) (L:Int),lvs[k]?=Td l->33-l<=f->1<=L->L<=(l:Int)->Tz 227 t nodes gl k [.int .i64 L] (Ys t nodes f k)
 |0,k,l,L,hl,hf,_,_=>by have:=G.lv k l hl;omega
 |f+1,k,l,L,hl,hf,hL1,hL2=>by
  intro h M I hM ag rd K hK;have aC:k<nodes.length:=by have:=(UE.1 hl).1;have:=G.len;omega
  have hx:nodes[k]?=Td nodes[k]:=Ul aC;have cd:=G.lv k l hl;have aa:=G.kid k l nodes[k] hx hl;have bD:=br _ (Up aC);generalize bB:nodes[k]=x at hx aa bD;have cq:=(rowLen rd).1;show XC Tp _ #[.agg #[.string (bl t),aK I],.int .i64 (k:Int),.int .i64 L] h K;apply Ia;intro h1 h2;have k1:Keep h.size h h1:=Keep.push _ _ (Uc _);have k2:Keep h1.size h1 h2:=Keep.push _ _ (Uc _);have z1:h1.size=h.size+1:=Ur _;have z2:h2.size=h1.size+1:=Ur _;have D1:Blk h1 h.size #[.string (bl t),aK I]:=Blk.new _ _ _;have R2:Blk h2 h1.size #[.int .i64 0,.string ⟨#[]⟩,.slice Te 0 0,.slice Te 0 0]:=Blk.new _ _ _;clear_value h1 h2;have aO:Keep h.size h h2:=k1.trans (c:=h2) (m:=h.size) ⟨k2.size,λj q=>k2.get j (by omega)⟩ (Uc _);have D2:=D1.keep (k2.get h.size (by omega));have bC:=ag.keep aO;obtain⟨nb,no,ks,ps,e1,e2,e3⟩:=wx bC rd aC;rw[bB]at e2 e3;have bZ:=(rowLen e3).1;refine⟨I,by rw[qh];exact D2.cell rfl,_,⟨e1,by omega,by omega⟩,x.1,x.2.1.1,x.2.1.2,x.2.2.1.1,x.2.2.1.2,ks,ps,?_,?_⟩;rw[qh,Ue];exact e2;intro bm;obtain⟨bY,cg,bF⟩:=jf (g:=bm) rfl;clear_value bm;refine fT (vs:=fh (x,⟨ks,[],ps,[]⟩)) OO bF rfl Tu (Uc _) (xH _) λb z b7 bL=>?_;have z:Blk b h2.size #[.int .i64 x.1,.int .i64 x.2.1.1,.int .i64 x.2.1.2,.int .i64 x.2.2.1.1,.int .i64 x.2.2.1.2,aK ks,aK ps]:=z;have J:Keep h2.size h2 b:=⟨by omega,λj q=>(bL j (by omega)).trans (bY.get j q)⟩;have Y:Keep h.size h b:=aO.trans (c:=b) (m:=h.size) ⟨J.size,λj q=>J.get j (by omega)⟩ (Uc _);have aG:=D2.keep (J.get h.size (by omega));have bH:=R2.keep (J.get h1.size (by omega));intro aU a6;have aQ:∀(O:Nat) (V:zb),b.size<=O->Keep b.size b V->Blk V O #[.int .i64 x.1,.string (bl (Yr x.1 (ya t x.2.1))),.slice Te 0 0,.slice Te 0 0]->aU ⟨O,0,Te⟩ V:=by
   intro O V bV aS aZ;refine a6 ⟨O,0,Te⟩ V ?_;have bQ:=z.keep (aS.get h2.size (by omega));have bP:=aZ.lt;refine⟨ks,by rw[qh];exact bQ.cell rfl,λi s=>∃(n:Nat) (sk si:Sl),i=(n:Int)/\n<=x.2.2.2.1.length/\Own b.size s.size s O (Xz t nodes f x n) sk si/\Keep b.size b s,λi _=>x.2.2.2.1.length-i.toNat,⟨0,⟨Te,0,0⟩,⟨Te,0,0⟩,rfl,by omega,?_,aS⟩,?_⟩;have e0:Xz t nodes f x 0=.mk x.1 (bl (Yr x.1 (ya t x.2.1))) [] []:=by unfold Xz;simp
   rw[e0];exact Own.new aZ bV (Uc _);rintro i s ⟨n,sk,si,rfl,hn,B,A⟩;have bn:=z.keep (A.get h2.size (by omega));have ba:=aG.keep (A.get h.size (by omega));have bS:=bH.keep (A.get h1.size (by omega));have au:Keep h.size h s:=Y.trans (c:=s) (m:=h.size) ⟨A.size,λj q=>A.get j (by omega)⟩ (Uc _);have ax:=ag.keep au;have cp:=A.size;refine⟨λZ=>?_,λbU=>?_⟩;have Z:n<x.2.2.2.1.length:=by have:=zC Z;omega
   obtain⟨j,ej,cm,az⟩:=aa _ (Up Z);have q:j<nodes.length:=by have:=(UE.1 az).1;have:=G.len;omega
   have b9:=G.lv j (l+1) az;obtain⟨ib,io,f1,f2⟩:=gO ax e3 Z;rw[ej]at f2;refine⟨ks,by rw[qh];exact bn.cell rfl,_,⟨f1,by omega,by omega⟩,(j:Int),by rw[qh,Ue];exact f2,I,λ_=>by rw[qh];exact ba.cell rfl,?_⟩;have hc:(bif (bif (decide ((j:Int)<0))then Ta else(decide ((j:Int)>=((I.len:Nat):Int))))then Ta else(decide (L>32)))=Tc:=by rw[zF (by omega),zH,zF (by omega),zH,zF (by omega)]
   rw[hc];refine⟨λh=>(by cases h),λ_=>?_⟩;intro bT be;have a7:nodes[j]?=Td nodes[j]:=Ul q;have aT:iA t nodes x.2.2.2.1[n]=iP t nodes[j]:=by unfold iA;rw[ej,Ue,a7]
   have af:=QT (t:=t) (nodes:=nodes) (f:=f) Z;rw[aT,ej,Ue]at af;have body:∀(o:zb) (aB:List Bt) (aE:Sl),aB=(if x.1=6 then(Xz t nodes f x n).keys++[bl (iP t nodes[j])]else(Xz t nodes f x n).keys)->Own b.size o.size o O (.mk x.1 (bl (Yr x.1 (ya t x.2.1))) aB (Xz t nodes f x n).items) aE si->Keep b.size b o->bT o:=by
    intro o aB aE bG aI ab;refine be o ?_;have ca:=ab.size;have bN:=aG.keep (ab.get h.size (by omega));have bq:Keep h.size h o:=Y.trans (c:=o) (m:=h.size) ⟨ab.size,λj q=>ab.get j (by omega)⟩ (Uc _);have ah:=aI.box.lt;refine⟨si,by rw[qh];exact aI.box.cell rfl,bl t,I,tD bN,?_⟩;rw[cK (by omega)];refine CP hg ht G br f j (l+1) (L+1) az (by omega) (by omega) (by omega) o M I hM (ag.keep bq) rd _ λcb bw wk wi ap ow aA=>⟨_,_,_,_,rfl,?_⟩;have cy:=ap.size;refine⟨by rw[qh];exact ap.get O ah,?_⟩;intro P;obtain⟨ar,cc,bM⟩:=jf (g:=P) rfl;clear_value P;refine⟨by rw[qh];exact(ar.get O (by omega)).trans (ap.get O ah),?_⟩;have D:Keep o.size o P:=ap.trans (c:=P) (m:=o.size) ⟨ar.size,λj q=>ar.get j (by omega)⟩ (Uc _);have aV:Keep b.size b P:=ab.trans (c:=P) (m:=b.size) ⟨D.size,λj q=>D.get j (by omega)⟩ (Uc _);have aL:(Xz t nodes f x n).items.length<=1000000:=by unfold Xz;simp;omega
    rw[qh];refine Own.item (aI.keep D) (by omega) aL bM (ow.frame λc hc=>ar.get c (ow.lt c hc)) (λhm=>by have:=ow.lt _ hm;omega) (λc hc=>⟨by have:=aA c hc;omega,by have:=aA c hc;omega,aA c hc⟩) λg' s2 O' k' z'=>⟨⟨n+1,aE,s2,by rw[cK (by omega)];omega,by omega,?_,aV.trans (c:=g') (m:=b.size) k' (Uc _)⟩,?_⟩;rw[af,<-bG];exact O';show x.2.2.2.1.length-(hZ ((n:Int)+1)).toNat<x.2.2.2.1.length-(n:Int).toNat;rw[cK (by omega)];omega
   refine⟨x.1,by rw[qh];exact bn.cell rfl,λh6=>?_,λh6=>?_⟩;have h6:x.1=6:=by simpa using h6
   have ae:=B.box.lt;refine⟨sk,by rw[qh];exact B.box.cell rfl,bl t,I,tD ba,?_⟩;refine(Iy hg ht (nodes:=nodes) (k:=j) a7 (R:=λr=>r=bl (iP t nodes[j])) rfl).go hM ax (zq (a:=Arg.mk jV _) ⟨[.string (bl t),aK I],rfl,[.string (bl t)],[aK I],rfl,rfl,rd⟩ (zq (a:=Arg.mk p3 _) (Zw _ _) zy)) λv b8 M' r Lt hv hr=>⟨r,fj hv,?_⟩;subst hr;have an:=Lt.keep;have cn:=an.size;refine⟨by rw[qh];exact an.get O ae,?_⟩;intro U;obtain⟨aF,cj,bE⟩:=jf (g:=U) rfl;clear_value U;refine⟨by rw[qh];exact(aF.get O (by omega)).trans (an.get O ae),?_⟩;have C:Keep s.size s U:=an.trans (c:=U) (m:=s.size) ⟨aF.size,λj q=>aF.get j (by omega)⟩ (Uc _);have bu:Keep b.size b U:=A.trans (c:=U) (m:=b.size) ⟨C.size,λj q=>C.get j (by omega)⟩ (Uc _);have a8:(Xz t nodes f x n).keys.length<=1048576:=by unfold Xz;simp[h6];omega
   rw[qh];refine Own.key (B.keep C) (by omega) a8 bE λg' s2 O' k' z'=>body g' _ s2 (by rw[zA h6]) O' (bu.trans (c:=g') (m:=b.size) k' (Uc _));have h6:¬x.1=6:=by simpa using h6
   exact body s (Xz t nodes f x n).keys sk (by rw[za h6]) B A;have bz:n=x.2.2.2.1.length:=by have:=zD bU;omega
   subst bz;have eN:=Ln (t:=t) (f:=f) hx;rw[eN]at B;refine⟨_,_,sk,si,B.box.ld (cs:=Qm _ sk si),?_⟩;refine yq bS λg2 f2 z2 B2=>⟨_,_,sk,si,B2.ld (cs:=[_,_,aK sk,aK si]),?_⟩;obtain⟨bs,ot,aJ⟩:=B.ot;refine hK g2 bs sk si (au.trans (c:=g2) (m:=h.size) ⟨by omega,λj q=>f2 j (by omega)⟩ (Uc _)) (ot.frame λc hc=>f2 c (by have:=(aJ c hc).1;omega)) λc hc=>by have:=(aJ c hc).1;omega
  have co:=uy t x.2.1;have bg:∀{g:zb} {Q:Value->zb->Prop},AgM M g->(∀g',Keep g.size g g'->Q (.string (bl (ya t x.2.1))) g')->XC Tp 284 #[.agg #[.string (bl t),aK I],.agg #[.int .i64 x.2.1.1,.int .i64 x.2.1.2]] g Q:=λ {g Q} agg hQ=>by refine(Dt (gl:=gl) (t:=t) (nodes:=nodes) (p:=x.2.1) (R:=λr=>r=bl (ya t x.2.1)) rfl).go hM agg (zq (a:=Arg.mk jV _) ⟨[.string (bl t),aK I],rfl,[.string (bl t)],[aK I],rfl,rfl,rd⟩ (zq (a:=Arg.mk gh _) ⟨[.int .i64 x.2.1.1,.int .i64 x.2.1.2],rfl,_,_,rfl,rfl,rfl⟩ zy)) λv g' M' r L hv hr=>?_;subst hr;rw[fj hv];exact hQ g' L.keep
  have aH:∀{g:zb} {Q:Value->zb->Prop},AgM M g->(∀g',Keep g.size g g'->Q (.string (bl (Yr x.1 (ya t x.2.1)))) g')->XC Tp 283 #[.int .i64 x.1,.string (bl (ya t x.2.1))] g Q:=λ {g Q} agg hQ=>by refine(F6 hg (k:=x.1) (t:=ya t x.2.1) (by omega) (R:=λr=>r=bl (Yr x.1 (ya t x.2.1))) rfl).go hM agg (zq (a:=Arg.mk p3 _) (Zw _ _) (zq (a:=Arg.mk .str _) (rdStr _) zy)) λv g' M' r L hv hr=>?_;subst hr;rw[fj hv];exact hQ g' L.keep
  have y:=ag.keep Y;have u:∀(hh hA:zb),Keep b.size b hh->Keep hh.size hh hA->Blk hA hh.size #[.int .i64 0,.string ⟨#[]⟩,.slice Te 0 0,.slice Te 0 0]->XRunU Tp (Ub 25 (.pointer (Td ⟨hh.size,0,Te⟩)) (.agg #[.int .i64 x.1,.string (bl (Yr x.1 (ya t x.2.1))),.slice Te 0 0,.slice Te 0 0])) hA (λg=>aU ⟨hh.size,0,Te⟩ g):=λhh hA kh kA BA=>
   yq (sk:=⟨Te,0,0⟩) (si:=⟨Te,0,0⟩) BA λg2 f2 z2 B2=>aQ hh.size g2 kh.size (kh.trans (c:=g2) (m:=b.size) ⟨by have:=kh.size;have:=kA.size;omega,λj q=>by have:=kh.size;rw[f2 j (by omega)];exact kA.get j (by omega)⟩ (Uc _)) B2
  have N:∀{g:zb},Keep b.size b g->g[h2.size]?=b[h2.size]?:=λk=>k.get h2.size (by omega);refine⟨x.1,by rw[qh];exact z.cell rfl,x.1,by rw[qh];exact z.cell rfl,bl t,I,tD aG,x.2.1.1,x.2.1.2,?_,bg y λbO e=>⟨_,rfl,by rw[qh];exact N e,by rw[qh];exact N e,aH (y.keep e) λw S=>⟨_,rfl,?_,?_,?_⟩,?_⟩,?_⟩;rw[qh];exact⟨by rw[qh];exact z.cell rfl,by rw[qh];exact z.cell rfl,trivial⟩;rw[qh];exact N (e.trans (c:=w) (m:=b.size) ⟨S.size,λj q=>S.get j (by have:=e.size;omega)⟩ (Uc _));intro bI;have kk:Keep b.size b w:=e.trans (c:=w) (m:=b.size) ⟨S.size,λj q=>S.get j (by have:=e.size;omega)⟩ (Uc _);exact u w bI kk (Keep.push _ _ (Uc _)) (Blk.new _ _ _);intro aP;have kk:Keep b.size b w:=e.trans (c:=w) (m:=b.size) ⟨S.size,λj q=>S.get j (by have:=e.size;omega)⟩ (Uc _);have aM:Keep w.size w aP:=Keep.push _ _ (Uc _);refine⟨by rw[qh];exact(aM.get h2.size (by have:=kk.size;omega)).trans (N kk),?_⟩;exact u w aP kk aM (Blk.new _ _ _);intro am;obtain⟨ay,cz,bA⟩:=jf (g:=am) rfl;clear_value am;have ck:=e.size;have H:Keep b.size b am:=e.trans (c:=am) (m:=b.size) ⟨ay.size,λj q=>ay.get j (by omega)⟩ (Uc _);refine⟨by rw[qh];exact N H,by rw[qh];exact N H,aH (y.keep H) λbj ak=>⟨_,rfl,?_,?_⟩⟩;rw[qh];exact N (H.trans (c:=bj) (m:=b.size) ⟨ak.size,λj q=>ak.get j (by omega)⟩ (Uc _));exact u bO bj e ⟨by have:=ak.size;omega,λj q=>by rw[ak.get j (by omega)];exact ay.get j q⟩ (bA.keep (ak.get _ (by omega)));intro aY;obtain⟨E,cu,bJ⟩:=jf (g:=aY) rfl;clear_value aY;refine⟨by rw[qh];exact N E,E.get h.size (by omega),by rw[qh];exact N E,by rw[qh];exact N E,bg (y.keep E) λa1 ai=>⟨_,rfl,?_⟩⟩;have b6:=ai.size;have F:Keep b.size b a1:=E.trans (c:=a1) (m:=b.size) ⟨ai.size,λj q=>ai.get j (by omega)⟩ (Uc _);refine⟨by rw[qh];exact N F,by rw[qh];exact N F,aH (y.keep F) λaN aj=>⟨_,rfl,?_,?_⟩⟩;rw[qh];exact N (F.trans (c:=aN) (m:=b.size) ⟨aj.size,λj q=>aj.get j (by omega)⟩ (Uc _));exact u b aN (Keep.refl _ _) ⟨by have:=aj.size;omega,λj q=>by rw[aj.get j (by omega),ai.get j (by omega)];exact E.get j q⟩ ((bJ.keep (ai.get _ (by omega))).keep (aj.get _ (by omega)))
end
end
section
theorem vq:ElemT Tp 22 9 (.string ⟨#[]⟩) (sz .str) 16:=⟨by kernel_rfl,⟨Tryz.t9,by kernel_rfl,by kernel_rfl,by kernel_rfl,by kernel_rfl⟩,rfl,by decide⟩
section
variable {lo : Nat} {g : zb} {M gl : Fr} {bp : Nat} {s : Bs} {l : List Tk} {st : PSt} {a e : Int} {O : Nat -> Prop} {K : Value -> zb -> Prop} {val : ef}
end
end
section
theorem Pp:ElemT Tp 160 241 (.agg #[.int .i64 0,.int .i64 0,.int .i64 0,.int .i64 0,.int .i64 0,.slice Te 0 0,.slice Te 0 0]) 7 88:=⟨by kernel_rfl,⟨Tryz.t241,by kernel_rfl,by kernel_rfl,by kernel_rfl,by kernel_rfl⟩,rfl,by decide⟩
theorem Sx:qj Tp 160=Ta:=by kernel_rfl
theorem NL:jg Tp 160=1:=by kernel_rfl
theorem My:qj Tp 213=Ta:=by kernel_rfl
theorem OQ:jg Tp 213=1:=by kernel_rfl
section
variable {lo : Nat} {M gl : Fr} {bp : Nat} {s : Bs}
set_option maxRecDepth 100000 in
set_option maxHeartbeats 4000000 in
theorem QV(hg:GL gl)(hM:Fr.le gl M)(hs:s.length<=65536):∀d:Nat,d<=32->rF lo M bp s (33-(d:Int)) (Wd s d):=by
 intro d;induction d with
 |zero=>intro hd key g st a e O P h4 hT hw K hK;apply Qk;intro h1 h2;have k1:Keep g.size g h1:=Keep.push _ _ (Uc _);have k2:Keep h1.size h1 h2:=Keep.push _ _ (Uc _);have z1:h1.size=g.size+1:=Ur _;have B1:Blk h1 g.size #[.pointer (Td ⟨bp,0,Te⟩)]:=Blk.new _ _ _;clear_value h1 h2;have q:Keep g.size g h2:=k1.trans k2 (by omega);have B2:=B1.keep (k2.get g.size (by omega));refine⟨_,B2.cell rfl,pK (P.keep q) ⟨_,rfl,?_⟩⟩;refine(DR (k:=st.kind) (R:=λr=>r=zx st.kind) rfl).go hM (P.keep q).ag (zq (a:=Arg.mk p3 _) (Zw _ _) zy) λv h8 M' r L hv hr=>⟨r,nG hv,?_⟩;subst hr;have C:=L.keep;have k8:Keep g.size g h8:=q.trans C q.size;have I:=B2.keep (C.get g.size (by have:=q.size;have:=k2.size;omega));refine⟨λu=>⟨_,I.cell rfl,?_⟩,λu=>⟨λhy=>⟨_,I.cell rfl,?_⟩,λhy=>?_⟩⟩;refine Xf (P.keep k8) λg' F n=>⟨Tc,rfl,hK Tc g' st _ _ O F ((Stp.keep (O:=O) k8).trans n) (Uc _) ?_⟩;rw[Wd,zA (by simpa using u)];exact⟨rfl,rfl⟩;refine Xf (P.keep k8) λg' F n=>⟨Tc,rfl,hK Tc g' st _ _ O F ((Stp.keep (O:=O) k8).trans n) (Uc _) ?_⟩;rw[Wd,za (by simpa using u)];exact⟨rfl,rfl⟩;exact absurd (zD hy) (by omega)
 |succ d ih=>
  intro hd key g st a e O P h4 hT hw K hK;have ih:=ih (by omega);have aF:=l8 s d;apply Qk;intro h1 h2;have k1:Keep g.size g h1:=Keep.push _ _ (Uc _);have k2:Keep h1.size h1 h2:=Keep.push _ _ (Uc _);have z1:h1.size=g.size+1:=Ur _;have z2:h2.size=h1.size+1:=Ur _;have B1:Blk h1 g.size #[.pointer (Td ⟨bp,0,Te⟩)]:=Blk.new _ _ _;have Bk2:Blk h2 h1.size #[.int .i64 key.1,.int .i64 key.2]:=Blk.new _ _ _;clear_value h1 h2;have q:Keep g.size g h2:=k1.trans k2 (by omega);have B2:=B1.keep (k2.get g.size (by omega));refine⟨_,B2.cell rfl,pK (P.keep q) ⟨_,rfl,?_⟩⟩;refine(DR (k:=st.kind) (R:=λr=>r=zx st.kind) rfl).go hM (P.keep q).ag (zq (a:=Arg.mk p3 _) (Zw _ _) zy) λv h8 M' r L hv hr=>⟨r,nG hv,?_⟩;subst hr;have C:=L.keep;have k8:Keep g.size g h8:=q.trans C q.size;have z8:h2.size<=h8.size:=C.size;have I:=B2.keep (C.get g.size (by omega));have bB:=Bk2.keep (C.get h1.size (by omega));have P8:=P.keep k8;have S8:Stp g O h8 O:=Stp.keep k8;refine⟨λu=>⟨_,I.cell rfl,?_⟩,λu=>⟨λhy=>?_,λhy=>?_⟩⟩;refine Xf P8 λg' F n=>⟨Tc,rfl,hK Tc g' st _ _ O F (S8.trans n) (Uc _) ?_⟩;rw[Wd,zA (by simpa using u)];exact⟨rfl,rfl⟩;have:=zC hy;omega;have u:¬zx st.kind=0:=by simpa using u
  have aa:=ny u;obtain⟨t,r,er⟩:=U9 aa;have bA:=P8;obtain⟨rs,lf,na,sl,b,cs,W,aj,eO⟩:=bA;have aN:na.length=st.nodes.length:=by rw[<-aj,Um]
  have ae:sl.len=st.nodes.length:=by rw[W.ns.len,aN]
  refine⟨_,I.cell rfl,_,rfl,sl,by rw[qh];exact W.blk.cell rfl,?_⟩;rw[ae];refine⟨λhz=>⟨_,I.cell rfl,?_⟩,λhz=>?_⟩;refine Xf P8 λg' F n=>⟨Tc,rfl,hK Tc g' st _ _ O F (S8.trans n) (Uc _) ?_⟩;have hz:st.nodes.length=4096:=by have:=zC hz;omega
  rw[Wd,za u,zA hz];exact⟨rfl,rfl⟩;have hz:¬st.nodes.length=4096:=λh=>by have:=zD hz;omega
  have eV:Wd s (d+1) key st=match eE s (Wd s d) st.nodes.length (zx st.kind) (st.open key)with
   |.inl st'=>.inl (st'.setTo st.nodes.length)
   |.inr e=>.inr e:=by rw[Wd,za u,za hz];rfl
  have rd:=W.rd;have hl:=(rowLen W.rd).1;rw[er]at rd hl;rw[Uk]at hl;obtain⟨tb,o,e1,e2,e3,e4⟩:=jC W.ag rd (k:=0) (by simp);have be:st.kind=t.1:=by unfold PSt.kind;rw[er]
  have aS:bp<h8.size:=W.blk.lt;have ap:∀c,O c->c<g.size:=λc h=>(P.own h).2.1;refine⟨_,I.cell rfl,_,rfl,sl,by rw[qh];exact W.blk.cell rfl,_,I.cell rfl,_,I.cell rfl,_,rfl,sl,by rw[qh];exact W.blk.cell rfl,_,I.cell rfl,_,rfl,rs,by rw[qh];exact W.blk.cell rfl,_,⟨e1,by omega,by omega⟩,t.2.1,t.2.2,?_,key.1,key.2,bB.ld (cs:=[.int .i64 key.1,.int .i64 key.2]),rfl,rfl,rfl,?_⟩;rw[qh,qh];exact⟨by rw[qh];exact e3,by rw[qh];exact e4,trivial⟩;intro Y;obtain⟨A,bM,a7⟩:=jf (g:=Y) rfl;clear_value Y;refine⟨by rw[qh];exact A.get bp aS,A.get g.size (by omega),A.get g.size (by omega),?_⟩;have aQ:NSt lo h8 M na sl b Y na cs:=⟨W.ns.frame A.size λc hc=>A.get c (W.ns.own hc).2.1,A.size,λc h=>.inl h,λj B _=>A.get j B⟩;obtain⟨E,ba⟩:=W.nst aQ;have an:lo<=Y.size:=by have:=(E.own (.inl rfl));omega
  refine NS.push Pp (by omega) E.ag an E.ns (x:=(zx st.kind,t.2,key,[],[])) rfl rfl a7 (by omega) λs' bL b' cs' aJ bG aE ab=>⟨s',rfl,_,rfl,?_⟩;have bz:¬ez na sl b g.size:=λh=>by have:=ap g.size (by rw[eO];exact .inr h);omega
  refine⟨(ab g.size (by omega) bz).trans (A.get g.size (by omega)),?_⟩;rw[qh];have ak:¬ez (na++[((zx st.kind,t.2,key,[],[]),eF)]) s' b' bp:=λh=>by rcases aE bp h with h|h;exact W.nb h;omega
  have aB:=E.blk.keep (ab bp (by omega) E.nb);refine qo Sx NL aB (by show 4<7;omega) rfl λah u1 u2 u3=>?_;have bj:PW lo ah M bp s st.rest st.last a e rs lf (na++[((zx st.kind,t.2,key,[],[]),eF)]) s' b' cs':=by refine⟨u1,W.rd,aJ.frame (by omega) λc hc=>u3 c λh=>ak (h ▸ hc),mh E.ag λj B hm=>?_,W.bl,ak⟩;rw[u3 j λh=>hm (h ▸ W.bl.2)];exact ab j B λh=>hm (E.ns.own h).2.2
  have aI:Stp Y (fp bp na sl b) ah (fp bp (na++[((zx st.kind,t.2,key,[],[]),eF)]) s' b'):=by refine⟨by omega,λc h=>?_,λj B hn=>?_⟩;rcases h with h|h;exact .inl (.inl h);rcases aE c h with h|h;exact .inl (.inr h);exact .inr h;rw[u3 j λh=>hn (.inl h)];exact ab j B λh=>hn (.inr h)
  have aC:PaS lo ah M bp s ⟨st.rest,st.last,st.nodes++[(zx st.kind,t.2,key,[],[])]⟩ a e (fp bp (na++[((zx st.kind,t.2,key,[],[]),eF)]) s' b'):=⟨rs,lf,_,_,_,_,bj,by rw[U7,aj];rfl,rfl⟩;have G:Stp h8 O ah (fp bp (na++[((zx st.kind,t.2,key,[],[]),eF)]) s' b'):=by rw[eO];exact ba.trans aI
  generalize fp bp (na++[((zx st.kind,t.2,key,[],[]),eF)]) s' b'=O45 at aC G;have U:¬O g.size:=λh=>by have:=ap _ h;omega
  have aM:=I.keep (G.fr g.size (by omega) U);refine⟨_,aM.cell rfl,vN aC aa λf N a8=>⟨rfl,?_⟩⟩;have aH:(⟨st.rest,st.last,st.nodes++[(zx st.kind,t.2,key,[],[])]⟩:PSt).skip=st.open key:=by unfold PSt.skip PSt.open;rw[be];dsimp only;rw[er]
  rw[aH]at N;have z:=G.trans a8;have a6:=z.le;have S:∀c,c<h8.size->¬O c->¬O45 c:=λc hc hn h=>by rcases G.sub c h with h|h;exact hn h;omega
  have ai:=I.keep (z.fr g.size (by omega) U);have Z:=FF (key:=key) aa hz;have aO:(st.open key).nodes.length=st.nodes.length+1:=vZ aa;intro aY ar;have fin:∀(bb:Bool) (g':zb) (st':PSt) (a' e':Int) (O':Nat->Prop),PaS lo g' M bp s st' a' e' O'->Stp g O g' O'->(st.open key).nodes.length<=st'.nodes.length->g'[g.size]?=f[g.size]?->vw (eE s (Wd s d) st.nodes.length (zx st.kind) (st.open key)) bb st' a' e'->aY bb g':=by
   intro bb g' st' a' e' O' F n n' bm H;refine ar bb g' ?_;have B':=ai.keep bm;obtain⟨bH,bI,aA,aP,b1,bE,W1,V,br⟩:=F;have aG:st.nodes.length<aA.length:=by
    have:aA.length=st'.nodes.length:=by rw[<-V,Um]
    omega
   obtain⟨q1,q2,q3,q4,q5⟩:=W1.ns.cell aG;refine⟨_,B'.cell rfl,_,rfl,aP,by rw[qh];exact W1.blk.cell rfl,_,B'.cell rfl,_,rfl,st'.last,by rw[qh,qh];exact W1.blk.cell rfl,⟨b1,0,Te⟩,⟨q1,by omega,by have:=W1.ns.len;omega⟩,?_⟩;rw[qh,qh,qh,Ue,UI,ae];refine qo lQ EZ q2 (by omega) rfl λg2 u1 u2 u3=>?_;obtain⟨W2,S2⟩:=W1.nst (W1.ns.toB aG u1 u2 u3);refine hK bb g2 (st'.setTo st.nodes.length) a' e' _ ⟨_,_,_,_,_,_,W2,?_,rfl⟩ (n.trans (by rw[br];exact S2)) (by rw[oH];omega) ?_;rw[vE (f':=iS st'.last) (λp=>rfl),V];rfl;rw[eV];cases hr:eE s (Wd s d) st.nodes.length (zx st.kind) (st.open key)with
   |inl x=>rw[hr]at H;exact⟨H.1,by rw[H.2]⟩
   |inr x=>rw[hr]at H;exact H
  have ax:hZ (33-((d+1:Nat):Int)+1)=33-(d:Int):=by rw[cK (by omega)];omega
  have bJ:=Z.t;refine⟨λh5=>⟨_,ai.cell rfl,_,ai.cell rfl,?_⟩,λh5=>⟨λh6=>?_,λh6=>?_⟩⟩;have h5:zx st.kind=5:=by simpa using h5
  refine Cf (J:=λ_=>False) (D:=λ_=>False) (HI:=λ_ _=>True) (kid:=eU (Wd s d)) (λ_ _ _ _ _=>trivial) ax (Hk ih) (Fa aF) (by kernel_rfl) (by omega) N trivial (λj B=>B.elim) (Z.m h4) (by omega) (λx u=>hw x (Z.w x u)) (by omega) λbb g' st' a' e' O' F n n' H=>⟨bb,rfl,fin bb g' st' a' e' O' F ?_ n' ?_ ?_⟩;exact(S8.trans z).trans ⟨n.le,n.sub,λj B hn=>n.fr j B hn (λh=>h)⟩;exact n.fr g.size (by omega) (S _ (by omega) U) (λh=>h);rw[ae]at H;unfold eE;rw[zA h5];exact H;have h5:¬zx st.kind=5:=by simpa using h5
  have h6:zx st.kind=6:=by simpa using h6
  intro i af;have aV:Keep f.size f i:=Keep.push _ _ (Uc _);have au:Keep i.size i af:=Keep.push _ _ (Uc _);have z65:i.size=f.size+1:=Ur _;have bD:af.size=i.size+1:=Ur _;have bq:MapAt i f.size []:=MapAt.new _;have aU:Blk af i.size #[.map Te]:=Blk.new _ _ _;clear_value i af;refine qo My OQ aU (by show 0<1;omega) rfl λam u1 u2 u3=>?_;have Q:Keep f.size f am:=⟨by omega,λj B=>by rw[u3 j (by omega),au.get j (by omega),aV.get j B]⟩;have bn:MapAt am f.size []:=(bq.keep (au.get _ (by omega))).keep (u3 _ (by omega));have bu:=N.keep Q;have ay:=ai.keep (Q.get g.size (by omega));have bF:Stp f O45 am O45:=Stp.keep Q;have az:∀c,O45 c->c<f.size:=λc h=>(N.own h).2.1;have bg:∀c,g.size<=c->M c=Te:=λc hc=>by
   cases e:M c with
   |none=>rfl
   |some x=>have:=P.ag.lt e;omega
  refine⟨_,ay.cell rfl,?_⟩;refine Cf (J:=λj=>j=f.size) (D:=λj=>j=g.size\/j=i.size\/j=f.size) (HI:=λσ g'=>Blk g' g.size #[.pointer (Td ⟨bp,0,Te⟩)]/\Blk g' i.size #[.map (Td f.size)]/\nV f.size σ g') (kid:=d7 s (Wd s d)) (λσ x y u hf=>⟨u.1.keep (hf _ (.inl rfl)),u.2.1.keep (hf _ (.inr (.inl rfl))),?_⟩) ax ?_ (AI aF) (by kernel_rfl) (by omega) bu ⟨ay,u1,[],bn,λk=>rfl⟩ (λj B=>?_) (Z.m h4) (by omega) (λx u=>hw x (Z.w x u)) (by omega) λbb g' st' a' e' O' F n n' H=>⟨bb,rfl,fin bb g' st' a' e' O' F ?_ n' ?_ ?_⟩;obtain⟨l,ml,mk⟩:=u.2.2;exact⟨l,ml.keep (hf _ (.inr (.inr rfl))),mk⟩;intro σ x st1 a1 e1 O1 P1 I1 J1 bC aT aL K1 aZ;show XC Tp _ #[.int .i64 (33-(d:Int)),.pointer (Td ⟨g.size,0,Te⟩),.pointer (Td ⟨i.size,0,Te⟩)] x K1;apply Xu;refine⟨_,I1.1.cell rfl,_,I1.2.1.cell rfl,?_⟩;refine H7 hg hM hs ih (J:=λj=>j=g.size\/j=i.size\/j=f.size) (.inr (.inr rfl)) P1 I1.2.2 J1 bC aT aL (λj B=>bg j (by omega)) λbb g' st' a' e' O' σ' F n n' H' H=>⟨bb,rfl,aZ bb g' st' a' e' O' σ' F n n' (λhb=>⟨I1.1.keep ?_,I1.2.1.keep ?_,H' hb⟩) H⟩;have:=J1 g.size (.inl rfl);exact n.fr _ this.1 this.2 (by omega);have:=J1 i.size (.inr (.inl rfl));exact n.fr _ this.1 this.2 (by omega);refine⟨by omega,λh=>?_⟩;have:=az j h;rcases B with rfl|rfl|rfl;exact S _ (by omega) U h;omega;omega;refine(S8.trans z).trans ⟨by have:=n.le;omega,λc h=>?_,λj B hn=>?_⟩;rcases n.sub c h with h|h;exact .inl h;exact .inr (by omega);rw[n.fr j (by omega) hn (by omega)];exact Q.get j B;rw[n.fr g.size (by omega) (S _ (by omega) U) (by omega)];exact Q.get _ (by omega);rw[ae]at H;unfold eE;rw[za h5,zA h6];exact H;have h5:¬zx st.kind=5:=by simpa using h5
  have h6:¬zx st.kind=6:=by simpa using h6
  refine fin Ta f (st.open key) a e O45 N (S8.trans z) (Uc _) rfl ?_;unfold eE;rw[za h5,za h6];exact⟨rfl,rfl⟩
end
end
section
variable {s:Bs} {f a t:Nat} {k:Int}
theorem TkS.frame{h:zb}{M:Fr}{b2 b3 b4 b5 bc D l:Nat}{rec:dZ}{out:List Tk}{sl:Sl}{bs:List Nat}{g g':zb}(S:TkS h M b2 b3 b4 b5 bc D l rec s out sl bs g)(A:Apart h b2 b3 b4 b5 bc D l)(m:g.size<=g'.size)(f:∀j,j<g.size->g'[j]?=g[j]?):TkS h M b2 b3 b4 b5 bc D l rec s out sl bs g':=by have i:=lt_of_some S.rc;have:=A.lo;have:=A.a3;have:=A.a4;have:=A.a5;have:=A.ac;have:=A.aD;have:=A.al;have k:=S.keep.size;exact⟨⟨by omega,λj e=>(f j (by omega)).trans (S.keep.get j e)⟩,S.c.keep (f _ (by omega)),(f _ (by omega)).trans S.d,(f _ i).trans S.rc,S.r2.keep (f _ (by omega)),S.r3.keep (f _ (by omega)),S.r4.keep (f _ (by omega)),S.r5.keep (f _ (by omega)),S.o.frame (λc b=>f c (S.o.own c b).2.1) (Fr.le.refl _) λc b=>(S.o.own c b).2.2⟩
theorem SD{o:List Tk}(b:a<s.length)(h:Qa s a=(k,t,0)):Yd (f+1) s a o=Yd f s t (o++[(k,((a:Int),(t:Int)))]):=by rw[Yd,zA b,h];rfl
theorem Gz{k e:Int}{o:List Tk}(b:a<s.length)(h:Qa s a=(k,t,e))(c:¬e=0):Yd (f+1) s a o=([],t,e):=by rw[Yd,zA b,h];simp only;rw[za c]
theorem Il{o:List Tk}(b:¬a<s.length):Yd f s a o=(o,a,0):=by
 cases f with
 |zero=>rfl
 |succ f=>rw[Yd,za b]
section
variable {h : zb} {M gl : Fr} {b2 b3 b4 b5 bc D l : Nat} {rec : dZ} {s : Bs} {sl : Sl} {bs : List Nat} {g : zb}
abbrev QY(b2 b3 b4 b5:Nat)(x9 x8 x0:Value):bK:=[(0,[],x0),(2,[],.pointer (Td ⟨b2,0,Te⟩)),(3,[],.pointer (Td ⟨b3,0,Te⟩)),(4,[],.pointer (Td ⟨b4,0,Te⟩)),(5,[],.pointer (Td ⟨b5,0,Te⟩)),(8,[],x8),(9,[],x9)]
set_option maxRecDepth 100000 in
set_option maxHeartbeats 4000000 in
theorem JR(A:Apart h b2 b3 b4 b5 bc D l)(hg:GL gl)(hM:Fr.le gl M)(ag:AgM M h)(S:TkS h M b2 b3 b4 b5 bc D l rec s [] sl bs g){x9 x8 x0:Value} (p:∀{v1 v2:Value} {h2:zb} {K:Value->zb->Prop},h2[l]?=Td (.loop (rec .ready Te))->fF Tp 25 (fU (codeOf Tryz.f280)) (fI (codeOf Tryz.f280)) rec l K (putO (putO (QY b2 b3 b4 b5 x9 x8 x0) (Td 10) [] v1) (Td 11) [] v2) h2->YX Tp l #[v1,v2] h2 K) {Q:zb->Prop} (hN:∀g out sl bs,TkS h M b2 b3 b4 b5 bc D l rec s out sl bs g->y9 s=(out,s.length,0)->out.length<=100000->Q g) (hE:∀(g:zb) (t:Nat) (e:Int),¬e=0->y9 s=([],t,e)->Keep h.size h g->g[D]?=Td (.deferred (Td []))->g[l]?=Td (.loop (rec .done (Td .ret)))->Blk g b2 #[.slice Te 0 0]->Blk g b3 #[.int .i64 (t:Int)]->Blk g b4 #[.int .i64 e]->Q g):
  gE Tp 374 #[.func (.yield l) #[] #[],.pointer (Td ⟨bc,0,Te⟩)] g (λ_ g'=>Q g'):=by
 have:=A.lo;have:=A.a3;have:=A.a4;have:=A.a5;have:=A.ac;have:=A.aD;have:=A.al;apply Ly;refine⟨bl s,S.c.cell rfl,λn=>?_,λu=>?_⟩;have q:65536<s.length:=by rw[zh]at n;simp at n;omega
 refine p S.rc (TkS.err A S (by omega) λg' B Z r q4 q5 q6=>⟨Tc,rfl,?_⟩);refine hE g' 0 3 (by omega) ?_ B Z r q4 q5 q6;unfold y9;rw[zA q];have C:s.length<=65536:=by rw[zh]at u;simp at u;omega
 have hR:y9 s=Yd s.length s 0 []:=by unfold y9;rw[za (by omega)]
 refine⟨λk g'=>∃(a f:Nat) (out:List Tk) (ah:Sl) (bs':List Nat),k=(a:Int)/\a<=s.length/\s.length-a<=f/\out.length<=a/\y9 s=Yd f s a out/\TkS h M b2 b3 b4 b5 bc D l rec s out ah bs' g',λk _=>s.length-k.toNat,⟨0,s.length,[],sl,bs,rfl,by omega,by omega,Uc _,hR,S⟩,?_⟩;rintro k g1 ⟨a,f,out,N,G,rfl,ha,hf,ho,L,m⟩;refine⟨bl s,m.c.cell rfl,λw=>⟨bl s,m.c.cell rfl,?_⟩,λz=>?_⟩;have i:a<s.length:=by rw[zh]at w;simp at w;omega
 obtain⟨f,rfl⟩:∃f',f=f'+1:=⟨f-1,by omega⟩;have aa:AgM M g1:=ag.keep m.keep;refine OE hg hM aa C i λg2 k2=>?_;obtain⟨tk,t,e,b⟩:∃k t e,Qa s a=(k,t,e):=⟨_,_,_,rfl⟩;have z2:=k2.size;by_cases y:e=0;subst y;have hp:=Jz i (by rw[b]);rw[b]at hp;have ai:a<t:=hp.1;have U:t<=s.length:=hp.2;have O:hY s a=.tuple #[.agg #[.int .i64 tk,.int .i64 (a:Int),.int .i64 (t:Int)],.int .i64 0]:=by unfold hY;rw[b,zA rfl]
 refine⟨tk,a,t,0,O,?_⟩;intro F;obtain⟨P,z3,Y⟩:=jf (g:=F) rfl;clear_value F;refine ig Y λV B Z r=>⟨tk,a,t,r.ld,?_⟩;have I:∀j,j<g1.size->V[j]?=g1[j]?:=λj J=>by rw[B j (by omega),P.get j (by omega),k2.get j J]
 have E:=m.frame A (by omega) I;have ll:=lt_of_some m.rc;refine p E.rc (TkS.round A ag E (by omega) λg5 af ab S5 z5 f5=>⟨Ta,rfl,λH=>by simp at H,λ_=>?_⟩);refine⟨t,?_,⟨t,f,_,af,ab,rfl,U,by omega,?_,?_,S5⟩,?_⟩;rw[qh,qh];refine(r.keep (f5 g2.size (by omega) (by omega) (by omega) λhm=>?_)).cell rfl;have:=(m.o.own g2.size hm).2.1;omega;rw[Uf];show out.length+1<=t;omega;rw[L,SD i b];show s.length-(t:Int).toNat<s.length-(a:Int).toNat;rw[Ue,Ue];omega;have O:=pW b y;refine⟨0,t,t,e,O,?_⟩;intro F;obtain⟨P,z3,Y⟩:=jf (g:=F) rfl;clear_value F;refine ig Y λV B Z r=>⟨0,t,t,r.ld,?_⟩;have I:∀j,j<g1.size->V[j]?=g1[j]?:=λj J=>by rw[B j (by omega),P.get j (by omega),k2.get j J]
 have E:=m.frame A (by omega) I;refine p E.rc (TkS.err A E y λg5 w1 w2 w3 w4 w5 w6=>⟨Tc,rfl,λ_=>?_,λH=>by simp at H⟩);exact hE g5 t e y (by rw[L,Gz i b y]) w1 w2 w3 w4 w5 w6;have x:¬a<s.length:=by rw[zh]at z;simp at z;omega
 have ae:a=s.length:=by omega
 exact hN g1 out N G m (by rw[L,Il x,ae]) (by omega)
end
end
end
section
open Go.RowKit
set_option maxRecDepth 100000 in
set_option maxHeartbeats 4000000 in
section
theorem IG{gl M:Fr}(hg:GL gl)(hM:Fr.le gl M){h:zb}(ag:AgM M h){s:Bs}{K:Value->zb->Prop} (V:∀(h':zb) (M':Fr) (t:Sl),Later h M h' M'->Rd M' (.row gm) (y9 s).1 [aK t]->K (.tuple #[aK t,.int .i64 ((y9 s).2.1:Nat),.int .i64 (y9 s).2.2]) h'):
  XC Tp 280 #[.string (bl s)] h K:=by
 apply RN;intro h1 h2 q y;have k1:Keep h.size h h1:=Keep.push _ _ (Uc _);have k2:Keep h1.size h1 h2:=Keep.push _ _ (Uc _);have I:Keep h2.size h2 q:=Keep.push _ _ (Uc _);have D:Keep q.size q y:=Keep.push _ _ (Uc _);have z1:h1.size=h.size+1:=Ur _;have z2:h2.size=h1.size+1:=Ur _;have z3:q.size=h2.size+1:=Ur _;have z4:y.size=q.size+1:=Ur _;have B1:Blk h1 h.size #[.slice Te 0 0]:=Blk.new _ _ _;have B2:Blk h2 h1.size #[.int .i64 0]:=Blk.new _ _ _;have B3:Blk q h2.size #[.int .i64 0]:=Blk.new _ _ _;have B4:Blk y q.size #[.slice Te 0 0]:=Blk.new _ _ _;clear_value y q h2 h1;apply MJ;intro b;obtain⟨B,z5,B5⟩:=jf (g:=b) rfl;clear_value b;refine⟨_,rfl,_,_,rfl,by kernel_rfl,λrec F=>?_⟩;have e5:∀j,j<h.size->b[j]?=h[j]?:=λj i=>by rw[B.get j (by omega),D.get j (by omega),I.get j (by omega),k2.get j (by omega),k1.get j i]
 have A:Apart h h.size h1.size h2.size q.size y.size b.size (b.size+1):=⟨by omega,by omega,by omega,by omega,by omega,by omega,rfl⟩;obtain⟨w,l⟩:∃w,w=(b.push (.deferred (Td []))).push (.loop (rec .ready Te)):=⟨_,rfl⟩;have gz:w.size=b.size+2:=by rw[l,Ur,Ur]
 have x:∀j,j<b.size->w[j]?=b[j]?:=λj i=>by rw[l,Array.getElem?_push_lt (by rw[Ur];omega)];rw[Array.getElem_push_lt i,Vx i]
 have gD:w[b.size]?=Td (.deferred (Td [])):=by rw[l,Array.getElem?_push_lt (by rw[Ur];omega),Array.getElem_push_eq]
 have E:w[b.size+1]?=Td (.loop (rec .ready Te)):=by
  rw[l];have:b.size+1=(b.push (.deferred (Td []))).size:=by rw[Ur]
  rw[this,Array.getElem?_push_size]
 rw[<-l];clear l;have S:TkS h M h.size h1.size h2.size q.size y.size b.size (b.size+1) rec s [] ⟨Te,0,0⟩ [] w:= ⟨⟨by omega,λj i=>(x j (by omega)).trans (e5 j i)⟩,B5.keep (x _ (by omega)),gD,E,B1.keep (by rw[x _ (by omega),B.get _ (by omega),D.get _ (by omega),I.get _ (by omega),k2.get _ (by omega)]),B2.keep (by rw[x _ (by omega),B.get _ (by omega),D.get _ (by omega),I.get _ (by omega)]),B3.keep (by rw[x _ (by omega),B.get _ (by omega),D.get _ (by omega)]),B4.keep (by rw[x _ (by omega),B.get _ (by omega)]),.nil⟩;refine JR A hg hM ag S (x9:=_) (x8:=_) (x0:=_) F ?_ ?_;intro g out sl bs n z ho;have ll:=lt_of_some n.rc;refine .inl ⟨n.rc,?_⟩;obtain⟨k,f⟩:∃k,k=g.setIfInBounds (b.size+1) (.loop (rec .exhausted Te)):=⟨_,rfl⟩;have z6:k.size=g.size:=by rw[f,U6]
 have m:∀j,j≠b.size+1->k[j]?=g[j]?:=λj i=>by rw[f];exact qm i
 rw[<-f];clear f;refine⟨sl,(n.r5.keep (m _ (by omega))).cell rfl,?_⟩;refine qo u9 te (n.r2.keep (m _ (by omega))) (by show 0<1;omega) rfl λg7 u1 u3 O=>?_;refine qo Eg Fe (n.r3.keep ((O _ (by omega)).trans (m _ (by omega)))) (by show 0<1;omega) rfl λg8 Z v3 J=>?_;refine qo BW zJ (n.r4.keep ((J _ (by omega)).trans ((O _ (by omega)).trans (m _ (by omega))))) (by show 0<1;omega) rfl λr w1 w3 Q=>?_;have H:∀j,j≠b.size+1->j≠h.size->j≠h1.size->j≠h2.size->r[j]?=g[j]?:=λj a1 a2 a3 a4=>by rw[Q j a4,J j a3,O j a2,m j a1]
 refine⟨(H _ (by omega) (by omega) (by omega) (by omega)).trans n.d,?_⟩;have p:∀j,j≠b.size->(r.setIfInBounds b.size (.deferred Te))[j]?=r[j]?:=λj i=>qm i;have P:Blk (r.setIfInBounds b.size (.deferred Te)) h.size #[aK sl]:=u1.keep (by rw[p _ (by omega),Q _ (by omega),J _ (by omega)]);have L:Blk (r.setIfInBounds b.size (.deferred Te)) h1.size #[.int .i64 (((bl s).size:Nat):Int)]:=Z.keep (by rw[p _ (by omega),Q _ (by omega)]);have N:Blk (r.setIfInBounds b.size (.deferred Te)) h2.size #[.int .i64 0]:=w1.keep (p _ (by omega));refine⟨sl,P.cell rfl,_,L.cell rfl,0,N.cell rfl,?_⟩;have C:Keep h.size h (r.setIfInBounds b.size (.deferred Te)):=by have:=n.keep.size;refine⟨by rw[U6];omega,λj i=>?_⟩;rw[p j (by omega),H j (by omega) (by omega) (by omega) (by omega)];exact n.keep.get j i
 have G:=n.o.own;have ox:=n.o.frame (h':=r.setIfInBounds b.size (.deferred Te)) (λc u=>by have:=G c u;rw[p c (by omega),H c (by omega) (by omega) (by omega) (by omega)]) (Fr.le.refl M) λc u=>(G c u).2.2;have:=V _ (MxL M (r.setIfInBounds b.size (.deferred Te)) bs) sl (MxL.later ag C λc u=>by have:=G c u;omega) (by rw[z];exact ox.rd (ag.keep C) (λc u=>u) (by omega));rw[z]at this;rw[zh];exact this;intro g t e he z U Y gr q2 q3 q4;refine .inr ⟨gr,?_⟩;obtain⟨k,f⟩:∃k,k=g.setIfInBounds (b.size+1) (.loop (rec .exhausted (Td .ret))):=⟨_,rfl⟩;have z6:k.size=g.size:=by rw[f,U6]
 have m:∀j,j≠b.size+1->k[j]?=g[j]?:=λj i=>by rw[f];exact qm i
 rw[<-f];clear f;refine⟨(m _ (by omega)).trans Y,?_⟩;have p:∀j,j≠b.size->(k.setIfInBounds b.size (.deferred Te))[j]?=k[j]?:=λj i=>qm i;have P:Blk (k.setIfInBounds b.size (.deferred Te)) h.size #[.slice Te 0 0]:=q2.keep (by rw[p _ (by omega),m _ (by omega)]);have L:Blk (k.setIfInBounds b.size (.deferred Te)) h1.size #[.int .i64 (t:Int)]:=q3.keep (by rw[p _ (by omega),m _ (by omega)]);have N:Blk (k.setIfInBounds b.size (.deferred Te)) h2.size #[.int .i64 e]:=q4.keep (by rw[p _ (by omega),m _ (by omega)]);refine⟨⟨Te,0,0⟩,P.cell rfl,_,L.cell rfl,e,N.cell rfl,?_⟩;have C:Keep h.size h (k.setIfInBounds b.size (.deferred Te)):=by have:=U.size;refine⟨by rw[U6];omega,λj i=>?_⟩;rw[p j (by omega),m j (by omega)];exact U.get j i
 have:=V _ M ⟨Te,0,0⟩ (Later.same ag C) (by rw[z];exact⟨_,rfl,Te,0,rfl,⟨by simp,by simp⟩,.inl rfl⟩);rw[z]at this;exact this
end
end
section
open Go.RowKit
section
theorem AY:∀(f:Nat) (s:Bs) (a:Nat) (o:List Tk),(Yd f s a o).1.length<=o.length+f
 |0,s,a,o=>Nat.le_add_right _ _
 |f+1,s,a,o=>by rw[Yd];split;split;have:=AY f s (Qa s a).2.1 (o++[((Qa s a).1,((a:Int),((Qa s a).2.1:Int)))]);rw[Uf,VH]at this;omega;simp;simp
end
section
variable {lo b:Nat} {g:zb} {M:Fr} {cs:Array Value}
def gw(na:NA)(b:Nat):List Nat:=if na.length=0 then []else b::na.flatMap λp=>p.2.kb++p.2.pb
theorem QF{na:NA}{sl:Sl}(H:NS lo g M na sl b cs){c:Nat}(h:c∈gw na b):lo<=c:=by unfold gw at h;split at h;cases h;rename_i h0;rcases Uj.1 h with rfl|h;exact(H.lb (H.cell (n:=0) (by omega)).2.2.1).1;obtain⟨p,e,f⟩:=VO.1 h;exact((H.nd p e).own (Uv.1 f)).1
theorem ve{na:NA}(h:0<na.length):gw na b=b::na.flatMap λp=>p.2.kb++p.2.pb:=by unfold gw;rw[za (by omega)]
theorem NS.rd{na:NA}{sl:Sl}(H:NS lo g M na sl b cs)(ag:AgM M g)(w:na.length<=4096)(l:∀p∈na,d5 p.1<=1000000):Rd (MxL M g (gw na b)) (.row fv) (na.map (·.1)) [aK sl]:=by have n:=H.len;have h:=H.cr.ro.le;refine⟨_,rfl,sl.a,sl.cap,?_,⟨by rw[Um];omega,by rw[Um];omega⟩,?_⟩;show aK _=_;unfold aK;rw[Um,n];by_cases h0:na=[];left;rw[h0];rfl;have e:0<na.length:=U5.2 h0;obtain⟨h1,h2,u,r,t⟩:=H.cell e;refine .inr ⟨b,0,cs,h1,MxL.at (by rw[ve e];exact Uu) h2,λi hi=>?_⟩;rw[Um]at hi;have f:=Up hi;obtain⟨s,q⟩:=H.cr.el i (fh na[i]) (by rw[U2,Ul hi];rfl);rw[UI,show sz fv=7 from rfl,q,WE];have I:=H.nd _ f;have m:=l _ f;unfold d5 at m;have k:=I.kk.rd ag (all:=gw na b) (λc h=>by rw[ve e];exact Uo _ (VO.2 ⟨_,f,Uv.2 (.inl h)⟩)) (by omega);have o:=I.pp.rd ag (all:=gw na b) (λc h=>by rw[ve e];exact Uo _ (VO.2 ⟨_,f,Uv.2 (.inr h)⟩)) (by omega);refine⟨[.int .i64 na[i].1.1],[.int .i64 na[i].1.2.1.1,.int .i64 na[i].1.2.1.2,.int .i64 na[i].1.2.2.1.1,.int .i64 na[i].1.2.2.1.2,aK na[i].2.ks,aK na[i].2.ps],rfl,rfl,?_⟩;refine⟨[.int .i64 na[i].1.2.1.1,.int .i64 na[i].1.2.1.2],[.int .i64 na[i].1.2.2.1.1,.int .i64 na[i].1.2.2.1.2,aK na[i].2.ks,aK na[i].2.ps],rfl,⟨_,_,rfl,rfl,rfl⟩,?_⟩;refine⟨[.int .i64 na[i].1.2.2.1.1,.int .i64 na[i].1.2.2.1.2],[aK na[i].2.ks,aK na[i].2.ps],rfl,⟨_,_,rfl,rfl,rfl⟩,?_⟩;exact⟨[aK na[i].2.ks],[aK na[i].2.ps],rfl,k,o⟩
theorem tz{x:Bs}{l:List Nd}{sl:Sl}(i j:Int)(h:Rd M (.row fv) l [aK sl]):Zp M [.pair .str (.row fv),.int .i64,.int .i64] ((bl x,l),i,j) (.tuple #[.agg #[.string (bl x),aK sl],.int .i64 i,.int .i64 j]):=by refine⟨[.agg #[.string (bl x),aK sl],.int .i64 i,.int .i64 j],⟨_,_,rfl,?_,_,_,rfl,Zw _ i,_,rfl,Zw _ j⟩,rfl⟩;exact⟨[.string (bl x),aK sl],rfl,[.string (bl x)],[aK sl],rfl,rfl,h⟩
theorem Xg{T:Ty}:Rd M (.row T) [] [aK ⟨Te,0,0⟩]:=⟨_,rfl,Te,0,rfl,⟨by simp,by simp⟩,.inl rfl⟩
theorem FU:qj Tp 162=Ta:=by kernel_rfl
theorem NN:jg Tp 162=2:=by kernel_rfl
theorem oJ{x y:Value}(B:Blk g b #[x,y]){u:Bt}{v:Sl}{K:zb->Prop}(f:∀g',(∀j,j≠b->g'[j]?=g[j]?)->g'.size=g.size->Blk g' b #[.string u,aK v]->K g'):
  XRunU Tp (Ub 162 (.pointer (Td ⟨b,0,Te⟩)) (.agg #[.string u,aK v])) g K:=by
 refine fT (vs:=[.string u,aK v]) FU B rfl NN (Uc _) (λw c=>?_) λg' e i h=>f g' h i e;simp at c;rcases c with rfl|rfl <;> rfl
theorem Lq{l:List Tk}{k:Nat}(b:k<l.length):qa (l.take (k+1))=qa (l.take k)++(if l[k].1≠1 then [l[k]]else []):=by unfold qa;rw[Uh b,List.filter_append];congr 1;by_cases h:l[k].1=1;simp[h];simp[h]
end
section
variable {s:Bs}
theorem Am(h:(y9 s).2.2=0):s.length<=65536/\(y9 s).1.length<=s.length:=by unfold y9 at h ⊢;split at h;simp at h;rename_i b;rw[za b];have:=AY s.length s 0 [];rw[UG,UI]at this;exact⟨by omega,this⟩
set_option maxRecDepth 100000 in
set_option maxHeartbeats 4000000 in
theorem TT{gl:Fr}(hg:GL gl){R:(Bt×List Nd)×Int×Int->Prop}(hR:R ((bl (Yl s).1.1,(Yl s).1.2),(Yl s).2.1,(Yl s).2.2)):
  PC Tp gl 226 [Arg.mk .str (bl s)] [.pair .str (.row fv),.int .i64,.int .i64] R:=by
 intro h M vs hM ag ha
 match vs,ha with
 |[u1],⟨a1,_⟩=>
  obtain rfl:=ju (s:=bl s) a1;apply PX.of;apply Ho;intro h1;obtain⟨k1,z1,B1⟩:=jf (g:=h1) rfl;clear_value h1;have aV:AgM M h1:=ag.keep k1;refine IG hg hM aV λf q t I rt=>⟨t,_,_,rfl,?_⟩;have B3:=B1.keep (I.keep.get h.size (by omega));have z3:=I.keep.size;have k3:Keep h.size h f:=k1.trans (c:=f) (m:=h.size) ⟨z3,λj y=>I.keep.get j (by omega)⟩ (Uc _);have a8:∀b,b<h.size->q b=M b:=λb r=>I.old b (by omega);have aO:M h.size=Te:=by
   cases e:M h.size with
   |none=>rfl
   |some x=>have:=ag.lt e;omega
  have ap:q h.size=Te:=by rw[I.old _ (by omega)];exact aO
  refine⟨λhx=>?_,λhx=>?_⟩;have hx:¬(y9 s).2.2=0:=by simpa using hx
  have J:Yl s=(([],[]),((y9 s).2.1:Int),(y9 s).2.2):=by unfold Yl;rw[za hx]
  rw[J]at hR;refine oJ (u:=⟨#[]⟩) (v:=⟨Te,0,0⟩) B3 λh7 f7 z7 B7=>⟨_,_,B7.ld (cs:=[.string ⟨#[]⟩,aK ⟨Te,0,0⟩]),?_⟩;exact⟨M,_,Later.same ag ⟨by omega,λj y=>by rw[f7 j (by omega)];exact k3.get j y⟩,tz (x:=[]) (l:=[]) _ _ Xg,hR⟩;have hx:(y9 s).2.2=0:=by simpa using hx
  obtain⟨hs,aU⟩:=Am hx;have J:Yl s=match Wd s 32 (0,0) ⟨qa (y9 s).1,0,[]⟩with
   |.inl st=>if st.rest=[]then((s,st.nodes),(s.length:Int),0)else(([],[]),st.here s.length,2)
   |.inr e=>(([],[]),e.1,e.2):=by unfold Yl;rw[zA hx];rfl
  have aE:=JG (HW s);generalize (y9 s).1=tl at rt aU J aE;have rl:=(rowLen rt).1;intro ay;obtain⟨aQ,bB,ba⟩:=jf (g:=ay) rfl;clear_value ay;have an:∀c,f.size<=c->q c=Te:=λc i=>by
   cases e:q c with
   |none=>rfl
   |some x=>have:=I.ag.lt e;omega
  refine⟨λk g=>∃(n:Nat) (rs:Sl) (bs:List Nat),k=(n:Int)/\n<=tl.length/\ORow (f.size+1) g q gm (qa (tl.take n)) rs bs/\Blk g f.size (oB s rs 0 0 ⟨Te,0,0⟩ 0 0).toArray/\Keep f.size f g,λk _=>tl.length-k.toNat,⟨0,⟨Te,0,0⟩,[],rfl,by omega,.nil,ba,aQ⟩,?_⟩;rintro k g ⟨n,rs,bs,rfl,hn,ro,Bp,kg⟩;have agg:AgM q g:=I.ag.keep kg;have zg:f.size+1<=g.size:=by have:=Bp.lt;omega
  refine⟨λO=>?_,λbr=>?_⟩;have O:n<tl.length:=by have:=zC O;omega
  obtain⟨tb,o,V,e2,e3,e4⟩:=jC agg rt O;have Q:=Lq O;refine⟨_,⟨V,by omega,by omega⟩,tl[n].1,tl[n].2.1,tl[n].2.2,?_,?_⟩;rw[qh,Ue];exact⟨by rw[qh];exact e2,by rw[qh];exact e3,by rw[qh];exact e4,trivial⟩;intro aC;obtain⟨bz,bC,aT⟩:=jf (g:=aC) rfl;clear_value aC;refine ig aT λaf q1 q2 q3=>⟨tl[n].1,by rw[qh];exact q3.cell rfl,?_⟩;have ae:Keep g.size g af:=⟨by omega,λj y=>(q1 j (by omega)).trans (bz.get j y)⟩;have z:=ro.frame (λc i=>ae.get c (ro.own c i).2.1) (Fr.le.refl q) λc i=>(ro.own c i).2.2;have F:=Bp.keep (ae.get _ (by omega));have Y:Keep f.size f af:=kg.trans (c:=af) (m:=f.size) ⟨by omega,λj y=>ae.get j (by omega)⟩ (Uc _);have ah:hZ ((n:Int)+1)=((n+1:Nat):Int):=by rw[cK (by omega)];omega
  rw[ah];refine⟨λr=>⟨_,rfl,rs,by rw[qh];exact F.cell rfl,tl[n].1,tl[n].2.1,tl[n].2.2,q3.ld,?_⟩,λr=>?_⟩;have r:tl[n].1≠1:=by simpa using r
  rw[zA r]at Q;intro N;obtain⟨U,bP,aJ⟩:=jf (g:=N) rfl;clear_value N;refine⟨by rw[qh];exact U.get f.size (by omega),?_⟩;have ax:=z.frame (λc i=>U.get c (z.own c i).2.1) (Fr.le.refl q) λc i=>(z.own c i).2.2;have au:=F.keep (U.get _ (by omega));have Z:Keep f.size f N:=Y.trans (c:=N) (m:=f.size) ⟨by omega,λj y=>U.get j (by omega)⟩ (Uc _);have aY:(qa (tl.take n)).length<=n:=by have:(qa (tl.take n)).length<=(tl.take n).length:=List.length_filter_le _ _;rw[UQ]at this;omega
  refine ORow.app Df (by omega) (I.ag.keep Z) ax (by omega) aJ (wV _ _ _) (by omega) λs' bF bs' ak bH c29 ar=>⟨s',rfl,_,rfl,?_⟩;rw[qh];have aH:f.size∉bs:=λA=>by have:=(ro.own _ A).1;omega
  refine qo BL BE (au.keep (ar _ (by omega) aH)) (by show 1<7;omega) rfl λbm u1 u2 u3=>⟨⟨n+1,s',bs',rfl,by omega,?_,u1,?_⟩,?_⟩;rw[Q];exact ak.frame (λc i=>u3 c λe=>by have:=(ak.own c i).1;omega) (Fr.le.refl q) λc i=>(ak.own c i).2.2;refine Z.trans (c:=bm) (m:=f.size) ⟨by omega,λj y=>?_⟩ (Uc _);rw[u3 j (by omega),ar j (by omega) λA=>by have:=(ro.own j A).1;omega];show tl.length-((n+1:Nat):Int).toNat<tl.length-(n:Int).toNat;omega;have r:¬tl[n].1≠1:=by simpa using r
  rw[za r,UM]at Q;refine⟨⟨n+1,rs,bs,rfl,by omega,by rw[Q];exact z,F,Y⟩,?_⟩;show tl.length-((n+1:Nat):Int).toNat<tl.length-(n:Int).toNat;omega;have aI:n=tl.length:=by have:=zD br;omega
  subst aI;rw[Uz]at ro;have aY:(qa tl).length<=tl.length:=List.length_filter_le _ _;have bq:=ro.rd agg (all:=bs) (λc i=>i) (by omega);have aM:AgM (MxL q g bs) g:=MxL.ag agg bs;have ab:∀c∈bs,f.size+1<=c:=λc i=>(ro.own c i).1;have aj:∀c,c∉bs->MxL q g bs c=q c:=λc i=>by unfold MxL;rw[za i]
  have aZ:Fr.le gl (MxL q g bs):=hM.trans (I.le.trans (gv agg bs));have P:PaS f.size g (MxL q g bs) f.size s ⟨qa tl,0,[]⟩ 0 0 (fp f.size [] ⟨Te,0,0⟩ 0):=by refine⟨rs,0,[],⟨Te,0,0⟩,0,#[],⟨Bp,bq,.nil,aM,⟨Uc _,?_⟩,?_⟩,rfl,rfl⟩;rw[aj _ λA=>by have:=ab _ A;omega];exact an _ (Uc _);rintro(⟨h1,_⟩|⟨p,hp,_⟩);exact h1 rfl;cases hp
  have hT:(⟨qa tl,0,[]⟩:PSt).T<=200000:=by unfold PSt.T;simp;omega
  have a7:=QV (lo:=f.size) (M:=MxL q g bs) (bp:=f.size) (s:=s) hg aZ hs 32 (Uc _) (0,0) g _ 0 0 _ P (by simp) hT aE;refine a7 _ λb aL st' a' e' O' P' S' n' D=>⟨b,rfl,?_⟩;intro aS az;have fin:∀(ok:Bool) (B:zb) (st1:PSt) (a1 V:Int) (O1:Nat->Prop),PaS f.size B (MxL q g bs) f.size s st1 a1 V O1->Stp g (fp f.size [] ⟨Te,0,0⟩ 0) B O1->(ok=Tc->Yl s=(([],[]),a1,V))->(ok=Ta->Yl s=((s,st1.nodes),(s.length:Int),0)/\st1.nodes.length<=4096/\st1.T<=200000)->aS ok B:=by
   intro ok B st1 a1 V O1 P1 S1 hf ht;refine az ok B ?_;have bj:∀c,c<f.size->¬fp f.size [] ⟨Te,0,0⟩ 0 c:=λc i=>by rintro(h1|⟨h1,_⟩|⟨p,hp,_⟩);omega;exact h1 rfl;cases hp
   have aa:∀j,j<f.size->B[j]?=f[j]?:=λj y=>(S1.fr j (by omega) (bj j y)).trans (kg.get j y);have bG:=S1.le;have Bd:=B3.keep (aa h.size (by omega));have be:=P1;obtain⟨ai,bg,C,E,b1,aA,L,w,bu⟩:=be;have bI:=L.blk.lt;refine⟨λho=>⟨_,rfl,a1,by rw[qh];exact L.blk.cell rfl,_,rfl,V,by rw[qh];exact L.blk.cell rfl,rfl,rfl,?_⟩,λho=>⟨_,rfl,E,by rw[qh];exact L.blk.cell rfl,?_⟩⟩;have ho:ok=Tc:=by simpa using ho
   refine oJ (u:=⟨#[]⟩) (v:=⟨Te,0,0⟩) Bd λbN aG bO aP=>?_;have G:=aG f.size (by omega);refine⟨by rw[qh];exact G,by rw[qh];exact G,by rw[qh];exact G,_,_,aP.ld (cs:=[.string ⟨#[]⟩,aK ⟨Te,0,0⟩]),?_⟩;rw[hf ho]at hR;exact⟨M,_,Later.same ag ⟨by omega,λj y=>by rw[aG j (by omega),aa j (by omega)];exact k3.get j y⟩,tz (x:=[]) (l:=[]) _ _ Xg,hR⟩;have ho:ok=Ta:=by simpa using ho
   obtain⟨bn,bM,bL⟩:=ht ho;refine oJ (u:=bl s) (v:=E) Bd λS am bJ bA=>⟨_,_,bA.ld (cs:=[.string (bl s),aK E]),?_⟩;rw[bn]at hR;rw[zh];have a6:MxL q g bs h.size=Te:=by rw[aj _ λA=>by have:=ab _ A;omega];exact ap
   have aB:NS f.size S (MxL q g bs) C E b1 aA:=L.ns.frame (by omega) λc i=>am c λe=>by have:=(L.ns.own i).1;omega
   have H:AgM (MxL q g bs) S:=mh L.ag λj y A=>am j λe=>A (e ▸ a6);have bE:C.length=st1.nodes.length:=by rw[<-w,Um]
   have aF:=aB.rd H (by omega) λp hp=>by
    have:p.1∈st1.nodes:=by rw[<-w];exact List.mem_map_of_mem hp
    have:=sT this;omega
   rw[w]at aF;refine⟨MxL (MxL q g bs) S (gw C b1),_,⟨⟨by omega,λj y=>by rw[am j (by omega),aa j (by omega)];exact k3.get j y⟩,?_,λc i=>?_,MxL.ag H _⟩,tz _ _ aF,hR⟩;exact I.le.trans ((gv agg bs).trans (gv H _));have h1:c∉gw C b1:=λA=>by have:=QF aB A;omega
   have V:MxL (MxL q g bs) S (gw C b1) c=MxL q g bs c:=by unfold MxL;rw[za h1]
   rw[V,aj c λA=>by have:=ab c A;omega];exact a8 c i
  have aN:=P';obtain⟨ai,bg,C,E,b1,aA,L,w,bu⟩:=aN;have bD:=(rowLen L.rd).1;refine⟨_,λ_=>rfl,ai,λ_=>by rw[qh];exact L.blk.cell rfl,λi=>?_,λi=>?_⟩;have r:b=Ta/\0<st'.rest.length:=by
   cases b with
   |false=>simp at i
   |true=>simp at i;exact⟨rfl,by omega⟩
  refine Xf P' λg' P2 S2=>⟨Tc,rfl,fin Tc g' st' _ _ O' P2 (S'.trans S2) (λ_=>?_) (λh=>(by cases h))⟩;rw[J];cases hr:Wd s 32 (0,0) ⟨qa tl,0,[]⟩with
  |inl x=>rw[hr]at D;rw[D.2]at r ⊢;dsimp only;rw[za λe=>by rw[e]at r;simp at r]
  |inr x=>rw[hr]at D;rw[D.1]at r;exact absurd r.1 (by simp)
  refine fin b aL st' a' e' O' P' S' (λr=>?_) (λr=>?_);rw[J];cases hr:Wd s 32 (0,0) ⟨qa tl,0,[]⟩with
  |inl x=>rw[hr]at D;rw[D.1]at r;cases r
  |inr x=>rw[hr]at D;rw[D.2]
  subst r;have hz:st'.rest=[]:=by
   have:¬0<ai.len:=by simpa using i
   exact Vk.1 (by omega)
  cases hr:Wd s 32 (0,0) ⟨qa tl,0,[]⟩with
  |inl x=>rw[hr]at D J;have okv:=l8 s 32 _ _ _ hr;rw[<-D.2]at okv J;dsimp only at J;rw[zA hz]at J;exact⟨J,okv.m (by simp),by have:=okv.t;omega⟩
  |inr x=>rw[hr]at D;exact absurd D.1 (by simp)
end
end
section
theorem Q1(D:Bt)(h:zb)(R:Value->zb->Prop) (H:let b:=h.push (.cells tC 25);XC Tp 226 #[.string D] b (λc d=>∃e f g i,c=.tuple #[.agg #[.string e,aK f],iV g,iV i]/\let j:=d.push (.cells #[.string (⟨#[]⟩:Bt),.slice Te 0 0] 162);XRunU Tp (Ub 162 (.pointer (Td ⟨d.size,0,Te⟩)) (.agg #[.string e,aK f])) j (λk=>((i != 0)=Ta->XRunU Tp (Ub 25 (.pointer (Td ⟨h.size,0,Te⟩)) (tZ)) k (λl=>∃m n o p,zd l ⟨h.size,0,Te⟩ 0 (tL m n o p)/\R (.tuple #[tA m n o p,iV g,iV i]) l))/\((i != 0)=Tc->∃q r,zd k ⟨d.size,0,Te⟩ 0 [.string q,aK r]/\XC Tp 227 #[.agg #[.string q,aK r],iV 0,iV 1] k (λs t=>∃u v w x,s=tA u v w x/\XRunU Tp (Ub 25 (.pointer (Td ⟨h.size,0,Te⟩)) (tA u v w x)) t (λy=>∃z A B C,zd y ⟨h.size,0,Te⟩ 0 (tL z A B C)/\R (.tuple #[tA z A B C,iV g,iV 0]) y)))))):
  XC Tp 165 #[.string D] h R:=
 XF ⟨[],[],[]⟩ [.cell 2 25,.tmp 3,.tmp 4] 22 Tryz.func165 H
end
section
open Go.RowKit
section
variable {s:Bs} {M:Fr}
theorem JP(h:(Yl s).2.2=0):(y9 s).2.2=0:=by unfold Yl at h;split at h;assumption;exact h
theorem Hj{x:Bs×List Nd}{i j:Int}{v:Value}(h:Zp M [.pair .str (.row fv),.int .i64,.int .i64] ((bl x.1,x.2),i,j) v):∃sl:Sl,v=.tuple #[.agg #[.string (bl x.1),aK sl],.int .i64 i,.int .i64 j]/\Rd M (.row fv) x.2 [aK sl]:=by
 obtain⟨vs,⟨r,rest,rfl,m,p,f,rfl,l,o,rfl,n⟩,rfl⟩:=h;rw[qz l,qz n];obtain⟨cs,rfl,c1,c2,rfl,b,k⟩:=m;have b:c1=[.string (bl x.1)]:=b;subst b;obtain⟨sl,rfl⟩:∃sl:Sl,c2=[aK sl]:=by obtain⟨w,e,a,c,q,_⟩:=k;exact⟨⟨a,_,c⟩,by rw[e,q];rfl⟩
 exact⟨sl,rfl,k⟩
set_option maxRecDepth 100000 in
set_option maxHeartbeats 2000000 in
theorem KT{gl:Fr}(J:GL gl){h:zb}(I:Fr.le gl M)(ag:AgM M h){K:Value->zb->Prop} (t:∀(h':zb) (bs:List Nat) (sk si:Sl),Keep h.size h h'->OT h' (jc s).1 bs (Qm (jc s).1 sk si)->(∀b∈bs,h.size<=b)->K (.tuple #[.agg #[.int .i64 (jc s).1.kind,.string (jc s).1.text,aK sk,aK si],.int .i64 (jc s).2.1,.int .i64 (jc s).2.2]) h'):
  XC Tp 165 #[.string (bl s)] h K:=by
 apply Q1;intro h1;obtain⟨H,z1,R1⟩:=jf (g:=h1) rfl;clear_value h1;refine(TT J (s:=s) (R:=λr=>r=((bl (Yl s).1.1,(Yl s).1.2),(Yl s).2.1,(Yl s).2.2)) rfl).go I (ag.keep H) (zq (a:=Arg.mk .str _) (rdStr _) zy) λv w M' r L hv hr=>?_;subst hr;obtain⟨sl,rfl,rd⟩:=Hj hv;refine⟨_,sl,_,_,rfl,?_⟩;have A:=L.keep;have z3:=A.size;have E:Keep h.size h w:=H.trans (c:=w) (m:=h.size) ⟨z3,λj o=>A.get j (by omega)⟩ (Uc _);have Q:=R1.keep (A.get h.size (by omega));intro O;obtain⟨V,z8,S⟩:=jf (g:=O) rfl;clear_value O;refine oJ (u:=bl (Yl s).1.1) (v:=sl) S λn f9 z9 N=>?_;have q:Keep w.size w n:=⟨by omega,λj o=>(f9 j (by omega)).trans (V.get j o)⟩;have l:Keep h.size h n:=E.trans (c:=n) (m:=h.size) ⟨q.size,λj o=>q.get j (by omega)⟩ (Uc _);have P:=Q.keep (q.get h.size (by omega));refine⟨λe=>?_,λe=>?_⟩;have e:¬(Yl s).2.2=0:=by simpa using e
 have D:jc s=(.mk 0 (bl []) [] [],(Yl s).2.1,(Yl s).2.2):=by unfold jc;rw[za e]
 rw[D]at t;refine yq (k:=0) (s:=⟨#[]⟩) (sk:=⟨Te,0,0⟩) (si:=⟨Te,0,0⟩) P λg f z B=>⟨_,_,_,_,B.ld (cs:=[.int .i64 0,.string ⟨#[]⟩,aK ⟨Te,0,0⟩,aK ⟨Te,0,0⟩]),?_⟩;obtain⟨bs,ot,y⟩:=(Own.new (lo:=h.size) (hi:=g.size) (b0:=h.size) (k:=0) (s:=bl []) B (Uc _) (Uc _)).ot;exact t g bs ⟨Te,0,0⟩ ⟨Te,0,0⟩ (l.trans (c:=g) (m:=h.size) ⟨by omega,λj o=>f j (by omega)⟩ (Uc _)) ot (λb p=>(y b p).1);have e:(Yl s).2.2=0:=by simpa using e
 obtain⟨lvs,G,e1,Z,e3,e4⟩:=IJ e;obtain⟨hs,Y⟩:=Am (JP e);have D:jc s=(Ys s (Yl s).1.2 33 0,(s.length:Int),0):=by unfold jc;rw[zA e]
 rw[D]at t;rw[e1]at N;rw[Z];refine⟨_,sl,N.ld (cs:=[.string (bl s),aK sl]),?_⟩;have C:AgM M' n:=L.ag.keep q;refine CP J hs G (λx e=>by have:=e4 x e;unfold d5 at this;omega) 33 0 1 1 rfl (by omega) (by omega) (by omega) n M' sl (I.trans L.le) C rd _ λaa bs sk si i ot p=>⟨_,_,sk,si,rfl,?_⟩;have U:=i.size;refine yq (P.keep (i.get h.size (by omega))) λg f z B=>⟨_,_,sk,si,B.ld (cs:=[_,_,aK sk,aK si]),?_⟩;exact t g bs sk si (l.trans (c:=g) (m:=h.size) ⟨by omega,λj o=>by rw[f j (by omega)];exact i.get j (by omega)⟩ (Uc _)) (ot.frame λc F=>f c (by have:=p c F;omega)) (λc F=>by have:=p c F;omega)
end
section
section
variable {t : Bs} {nodes : List Nd} {lvs : List Nat} {gl : Fr}
theorem Le(i:GL gl){s:Bs}{R:Tr×Int×Int->Prop}(c:R (jc s)):PC Tp gl 165 [Arg.mk .str (bl s)] [.tree,.int .i64,.int .i64] R:=by
 intro h M vs e ag b
 match vs,b with
 |[u1],⟨a1,_⟩=>obtain rfl:=ju (s:=bl s) a1;apply PX.of;exact KT i e ag λh' bs sk si k ot f=>⟨MxL M h' bs,_,MxL.later ag k f,⟨[_,_,_],⟨_,_,rfl,ot.rdv,_,_,rfl,Zw _ _,_,rfl,Zw _ _⟩,rfl⟩,c⟩
end
end
end
end Go.X
namespace Go.X.U
section
def i4(o:Oper):Option Bool:=match o.op with
 |.fieldAddr _ _ _=>Td Ta
 |.indexAddr _ _ _=>Td Ta
 |.move _=>Td Ta
 |.assign _=>Td Ta
 |.load _ _=>Td Tc
 |.binOp _ _ _ _ _=>Td Ta
 |.call c=>match c.callee with
  |.builtin .len=>Td Ta
  |_=>Te
 |_=>Te
def lJ(o:Oper):Bool:=match i4 o with
 |some _=>Ta
 |none=>Tc
def ji(o:Oper):Bool:=match i4 o with
 |some b=>!b
 |none=>Tc
end
end Go.X.U
namespace Go.X
section
theorem Gq(gl:Fr)(b:Bt)(R:Tr->Prop) (H:R (Tr.mk 4 b [] [])):
  PC Tp gl 98 [Arg.mk .str b] [.tree] R:=
 PF ⟨[],[],[],[]⟩ [.cell 2 25] 5 Tryz.func98 H
end
section
open Go.RowKit
section
variable {h:zb} {g:Bool} {M:Fr} {b:Nat}
def fq(k:Int)(s:Bt)(a b:Sl):Value:=.agg #[.int .i64 k,.string s,aK a,aK b]
theorem nN{f:FuncId}{args:Array Value}(i:g=Ta){b:Bool->zb->Prop}(E:XC Tp f args h λv h'=>∃r,v=.bool r/\b r h'):
  ∃J:Value->zb->Prop,(g=Ta->XC Tp f args h λv h'=>∃r:Bool,v=.bool r/\J (.bool r) h')/\(g=Tc->∃r:Bool,J (.bool r) h)/\(g=Ta->∀v h',J v h'->∃r:Bool,v=.bool r)/\∀r:Bool,∀h',J (.bool r) h'->b r h':=by
 refine⟨λv h'=>∃r,v=.bool r/\b r h',λ_=>XC.mono E λv h' ⟨r,e,H⟩=>⟨r,e,r,rfl,H⟩,λc=>(by rw[i]at c;cases c),λ_ v h' ⟨r,e,_⟩=>⟨r,e⟩,λr h' ⟨k,e,H⟩=>?_⟩;injection e with e;subst e;exact H
theorem Da{h h1:zb}{s:Sl}(i:g=Ta){b:Sl->zb->Prop}(E:b s h1):
  ∃J:Value->zb->Prop,(g=Ta->J (aK s) h1)/\(g=Tc->∃x:Sl,J (aK x) h)/\(g=Ta->∀v h',J v h'->∃x:Sl,v=aK x)/\∀x:Sl,∀h',J (aK x) h'->b x h':=by
 refine⟨λv h'=>∃x,v=aK x/\b x h',λ_=>⟨s,rfl,E⟩,λf=>(by rw[i]at f;cases f),λ_ v h' ⟨x,e,_⟩=>⟨x,e⟩,λx h' ⟨c,e,H⟩=>?_⟩;have:x=c:=by unfold aK at e;injection e with e1 e2 e3;cases x;cases c;simp_all
 subst this;exact H
theorem QE(n:M b=Te){k h:Tr}{w1 f:List Value}(h1:Rd M .tree k w1)(h2:Rd M .tree h f)(l:w1.length=4)(o:f.length=4):Rd (Mx M b (w1++f).toArray) (.row .tree) [k,h] [aK ⟨Td ⟨b,0,Te⟩,2,2⟩]:=by
 have le:Fr.le M (Mx M b (w1++f).toArray):=λc cs e=>by unfold Mx;by_cases m:c=b;subst m;rw[n]at e;cases e;rw[za m];exact e
 refine⟨_,rfl,_,_,rfl,by simp,.inr ⟨b,0,_,rfl,by unfold Mx;rw[zA rfl],λi hi=>?_⟩⟩;have hi:i<2:=hi;rcases(by omega:i=0\/i=1)with rfl|rfl;have:cut (w1++f).toArray (0+0*sz .tree) (sz .tree)=w1:=by show List.take 4 (List.drop 0 (w1++f))=w1;rw[VD,<-l,YH]
 rw[this];exact Rd.mono le h1;have:cut (w1++f).toArray (0+1*sz .tree) (sz .tree)=f:=by show List.take 4 (List.drop 4 (w1++f))=f;rw[List.drop_left' l,<-o,Uz]
 rw[this];exact Rd.mono le h2
theorem IQ{s1 s2:Bt}:Rd (Mx M b #[.string s1,.string s2]) (.row .str) [s1,s2] [aK ⟨Td ⟨b,0,Te⟩,2,2⟩]:=by refine⟨_,rfl,_,_,rfl,by simp,.inr ⟨b,0,_,rfl,by unfold Mx;rw[zA rfl],λi hi=>?_⟩⟩;have hi:i<2:=hi;rcases(by omega:i=0\/i=1)with rfl|rfl <;> rfl
theorem uk{T:Tr}{k:Int}{s:Bt}{a b:Sl}(h:RdV M .tree T (fq k s a b)):Rd M .tree T [.int .i64 k,.string s,aK a,aK b]:=by
 unfold RdV at h;simp only[dB,if_true]at h;obtain⟨cs,e,c⟩:=h;unfold fq at e;injection e with e;have:cs=[.int .i64 k,.string s,aK a,aK b]:=by have:=congrArg Array.toList e;simpa using this.symm
 rw[<-this];exact c
section
variable {gl : Fr} {b2 b29 : Nat} {k2 k29 : Int} {s2 : Bt} {a2 c2 a29 c29 : Sl} {h : zb} {M : Fr}
end
end
section
variable {v:Tr} {sk si:Sl} {lv i:Nat}
section
variable {gl M : Fr} {b N : Nat} {ln : Bool}
def iz(gl M:Fr)(b N:Nat)(ln:Bool)(F:FuncId)(args:Array Value)(p:Bs):Prop:=
 ∀(l:Bs) (g:zb) (K:Value->zb->Prop),Prn g b ln (N:Int) l->Low gl M b g->l.length+p.length<=140737488355328->(∀g',Prn g' b ln (N:Int) (l++p)->FrP b g g'->K (.tuple #[]) g')->XC Tp F args g K
set_option maxRecDepth 100000 in
set_option maxHeartbeats 4000000 in
theorem xU{F:FuncId}(hF:zo Tp F=Ta)(hi:Rd M (.row .tree) v.items [aK si])(hN:N<=8)(hv:lv<=90){o c:UInt8}{ps:List Bs}(P:ps.length=v.items.length)(U:v.items.length<=1000000) (hE:∀(i:Nat) (h:i<ps.length),iz gl M b N ln F (#[.pointer (Td ⟨b,0,Te⟩)]++#[fq v.kind v.text sk si,.int .i64 (i:Int),.int .i64 ((lv+1:Nat):Int)]++#[]) ps[i]):
  iz gl M b N ln 254 #[.pointer (Td ⟨b,0,Te⟩),fq v.kind v.text sk si,.int .i64 (lv:Int),.string (bl [o,c]),.func (.func F) #[.pointer (Td ⟨b,0,Te⟩)] #[]] (o::J5 ln N lv ps++[c]):=by
 intro l g K H L V hK;have ab:=(rowLen hi).1;have I:=H.lt;have e1:(o::J5 ln N lv ps++[c]).length=2+(we ln N (lv+1) ps).length+(if ps=[]then []else jd ln N lv:Bs).length:=by unfold J5;simp only[Uk,Uf,UG];omega
 rw[e1]at V;apply Xx;intro h1;have Z:Keep g.size g h1:=Keep.push _ _ (Uc _);have B1:h1[g.size]?=Td (.cells #[.int .i64 v.kind,.string v.text,aK sk,aK si] 25 (0,0)):=yx _ _;clear_value h1;have f1:=FrP.ofKeep Z (XX I);have H1:=H.keep Z;refine⟨_,rfl,⟨by decide,by rw[zh];simp⟩,?_⟩;rw[add0];have eo:ze (bl [o,c]) (0:Int).toNat=(o.toNat:Int):=by rw[qc];rfl
 have ec:ze (bl [o,c]) (1:Int).toNat=(c.toNat:Int):=by rw[qc];rfl
 rw[eo];refine Q0 H1 (by omega) o λu H4 Y o4=>⟨_,rfl,?_⟩;have J:FrP b g u:=f1.trans ⟨Y,o4⟩;have box:∀g',FrP b u g'->Blk g' g.size #[.int .i64 v.kind,.string v.text,aK sk,aK si]:=λg' f=>⟨_,f.blk ((⟨Y,o4⟩:FrP b h1 u).blk B1)⟩;refine⟨si,Blk.cellAdd (o:=0) (k:=3) (box u (FrP.refl _ _)) rfl,?_⟩;refine⟨λi g'=>∃n:Nat,i=(n:Int)/\n<=ps.length/\Prn g' b ln (N:Int) (l++[o]++we ln N (lv+1) (ps.take n))/\FrP b u g',λi _=>ps.length-i.toNat,⟨0,rfl,by omega,by simpa[we]using H4,FrP.refl _ _⟩,?_⟩;rintro i g' ⟨n,rfl,hn,A,f'⟩;have O:=J.trans f';have L':=L.frp O;have aa:=nD ln N (lv+1) hn;have s:(l++[o]++we ln N (lv+1) (ps.take n)).length=l.length+1+(we ln N (lv+1) (ps.take n)).length:=by rw[Uf,Uf];rfl
 refine⟨λq=>?_,λy=>?_⟩;have q:n<ps.length:=by have:=zC q;omega
 have t:=nD ln N (lv+1) (ps:=ps) (n:=n+1) q;have B:=oA ln N (lv+1) q;rw[B]at t;simp only[Uf]at t;intro D C;have p:∀r,Prn r b ln (N:Int) (l++[o]++we ln N (lv+1) (ps.take n)++(if n=0 then []else [44]))->FrP b u r->D r:=λr x w=>C _ (by have L2:=L.frp (J.trans w);rw[cK (by omega),show(lv:Int)+1=((lv+1:Nat):Int)from by omega];refine Bz x L2 hN (by omega) (by rw[Uf,s];omega) λS E Q=>⟨rfl,v.kind,v.text,sk,si,(box S (w.trans Q)).ld (cs:=[_,_,aK sk,aK si]),hF,?_⟩;refine hE n q _ _ _ E (L2.frp Q) (by rw[Uf,Uf,s];omega) λg5 H5 f5=>⟨rfl,⟨n+1,by rw[cK (by omega)];omega,q,?_,w.trans (Q.trans f5)⟩,?_⟩;rw[B];simpa[UB]using H5;show ps.length-(hZ ((n:Int)+1)).toNat<ps.length-(n:Int).toNat;rw[cK (by omega)];omega);refine⟨λm=>?_,λm=>?_⟩;have h0:n≠0:=by have:=zC m;omega
 refine⟨_,rfl,?_⟩;rw[add0];refine Q0 A (by rw[s];rw[za h0]at t;simp only[Uk,UG]at t;omega) 44 λr x k2 o2=>⟨_,rfl,p r ?_ (f'.trans ⟨k2,o2⟩)⟩;rw[za h0];exact x;have h0:n=0:=by have:=zD m;omega
 refine p g' ?_ f';rw[zA h0,UM];exact A;have y:n=ps.length:=by have:=zD y;omega
 subst y;rw[Uz]at A s;intro G z;have p:∀r,Prn r b ln (N:Int) (l++[o]++we ln N (lv+1) ps++(if ps=[]then []else jd ln N lv))->FrP b u r->G r:=λr x w=>z _ (by refine⟨_,rfl,⟨by decide,by rw[zh];simp⟩,?_⟩;rw[add0,ec];refine Q0 x (by rw[Uf,s];omega) c λS E k3 o3=>⟨_,rfl,hK S ?_ (J.trans (w.trans ⟨k3,o3⟩))⟩;unfold J5;simpa[UB]using E);refine⟨si,Blk.cellAdd (o:=0) (k:=3) (box g' f') rfl,λm=>?_,λm=>?_⟩;have h0:ps≠[]:=λe=>by
  have:=zC m;have ae:v.items.length=0:=by rw[<-P,e];rfl
  omega
 rw[za h0]at V;refine Bz A L' hN (by omega) (by rw[s];omega) λr x w=>⟨rfl,p r ?_ (f'.trans w)⟩;rw[za h0];exact x;have h0:ps=[]:=by have:=zD m;apply UK;omega
 refine p g' ?_ f';rw[zA h0,UM];exact A
theorem JC:zo Tp 255=Ta:=by kernel_rfl
theorem On:zo Tp 256=Ta:=by kernel_rfl
set_option maxRecDepth 100000 in
theorem Ol(hi:Rd M (.row .tree) v.items [aK si])(h:i<v.items.length){p:Bs}(q:∀(c e:Sl),Rd M (.row .str) v.items[i].keys [aK c]->Rd M (.row .tree) v.items[i].items [aK e]->iz gl M b N ln 201 #[.pointer (Td ⟨b,0,Te⟩),fq v.items[i].kind v.items[i].text c e,.int .i64 (lv:Int)] p):
  iz gl M b N ln 255 #[.pointer (Td ⟨b,0,Te⟩),fq v.kind v.text sk si,.int .i64 (i:Int),.int .i64 (lv:Int)] p:=by
 intro l g K H L r y;have w:=(rowLen hi).1;apply Pz;intro h1;obtain⟨f,_,s⟩:=jf (g:=h1) rfl;clear_value h1;have m:=FrP.ofKeep f (XX H.lt);have n:=L.frp m;obtain⟨a,c,e,t,A,u,x⟩:=Jt n.ag hi h;refine⟨si,Blk.cellAdd (o:=0) (k:=3) s rfl,a,⟨t,by omega,by omega⟩,_,_,c,e,by rw[Ue];exact A,?_⟩;exact q c e u x l h1 _ (H.keep f) n r λg' z f'=>⟨rfl,y g' z (m.trans f')⟩
set_option maxRecDepth 100000 in
theorem MV(hg:GL gl)(Z:Brn gl)(G:Rd M (.row .str) v.keys [aK sk])(hi:Rd M (.row .tree) v.items [aK si])(h:i<v.items.length)(h2:i<v.keys.length)(u:(lb v.keys[i]).length<=1048576){p:Bs}(hE:∀(c e:Sl),Rd M (.row .str) v.items[i].keys [aK c]->Rd M (.row .tree) v.items[i].items [aK e]->iz gl M b N ln 201 #[.pointer (Td ⟨b,0,Te⟩),fq v.items[i].kind v.items[i].text c e,.int .i64 (lv:Int)] p):
  iz gl M b N ln 256 #[.pointer (Td ⟨b,0,Te⟩),fq v.kind v.text sk si,.int .i64 (i:Int),.int .i64 (lv:Int)] (du ln v.keys[i] p):=by
 intro l g K H L z J;unfold du at z J;simp only[Uf,Uk]at z;have aa:=(rowLen hi).1;have F:=(rowLen G).1;apply Xd;intro h1;have E:Keep g.size g h1:=Keep.push _ _ (Uc _);have O:h1[g.size]?=Td (.cells #[.int .i64 v.kind,.string v.text,aK sk,aK si] 25 (0,0)):=yx _ _;clear_value h1;have I:=FrP.ofKeep E (XX H.lt);have D:=L.frp I;obtain⟨a,y,x,s,r⟩:=fG D.ag G h2 (i:=(i:Int)) rfl (L:=sk.len) rfl (Q:=λx=>x=v.keys[i]) rfl;subst r;refine⟨sk,Blk.cellAdd (o:=0) (k:=2) ⟨_,O⟩ rfl,a,y,v.keys[i],s,?_⟩;refine CW hg Z (H.keep E) D u (by omega) λh6 V f6=>⟨rfl,_,rfl,?_⟩;rw[add0];refine Q0 V (by simp only[Uf];omega) 58 λP A k9 o9=>⟨_,rfl,?_⟩;have U:FrP b h1 P:=f6.trans ⟨k9,o9⟩;intro t q;have f:∀m,Prn m b ln (N:Int) (l++(dv (lb v.keys[i])).1++[58]++(if ln then [32]else []))->FrP b h1 m->t m:=λm C B=>q _ (by have S:=D.frp B;obtain⟨a',c,e,e1,e2,e3,e4⟩:=Jt S.ag hi h;refine⟨si,Blk.cellAdd (o:=0) (k:=3) ⟨_,B.blk O⟩ rfl,a',⟨e1,by omega,by omega⟩,_,_,c,e,by rw[Ue];exact e2,?_⟩;refine hE c e e3 e4 _ m _ C S (by simp only[Uf,Uk,UG];omega) λg' H' f'=>⟨rfl,J g' ?_ (I.trans (B.trans f'))⟩;simpa[UB]using H');have w:=A;obtain⟨p9,s9,e9,ab,Y⟩:=w;refine⟨_,rfl,ln,Blk.cellAdd (o:=0) (k:=2) (cs:=#[.pointer p9,aK s9,.bool ln,.int .i64 (N:Int)]) ⟨_,e9⟩ rfl,λn=>?_,λn=>?_⟩;subst n;refine⟨_,rfl,?_⟩;rw[add0];refine Q0 A (by simp only[if_true,Uk,UG]at z;simp only[Uf,Uk,UG];omega) 32 λm C k2 o2=>⟨_,rfl,f m C (U.trans ⟨k2,o2⟩)⟩;subst n;refine f P ?_ U;simpa using A
end
end
section
section
variable {gl M : Fr} {b N : Nat} {ln : Bool}
theorem Ip{g:zb}{l:Bs}(H:Prn g b ln (N:Int) l)(s:Bt)(c:l.length+(lb s).length<=140737488355328){K:Value->zb->Prop}(e:∀g',Prn g' b ln (N:Int) (l++lb s)->Keep b g g'->Otk g g'->K (.tuple #[.int .i64 ((lb s).length:Int),.nilIface]) g'):
  XC Tp 68 #[.pointer (Td ⟨b,0,Te⟩),.string s] g K:=by
 have:=Yz H (lb s) c e;rw[Zx]at this;exact this
set_option maxRecDepth 100000 in
set_option maxHeartbeats 2000000 in
theorem wd(S:GL gl)(J:Brn gl)(Y:N<=8):∀(n:Nat) (v:Tr) (lv:Nat) (sk si:Sl),n<=1000000->bR v<=n->Zy zn v=Ta->Sm v->lv+c6 v<=90->Rd M (.row .str) v.keys [aK sk]->Rd M (.row .tree) v.items [aK si] ->
  iz gl M b N ln 201 #[.pointer (Td ⟨b,0,Te⟩),fq v.kind v.text sk si,.int .i64 (lv:Int)] (jy ln N v lv)
 |0,v,lv,sk,si,_,h,_,_,_,_,_=>by have:=Zf v;omega
 |n+1,v,lv,sk,si,hn,hz,hok,hsm,hd,hk,hi=>by
  intro l g K H L r t;have f:=hok;rw[yp,Ui]at f;have s:∀(i:Nat) (h:i<v.items.length) (m p:Sl),Rd M (.row .str) v.items[i].keys [aK m]->Rd M (.row .tree) v.items[i].items [aK p]->iz gl M b N ln 201 #[.pointer (Td ⟨b,0,Te⟩),fq v.items[i].kind v.items[i].text m p,.int .i64 ((lv+1:Nat):Int)] (jy ln N v.items[i] (lv+1)):=λi h m p h1 h2=>by
   have I:=Up h;have hs:=qi I;have aa:=oZ I;have F:Zy zn v.items[i]=Ta:=by rw[yz,Us]at f;exact f.2 _ I
   exact wd S J Y n v.items[i] (lv+1) m p (by omega) (by omega) F (hsm.item I) (by omega) h1 h2
  have G:v.items.length<=1000000:=by have:=ww v.items;rw[q9]at hz;omega
  rw[xo]at r t;apply Xw;intro h1;obtain⟨Z,_,D⟩:=jf (g:=h1) rfl;clear_value h1;have B:=FrP.ofKeep Z (XX H.lt);have C:=H.keep Z;have P:=L.frp B;refine⟨v.kind,Blk.cellAdd (o:=0) (k:=0) D rfl,λq=>?_,λq=>⟨λu=>?_,λu=>⟨λy=>?_,λy=>⟨λz=>?_,λz=>?_⟩⟩⟩⟩;have q:v.kind=1:=eq_of_beq q;rw[zA q]at r t;refine⟨_,rfl,?_⟩;rw[add0];exact Yz C [110,117,108,108] r λg' w O U=>⟨_,_,rfl,t g' w (B.trans ⟨O,U⟩)⟩;have A:v.kind≠1:=λe=>by rw[e]at q;cases q
  have u:v.kind=4:=eq_of_beq u;rw[za A,zA u]at r t;exact⟨v.text,Blk.cellAdd (o:=0) (k:=1) D rfl,CW S J C P hsm.text r λg' w f'=>⟨rfl,t g' w (B.trans f')⟩⟩;have A:v.kind≠1:=λe=>by rw[e]at q;cases q
  have E:v.kind≠4:=λe=>by rw[e]at u;cases u
  have y:v.kind=5:=eq_of_beq y;rw[za A,za E,zA y]at r t;refine⟨v.kind,v.text,sk,si,D.ld (cs:=[_,_,aK sk,aK si]),?_⟩;refine xU (o:=91) (c:=93) (ps:=v.items.map λx=>jy ln N x (lv+1)) JC hi Y (by omega) (Um _) G (λi h=>?_) l h1 _ C P r λg' w f'=>⟨rfl,t g' w (B.trans f')⟩;rw[Um]at h;rw[WE];exact Ol hi h λm p V a2=>s i h m p V a2;have A:v.kind≠1:=λe=>by rw[e]at q;cases q
  have E:v.kind≠4:=λe=>by rw[e]at u;cases u
  have Q:v.kind≠5:=λe=>by rw[e]at y;cases y
  have z:v.kind=6:=eq_of_beq z;rw[za A,za E,za Q,zA z]at r t;have ab:v.keys.length=v.items.length:=by have:=f.1;unfold zn at this;simp[z]at this;exact this.1.2
  refine⟨v.kind,v.text,sk,si,D.ld (cs:=[_,_,aK sk,aK si]),?_⟩;refine xU (o:=123) (c:=125) (ps:=List.zipWith (du ln) v.keys (v.items.map λx=>jy ln N x (lv+1))) On hi Y (by omega) (by rw[List.length_zipWith,Um];omega) G (λi h=>?_) l h1 _ C P r λg' w f'=>⟨rfl,t g' w (B.trans f')⟩;rw[List.length_zipWith,Um]at h;rw[List.getElem_zipWith,WE];exact MV S J hk hi (by omega) (by omega) (hsm.key (Up _)) λm p V a2=>s i (by omega) m p V a2;have A:v.kind≠1:=λe=>by rw[e]at q;cases q
  have E:v.kind≠4:=λe=>by rw[e]at u;cases u
  have Q:v.kind≠5:=λe=>by rw[e]at y;cases y
  have n6:v.kind≠6:=λe=>by rw[e]at z;cases z
  rw[za A,za E,za Q,za n6]at r t;refine⟨_,rfl,v.text,Blk.cellAdd (o:=0) (k:=1) D rfl,?_⟩;rw[add0];exact Ip C v.text r λg' w O U=>⟨_,_,rfl,t g' w (B.trans ⟨O,U⟩)⟩
end
end
end
section
section
theorem Rc(gl:Fr)(c:Tr)(R:Bool->Prop) (H:∃a:Bool->Prop,((c.kind != 7)=Ta->PC Tp gl 89 [Arg.mk .tree (Tr.mk c.kind c.text c.keys c.items)] [.bool] a)/\∀b:Bool,((c.kind != 7)=Ta->a b)->R (bif (c.kind != 7)then b else Tc)):
  PC Tp gl 88 [Arg.mk .tree c] [.bool] R:=
 PF ⟨[],[],[],[]⟩ [.tmp 2] 10 Tryz.func88 H
end
section
variable {gl:Fr} {v:Tr} {R:Bool -> Prop}
theorem LM(f:GL gl)(i:Sm v)(h:R (decide (v.kind≠7)&&zn v)):PC Tp gl 88 [Arg.mk .tree v] [.bool] R:=by
 apply Rc;simp only[wn];refine⟨λb=>b=zn v,λ_=>A0 f i rfl,λb c=>?_⟩;cases hk:(v.kind != 7)with
 |false=>
  have e:v.kind=7:=by simpa using hk
  have:(decide (v.kind≠7)&&zn v)=Tc:=by simp[e]
  rw[this]at h;simpa[hk]using h
 |true=>
  have e:v.kind≠7:=by simpa using hk
  have c:=c hk;subst c;have:(decide (v.kind≠7)&&zn v)=zn v:=by simp[e]
  rw[this]at h;simpa[hk]using h
theorem yN(G:GL gl)(D:Sm v)(q:R (zz v)):PC Tp gl 49 [Arg.mk .tree v] [.bool] R:=by
 intro h M vs C ag Q
 match vs,Q with
 |[u],⟨o,_⟩=>
  have o:RdV M .tree v u:=o;have n:=o;obtain⟨sk,si,rfl,U,Y⟩:=qq o;apply PX.of;apply OV v.kind v.text sk si;intro h1;have s:Later h M h1 M:=Later.push ag _;have s1:h1.size=h.size+1:=Ur _;have f:∀h':zb,Keep h1.size h1 h'->zd h' ⟨h.size,0,Te⟩ 0 [.int .i64 v.kind,.string v.text,aK sk,aK si]:=λh' k=>kT (h':=h') (by rw[s1]at k;exact k);clear_value h1;refine⟨v.kind,v.text,sk,si,f h1 (Keep.refl _ _),?_⟩;have y:PC Tp gl 86 [Arg.mk .tree v] [.bool] (λr=>r=wm v):=Bq D rfl;refine y.go (vs:=[.agg #[.int .i64 v.kind,.string v.text,aK sk,aK si]]) (C.trans s.le) s.ag (zq (RdV.mono s.le n) zy) λw h2 N r z l L=>?_;refine⟨r,dt l,v.kind,v.text,sk,si,λ_=>f h2 z.keep,?_⟩;have c:=s.trans z;refine⟨λw t=>∃b,w=.bool b/\(r=Ta->b=Zy (λx=>decide (x.kind≠7)&&zn x) v)/\∃B,Later h M t B,λP=>?_,λm=>⟨Ta,Ta,rfl,λe=>(by rw[e]at m;cases m),N,c⟩,λ_ w t ⟨b,e,_⟩=>⟨b,e⟩,?_⟩;refine(EG (F:=88) (by kernel_rfl) (p:=λx=>decide (x.kind≠7)&&zn x) (λx O=>LM G O rfl) v D (C.trans c.le) z.ag (RdV.mono c.le n)).go λw V I b H i A=>⟨b,dt i,b,rfl,λ_=>A,I,c.trans H⟩;rintro b t ⟨S,e,E,B,J⟩;cases e;refine⟨B,_,J,Yk.2 (rdBool _),?_⟩;unfold zz at q;rw[<-L]at q;cases r with
  |false=>exact q
  |true=>rw[zG,E rfl];exact q
end
end
section
open Go.Lib
section
variable {s t:Bs} {r a:Nat}
theorem Mt{T:List Tk}{v:Tr}{m:Nat}(f:s.length<=65536)(L:Lex s 0 s.length T)(c:PV s 32 v (qa T) m)(o:m<=4096):jc s=(v,(s.length:Int),0):=by
 have l:=Ld L f;obtain⟨_,_,e⟩:=uc 32 v _ m c;obtain⟨new,k,h⟩:=e (0,0) ⟨qa T,0,[]⟩ [] (by simp) (by simp;omega);have b:Yl s=((s,new),(s.length:Int),0):=by unfold Yl;rw[l];dsimp only;rw[zA rfl,k];dsimp only;rw[zA rfl,UX]
 unfold jc;rw[b];dsimp only;rw[zA rfl];have:=h.val new (λi y n=>by simp_all) 33 (by omega);simp_all
theorem GQ:(U8 32).all (λk=>decide (d6 k≠0)||(dH [48,48,UL (48+k / 16),iU (k % 16)]==Td k))=Ta:=by kernel_rfl
theorem F8(h:fA r)(i:32<=r)(b:r≠34)(k:r≠92)(m:Bs):∃c t,encodeRune (r:Int)++m=c::t/\c≠34/\c≠92:=by
 obtain⟨_,h2,_⟩:=qZ h m;by_cases l:r<128;have e:encodeRune (r:Int)=[(r:Int).toNat.toUInt8]:=by unfold encodeRune;rw[encodeRuneZ_one (by omega) (by omega)];rfl
 have b0:=fk (x:=(r:Int)) (by omega) (by omega);refine⟨_,m,by rw[e];rfl,λe=>?_,λe=>?_⟩ <;> (rw[e]at b0;grind);have f:=BP h (by omega);cases he:encodeRune (r:Int)with
 |nil=>simp_all
 |cons c t=>have:=f c (by simp_all);exact⟨c,t++m,rfl,λe=>(by simp_all),λe=>(by simp_all)⟩
theorem JU(h:fA r)(m:Bs):d9 (fw r++m)=Td (r,(fw r).length)/\(fw r++m).head?≠Td 34/\fw r≠[]:=by
 unfold fw;by_cases h0:d6 r≠0;rw[zA h0];have b:(r=34\/r=92)\/r=8\/r=12\/r=10\/r=13\/r=9:=by unfold d6 at h0;by_cases a:r=34\/r=92;exact .inl a;grind
 rcases b with(rfl|rfl)|rfl|rfl|rfl|rfl|rfl <;> exact⟨rfl,by simp,by simp⟩;rw[za h0];have l:r≠34:=λe=>h0 (by subst e;decide)
 have i:r≠92:=λe=>h0 (by subst e;decide);by_cases f:32<=r;rw[zA f];obtain⟨n,w,h2⟩:=qZ h m;obtain⟨c,t,e,s,p⟩:=F8 h f l i m;refine⟨?_,by simp_all,λe=>by simp_all⟩;unfold d9;have u:dD (dec (encodeRune (r:Int)++m))=Tc:=by rw[n];unfold dD;simp only[VW,beq_eq_false_iff_ne,ne_eq];by_cases q:r=65533;omega;exact .inl q
 simp_all;rw[za f];have:=Us.1 GQ r (UY.2 (by omega));rw[Vq]at this;have k:dH [48,48,UL (48+r / 16),iU (r % 16)]=Td r:=by rcases this with h|h;simp_all;grind
 refine⟨?_,by simp,by simp⟩;unfold d9;rw[zA (show List.head? ([92,117,48,48,UL (48+r / 16),iU (r % 16)]++m)=Td 92 from rfl)];unfold i9;simp only[UF,UX];rw[show gP 117=Te from by decide];dsimp only;rw[zA trivial];unfold iG;have o:dH (48::48::UL (48+r / 16)::iU (r % 16)::m)=Td r:=by unfold dH at k ⊢;rw[zA (by simp)]at k;rw[zA (by simp)];exact k
 grind
theorem Gf(rest:Bs):∀(k:Nat) (t:Bs),t.length=k->xd t=Ta->eY (Yp t++34::rest)=(t,(Yp t).length+1,Ta):=by
 intro k;induction k using YD with
 |_ k o=>
  intro t u f;by_cases e:t=[];subst e;rw[show Yp ([]:Bs)++34::rest=34::rest from rfl,Jy (by simp),zA (show(34::rest).head?=Td 34 from rfl)];rfl;have r:=U5.2 e;have b:dD (dec t)=Tc:=by
   rw[Zc e]at f;cases hb:dD (dec t)with
   |true=>simp_all
   |false=>rfl
  have h:xd (t.drop (dec t).2)=Ta:=by rw[Zc e,b]at f;simpa using f
  have s:=j6 t;have n:=Ce e b;have w:=u7 e b;have i:=rn t;have c:Yp t=fw (dec t).1++Yp (t.drop (dec t).2):=by rw[<-n,<-qL,Vw]
  have p:=o (t.drop (dec t).2).length (by grind) _ rfl h;obtain⟨l,m,q⟩:=JU i (Yp (t.drop (dec t).2)++34::rest);rw[c,UB,Jy (by simp),za m,l];simp_all;omega
def dF(t:Bs):Bs:=34::Yp t++[34]
theorem xT(t:Bs):(dF t).length=(Yp t).length+2:=by unfold dF;simp
theorem xD{t s rest:Bs}(e:xd t=Ta)(b:s.drop a=dF t++rest):y8 s a=(t,a+(dF t).length,0):=by
 have c:s.drop (a+1)=Yp t++34::rest:=by rw[<-Vl,b];unfold dF;simp
 unfold y8;rw[b,zA (by unfold dF;rfl),c,Gf rest _ t rfl e];simp only[if_true];grind [xT]
theorem Dp(b:xd t=Ta):(Xp (dF t)).1=t:=by have:=xD (s:=dF t) (a:=0) (rest:=[]) b (by simp);unfold Xp;simp_all
theorem wP{t s rest:Bs}(c:xd t=Ta)(b:s.drop a=dF t++rest):Qa s a=(8,a+(dF t).length,0):=by have e:=xD c b;unfold Qa;rw[b,show dF t++rest=34::(Yp t++[34]++rest)from rfl];dsimp only;rw[za (by decide),za (by decide),zA rfl,e,zA rfl]
theorem Qw{s rest:Bs}{c:UInt8}(b:c∈yl)(e:s.drop a=c::rest):Qa s a=(2+indexByte yl c,a+1,0):=by unfold Qa;simp_all
theorem ye{s r:Bs}(h:s.drop a=r)(b:r≠[]):a<s.length:=by rcases U1 a s.length with h1|h1;exact h1;rw[Vr h1]at h;simp_all
theorem Lex.step{a b e:Nat}{k:Int}{T:List Tk}(h:Qa s a=(k,e,0))(c:a<s.length)(L:Lex s e b T):Lex s a b ((k,((a:Int),(e:Int)))::T):=by have:=Lex.cons (s:=s) (i:=a) (j:=b) (T:=T) c (by rw[h]) (by rw[h];exact L);simp_all
theorem Lm{t s rest:Bs}{a d:Nat}(h:xd t=Ta)(c:s.drop a=dF t++rest):PV s (d+1) (.mk 4 (bl t) [] []) [(8,((a:Int),((a+(dF t).length:Nat):Int)))] 1:=by
 have e:=xT t;have f:a+(dF t).length<=s.length:=by have:=congrArg VA c;rw[UD,Uf]at this;omega
 have b:ya s ((a:Int),((a+(dF t).length:Nat):Int))=dF t:=by rw[nP (by omega) (by omega) (by omega)];unfold Wc;simp only[Ue];rw[c,Nat.add_sub_cancel_left,YH]
 refine⟨_,.inl ⟨rfl,show zx 8≠0 by decide,show zx 8≠5 by decide,show zx 8≠6 by decide,?_,rfl⟩⟩;dsimp only;rw[b,show zx 8=4 from rfl];unfold Yr;simp_all[Dp]
theorem Er{c:UInt8}(h:yb c=Ta):c∈dk/\c∈eK:=by
 have all:(U8 256).all (λk=>!yb (UL k)||(xy dk (UL k)&&xy eK (UL k)))=Ta:=by kernel_rfl
 have:=Us.1 all c.toNat (UY.2 c.toNat_lt);rw[UInt8.ofNat_toNat,h]at this;simp only[Bool.not_true,XN,Ui]at this;exact⟨zC this.1,zC this.2⟩
theorem uL{p:UInt8->Bool}:∀{l:Bs},(cutAt p l).2.2=Ta->∃c,p c=Ta/\l=(cutAt p l).1++c::(cutAt p l).2.1
 |[],h=>by cases h
 |c::l,h=>by unfold cutAt at h ⊢;split;simp_all;rename_i e;rw[za e]at h;obtain⟨d,h1,h2⟩:=uL h;grind
theorem Lz(h:Wy s=Ta):(∀c∈s,c∈dk)/\∃c t,s=c::t/\c∈eK:=by
 unfold Wy at h;simp only[Ui]at h;obtain⟨⟨⟨h1,h2⟩,C⟩,E⟩:=h;have G:∀{l:Bs},Zn l=Ta->∀c∈l,c∈dk:=λ {l} z c f=>(Er (Us.1 (Qp z) c f)).1;have F:∀c,eC c=Ta->c∈dk:=λc f=>by unfold eC at f;rw[Vq]at f;rcases f with f|f <;> (rw[eq_of_beq f];decide)
 have D:∀c,eM c=Ta->c∈dk:=λc f=>by unfold eM at f;rw[eq_of_beq f];decide
 have y:(∀c∈(jl s).1,c∈dk)/\∃c t,(jl s).1=c::t/\c∈eK:=by
  have q:∃c t,(jm s).1=c::t/\c∈eK:=by
   cases hq:(jm s).1 with
   |nil=>rw[hq]at h2;cases h2
   |cons c t=>exact⟨c,t,rfl,(Er (Us.1 (Qp h2) c (by simp_all))).2⟩
  obtain⟨c0,u,o,n⟩:=q;cases hb:(jm s).2.2 with
  |false=>have:=(Jx (p:=eM) (l:=(jl s).1) hb).1;have this:(jm s).1=(jl s).1:=this;grind
  |true=>obtain⟨c,f,e⟩:=uL (p:=eM) (l:=(jl s).1) hb;have e:(jl s).1=(jm s).1++c::(jm s).2.1:=e;grind
 have A:(∀c∈dG s,c∈dk)/\∃c t,dG s=c::t/\c∈eK:=by
  obtain⟨w1,c0,u,o,n⟩:=y;cases hb:(jl s).2.2 with
  |false=>have:=(Jx (p:=eC) (l:=dG s) hb).1;have this:(jl s).1=dG s:=this;simp_all
  |true=>
   obtain⟨c,f,e⟩:=uL (p:=eC) (l:=dG s) hb;have e:dG s=(jl s).1++c::(jl s).2.1:=e;rw[hb]at h1;have h1:Zn (dh s)=Ta:=by simpa using h1
   have B:∀x∈(jl s).2.1,x∈dk:=by
    unfold dh at h1;intro x i;split at h1;rename_i b;unfold xr at b;rw[Ui]at b;cases hq:(jl s).2.1 with
    |nil=>grind
    |cons d r=>rw[hq]at i h1 b;rcases Uj.1 i with rfl|i;have:=b.2;simp at this;subst this;decide;grind
    split at h1;rename_i m;cases hq:(jl s).2.1 with
    |nil=>grind
    |cons d r=>rw[hq]at i h1 m;rcases Uj.1 i with rfl|i;simp at m;subst m;decide;grind
    grind
   grind
 obtain⟨s1,c0,u,o,n⟩:=A;unfold dG at s1 o;split at s1;rename_i k;rw[zA k]at o;cases hq:s with
 |nil=>simp_all
 |cons d r=>
  rw[hq]at s1 k;have w:d=45:=by simpa using k
  subst w;refine⟨λx i=>?_,45,r,rfl,by decide⟩;rcases Uj.1 i with rfl|i;decide;grind
 simp_all
end
section
variable {ln:Bool} {lv:Nat}
theorem MY(ln:Bool)(nd lv:Nat)(ps:List Bs):(we ln nd lv ps).length<=(ps.map λp=>p.length+(1+(jd ln nd lv).length)).sum:=by
 cases ps with
 |nil=>exact Uc _
 |cons p ps=>
  have:∀b:List Bs,(b.flatMap λq=>44::(jd ln nd lv++q)).length=(b.map λp=>p.length+(1+(jd ln nd lv).length)).sum:=by
   intro b;induction b with
   |nil=>rfl
   |cons q b c=>rw[List.flatMap_cons,Uf,c,Uq,List.sum_cons];simp;omega
  rw[we,Uf,Uf,this,Uq,List.sum_cons];omega
theorem yT{nd lv:Nat}(h:nd<=8)(b:lv<=100):(jd ln nd lv).length<=801:=by unfold jd;have:nd*lv<=800:=VB (Nat.mul_le_mul h b) (by omega);split;rw[Uk,VI];omega;simp
theorem nm(t:Bs):(dv t).1.length<=6*t.length+2:=by unfold dv;have:=qD t;split;simp;omega;simp
theorem sI{ln:Bool}{N:Nat}(s:N<=8):∀(n:Nat) (v:Tr) (lv:Nat),bR v<=n->Sm v->lv+c6 v<=90->(jy ln N v lv).length+10000000<=bR v*20000000
 |0,v,lv,h,_,_=>by have:=Zf v;omega
 |n+1,v,lv,hz,hsm,hd=>by
  have B:=hsm.text;have t:=Zf v;have e:∀x∈v.items,(jy ln N x (lv+1)).length+10000000<=bR x*20000000:=λx r=>by have h1:=qi r;have h2:=oZ r;exact sI s n x (lv+1) (by omega) (hsm.item r) (by omega)
  have A:=yT (ln:=ln) (lv:=lv) s (by omega);have w:=yT (ln:=ln) (lv:=lv+1) s (by omega);have f:∀l:List Tr,(∀x∈l,(jy ln N x (lv+1)).length+10000000<=bR x*20000000)->(l.map λx=>(jy ln N x (lv+1)).length+10000000).sum<=xn l*20000000:=by
   intro l;induction l with
   |nil=>intro _;exact UH _
   |cons x l m=>intro h;have h1:=h x Uu;have h2:=m λy q=>h y (Uo _ q);rw[Uq,List.sum_cons,xn,VU];omega
  have u:=f v.items e;have b:∀ps:List Bs,(ps.map λp=>p.length+(1+(jd ln N (lv+1)).length)).sum<=xn v.items*20000000->∀o c:UInt8,(o::J5 ln N lv ps++[c]).length+10000000<=bR v*20000000:=λps z o c=>by
   have E:=MY ln N (lv+1) ps;have:(o::J5 ln N lv ps++[c]).length<=2+(we ln N (lv+1) ps).length+(jd ln N lv).length:=by unfold J5;simp only[Uk,Uf,UG];split <;> simp <;> omega
   rw[q9,VU];omega
  rw[xo];split;simp only[Uk,UG];omega;split;have:=nm (lb v.text);omega;split;refine b _ (VB ?_ u) 91 93;rw[U3];have:∀l:List Tr,(l.map ((λp:Bs=>p.length+(1+(jd ln N (lv+1)).length)) ∘ λx=>jy ln N x (lv+1))).sum<=(l.map λx=>(jy ln N x (lv+1)).length+10000000).sum:=by
   intro l;induction l with
   |nil=>exact Uc _
   |cons x l m=>simp only[Uq,List.sum_cons,Function.comp];omega
  exact this _;split;refine b _ (VB ?_ u) 123 125;have:∀(ks:List Bt) (l:List Tr),(∀k∈ks,(lb k).length<=1048576)->((List.zipWith (du ln) ks (l.map λx=>jy ln N x (lv+1))).map λp:Bs=>p.length+(1+(jd ln N (lv+1)).length)).sum<=(l.map λx=>(jy ln N x (lv+1)).length+10000000).sum:=by
   intro ks;induction ks with
   |nil=>intro l _;simp
   |cons k ks m=>
    intro l i;cases l with
    |nil=>simp
    |cons x l=>
     have h1:=m l λy q=>i y (Uo _ q);have h2:=i k Uu;have D:=nm (lb k);have C:(du ln k (jy ln N x (lv+1))).length<=(dv (lb k)).1.length+2+(jy ln N x (lv+1)).length:=by unfold du;rw[Uf,Uk,Uf];split <;> simp <;> omega
     simp only[Uq,List.zipWith_cons_cons,List.sum_cons];omega
  exact this v.keys v.items λk i=>hsm.key i;omega
theorem Pf{N:Nat}{v:Tr}(h:cX v=Ta):jy ln N v lv≠[]:=by unfold cX at h;rw[Ui]at h;obtain⟨k,h⟩:=h;unfold zn at h;rw[xo];by_cases h1:v.kind=1;rw[zA h1];simp;rw[za h1]at h ⊢;by_cases b:v.kind=4;rw[zA b];rw[b]at h;simp at h;unfold dv;rw[zA h.1.1];simp;rw[za b];by_cases f:v.kind=5;rw[zA f];simp;rw[za f];by_cases c:v.kind=6;rw[zA c];simp;rw[za c];by_cases h2:v.kind=2;rw[zA h2]at h;simp at h;rcases h.1.1 with e|e <;> (rw[e];simp);rw[za h2]at h;by_cases i:v.kind=3;rw[zA i]at h;simp only[Ui]at h;have:=h.1.1;unfold dO at this;simp only[Ui,beq_iff_eq]at this;intro e;rw[e]at this;exact absurd this.1 (by decide);rw[za i,za b,za f,za c]at h;split at h;rename_i e;simp[e]at k;cases h
end
end
section
open Go.RowKit
variable {v:Tr} {ln:Bool} {N lv:Nat} {gl M:Fr}
def Y7(v:Tr):Bt×Int:=if zz v=Ta then(bl (jy Tc 0 v 0),0)else(⟨#[]⟩,1)
theorem Yh(h:zz v=Ta):bR v<=4096/\c6 v<=32/\Zy cX v=Ta/\Zy zn v=Ta:=by unfold zz wm at h;simp only[Ui,zB]at h;refine⟨h.1.1,h.1.2,h.2,?_⟩;exact lT (λx b=>by rw[Ui]at b;exact b.2) v h.2
theorem NG(h:zz v=Ta):jy ln N v lv≠[]:=by have:=(Yh h).2.2.1;rw[yp,Ui]at this;exact Pf this.1
theorem G8(o:GL gl)(n:Brn gl)(h:Sm v)(e:zz v=Ta)(f:N<=8)(w:lv<=32){g:zb}{b:Nat}(m:Fr.le gl M)(ag:AgM M g)(low:∀c cs,M c=Td cs->c<b)(H:Prn g b ln (N:Int) []) {sk si:Sl} (t:Rd M (.row .str) v.keys [aK sk]) (q:Rd M (.row .tree) v.items [aK si]) {K:Value->zb->Prop} (s:∀h',Keep b g h'->K (.string (bl (jy ln N v lv))) h'):
  XC Tp 201 #[.pointer (Td ⟨b,0,Te⟩),fq v.kind v.text sk si,.int .i64 (lv:Int)] g λr h1=>r=.tuple #[]/\XC Tp 70 #[.pointer (Td (Ua ⟨b,0,Te⟩ 0))] h1 K:=by
 obtain⟨x,y,u,p⟩:=Yh e;have l:=sI (ln:=ln) f (bR v) v lv (Uc _) h (by omega);refine wd o n f 1000000 v lv sk si (Uc _) (by omega) p h (by omega) t q [] g _ H ⟨m,ag,low⟩ (by simp only[UG];omega) λg' i f'=>⟨rfl,?_⟩;rw[add0];rw[UX]at i;exact H9 i (NG e) λh' k=>s h' (f'.keep.trans k (Uc _))
theorem vD(s:Bt)(e:Int):Zp M [.str,.int .i64] (s,e) (.tuple #[.string s,.int .i64 e]):=⟨[_,_],⟨_,_,rfl,rdStr _,_,rfl,Zw _ _⟩,rfl⟩
set_option maxRecDepth 100000 in
theorem GN(y:GL gl)(A:Brn gl)(z:Sm v){R:Bt×Int->Prop}(m:R (Y7 v)):PC Tp gl 126 [Arg.mk .tree v] [.str,.int .i64] R:=by
 intro h M vs x ag G
 match vs,G with
 |[u],⟨p,_⟩=>
  have p:RdV M .tree v u:=p;have t:=p;obtain⟨sk,si,rfl,D,F⟩:=qq p;apply PX.of;apply MC v.kind v.text sk si;intro h1;have f:Later h M h1 M:=Later.push ag _;have s1:h1.size=h.size+1:=Ur _;have i:∀h':zb,Keep h1.size h1 h'->zd h' ⟨h.size,0,Te⟩ 0 [.int .i64 v.kind,.string v.text,aK sk,aK si]:=λh' k=>kT (h':=h') (by rw[s1]at k;exact k);clear_value h1;refine⟨v.kind,v.text,sk,si,i h1 (Keep.refl _ _),?_⟩;refine(yN y z (R:=λr=>r=zz v) rfl).go (vs:=[.agg #[.int .i64 v.kind,.string v.text,aK sk,aK si]]) (x.trans f.le) f.ag (zq (RdV.mono f.le t) zy) λw h2 s r b n E=>?_;subst E;refine⟨_,dt n,λl=>?_,λl=>?_⟩;have l:zz v=Tc:=by simpa using l
  unfold Y7 at m;rw[za (by rw[l];simp)]at m;exact⟨s,_,f.trans b,vD _ _,m⟩;have l:zz v=Ta:=by simpa using l
  unfold Y7 at m;rw[zA l]at m;intro o;have B:Prn o h2.size Tc ((0:Nat):Int) []:=Prn.new h2 Tc 0;have q:Keep h2.size h2 o:=Keep.push _ _ (Uc _);clear_value o;have C:Later h M o s:=(f.trans b).trans (Later.same b.ag q);refine⟨v.kind,v.text,sk,si,i o (b.keep.trans q b.keep.size),?_⟩;refine G8 y A z l (N:=0) (lv:=0) (by omega) (by omega) (x.trans (f.trans b).le) C.ag (λc cs e=>b.ag.lt e) B (D.mono (f.trans b).le) (F.mono (f.trans b).le) λI H=>⟨_,rfl,s,_,?_,vD _ _,m⟩;exact(f.trans b).trans (Later.same b.ag (q.trans H (Uc _)))
end
section
section
theorem yf(b:Nat)(c1:Addr)(h:zb)(R:Value->zb->Prop) (H:∃s:Option Nat,zc h c1=Td (.map s)/\XRun Tp (YE 144 (.map s)) h (λG F=>∃k:Option Addr,G=.pointer k/\∃(o:zb->Prop) (p:zb->Nat),o F/\∀m:zb,o m->(XRun Tp (WS (.pointer k) Tc 0) m (λz l=>(z=.tuple #[.bool Tc]/\(Tc=Ta->XRun Tp (XS (.pointer k)) l (λy B=>∃r u:Value,y=.tuple #[r,u]/\YX Tp b #[r] B (λx f=>∃e:Bool,x=.bool e/\((!e)=Ta->R (.tuple #[]) f)/\((!e)=Tc->(o f/\p f<p m)))))/\(Tc=Tc->R (.tuple #[]) l))\/∃C A:Value,z=.tuple #[.bool Ta,C,A]/\(Ta=Ta->XRun Tp (XS (.pointer k)) l (λD E=>∃q w:Value,D=.tuple #[q,w]/\YX Tp b #[q] E (λt i=>∃c:Bool,t=.bool c/\((!c)=Ta->R (.tuple #[]) i)/\((!c)=Tc->(o i/\p i<p m)))))/\(Ta=Tc->R (.tuple #[]) l))))):
  gE Tp 222 #[.func (.yield b) #[] #[],.pointer (Td c1)] h R:=
 Cd Tryz.mixed ⟨[],[(1,[])],[]⟩ [.func (.yield b) #[] #[],.pointer (Td c1)] (rs:=[]) (n:=14) Tryz.func222 (by kernel_rfl) (by kernel_rfl) (by kernel_rfl) (by kernel_rfl) (Eq.mp (by kernel_rfl) H)
theorem Zi(k:Sl)(f:Value)(h:zb)(R:Value->zb->Prop) (H:let c:zb:=VJ h (.cells #[.slice k.a k.len k.cap] 22);∃(o:FuncId) (l:Array Value),f=.func (.func o) #[] l/\zo Tp o=Ta/\∀e:dZ,(∀{q:Value} {m:zb} {p:Value->zb->Prop},m[(UA c+1)]?=Td (.loop (e .ready Te))->fF Tp 13 (fU (codeOf Tryz.f277)) (fI (codeOf Tryz.f277)) e (UA c+1) p (putO [(0,[],.slice k.a k.len k.cap),(1,[],f),(2,[],.pointer (Td ⟨UA h,0,Te⟩)),(4,[],.slice Te 0 0),(6,[],f)] (Td 7) [] q) m->YX Tp (UA c+1) #[q] m p)->gE Tp o (#[.func (.yield (UA c+1)) #[] #[]]++l) (VJ (VJ c (.deferred (Td []))) (.loop (e .ready Te))) λ_ r=>m7 e (UA c+1) (λi=>∃b:Sl,zc i ⟨UA h,0,Te⟩=Td (.slice b.a b.len b.cap)/\(i)[UA c]?=Td (.deferred (Td []))/\R (.slice b.a b.len b.cap) (Array.setIfInBounds i (UA c) (.deferred Te))) (λi=>(i)[UA c]?=Td (.deferred (Td []))/\R (.slice Te 0 0) (Array.setIfInBounds i (UA c) (.deferred Te))) r):
  XC Tp 277 #[.slice k.a k.len k.cap,f] h R:=
 zY Tryz.mixed [.slice k.a k.len k.cap,f] (rs:=[.tmp 4]) (n:=13) Tryz.func277 (by kernel_rfl) (by kernel_rfl) (by kernel_rfl) (by kernel_rfl) H (pl:=[]) (by kernel_rfl)
theorem Zj(x0:Value)(r:Value)(n:Addr)(p:Value)(q:Value)(o:Bt)(rec:dZ)(l:Nat)(K:Value->zb->Prop)(h:zb) (H:(h)[l]?=Td (.loop (rec .ready Te))/\let e:zb:=Array.setIfInBounds h l (.loop (rec .busy Te));∃c:Sl,zc e n=Td (.slice c.a c.len c.cap)/\let i:zb:=VJ e (.cells #[.string o] 9);XRun Tp (Ug #[22,22] 22 #[.slice c.a c.len c.cap,.slice (Td ⟨UA e,0,Te⟩) 1 1]) i (λk m=>∃b:Sl,k=.slice b.a b.len b.cap/\XRunU Tp (Ub 22 (.pointer (Td n)) (.slice b.a b.len b.cap)) m (λf=>(f)[l]?=Td (.loop (rec .busy Te))/\K (.bool Ta) (Array.setIfInBounds f l (.loop (rec .ready Te)))))):
  fF Tp 13 (fU (codeOf Tryz.f277)) (fI (codeOf Tryz.f277)) rec l K [(7,[],.string o),(0,[],x0),(1,[],r),(2,[],.pointer (Td n)),(4,[],p),(6,[],q)] h:=
 Eq.mp (by kernel_rfl) H
end
section
theorem Xh(k:FuncId)(i:Array Value)(l:Array Value)(h:zb)(R:Value->zb->Prop) (H:XC Tp 220 #[.func (.func k) i l] h (λb c=>∃d,b=aK d/\XC Tp 221 #[aK d] c (λe f=>e=.tuple #[]/\R (aK d) f))):
  XC Tp 161 #[.func (.func k) i l] h R:=
 XF ⟨[],[],[]⟩ [.tmp 2] 9 Tryz.func161 H
theorem yn(b:Option Nat)(h:zb)(R:Value->zb->Prop) (H:let a:=h.push (.cells #[.map b] 144);R (.func (.func 222) #[] #[.pointer (Td ⟨h.size,0,Te⟩)]) a):
  XC Tp 162 #[.map b] h R:=
 XF ⟨[],[],[]⟩ [.tmp 2] 4 Tryz.func162 H
theorem J6(f:FuncId)(e:Array Value)(i:Array Value)(h:zb)(R:Value->zb->Prop) (H:XC Tp 277 #[.slice Te 0 0,.func (.func f) e i] h (λb c=>∃d,b=aK d/\R (aK d) c)):
  XC Tp 220 #[.func (.func f) e i] h R:=
 XF ⟨[],[],[]⟩ [.tmp 2] 5 Tryz.func220 H
end
end
section
open Go.Shelf Go.RowKit
def RS:Go.Shelf.Ren:=⟨fun|190=>221|125=>114|258=>278|128=>177|129=>178|302=>324|303=>325|304=>326|305=>327|306=>328|307=>329|308=>330|309=>331|310=>332|333=>371|329=>236|330=>237|334=>372|335=>373|336=>207|344=>395|n=>n,fun|31=>22|9=>9|3=>3|46=>123|0=>0|51=>176|53=>178|4=>4|183=>168|182=>167|131=>173|5=>5|218=>245|222=>249|228=>299|229=>300|n=>n,fun|n=>n⟩
theorem Ev:Go.Proofs.Lays.n190 Tp RS:=by constructor <;> intros <;> kernel_rfl
open Go.Sort Go.RowKit in
theorem IW(blk off cap:Nat)(ss:List (List UInt8))(w:World)(f:Holds encStr w blk off ss.toArray)(b:blk<w.heap.size)(c:ss.length<4611686018427387904):
  Calls Tp 221 #[.slice (Td ⟨blk,off,Te⟩) ss.length cap] w λe w'=>
   e=.returned (.tuple #[])/\∃n os,w'=grow (putRow encStr (Sort.ahead w n) blk off (ss.mergeSort λx y=>decide (x<=y)).toArray) os:=Any.slices_Sort_string Ev blk off cap ss w f b c
open Go.RowKit Go.Sort in
theorem Y8(p:Option Addr)(cap:Nat)(w:World): Calls Tp 221 #[.slice p 0 cap] w λe w'=>e=.returned (.tuple #[])/\w'=w:=Any.slices_Sort_string_none Ev p cap w
end
section
open Go.ChangeMaps
variable {h h':zb} {m r:Nat} {P:Program} {t kt et ty:TypeId} {K:Value -> zb -> Prop} {dn:List Value}
def MapW(h:zb)(m:Nat)(l:List (Value×Value)):Prop:=
 ∃c b,h[m]?=Td (.map c b)/\c.toList.map (λe=>(e.key,e.val))=l/\(∀e∈c.toList,e.born<b)/\(c.toList.map (·.born)).Nodup
theorem MapW.keep{l:List (Value×Value)}(H:MapW h m l)(k:h'[m]?=h[m]?):MapW h' m l:=by obtain⟨b,c,h1,h2⟩:=H;exact⟨b,c,k.trans h1,h2⟩
theorem MapW.lt{l:List (Value×Value)}(H:MapW h m l):m<h.size:=by obtain⟨b,c,h1,h2⟩:=H;grind
theorem MapW.new(h:zb):MapW (h.push (.map #[] 0)) h.size []:=⟨#[],0,yx _ _,rfl,by simp,by simp⟩
def c8(l:List (Bt×Value)):List (Value×Value):=l.map λp=>(UJ p.1,p.2)
theorem MapW.at{l:List (Bt×Value)}(H:MapW h m (c8 l)):MapAt h m l:=by obtain⟨b,c,h1,h2,_⟩:=H;exact⟨b,c,h1,h2⟩
theorem NP{z:Value}(T:MapT P t kt et z){l:List (Bt×Value)}(H:MapW h m (c8 l))(k:Bt)(v:Value){K:zb->Prop}
  (w:∀h':zb,MapW h' m (c8 (fN l k v))->h'.size=h.size->(∀i,i≠m->h'[i]?=h[i]?)->K h'):XRunU P (VC t (.map (Td m)) (.string k) v) h K:=by
 have f:=H.lt;obtain⟨b,c,h1,h2,L,I⟩:=H;intro B d;have A:=QExec.underlying (h:=h) T.map B d;have u:=Qx (P:=P) h1 B d;have C:=sj T.key Tc k h B d;have n:∀o:Obj,(setObj m o).run P (mk B d h)=.ok () (mk B d (h.setIfInBounds m o)):=by intro o;have:(mk B d h).heap[m]?=Td (.map b c):=h1;simp[setObj,Sem.run,this];rfl
 unfold VC;rcases Wo k b.toList l 0 h2 with⟨y,q⟩|⟨j,N,e,y,q,G,J,F,D⟩;refine⟨d,h.setIfInBounds m (.map (b.push { key:=.string k,val:=v,born:=c }) (c+1)),?_,w _ ⟨b.push { key:=.string k,val:=v,born:=c },c+1,by simp[f],?_,?_,?_⟩ (by simp) (λi hi=>by grind)⟩;rw[Sem.run_bind,A];simp only[Result.andThen_ok,Sem.run_bind,u,C];rw[Zt T.key k b.toList Te h q B d];simp_all;rw[vX y];unfold c8 at h2 ⊢;simp[h2];grind;grind
 ·have x:j<b.size:=by have:=(UE.1 q).1;simpa using this
  have s:((b.modify j λe=>{ e with key:=.string k,val:=v }).toList.map (·.born))=b.toList.map (·.born):=by apply Vd;intro i;simp only[Array.toList_modify,U2,Vj];by_cases E:j=i;simp_all;simp_all
  refine⟨d,_,?_,w (h.setIfInBounds m (.map (b.modify j λe=>{ e with key:=.string k,val:=v }) c)) ⟨b.modify j λe=>{ e with key:=.string k,val:=v },c,by simp[f],?_,?_,?_⟩ (by simp) (λi hi=>by grind)⟩;rw[Sem.run_bind,A];simp only[Result.andThen_ok,Sem.run_bind,u,C];rw[Zt T.key k b.toList _ h F B d];simp only[Result.andThen_ok,UI];have p:((b[j]?).map (·.key)).getD (.string k)=.string k:=by
   have:b[j]?=Td e:=by simpa using q
   rw[this];exact G
  rw[p];have M:WT (.string k) (.string k)=pure (.string k):=by unfold WT;rw[zA (by show(k==k)=Ta;simp)]
  simp_all
  ·have:=D v;unfold c8;grind
  intro e' r;have:e'.born∈((b.modify j λe=>{ e with key:=.string k,val:=v }).toList.map (·.born)):=US.2 ⟨e',r,rfl⟩;grind;simp_all
def MapIt(h:zb)(r m:Nat)(l:List (Value×Value))(dn:List Value):Prop:=
 ∃k f b i c,h[r]?=Td (.mapIter (Td m) b i c)/\h[m]?=Td (.map k f)/\k.toList.map (λe=>(e.key,e.val))=l/\(∀e∈k.toList,e.born<b)/\b<=c/\b<=f/\(k.toList.map (·.born)).Nodup /\
  ∀e∈k.toList,i.contains e.born=Ta↔e.key∈dn
theorem MapIt.keep{l:List (Value×Value)}(H:MapIt h r m l dn)(i:h'[r]?=h[r]?)(k2:h'[m]?=h[m]?):MapIt h' r m l dn:=by obtain⟨k,e,b,f,c,h1,h2,n⟩:=H;exact⟨k,e,b,f,c,i.trans h1,k2.trans h2,n⟩
def Cb(h:zb)(r m:Nat)(k v:Value):Prop:=
 ∃(i:Array MapEntry) (b c:Nat) (f:Array Nat) (e:MapEntry),h[r]?=Td (.mapIter (Td m) c (f.push e.born) b)/\h[m]?=Td (.map i b)/\e∈i.toList/\(i.toList.map (·.born)).Nodup/\e.key=k/\e.val=v
theorem rm(p:P.underlying t=Td (.map kt et)){l:List (Value×Value)}(H:MapW h m l)
  (q:∀h',h'.size=h.size+1->Keep h.size h h'->MapIt h' h.size m l []->K (.pointer (Td ⟨h.size,0,Te⟩)) h'):XRun P (YE t (.map (Td m))) h K:=by
 have b:=H.lt;obtain⟨i,c,h1,h2,n,f⟩:=H;intro B d;have k:=QExec.underlying (h:=h) p B d;have o:=Qx (P:=P) h1 B d;refine⟨.pointer (Td ⟨h.size,0,Te⟩),d,h.push (.mapIter (Td m) c #[] c),?_,q _ (by simp) (Keep.push _ _ (Uc _)) ⟨i,c,c,#[],c,yx _ _,?_,h2,n,Uc _,Uc _,f,λe r=>by simp⟩⟩;unfold YE;rw[Sem.run_bind,k];simp only[Result.andThen_ok,Sem.run_bind,o,Sem.run_pure];rfl;grind
theorem QO{c:List MapEntry}(h:(c.map (·.born)).Nodup){a b:MapEntry}(f:a∈c)(k:b∈c)(e:a.born=b.born):a=b:=by
 induction c with
 |nil=>cases f
 |cons x c i=>grind
theorem RL{c:List MapEntry}(h:(c.map (·.key)).Nodup){a b:MapEntry}(f:a∈c)(k:b∈c)(e:a.key=b.key):a=b:=by
 induction c with
 |nil=>cases f
 |cons x c i=>grind
def leftN(h:zb)(r m:Nat):Nat:=match h[r]?,h[m]? with
 |some (.mapIter _ _ seen _),Td (.map es _)=>(es.toList.filter λe=>!seen.contains e.born).length
 |_,_=>0
theorem leftN.keep(b:h'[r]?=h[r]?)(k2:h'[m]?=h[m]?):leftN h' r m=leftN h r m:=by unfold leftN;rw[b,k2]
theorem A9{α:Type}{p q:α->Bool}(h:∀x,p x=Ta->q x=Ta):∀l:List α,(l.filter p).length<=(l.filter q).length
 |[]=>Uc _
 |x::l=>by have:=A9 h l;grind
theorem filter_lt{α:Type}{p q:α->Bool}(h:∀x,p x=Ta->q x=Ta){e:α}(h1:p e=Tc)(h2:q e=Ta):∀l:List α,e∈l->(l.filter p).length<(l.filter q).length
 |[],b=>by cases b
 |x::l,b=>by rw[VZ,VZ];rcases Uj.1 b with rfl|b;have:=A9 h l;grind;have:=filter_lt h h1 h2 l b;grind
theorem rj{l:List (Value×Value)}(H:MapIt h r m l dn)(V:(l.map (·.1)).Nodup)(E:r≠m) (w:(∀p∈l,p.1∈dn)->K (.tuple #[.bool Tc]) h) (t:∀k v,(k,v)∈l->k∉dn->∀h',MapIt h' r m l (k::dn)->Cb h' r m k v->h'.size=h.size->(∀j,j≠r->h'[j]?=h[j]?)->leftN h' r m<leftN h r m->K (.tuple #[.bool Ta,k,v]) h'):
  XRun P (WS (.pointer (Td ⟨r,0,Te⟩)) Tc ty) h K:=by
 obtain⟨o,b,f,i,c,h1,h2,C,G,S,M,F,I⟩:=H;intro B d;have Q:(o.toList.map (·.key)).Nodup:=by
  have e:o.toList.map (·.key)=l.map (·.1):=by rw[<-C,U3];rfl
  rw[e];exact V
 rcases run_next_at (P:=P) (mk B d h) ty r m f c i o b h1 h2 G S with⟨N,z⟩|⟨e,J,w1,O,z⟩;refine⟨_,d,h,z,w λp L=>?_⟩;rw[<-C]at L;obtain⟨x,u,rfl⟩:=US.1 L;refine(I x u).1 ?_;have:leftOf o i=#[]:=Array.eq_empty_of_size_eq_zero N;unfold leftOf at this;simp_all;have n:e∈o.toList/\i.contains e.born=Tc:=by unfold leftOf at J;simpa using J
 have U:r<h.size:=(Ut.1 h1).1;have y:∃A,setBlock w1 r (.mapIter (Td m) f (i.push e.born) b)=mk B A (h.setIfInBounds r (.mapIter (Td m) f (i.push e.born) b)):=by rcases O with rfl|rfl;exact⟨d,rfl⟩;exact⟨d+1,rfl⟩
 obtain⟨A,D⟩:=y;rw[D]at z;have q:(h.setIfInBounds r (.mapIter (Td m) f (i.push e.born) b))[m]?=Td (.map o b):=by rw[Vy E];exact h2
 have s:(h.setIfInBounds r (.mapIter (Td m) f (i.push e.born) b))[r]?=Td (.mapIter (Td m) f (i.push e.born) b):=by simp[U]
 refine⟨_,A,_,z,t e.key e.val (by grind) (λZ=>?_) _ ⟨o,b,f,i.push e.born,b,s,q,C,G,M,M,F,λx u=>?_⟩ ⟨o,b,f,i,e,s,q,n.1,F,rfl,rfl⟩ (by simp) (λj Y=>by grind) ?_⟩;grind;rw[Uj,<-I x u];simp only[Array.contains_eq_mem,Array.mem_push,zB];constructor;rintro(h|h);exact .inr h;exact .inl (by rw[QO F u n.1 h]);rintro(h|h);exact .inr (by rw[RL Q u n.1 h]);exact .inl h;unfold leftN;rw[s,q,h1,h2];refine filter_lt (e:=e) (λx u=>?_) ?_ ?_ _ n.1;simp_all;simp;grind
theorem uK{k v:Value}(H:Cb h r m k v)(n:K (.tuple #[k,v]) h):XRun P (XS (.pointer (Td ⟨r,0,Te⟩))) h K:=by obtain⟨l,c,b,f,e,h1,h2,o,i,rfl,rfl⟩:=H;intro B d;exact⟨_,d,h,run_entry_at (P:=P) (mk B d h) r m b f l c e h1 h2 o i,n⟩
theorem yE(i:P.underlying t=Td (.map kt et)){l:List (Value×Value)}(H:MapW h m l):QExec P (WF #[t] ty #[.map (Td m)]) h (.int .i64 (l.length:Int)):=by
 obtain⟨e,c,h1,h2,_⟩:=H;intro B d;have f:=QExec.underlying (h:=h) i B d;have k:=Qx (P:=P) h1 B d;have b:l.length=e.size:=by rw[<-h2];simp
 simp[WF,f,k,goInt,b]
end
section
open Go.Lib
def yo(xs:List Bt):List Bt:=((xs.map lb).mergeSort λx y=>decide (x<=y)).map bl
theorem Zk{xs ys:List Bt}(h:xs.Perm ys):yo xs=yo ys:=by unfold yo;rw[mergeSort_of_perm (h.map lb)]
theorem yw(xs:List Bt):(yo xs).Perm xs:=by
 have h:=(XD (xs.map lb) λx y=>decide (x<=y)).map bl;rw[U3]at h;have e:bl ∘ lb=id:=by funext x;exact Zx x
 rw[e,YU]at h;exact h
theorem vt(xs:List Bt):(yo xs).length=xs.length:=(yw xs).length_eq
end
section
open Go.RowKit Go.Sort Go.Shelf
variable {h:zb} {s:Sl} {xs:List Bt} {K:Value -> zb -> Prop} {c m:Nat}
theorem XC.of_below{P:Program}{f:FuncId}{args:Array Value}{R:Value->zb->Prop}(H:∀B d,Calls P f args (mk B d h) λe w'=>∃v,e=.returned v/\w'.os=B.os/\w'.tape=B.tape/\w'.output=B.output/\R v w'.heap):XC P f args h R:=by intro B d;refine(H B d).mono ?_;rintro e w' ⟨v,rfl,h1,h2,c,b⟩;refine⟨v,w'.drawn,w'.heap,rfl,?_,b⟩;cases w';simp only[mk]at *;simp_all
theorem uY{base:Nat}(H:Owns h base 9 1 s (xs.map UJ)):s.len=xs.length:=by have:=H.length;grind
theorem La{base:Nat}(H:Owns h base 9 1 s (xs.map UJ))(t:xs.length<=1000000):
  XC Tp 221 #[.slice s.a s.len s.cap] h λv h'=>v=.tuple #[]/\Owns h' base 9 1 s ((yo xs).map UJ)/\h.size<=h'.size/\∀i,i<h.size->(∀p,s.a=Td p->i≠p.block)->h'[i]?=h[i]?:=by
 refine XC.of_below λB d=>?_;have z:s.len=xs.length:=uY H;have k:(xs.map lb).length=xs.length:=by simp
 have c:(yo xs).map UJ=((xs.map lb).mergeSort λx y=>decide (x<=y)).map encStr:=by unfold yo;rw[U3];rfl
 rcases H.2 with⟨q,h0⟩|⟨g,cap,m,q,o,F,J,I,D,L⟩;have E:xs=[]:=UK (by omega);subst E;rw[h0];refine(Y8 s.a s.cap (mk B d h)).mono ?_;rintro e w' ⟨rfl,rfl⟩;exact⟨_,rfl,rfl,rfl,rfl,rfl,by rw[show yo []=[]from List.Perm.eq_nil (yw [])];exact H,Uc _,λ_ _ _=>rfl⟩;simp only[UW]at q;obtain⟨A,_,rfl⟩:=q;have f:(mk B d h).heap[g]?=Td (.cells m 9 (0,0)):=F;have r:g<(mk B d h).heap.size:=(Ut.1 f).1;have G:Holds encStr (mk B d h) g 0 (xs.map lb).toArray:=holds_of_block f (by simp_all);have C:=IW g 0 s.cap (xs.map lb) (mk B d h) G r (by rw[k];omega);rw[k,<-z]at C;rw[A];refine C.mono ?_;rintro e w' ⟨rfl,n,os,rfl⟩;have b:=grownBy_sorted (w:=mk B d h) (g:=g) (n:=n) (os:=os) ((xs.map lb).mergeSort λx y=>decide (x<=y)).toArray;refine⟨_,rfl,b.os,b.tape,b.output,rfl,?_,b.size,λi hi l=>b.block i hi λe=>l _ rfl (by simpa using e)⟩;have u:=ownsRow_sorted (w:=mk B d h) (base:=base) (n:=n) (os:=os) (ss:=xs.map lb) (ts:=(xs.map lb).mergeSort λx y=>decide (x<=y)) (by simp) o f (by omega) I (by simpa using D);rw[<-c,k,<-z]at u;show World.ownsRow _ base _ 1 (.slice s.a s.len s.cap) s.len _;rw[A];exact u
theorem PN:UN.underlying 144=Td (.map 9 25):=by kernel_rfl
theorem ME:zo Tp 222=Ta:=by kernel_rfl
theorem Et:∀{xs ys:List Bt},xs.Nodup->(∀x∈xs,x∈ys)->xs.length<=ys.length
 |[],_,_,_=>UH _
 |x::xs,ys,hn,hs=>by
  rw[Vp]at hn;have c:=hs x Uu;obtain⟨a,b,rfl⟩:=List.append_of_mem c;have:=Et (ys:=a++b) hn.2 λy e=>by grind
  grind
structure KyS (h:zb) (m:Nat) (rec:dZ) (ps:List (Bt×Value)) (g:zb) (xs:List Bt) (sl:Sl):Prop where
 keep:Keep h.size h g
 d:g[h.size+1]?=Td (.deferred (Td []))
 rc:g[h.size+2]?=Td (.loop (rec .ready Te))
 box:Blk g h.size #[aK sl]
 o:Owns g (h.size+4) 9 1 sl (xs.map UJ)
 it:MapIt g (h.size+3) m (c8 ps) (xs.reverse.map UJ)
 nd:xs.Nodup
 sub:∀x∈xs,x∈ps.map (·.1)
 gz:h.size+4<=g.size
theorem JV(ps:List (Bt×Value)):(c8 ps).map (·.1)=(ps.map (·.1)).map UJ:=by unfold c8;simp
theorem Mi{ks:List Bt}(h:ks.Nodup):(ks.map UJ).Nodup:=by grind
section
variable {h : zb} {m : Nat} {rec : dZ} {ps : List (Bt × Value)} {g : zb} {xs : List Bt} {sl : Sl}
set_option maxRecDepth 100000 in
theorem KyS.round(S:KyS h m rec ps g xs sl)(hm:m<h.size)(hx:xs.length<=1000000){c:zb}{k:Bt}(u:MapIt c (h.size+3) m (c8 ps) ((k::xs.reverse).map UJ))(Y:c.size=g.size)(D:∀j,j≠h.size+3->c[j]?=g[j]?)(hk:k∉xs)(M:k∈ps.map (·.1)) {V J x0 I:Value} (O:∀g' y,KyS h m rec ps g' (xs++[k]) y->g'[h.size+3]?=c[h.size+3]?->g'[m]?=c[m]?->K (.bool Ta) g'):
  fF Tp 13 (fU (codeOf Tryz.f277)) (fI (codeOf Tryz.f277)) rec (h.size+2) K [(7,[],.string k),(0,[],x0),(1,[],I),(2,[],.pointer (Td ⟨h.size,0,Te⟩)),(4,[],J),(6,[],V)] c:=by
 apply Zj;have gz:=S.gz;have ky:=S.keep.size;refine⟨by grind [rc],?_⟩;intro h2;have G:∀j,j≠h.size+2->h2[j]?=c[j]?:=λj f=>qm f;have U:h2[h.size+2]?=Td (.loop (rec .busy Te)):=set_self (by omega);have z2:h2.size=c.size:=U6;clear_value h2;have t:∀j,j≠h.size+2->j≠h.size+3->h2[j]?=g[j]?:=λj a b=>(G j a).trans (D j b);have B:Blk h2 h.size #[aK sl]:=S.box.keep (t _ (by omega) (by omega));refine⟨sl,B.cell rfl,?_⟩;intro q;obtain⟨z,z3,Q⟩:=jf (g:=q) rfl;clear_value q;have P:Owns h2 (h.size+4) 9 1 sl (xs.map UJ):=S.o.keep λp e=>by have:=S.o.base_le p e;grind
 have A:=P.keepN z;have hl:=uY S.o;refine Jj Eo A (src:=⟨Td ⟨h2.size,0,Te⟩,1,1⟩) (news:=[.string k]) (n:=q.size) ?_ rfl (by simp[Value.oneCell']) (by grind) (by grind) (by omega) λs E q1 C F q4 q5=>⟨s,rfl,?_⟩;refine .inr ⟨h2.size,0,rfl,by omega,λi v r=>?_⟩
 match i,r with
 |0,r=>cases r;exact Q.cell rfl
 have l:∀j,j<h.size+4->E[j]?=h2[j]?:=λj f=>by rw[F j (by omega) λp e=>by have:=A.base_le p e;omega];exact z.get j (by omega)
 refine qo Hy Ny (B.keep (l _ (by omega))) (by simp) rfl λw H Z N=>?_;have x:∀j,j<h.size+4->j≠h.size->w[j]?=h2[j]?:=λj f h0=>(N j h0).trans (l j f);have L:w[h.size+2]?=Td (.loop (rec .busy Te)):=by rw[x _ (by omega) (by omega)];exact U
 refine⟨L,O _ s ⟨?_,?_,set_self (by omega),?_,?_,?_,?_,?_,?_⟩ ?_ ?_⟩;refine S.keep.trans ⟨by grind,λj f=>?_⟩ (Uc _);grind;grind [d];exact Blk.keep H (qm (by omega));have:Owns w (h.size+4) 9 1 s ((xs++[k]).map UJ):=by rw[U7];exact C.keep λp e=>by have:=C.base_le p e;grind
 exact this.keep λp e=>by have:=this.base_le p e;grind
 rw[List.reverse_append];refine u.keep ?_ ?_;simp_all;grind;grind [nd];grind [sub];grind;simp_all;grind
end
set_option maxRecDepth 100000 in
theorem SK{ps:List (Bt×Value)}(C:Blk h c #[.map (Td m)])(W:MapW h m (c8 ps))(N:(ps.map (·.1)).Nodup)(hl:ps.length<=1000000) (Y:∀(h':zb) (sl:Sl) (xs:List Bt),Keep h.size h h'->Owns h' h.size 9 1 sl (xs.map UJ)->xs.Perm (ps.map (·.1))->K (.slice sl.a sl.len sl.cap) h'):
  XC Tp 277 #[.slice Te 0 0,.func (.func 222) #[] #[.pointer (Td ⟨c,0,Te⟩)]] h K:=by
 apply Zi ⟨Te,0,0⟩;intro h1;obtain⟨Q,V,B1⟩:=jf (g:=h1) rfl;clear_value h1;have O:=W.lt;have Z:=C.lt;refine⟨_,_,rfl,ME,λrec J=>?_⟩;obtain⟨f,b⟩:∃f:zb,f=((h1.push (.deferred (Td []))).push (.loop (rec .ready Te))):=⟨_,rfl⟩;have P:Keep h1.size h1 f:=by rw[b];exact(Keep.push _ _ (Uc _)).trans (Keep.push _ _ (by simp)) (Uc _)
 have z4:f.size=h1.size+2:=by rw[b,Ur,Ur]
 have M:f[h1.size]?=Td (.deferred (Td [])):=by rw[b,Array.getElem?_push,za (by simp)];exact yx _ _
 have L:f[h1.size+1]?=Td (.loop (rec .ready Te)):=by rw[b];have:=yx (h1.push (.deferred (Td []))) (.loop (rec .ready Te));rw[Ur]at this;exact this
 rw[<-b];clear b;have l:Keep h.size h f:=Q.trans P (by omega);have E:h1.size=h.size+1:=V;rw[E]at M L J ⊢;apply yf;refine⟨Td m,(C.keep (l.get c Z)).cell rfl,?_⟩;have W4:MapW f m (c8 ps):=W.keep (l.get m O);refine rm PN W4 λh5 z5 t r=>⟨Td ⟨f.size,0,Te⟩,rfl,λg=>∃xs sl,KyS h m rec ps g xs sl,λg=>leftN g (h.size+3) m,⟨[],⟨Te,0,0⟩,?_⟩,?_⟩;have F:f.size=h.size+3:=by omega
 rw[F]at r;exact⟨l.trans t (by omega),(t.get _ (by omega)).trans M,(t.get _ (by omega)).trans L,(B1.ofKeep P).keep (t.get _ (by omega)),Owns.nil _ _ _ _,r,XV,λx i=>(by cases i),by omega⟩;have F:f.size=h.size+3:=by omega
 rw[F];rintro g ⟨xs,sl,S⟩;have u:((c8 ps).map (·.1)).Nodup:=by rw[JV];exact Mi N
 have w:xs.length<=1000000:=by have h1:=Et S.nd S.sub;rw[Um]at h1;omega
 refine rj S.it u (by omega) (λn=>.inl ⟨rfl,(λi=>by cases i),λ_=>.inl ⟨S.rc,?_⟩⟩) λk v D U g1 y s z H pI=>.inr ⟨k,v,rfl,λ_=>?_,λi=>by cases i⟩;have aa:=S.gz;refine⟨sl,?_,?_,Y _ sl xs ?_ ?_ ?_⟩;exact(S.box.keep (qm (by omega))).cell rfl;rw[qm (by omega)];exact S.d;refine S.keep.trans ⟨by simp,λj hj=>?_⟩ (Uc _);grind;refine(S.o.keep λp B=>?_).base (by omega);have:=S.o.base_le p B;grind;refine(List.perm_ext_iff_of_nodup S.nd N).2 λa=>⟨S.sub a,λha=>?_⟩;obtain⟨p,B,rfl⟩:=US.1 ha;have:=n (.string p.1,p.2) (US.2 ⟨p,B,rfl⟩);simp_all;obtain⟨⟨I,vv⟩,q,e⟩:=US.1 D;injection e with E e2;subst E;subst e2;have A:I∉xs:=λi=>U (US.2 ⟨I,List.mem_reverse.2 i,rfl⟩);refine uK s ⟨_,_,rfl,J ?_ ?_⟩;rw[H _ (by omega)];exact S.rc;refine S.round O w y z H A (US.2 ⟨_,q,rfl⟩) λg' G S' q1 q2=>⟨Ta,rfl,(λi=>by cases i),λ_=>⟨⟨_,G,S'⟩,?_⟩⟩;grind [leftN.keep]
theorem Gb{ps:List (Bt×Value)}(C:Blk h c #[.map (Td m)])(W:MapW h m (c8 ps))(n:(ps.map (·.1)).Nodup)(k:ps.length<=1000000) (q:∀h' sl,Keep h.size h h'->Owns h' h.size 9 1 sl ((yo (ps.map (·.1))).map UJ)->K (.slice sl.a sl.len sl.cap) h'):
  XC Tp 161 #[.func (.func 222) #[] #[.pointer (Td ⟨c,0,Te⟩)]] h K:=by
 apply Xh;apply J6;refine SK C W n k λh1 sl xs e l b=>⟨sl,rfl,sl,rfl,?_⟩;have f:xs.length<=1000000:=by rw[b.length_eq,Um];exact k
 refine XC.mono (La l f) ?_;rintro v h2 ⟨rfl,r,z2,o⟩;refine⟨rfl,q h2 sl ⟨VB e.size z2,λi hi=>?_⟩ (by rw[<-Zk b];exact r)⟩;refine(o i (WR hi e.size) λp b=>?_).trans (e.get i hi);have:=(l.base_le p b).1;omega
end
section
open Go.Lib
theorem mapVal:MapT Tp 144 9 25 (.agg #[.int .i64 0,.string ⟨#[]⟩,.slice Te 0 0,.slice Te 0 0]):=⟨by kernel_rfl,by kernel_rfl,⟨Tryz.t25,by kernel_rfl,by kernel_rfl⟩⟩
theorem CI{l:List (Bt×Value)}{k:Bt}(h:k∉l.map (·.1)):dx l k=Te:=by
 induction l with
 |nil=>rfl
 |cons p l b=>simp only[Uq,Uj,not_or]at h;rw[dx,za (λe=>h.1 e.symm),b h.2]
theorem Ph{α β:Type}{xs:List α}{ys:List β}{k:Nat}(b:k<xs.length){u:β}(c:ys.length=k):(xs.take (k+1)).zip (ys++[u])=(xs.take k).zip ys++[(xs[k],u)]:=by rw[Uh b,List.zip_append (by simp;omega)];rfl
set_option maxHeartbeats 1000000 in
theorem qG{v:Tr}(S:v.keys.Nodup)(hl:v.keys.length=v.items.length)(hi:v.items.length<=1000000000000){h:zb}{M:Fr}{u:Value}(ag:AgM M h)(P:RdV M .tree v u){K:Value->zb->Prop} (N:∀(h':zb) (m:Nat) (us:List Value),Keep h.size h h'->h.size<=m->us.length=v.items.length->(∀i (h1:i<v.items.length) (h2:i<us.length),RdV M .tree v.items[i] us[i])->MapW h' m (c8 (v.keys.zip us))->K (.map (Td m)) h'):
  XC Tp 142 #[u] h K:=by
 obtain⟨sk,si,rfl,B,G⟩:=qq P;obtain⟨lk,_,_⟩:=rowLen B;obtain⟨li,_,_⟩:=rowLen G;apply N4 v.kind v.text sk si;intro h1;obtain⟨H,z1,b1⟩:=jf (g:=h1) rfl;clear_value h1;refine⟨sk,b1.cellAdd (by rfl),?_⟩;intro c;have A:Keep h1.size h1 c:=Keep.push _ _ (Uc _);have J:MapW c h1.size []:=MapW.new _;have z3:c.size=h1.size+1:=Ur _;clear_value c;have b3:=b1.ofKeep A;have L:Keep h.size h c:=H.trans A (by omega);refine⟨sk,b3.cellAdd (by rfl),λx g=>∃(k:Nat) (us:List Value),x=(k:Int)/\k<=v.items.length/\us.length=k/\g.size=c.size/\(∀j,j≠h1.size->g[j]?=c[j]?)/\(∀i (h1:i<v.items.length) (h2:i<us.length),RdV M .tree v.items[i] us[i])/\MapW g h1.size (c8 ((v.keys.take k).zip us)),λx _=>v.items.length-x.toNat,⟨0,[],rfl,UH _,rfl,rfl,λ_ _=>rfl,λi _ h2=>by simp at h2,by simpa[c8]using J⟩,?_⟩;rintro x g ⟨k,us,rfl,Z,l,Y,w,D,t⟩;have z:Keep h.size h g:=⟨by omega,λj r=>by rw[w j (by omega)];exact L.get j r⟩;have agg:=ag.keep z;refine⟨λq=>?_,λq=>?_⟩;have b:k<v.keys.length:=by rw[lk]at q;simp at q;omega
 have o:k<v.items.length:=by omega
 refine fG agg B b rfl rfl ?_;have O:Blk g h.size (xu v.kind v.text sk si).toArray:=b3.keep (w _ (by omega));obtain⟨a,C,E,V,y,I,U⟩:=Jt agg G o;refine⟨si,O.cellAdd (by rfl),a,⟨V,by omega,by omega⟩,v.items[k].kind,v.items[k].text,C,E,?_,?_⟩;rw[Ue];exact y;refine NP mapVal t v.keys[k] _ λg' n Q s=>?_;rw[qn o (by omega)];refine⟨⟨k+1,us++[.agg #[.int .i64 v.items[k].kind,.string v.items[k].text,aK C,aK E]],rfl,by omega,by simp;omega,by omega,λj r=>(s j r).trans (w j r),λi h1 h2=>?_,?_⟩,by simp only[Ue];omega⟩;rw[List.getElem_append];split;rename_i c;exact D i h1 c;rename_i c;have:i=k:=by simp at h2;omega
 subst this;simp only[l,Nat.sub_self,List.getElem_cons_zero];exact zr I U;rw[Ph b l];have f:dx ((v.keys.take k).zip us) v.keys[k]=Te:=CI λF=>by
  rw[XZ (by simp;omega)]at F;have p:=S;have e:v.keys=v.keys.take k++v.keys[k]::v.keys.drop (k+1):=by rw[<-UZ b,Vw]
  rw[e,List.nodup_append]at p;exact p.2.2 _ F _ Uu rfl
 rw[vX f]at n;exact n;have b:k=v.keys.length:=by rw[lk]at q;simp at q;omega
 subst b;rw[Uz]at t;exact N g h1.size us z (by omega) (by omega) D t
end
section
open Go.Lib
def dq:List (Bt×Tr)->Bt->Tr
 |[],_=>.mk 0 (bl []) [] []
 |p::l,k=>if p.1=k then p.2 else dq l k
mutual
def zf:Tr->Tr
 |.mk k s ks xs=>if k=6 then .mk k s (yo ks) ((yo ks).map λq=>dq (ks.zip (m9 xs)) q)else .mk k s [] (m9 xs)
def m9:List Tr->List Tr
 |[]=>[]
 |x::l=>zf x::m9 l
end
def ja(v:Tr):Tr:=if Zg v=Ta then zf v else .mk 0 (bl []) [] []
theorem D6:∀l:List Tr,m9 l=l.map zf
 |[]=>rfl
 |x::l=>by rw[m9,D6 l];rfl
theorem yg(v:Tr):zf v=if v.kind=6 then .mk v.kind v.text (yo v.keys) ((yo v.keys).map λq=>dq (v.keys.zip (v.items.map zf)) q)else .mk v.kind v.text [] (v.items.map zf):=by
 cases v with
 |mk k s ks xs=>rw[zf,D6]
theorem oc(k:Bt):∀(ks:List Bt) (ys:List Tr),ks.length=ys.length->k∈ks->∃(j:Nat) (h1:j<ks.length) (h2:j<ys.length),ks[j]=k/\dq (ks.zip ys) k=ys[j]/\∀us:List Value,us.length=ks.length->dx (ks.zip us) k=us[j]?
 |[],_,_,h=>by cases h
 |z::ks,[],h,_=>by simp at h
 |z::ks,y::ys,h,hk=>by
  by_cases b:z=k;refine⟨0,by simp,by simp,b,?_,λus c=>?_⟩;rw[Vv,dq,zA b];rfl
  match us,c with
  |u::us,_=>rw[Vv,dx,zA b];rfl
  have f:k∈ks:=by rcases Uj.1 hk with e|e;exact absurd e.symm b;exact e
  obtain⟨j,h1,h2,i,m,l⟩:=oc k ks ys (by simpa using h) f;refine⟨j+1,by simp;omega,by simp;omega,by simpa using i,?_,λus c=>?_⟩;rw[Vv,dq,za b,m];rfl
  match us,c with
  |u::us,c=>rw[Vv,dx,za b,l us (by simpa using c)];rfl
end
section
open Go.RowKit
variable {ks:List Bt}
theorem Owns.frz{h g:zb}{M M':Fr}(L:Later h M g M'){s:Sl}{base:Nat}(o:Owns g base 9 1 s (ks.map UJ))(C:h.size<=base)(E:ks.length<=1000000):
  ∃l,Later h M g l/\(∀c,c<base->l c=M' c)/\Rd l (.row .str) ks [aK s]:=by
 have p:=uY o;rcases o.2 with⟨k,h0⟩|⟨b,cap,f,k,n,r,B,D,A,t⟩;have m:ks=[]:=UK (by omega);subst m;simp only[UW]at k;refine⟨M',L,λ_ _=>rfl,⟨_,rfl,s.a,s.cap,?_,⟨by simp,by simp⟩,.inl rfl⟩⟩;show aK s=_;unfold aK;rw[h0];rfl;simp only[UW]at k;obtain⟨w,_,z⟩:=k;have y:Blk g b f:=⟨_,r⟩;refine⟨MxL M' g [b],⟨L.keep,L.le.trans (gv L.ag _),λx m=>?_,MxL.ag L.ag _⟩,λc z=>?_,⟨_,rfl,s.a,s.cap,?_,⟨by omega,by omega⟩,.inr ⟨b,0,f,w,MxL.at (by simp) y,λi hi=>?_⟩⟩⟩;unfold MxL;rw[za (by simp;omega)];exact L.old x m;unfold MxL;grind;show aK s=_;unfold aK;rw[p];show cut f (0+i*1) 1=[.string ks[i]];apply Vd;intro q;rw[yj];by_cases u:q<1;have:q=0:=by omega
 subst this;rw[zA u];have e:(f.toList.take (s.len*1))[i]?=(ks.map UJ)[i]?:=by rw[t]
 grind;simp_all
structure SrS (h:zb) (M:Fr) (r o lo:Nat) (k:Int) (s:Bt) (sk:Sl) (xs:List Tr) (g:zb) (M':Fr) (so:Sl) (bs:List Nat):Prop where
 L:Later h M g M'
 res:Blk g r #[.int .i64 0,.string ⟨#[]⟩,.slice Te 0 0,.slice Te 0 0]
 out:Blk g o #[.int .i64 k,.string s,aK sk,aK so]
 row:ORow lo g M' .tree xs so bs
 nO:M' o=Te
 nR:M' r=Te
 hr:h.size<=r
 ro:r<o
 ol:o<lo
 lg:lo<=g.size
section
variable {h : zb} {M : Fr} {r o lo : Nat} {k : Int} {s : Bt} {sk : Sl} {xs : List Tr} {g : zb} {M' : Fr} {so : Sl} {bs : List Nat}
theorem SrS.add(S:SrS h M r o lo k s sk xs g M' so bs)(hn:xs.length<=1000000){O:zb}{u:Fr}(m:Later g M' O u){x:Tr}{xk xi:Sl}(Q:RdV u .tree x (.agg #[.int .i64 x.kind,.string x.text,aK xk,aK xi])){K:zb->Prop}
  (hK:∀g' H bs',SrS h M r o lo k s sk (xs++[x]) g' u H bs'->(∀j,j<lo->j≠o->g'[j]?=g[j]?)->K g'):
  let i:=O.push (.cells #[.int .i64 x.kind,.string x.text,aK xk,aK xi] 25)
  XRun Tp (Ug #[23,23] 23 #[aK so,.slice (Td ⟨O.size,0,Te⟩) 1 1]) i (λv n=>∃z:Sl,v=aK z/\XRunU Tp (Ub 23 (.pointer (Td (Ua ⟨o,0,Te⟩ 3))) (aK z)) n K):=by
 intro i;obtain⟨B,ae,U⟩:=jf (g:=i) rfl;clear_value i;have z1:=m.keep.size;have P:=S.hr;have J:=S.ro;have y:=S.ol;have af:=S.lg;have p:Later g M' i u:=m.trans (Later.same m.ag B);have t:=S.row.call p;have rd:Rd u .tree x [.int .i64 x.kind,.string x.text,aK xk,aK xi]:=by
  unfold RdV at Q;simp only[dB,if_true]at Q;obtain⟨cs,e,P⟩:=Q;injection e with e;have:cs=[.int .i64 x.kind,.string x.text,aK xk,aK xi]:=by have:=congrArg Array.toList e;simpa using this.symm
  rw[<-this];exact P
 refine ORow.app nl (by omega) p.ag t (by omega) U rd hn λV n bs' l aa ab C=>⟨V,rfl,?_⟩;have F:∀c∈bs,lo<=c/\c<g.size/\M' c=Te:=S.row.own;have q:∀j,j<lo->n[j]?=g[j]?:=λj D=>by rw[C j (by omega) (λY=>by grind),B.get j (by omega)];exact m.keep.get j (by omega)
 rw[zj];refine qo nz pn (S.out.keep (q o y)) (by simp) rfl λw u1 u3 N=>?_;have f:∀j,j<lo->j≠o->w[j]?=g[j]?:=λj D h0=>(N j h0).trans (q j D);have A:∀c∈bs',lo<=c/\c<n.size/\u c=Te:=l.own;have hg:=S.L.keep.size;refine hK w V bs' ⟨⟨⟨by omega,λj D=>?_⟩,S.L.le.trans m.le,λb Z=>?_,?_⟩,?_,u1,?_,?_,?_,P,J,y,by omega⟩ f;rw[f j (by omega) (by omega)];exact S.L.keep.get j D;rw[m.old b (by omega)];exact S.L.old b Z;intro c cs e;have E:=p.ag.lt e;have I:c∉bs:=λY=>by obtain⟨_,h1,h2⟩:=F c Y;rw[m.old c h1,h2]at e;cases e
 have G:c≠o:=λh=>by subst h;rw[m.old c (by omega),S.nO]at e;cases e
 rw[N c G,C c E I];exact p.ag c cs e;exact S.res.keep (f r (by omega) (by omega));exact l.frame (λc E=>N c (by grind)) (Fr.le.refl _) λc E=>(A c E).2.2;rw[m.old o (by omega)];exact S.nO;rw[m.old r (by omega)];exact S.nR
theorem SrS.fin(S:SrS h M r o lo k s sk xs g M' so bs)(P:xs.length<=1000000)(J:Rd M' (.row .str) ks [aK sk]){w:Tr}(O:Tr.mk k s ks xs=w):
  ∃(E:Int) (B:Bt) (x u:Sl),zd g ⟨o,0,Te⟩ 0 [.int .i64 E,.string B,aK x,aK u]/\XRunU Tp (Ub 25 (.pointer (Td ⟨r,0,Te⟩)) (.agg #[.int .i64 E,.string B,aK x,aK u])) g λi=>
   ∃(y:Int) (F:Bt) (z C:Sl),zd i ⟨r,0,Te⟩ 0 [.int .i64 y,.string F,aK z,aK C]/\∃A q,Later h M i A/\Zp A [.tree] q (.agg #[.int .i64 y,.string F,aK z,aK C])/\q=w:=by
 refine⟨k,s,sk,so,S.out.ld (cs:=[_,_,aK sk,aK so]),?_⟩;refine yq S.res λm t z2 U=>⟨k,s,sk,so,U.ld (cs:=[_,_,aK sk,aK so]),?_⟩;have V:=S.hr;have I:=S.ro;have G:=S.ol;have N:=S.lg;have p:∀c∈bs,lo<=c/\c<g.size/\M' c=Te:=S.row.own;have f:AgM M' m:=λc cs e=>by rw[t c (λh=>by grind [nR])];exact S.L.ag c cs e
 have l:ORow lo m M' .tree xs so bs:=S.row.frame (λc n=>t c (by grind)) (Fr.le.refl _) λc n=>(p c n).2.2;have D:Later h M m M':=⟨⟨by omega,λj Q=>by rw[t j (by omega)];exact S.L.keep.get j Q⟩,S.L.le,S.L.old,f⟩;refine⟨MxL M' m bs,_,⟨D.keep,D.le.trans (gv f bs),λb H=>?_,MxL.ag f bs⟩,Yk.2 (zr (v:=.mk k s ks xs) (J.mono (gv f bs)) (l.rd f (λc n=>n) P)),O⟩;unfold MxL;rw[za (λY=>by grind)];exact S.L.old b H
end
set_option maxRecDepth 100000 in
set_option maxHeartbeats 2000000 in
theorem yS:∀(n:Nat) (v:Tr),n<=1000000->bR v<=n->Zy zn v=Ta->Sm v->∀(h:zb) (M:Fr) (u:Value),AgM M h->RdV M .tree v u->PX Tp 101 #[u] h M [.tree] (λq=>q=zf v)
 |0,v,_,hz,_,_=>by have:=Zf v;omega
 |n+1,v,hn,hz,hok,hsm=>by
  intro h M u ag hu;have aP:=hu;obtain⟨sk,si,rfl,rk,ri⟩:=qq hu;have f:=hok;rw[yp,Ui]at f;have ba:v.items.length<=1000000:=by have:=ww v.items;rw[q9]at hz;omega
  have ih:∀(i:Nat) (hi:i<v.items.length) (h:zb) (M:Fr) (u:Value),AgM M h->RdV M .tree v.items[i] u->PX Tp 101 #[u] h M [.tree] (λq=>q=zf v.items[i]):=λi hi=>by
   have hm:=Up hi;have hs:=qi hm;have aj:Zy zn v.items[i]=Ta:=by rw[yz,Us]at f;exact f.2 _ hm
   exact yS n v.items[i] (by omega) (by omega) aj (hsm.item hm)
  obtain⟨li,_,_⟩:=rowLen ri;apply PX.of;apply Rw v.kind v.text sk si;intro h1;obtain⟨k1,z1,B1⟩:=jf (g:=h1) rfl;clear_value h1;intro h2;obtain⟨k2,z2,R2⟩:=jf (g:=h2) rfl;clear_value h2;have B2:=B1.ofKeep k2;refine⟨v.kind,B2.cellAdd (o:=0) (k:=0) rfl,v.text,B2.cellAdd (o:=0) (k:=1) rfl,?_⟩;intro h5;obtain⟨k5,z5,O5⟩:=jf (g:=h5) rfl;clear_value h5;refine yq (sk:=⟨Te,0,0⟩) (si:=⟨Te,0,0⟩) O5 λY f6 z6 O6=>?_;have k6:Keep h2.size h2 Y:=⟨by omega,λj B=>by rw[f6 j (by omega)];exact k5.get j B⟩;have G:Keep h.size h Y:=(k1.trans k2 (by omega)).trans k6 (by omega);have B6:=B2.ofKeep k6;have R6:=R2.ofKeep k6;have aB:=ag.keep G;refine⟨v.kind,B6.cellAdd (o:=0) (k:=0) rfl,λhx=>?_,λhx=>?_⟩;have Y:v.kind≠6:=by simpa using hx
  have hS:zf v=.mk v.kind v.text [] (v.items.map zf):=by rw[yg,za Y]
  refine⟨si,B6.cellAdd (o:=0) (k:=3) rfl,λi g=>∃(m:Nat) (M':Fr) (so:Sl) (bs:List Nat),i=(m:Int)/\m<=v.items.length/\SrS h M h1.size h2.size (h2.size+1) v.kind v.text ⟨Te,0,0⟩ ((v.items.take m).map zf) g M' so bs,λi _=>v.items.length-i.toNat,⟨0,M,⟨Te,0,0⟩,[],rfl,UH _,⟨Later.same ag G,R6,O6,ORow.nil,ag.none (by omega),ag.none (by omega),by omega,by omega,by omega,by omega⟩⟩,?_⟩;rintro i g ⟨m,M',so,bs,rfl,hm,S⟩;have r:=S.L.ag;refine⟨λI=>?_,λI=>?_⟩;have b:m<v.items.length:=by have:=zC I;omega
  obtain⟨a,ck,ci,ea,aN,t1,t2⟩:=Jt r (ri.mono S.L.le) b;refine⟨a,⟨ea,by omega,by omega⟩,v.items[m].kind,v.items[m].text,ck,ci,by rw[Ue];exact aN,?_⟩;intro an;obtain⟨aH,a1,aE⟩:=jf (g:=an) rfl;clear_value an;refine yq aE λU aF aY aL=>?_;have au:Keep g.size g U:=⟨by omega,λj B=>by rw[aF j (by omega)];exact aH.get j B⟩;have a7:=S.out.lt;refine⟨so,(S.out.ofKeep au).cellAdd (o:=0) (k:=3) rfl,v.items[m].kind,v.items[m].text,ck,ci,aL.ld (cs:=[_,_,aK ck,aK ci]),?_⟩;have ar:Later g M' U M':=Later.same r au;refine(ih m b _ _ _ ar.ag (zr t1 t2)).go λw aQ H q C s hq=>?_;subst hq;obtain⟨xk,xi,rfl,y1,y2⟩:=qq (Yk.1 s);have aZ:=C.keep.size;have ho:aQ[h2.size]?=U[h2.size]?:=C.keep.get _ (by omega);refine⟨_,_,xk,xi,rfl,by rw[zj];exact ho,?_⟩;intro be;refine⟨by rw[zj];grind,S.add (by grind) (ar.trans C) (zr y1 y2) λg' F bs' S' _=>⟨⟨m+1,H,F,bs',by rw[qn b (by omega)],b,?_⟩,?_⟩⟩;rw[Uh b,U7];exact S';grind [qn];have b:m=v.items.length:=by have:=zD I;omega
  subst b;rw[Uz]at S;exact S.fin (by simp_all) Xg hS.symm;have O:v.kind=6:=by simpa using hx
  have hS:zf v=.mk v.kind v.text (yo v.keys) ((yo v.keys).map λq=>dq (v.keys.zip (v.items.map zf)) q):=by rw[yg,zA O]
  have l:=f.1;have aJ:v.keys.Nodup:=by unfold zn qw at l;simp[O]at l;exact l.1.1.2
  have aG:v.keys.length=v.items.length:=by unfold zn at l;simp[O]at l;exact l.1.2
  refine⟨v.kind,v.text,sk,si,B6.ld (cs:=[_,_,aK sk,aK si]),?_⟩;refine qG aJ aG (by omega) aB aP λbz m us ah aV bA aU am=>⟨Td m,rfl,?_⟩;have br:=ah.size;apply yn;intro V;obtain⟨aa,a8,az⟩:=jf (g:=V) rfl;clear_value V;have J:MapW V m (c8 (v.keys.zip us)):=am.keep (aa.get m am.lt);have aC:(v.keys.zip us).map (·.1)=v.keys:=XZ (by omega);refine⟨_,rfl,Gb az J (by grind) (by simp;omega) λD sl E ap=>⟨sl,rfl,?_⟩⟩;rw[aC]at ap;have bm:=E.size;have bn:(yo v.keys).length=v.keys.length:=vt _;have y:Keep Y.size Y D:=(ah.trans aa (by omega)).trans E (by omega);have af:Keep h.size h D:=G.trans y (by omega);obtain⟨H,C,A,N⟩:=Owns.frz (Later.same ag af) ap (by omega) (by omega);have aT:Blk D h2.size #[.int .i64 v.kind,.string v.text,aK ⟨Te,0,0⟩,aK ⟨Te,0,0⟩]:=O6.keep (y.get _ (by omega));have ax:H h2.size=Te:=by rw[A _ (by omega)];exact ag.none (by omega)
  have aS:H h1.size=Te:=by rw[A _ (by omega)];exact ag.none (by omega)
  rw[zj];refine qo mq mQ aT (by simp) rfl λt ab bj z=>?_;have ay:Later h M t H:=⟨⟨by omega,λj B=>by rw[z j (by omega)];exact C.keep.get j B⟩,C.le,C.old,λc cs e=>by rw[z c (λh=>by simp_all)];exact C.ag c cs e⟩;have ae:MapW t m (c8 (v.keys.zip us)):=J.keep ((z m (by omega)).trans (E.get m J.lt));have ai:=ae.lt;refine⟨sl,Blk.cell (o:=2) ab rfl,λi g=>∃(p:Nat) (M':Fr) (so:Sl) (bs:List Nat),i=(p:Int)/\p<=(yo v.keys).length/\SrS h M h1.size h2.size t.size v.kind v.text sl (((yo v.keys).take p).map λq=>dq (v.keys.zip (v.items.map zf)) q) g M' so bs/\Fr.le H M'/\(∀j,j<t.size->j≠h2.size->g[j]?=t[j]?),λi _=>(yo v.keys).length-i.toNat,⟨0,H,⟨Te,0,0⟩,[],rfl,UH _,⟨ay,R6.keep ((z _ (by omega)).trans (y.get _ (by omega))),ab,ORow.nil,ax,aS,by omega,by omega,by omega,Uc _⟩,Fr.le.refl _,λ_ _ _=>rfl⟩,?_⟩;obtain⟨bg,_,_⟩:=rowLen N;rintro i g ⟨p,M',so,bs,rfl,hp,S,P,fg⟩;have r:=S.L.ag;refine⟨λI=>?_,λI=>?_⟩;have b:p<(yo v.keys).length:=by have:=zC I;omega
  obtain⟨a,aI,x,aM,aA⟩:=fG r (N.mono P) b (i:=(p:Int)) rfl (L:=sl.len) rfl (Q:=λx=>x=(yo v.keys)[p]) rfl;subst aA;refine⟨a,aI,(yo v.keys)[p],aM,so,S.out.cellAdd (o:=0) (k:=3) rfl,?_⟩;have aO:(yo v.keys)[p]∈v.keys:=(yw v.keys).mem_iff.1 (Up b);obtain⟨j,j1,j2,e1,e2,e3⟩:=oc (yo v.keys)[p] v.keys (v.items.map zf) (by simp_all) aO;rw[Um]at j2;have ak:j<us.length:=by omega
  obtain⟨ck,ci,eu,t1,t2⟩:=qq (aU j j2 ak);have wg:MapW g m (c8 (v.keys.zip us)):=ae.keep (fg m ai (by omega));refine⟨v.items[j].kind,v.items[j].text,ck,ci,?_,rfl,?_⟩;have:=Wp mapVal wg.at (yo v.keys)[p] Tc;have eg:eX (v.keys.zip us) (yo v.keys)[p] (.agg #[.int .i64 0,.string ⟨#[]⟩,.slice Te 0 0,.slice Te 0 0])=us[j]:=by unfold eX;rw[e3 us (by omega),Ul ak];rfl
  rw[za (by simp),eg,eu]at this;exact this;refine(ih j j2 _ _ _ r (zr (t1.mono S.L.le) (t2.mono S.L.le))).go λw Z M3 q L3 s hq=>?_;subst hq;obtain⟨xk,xi,rfl,y1,y2⟩:=qq (Yk.1 s);have bu:=L3.keep.size;have a6:=S.lg;have ho:Z[h2.size]?=g[h2.size]?:=L3.keep.get _ (by omega);refine⟨_,_,xk,xi,rfl,by rw[zj];exact ho,?_⟩;intro bq;refine⟨by rw[zj];exact((Keep.push Z _ (Uc _)).get h2.size (by omega)).trans ho,S.add (by grind) L3 (zr y1 y2) λg' F bs' S' f'=>⟨⟨p+1,M3,F,bs',by rw[qn b (by omega)],b,?_,P.trans L3.le,λj B h0=>(f' j B h0).trans (fg j B h0)⟩,?_⟩⟩;rw[Uh b,U7,Uq,V6,e2,WE];exact S';show(yo v.keys).length-(hZ ((p:Int)+1)).toNat<(yo v.keys).length-(p:Int).toNat;rw[qn b (by omega)];omega;have b:p=(yo v.keys).length:=by have:=zD I;omega
  subst b;rw[Uz]at S;exact S.fin (by simp_all) (N.mono P) hS.symm
end
section
open Go.Lib
section
variable {r s w:Bs} {a N lv:Nat} {ln:Bool} {v:Tr}
def iN(r:Bs):Prop:=∀c,r.head?=Td c->c=44\/c=93\/c=125\/c=10
theorem yB:iN []:=λc h=>by cases h
theorem FA{c:UInt8}(h:c=44\/c=93\/c=125\/c=10):iN (c::r):=λd b=>by simp_all
theorem oM{p:UInt8->Bool}:∀{w r:Bs},(∀c∈w,p c=Ta)->(∀c,r.head?=Td c->p c=Tc)->Yq p (w++r)=w.length
 |[],[],_,_=>rfl
 |[],c::r,_,h=>by unfold Yq;simp_all
 |c::w,r,h,h2=>by have:=oM (w:=w) (r:=r) (λd b=>h d (Uo _ b)) h2;unfold Yq at this ⊢;simp_all
theorem DJ(h:(zm w).2=0)(n:s.drop a=w++r)(k:iN r):Qa s a=(9,a+w.length,0)/\∃c t,w=c::t/\c∈eK:=by
 have f:Wy w=Ta:=by
  unfold zm at h;cases e:Qj w with
  |none=>simp_all
  |some x=>exact(uI e).1
 obtain⟨m,c,t,e,b⟩:=Lz f;have i:Yq (xy dk) (w++r)=w.length:=oM (λc b=>by unfold xy;grind) λc b=>by
  have:∀c:UInt8,c=44\/c=93\/c=125\/c=10->xy dk c=Tc:=by rintro c (rfl|rfl|rfl|rfl) <;> decide
  exact this c (k c b)
 have l:c∉yl/\c∉xw/\c≠34:=by
  have:∀c∈eK,c∉yl/\c∉xw/\c≠34:=by decide
  exact this c b
 refine⟨?_,c,t,e,b⟩;unfold Qa;simp_all
theorem Db(h:Qu w≠0)(m:s.drop a=w++r)(l:iN r):Qa s a=(Qu w,a+w.length,0):=by
 have k:w=[116,114,117,101]\/w=[102,97,108,115,101]\/w=[110,117,108,108]:=by unfold Qu at h;by_cases h1:w=[116,114,117,101];exact .inl h1;grind
 have b:∀c∈w,xy w8 c=Ta:=by rcases k with rfl|rfl|rfl <;> decide
 have i:Yq (xy w8) (w++r)=w.length:=oM b λc f=>by
  have:∀c:UInt8,c=44\/c=93\/c=125\/c=10->xy w8 c=Tc:=by rintro c (rfl|rfl|rfl|rfl) <;> decide
  exact this c (l c f)
 obtain⟨c,t,e,f⟩:∃c t,w=c::t/\(c=116\/c=102\/c=110):=by grind
 have n:c∉yl/\c∉xw/\c≠34/\c∉eK:=by rcases f with rfl|rfl|rfl <;> decide
 unfold Qa;simp_all
theorem tj(i:∀c∈w,c∈xw)(k:∀c,r.head?=Td c->c∉xw)(e:s.drop a=w++r):∃T,Lex s a (a+w.length) T/\qa T=[]:=by
 cases w with
 |nil=>exact⟨[],.nil,rfl⟩
 |cons c t=>
  have f:=i c Uu;have b:Yq (xy xw) (c::t++r)=(c::t).length:=oM (λd h=>by unfold xy;grind) λd h=>by unfold xy;simp_all
  have h1:c∉yl:=by
   have:∀c∈xw,c∉yl:=by decide
   exact this c f
  have tk:Qa s a=(1,a+(c::t).length,0):=by unfold Qa;rw[e,UF];dsimp only;rw[za h1,zA f];rw[UF]at b;rw[b]
  exact⟨_,Lex.step (T:=[]) tk (ye e (by simp)) .nil,rfl⟩
theorem j8(A B:List Tk):qa (A++B)=qa A++qa B:=List.filter_append ..
theorem qy{t:Tk}{T:List Tk}(h:t.1≠1):qa (t::T)=t::qa T:=by unfold qa;simp_all
theorem mL(h:s.drop a=w++r):s.drop (a+w.length)=r:=by rw[<-Vl,h,YF]
theorem xW:∀c∈jd ln N lv,c∈xw:=by intro c b;unfold jd at b;split at b;rcases Uj.1 b with rfl|b;decide;rw[(List.mem_replicate.1 b).2];decide;cases b
def Zz(ln:Bool)(N lv:Nat)(b:UInt8):List Bs->Bs
 |[]=>jd ln N lv++[b]
 |p::ps=>jd ln N (lv+1)++(p++(if ps=[]then Zz ln N lv b []else 44::Zz ln N lv b ps))
theorem Be{ln:Bool}{N lv:Nat}{b:UInt8}:∀{ps:List Bs},ps≠[]->Zz ln N lv b ps=we ln N (lv+1) ps++(jd ln N lv++[b])
 |[],h=>absurd rfl h
 |[p],_=>by rw[Zz,zA rfl,Zz,we];simp
 |p::q::ps,_=>by rw[Zz,za (by simp),Be (ps:=q::ps) (by simp)];rw[we,we];simp
theorem D3{b:UInt8}{ps:List Bs}(h:ps≠[]):J5 ln N lv ps++[b]=Zz ln N lv b ps:=by rw[Be h];unfold J5;simp_all
def oo(nx:List Bs->Bs×Tr->List Bs)(Fresh:List Bs->Bs×Tr->Prop):List Bs->List (Bs×Tr)->Prop
 |_,[]=>True
 |had,kv::l=>Fresh had kv/\oo nx Fresh (nx had kv) l
theorem Rk{b:UInt8}(e:b=93\/b=125)(h:s.drop a=Zz ln N lv b []++r):∃T,Lex s a (a+(Zz ln N lv b []).length) T/\∃c,qa T=[c]/\c.1=2+indexByte yl b:=by
 rw[Zz]at h ⊢;rw[UB]at h;have i:b∈yl:=by rcases e with rfl|rfl <;> decide
 have n:b∉xw:=by rcases e with rfl|rfl <;> decide
 obtain⟨o,m,l⟩:=tj xW (r:=[b]++r) (λc p=>by simp_all) h;have f:=mL h;have tk:=Qw i f;have k:=Lex.step (T:=[]) tk (ye f (by simp)) .nil;refine⟨o++[(2+indexByte yl b,(((a+(jd ln N lv).length:Nat):Int),((a+(jd ln N lv).length+1:Nat):Int)))],?_,(2+indexByte yl b,(((a+(jd ln N lv).length:Nat):Int),((a+(jd ln N lv).length+1:Nat):Int))),?_,rfl⟩;have:=m.append k;simp_all;omega;rw[j8,l,UX,qy (show(2+indexByte yl b:Int)≠1 by rcases e with rfl|rfl <;> decide)];rfl
theorem sZ{ln:Bool}{N lv:Nat}{s:Bs}{i:UInt8}(m:i=93\/i=125){K:List Bs->List Bs->Bs×Tr->List Tk->Nat->Prop}{nx:List Bs->Bs×Tr->List Bs}{Fresh:List Bs->Bs×Tr->Prop}{P:Bs×Tr->Bs}:∀(kvs:List (Bs×Tr)) (had:List Bs) (a:Nat) (r:Bs),kvs≠[]->oo nx Fresh had kvs -> (∀f∈kvs,(∃c t,P f=c::t/\c∉xw)/\∀had a r,Fresh had f->s.drop a=P f++r->iN r->∃T,Lex s a (a+(P f).length) T/\K had (nx had f) f (qa T) (bR f.2)) ->
  s.drop a=Zz ln N lv i (kvs.map P)++r->∃T,Lex s a (a+(Zz ln N lv i (kvs.map P)).length) T/\KidsG K (2+indexByte yl i) had kvs (qa T) (xn (kvs.map (·.2)))
 |[],had,a,r,h,_,_,_=>absurd rfl h
 |f::kvs,had,a,r,_,hok,hK,hs=>by
  obtain⟨⟨c0,L,J,E⟩,n⟩:=hK f Uu;rw[Uq,Zz,UB]at hs;obtain⟨y,B,A⟩:=tj xW (λc C=>by simp_all) hs;have k:=mL hs;rw[UB]at k;have l:iN ((if kvs.map P=[]then Zz ln N lv i []else 44::Zz ln N lv i (kvs.map P))++r):=by split;rw[Zz];unfold jd;grind [FA];exact FA (.inl rfl)
  obtain⟨D,z,k2⟩:=n had _ _ hok.1 k l;have b:=mL k;by_cases w:kvs=[];subst w;rw[V6,zA rfl]at b;obtain⟨u,q,c,F,C⟩:=Rk m b;refine⟨y++(D++u),?_,?_⟩;have:=B.append (z.append q);rw[Uq,V6,Zz,zA rfl];simp only[Uf]at this ⊢;grind;rw[j8,A,UX,j8,F];exact KidsG.last k2 C;have o:kvs.map P≠[]:=λe=>w (List.map_eq_nil_iff.1 e);rw[za o,UF]at b;have tk:=Qw (c:=44) (by decide) b;have p:s.drop (a+(jd ln N (lv+1)).length+(P f).length+1)=Zz ln N lv i (kvs.map P)++r:=by rw[<-Vl,b];rfl
  obtain⟨u,q,H⟩:=sZ m kvs (nx had f) _ r w hok.2 (λx I=>hK x (Uo _ I)) p;have G:=Lex.step tk (ye b (by simp)) q;refine⟨y++(D++(2+indexByte yl 44,(((a+(jd ln N (lv+1)).length+(P f).length:Nat):Int),((a+(jd ln N (lv+1)).length+(P f).length+1:Nat):Int)))::u),?_,?_⟩;have:=B.append (z.append G);rw[Uq,Zz,za o];simp only[Uf,Uk]at this ⊢;grind;rw[j8,A,UX,j8,qy (show(2+indexByte yl 44:Int)≠1 by decide),Uq,xn];exact KidsG.more k2 (show(2+indexByte yl 44:Int)=6 by decide) H
theorem me(h:cX v=Ta):(v.kind=1/\lb v.text=[]/\v.keys=[]/\v.items=[])\/(v.kind=2/\(lb v.text=[116,114,117,101]\/lb v.text=[102,97,108,115,101])/\v.keys=[]/\v.items=[]) \/ (v.kind=3/\((zm (lb v.text)).2=0/\ql (zm (lb v.text)).1=lb v.text)/\v.keys=[]/\v.items=[])\/(v.kind=4/\xd (lb v.text)=Ta/\v.keys=[]/\v.items=[]) \/
  (v.kind=5/\lb v.text=[]/\v.keys=[])\/(v.kind=6/\qw v.keys=Ta/\v.keys.length=v.items.length/\lb v.text=[]):=by
 unfold cX at h;rw[Ui]at h;obtain⟨b,h⟩:=h;have b:v.kind≠7:=zC b;unfold zn at h;by_cases h1:v.kind=1;simp_all;rw[za h1]at h;by_cases h2:v.kind=2;simp_all;rw[za h2]at h;by_cases c:v.kind=3;rw[zA c]at h;unfold dO at h;simp_all;grind
theorem ry{t:Bs}(h:xd t=Ta):(dv t).1=dF t:=by unfold dv;rw[zA h];rfl
theorem xG(h:cX v=Ta):∃c t,jy ln N v lv=c::t/\c∉xw:=by
 rw[xo];rcases me h with⟨b,_⟩|⟨b,f,_⟩|⟨b,⟨f,_⟩,_⟩|⟨b,f,_⟩|⟨b,_⟩|⟨b,_⟩;rw[b];exact⟨_,_,rfl,by decide⟩;rw[b,za (by decide),za (by decide),za (by decide),za (by decide)];rcases f with e|e <;> (rw[e];exact⟨_,_,rfl,by decide⟩);rw[b,za (by decide),za (by decide),za (by decide),za (by decide)];obtain⟨_,c,t,e,i⟩:=DJ (s:=lb v.text) (a:=0) (r:=[]) f (by simp) yB;refine⟨c,t,e,?_⟩;have:∀c∈eK,c∉xw:=by decide
 exact this c i;rw[b,za (by decide),zA rfl,ry f];exact⟨_,_,rfl,by decide⟩;rw[b,za (by decide),za (by decide),zA rfl];exact⟨_,_,rfl,by decide⟩;rw[b,za (by decide),za (by decide),za (by decide),zA rfl];exact⟨_,_,rfl,by decide⟩
theorem s5(b:s.drop a=w++r)(c:w≠[]):ya s ((a:Int),((a+w.length:Nat):Int))=w/\Wc s ((a:Int),((a+w.length:Nat):Int))=w:=by
 have e:=ye b (by simp[c]);have f:a+w.length<=s.length:=by have:=congrArg VA b;rw[UD,Uf]at this;omega
 have h:=U5.2 c;have i:Wc s ((a:Int),((a+w.length:Nat):Int))=w:=by unfold Wc;simp only[Ue];rw[b,Nat.add_sub_cancel_left,YH]
 grind [nP]
theorem wM{nx:List Bs->Bs×Tr->List Bs}:∀(l:List (Bs×Tr)) (had:List Bs),oo nx (λ_ _=>True) had l
 |[],_=>trivial
 |_::l,_=>⟨trivial,wM l _⟩
theorem zX:∀(l:List (Bs×Tr)) (had:List Bs),(l.map (·.1)).Nodup->(∀b∈l,b.1∉had)->oo (λhad b=>had++[b.1]) (λhad b=>b.1∉had) had l
 |[],_,_,_=>trivial
 |b::l,had,hn,hh=>by rw[Uq,Vp]at hn;refine⟨hh b Uu,zX l _ hn.2 λx e c=>?_⟩;grind
theorem EC:∀{ks:List Bt},ks.Nodup->(ks.map lb).Nodup
 |[],_=>XV
 |k::ks,h=>by
  rw[Vp]at h;rw[Uq,Vp];refine⟨λb=>?_,EC h.2⟩;obtain⟨q,c,e⟩:=US.1 b;have:q=k:=by rw[<-Zx q,e,Zx]
  simp_all
theorem p7{k:Int}(c:k≠1)(h:Qa s a=(k,a+w.length,0))(e:s.drop a=w++r)(b:w≠[]):Lex s a (a+w.length) [(k,((a:Int),((a+w.length:Nat):Int)))]/\qa [(k,((a:Int),((a+w.length:Nat):Int)))]=[(k,((a:Int),((a+w.length:Nat):Int)))]:= ⟨Lex.step (T:=[]) h (ye e (by simp[b])) .nil,by rw[qy c];rfl⟩
set_option maxHeartbeats 1000000 in
theorem qQ{ln:Bool}{N:Nat}:∀(n:Nat) (v:Tr) (lv d:Nat),bR v<=n->Zy cX v=Ta->c6 v<=d->∀(s r:Bs) (a:Nat),s.drop a=jy ln N v lv++r->iN r->∃T,Lex s a (a+(jy ln N v lv).length) T/\PV s d v (qa T) (bR v)
 |0,v,_,_,h,_,_=>by have:=Zf v;omega
 |n+1,v,lv,0,_,_,hd=>by rw[gZ]at hd;omega
 |n+1,v,lv,d+1,hz,hok,hd=>by
  intro s r a i hr;rw[yp,Ui]at hok;obtain⟨hv,y⟩:=hok;rw[yz,Us]at y;have D:∀x∈v.items,bR x<=n/\c6 x<=d/\Zy cX x=Ta:=λx G=>⟨by have:=qi G;omega,by have:=oZ G;omega,y x G⟩;have oX:v=.mk v.kind v.text v.keys v.items:=by cases v;rfl
  have O:∀{t:Bt},lb t=[]->t=bl []:=λ {t} h=>by rw[<-Zx t,h]
  rw[xo]at i ⊢;rcases me hv with⟨p,o,h1,h2⟩|⟨p,o,h1,h2⟩|⟨p,⟨o,ab⟩,h1,h2⟩|⟨p,o,h1,h2⟩|⟨p,o,h1⟩|⟨p,C,Y,o⟩;rw[zA p]at i ⊢;have tk:=Db (w:=[110,117,108,108]) (by decide) i hr;obtain⟨L,F⟩:=p7 (by decide) tk i (by simp);refine⟨_,L,?_⟩;rw[F];refine⟨_,.inl ⟨rfl,show zx 12≠0 by decide,show zx 12≠5 by decide,show zx 12≠6 by decide,?_,?_⟩⟩;rw[oX,p,h1,h2,O o];rfl;rw[q9,h2];rfl;rw[za (by omega),za (by omega),za (by omega),za (by omega)]at i ⊢;have V:Qu (lb v.text)=10\/Qu (lb v.text)=11:=by rcases o with e|e <;> (rw[e];decide)
  have l:lb v.text≠[]:=by rcases o with e|e <;> (rw[e];simp)
  have tk:=Db (w:=lb v.text) (by omega) i hr;obtain⟨L,F⟩:=p7 (by omega) tk i l;refine⟨_,L,?_⟩;rw[F];have aa:zx (Qu (lb v.text))=2:=by rcases V with e|e <;> (rw[e];decide)
  refine⟨_,.inl ⟨rfl,?_,?_,?_,?_,?_⟩⟩;grind;grind;grind;dsimp only;rw[aa,(s5 i l).1];unfold Yr;rw[zA rfl,Zx];grind;rw[q9,h2];rfl;rw[za (by omega),za (by omega),za (by omega),za (by omega)]at i ⊢;obtain⟨tk,c,t,e,_⟩:=DJ o i hr;have l:lb v.text≠[]:=by rw[e];simp
  obtain⟨L,F⟩:=p7 (by decide) tk i l;refine⟨_,L,?_⟩;rw[F];refine⟨_,.inl ⟨rfl,show zx 9≠0 by decide,show zx 9≠5 by decide,show zx 9≠6 by decide,?_,?_⟩⟩;dsimp only;rw[show zx 9=3 from rfl,(s5 i l).1];unfold Yr;rw[za (by decide),zA rfl,ab,Zx];grind;rw[q9,h2];rfl;rw[za (by omega),zA p,ry o]at i ⊢;have tk:=wP o i;obtain⟨L,F⟩:=p7 (by decide) tk i (by unfold dF;simp);refine⟨_,L,?_⟩;rw[F];have:=Lm (d:=d) o i;rw[Zx]at this;rw[show v=.mk 4 v.text [] []from by grind];exact this;rw[za (by omega),za (by omega),zA p]at i ⊢;have ev:v=.mk 5 (bl []) [] v.items:=by rw[oX,p,h1,O o]
  by_cases z:v.items=[];rw[z]at i ⊢;have i:s.drop a=91::([93]++r):=i;have tk:=Qw (c:=91) (by decide) i;have m:s.drop (a+1)=93::r:=by rw[<-Vl,i];rfl
  have M:=Qw (c:=93) (by decide) m;refine⟨_,Lex.step (b:=a+2) tk (ye i (by simp)) (Lex.step (T:=[]) M (ye m (by simp)) .nil),?_⟩;rw[qy (show(2+indexByte yl 91:Int)≠1 by decide),qy (show(2+indexByte yl 93:Int)≠1 by decide)];exact⟨_,.inr (.inl ⟨_,rfl,.inl ⟨show(2+indexByte yl 91:Int)=4 by decide,show(2+indexByte yl 93:Int)=5 by decide,by rw[ev,z]⟩,by rw[q9,z];rfl⟩)⟩;have J:(v.items.map λx=>jy ln N x (lv+1))=(v.items.map λx=>(([]:Bs),x)).map λf=>jy ln N f.2 (lv+1):=by rw[U3];rfl
  have l:(v.items.map λx=>(([]:Bs),x))≠[]:=λe=>z (List.map_eq_nil_iff.1 e);have V:(91::J5 ln N lv (v.items.map λx=>jy ln N x (lv+1))++[93]:Bs)=91::Zz ln N lv 93 ((v.items.map λx=>(([]:Bs),x)).map λf=>jy ln N f.2 (lv+1)):=by rw[UF,D3 (by simp;omega),J]
  rw[V]at i ⊢;have tk:=Qw (c:=91) (by decide) i;have m:s.drop (a+1)=Zz ln N lv 93 ((v.items.map λx=>(([]:Bs),x)).map λf=>jy ln N f.2 (lv+1))++r:=by rw[<-Vl,i];rfl
  obtain⟨T,L,k⟩:=sZ (.inl rfl) (K:=KA (PV s d)) (nx:=λhad _=>had) (Fresh:=λ_ _=>True) (P:=λf=>jy ln N f.2 (lv+1)) _ [] (a+1) r l (wM _ _) (λf A=>by obtain⟨x,G,rfl⟩:=US.1 A;obtain⟨g1,g2,g3⟩:=D x G;have u:=g3;rw[yp,Ui]at u;refine⟨xG u.1,λhad b q _ E Z=>?_⟩;obtain⟨T,L,k⟩:=qQ n x (lv+1) d g1 g3 g2 s q b E Z;exact⟨T,L,rfl,k⟩) m;refine⟨_,by rw[Uk,show a+((Zz ln N lv 93 ((v.items.map λx=>(([]:Bs),x)).map λf=>jy ln N f.2 (lv+1))).length+1)=a+1+(Zz ln N lv 93 ((v.items.map λx=>(([]:Bs),x)).map λf=>jy ln N f.2 (lv+1))).length from by omega];exact Lex.step tk (ye i (by simp)) L,?_⟩;rw[qy (show(2+indexByte yl 91:Int)≠1 by decide)];have em:(v.items.map λx=>(([]:Bs),x)).map (·.2)=v.items:=by rw[U3];exact YU _
  refine⟨_,.inr (.inr (.inl ⟨_,_,_,rfl,show(2+indexByte yl 91:Int)=4 by decide,k,?_,?_⟩))⟩;grind;rw[em,q9,Nat.add_comm]
  ·rw[za (by omega),za (by omega),za (by omega),zA p]at i ⊢;by_cases z:v.items=[];have Q:v.keys=[]:=by rw[z]at Y;exact UK Y
   have ev:v=.mk 6 (bl []) [] []:=by rw[oX,p,z,Q,O o]
   rw[z,Q]at i ⊢;have i:s.drop a=123::([125]++r):=i;have tk:=Qw (c:=123) (by decide) i;have m:s.drop (a+1)=125::r:=by rw[<-Vl,i];rfl
   have M:=Qw (c:=125) (by decide) m;refine⟨_,Lex.step (b:=a+2) tk (ye i (by simp)) (Lex.step (T:=[]) M (ye m (by simp)) .nil),?_⟩;rw[qy (show(2+indexByte yl 123:Int)≠1 by decide),qy (show(2+indexByte yl 125:Int)≠1 by decide)];exact⟨_,.inr (.inl ⟨_,rfl,.inr ⟨show(2+indexByte yl 123:Int)=2 by decide,show(2+indexByte yl 125:Int)=3 by decide,ev⟩,by rw[q9,z];rfl⟩)⟩
   ·obtain⟨kvs,H⟩:∃kvs:List (Bs×Tr),kvs=(v.keys.map lb).zip v.items:=⟨_,rfl⟩;have e1:kvs.map (·.1)=v.keys.map lb:=by rw[H,XZ (by grind)]
    have e2:kvs.map (·.2)=v.items:=by rw[H,List.map_snd_zip (by grind)]
    have e3:(kvs.map λf=>bl f.1)=v.keys:=by
     have:(kvs.map λf=>bl f.1)=(kvs.map (·.1)).map bl:=by rw[U3];rfl
     rw[this,e1,U3];have:bl ∘ lb=id:=by funext x;exact Zx x
     rw[this,YU]
    have l:kvs≠[]:=λe=>z (by grind);have J:List.zipWith (du ln) v.keys (v.items.map λx=>jy ln N x (lv+1))=kvs.map λf=>du ln (bl f.1) (jy ln N f.2 (lv+1)):=by
     rw[H];have:∀(ks:List Bt) (xs:List Tr),List.zipWith (du ln) ks (xs.map λx=>jy ln N x (lv+1))=((ks.map lb).zip xs).map λf=>du ln (bl f.1) (jy ln N f.2 (lv+1)):=by
      intro ks;induction ks with
      |nil=>intro xs;rfl
      |cons k ks ih=>
       intro xs;cases xs with
       |nil=>rfl
       |cons x xs=>simp only[Uq,List.zipWith_cons_cons,Vv,ih,Zx]
     exact this _ _
    have V:(123::J5 ln N lv (List.zipWith (du ln) v.keys (v.items.map λx=>jy ln N x (lv+1)))++[125]:Bs)=123::Zz ln N lv 125 (kvs.map λf=>du ln (bl f.1) (jy ln N f.2 (lv+1))):=by rw[UF,J,D3 (λe=>l (List.map_eq_nil_iff.1 e))]
    rw[V]at i ⊢;have tk:=Qw (c:=123) (by decide) i;have m:s.drop (a+1)=Zz ln N lv 125 (kvs.map λf=>du ln (bl f.1) (jy ln N f.2 (lv+1)))++r:=by rw[<-Vl,i];rfl
    unfold qw at C;rw[Ui,Us]at C;have ae:(kvs.map (·.1)).Nodup:=by rw[e1];exact EC (zC C.2)
    obtain⟨T,L,k⟩:=sZ (.inr rfl) (K:=KO s (PV s d)) (nx:=λhad f=>had++[f.1]) (Fresh:=λhad f=>f.1∉had) (P:=λf=>du ln (bl f.1) (jy ln N f.2 (lv+1))) kvs [] (a+1) r l (zX _ _ ae (λ_ _=>by simp)) (λf A=>by
     have G:f.2∈v.items:=by rw[<-e2];exact US.2 ⟨f,A,rfl⟩
     have I:xd f.1=Ta:=by
      have:f.1∈v.keys.map lb:=by rw[<-e1];exact US.2 ⟨f,A,rfl⟩
      obtain⟨q,Z,e⟩:=US.1 this;rw[<-e];exact C.1 q Z
     obtain⟨g1,g2,g3⟩:=D _ G;have S:du ln (bl f.1) (jy ln N f.2 (lv+1))=dF f.1++58::((if ln then [32]else [])++jy ln N f.2 (lv+1)):=by unfold du;rw[ym,ry I]
     rw[S];refine⟨⟨_,_,rfl,by decide⟩,λhad b q hf E Z=>?_⟩;rw[UB]at E;have tq:=wP I E;have B:=mL E;rw[UF]at B;have tc:=Qw (c:=58) (by decide) B;have U:s.drop (b+(dF f.1).length+1)=(if ln then [32]else [])++(jy ln N f.2 (lv+1)++q):=by rw[<-Vl,B];simp
     have u:=g3;rw[yp,Ui]at u;obtain⟨c0,t0,e0,ah⟩:=xG (ln:=ln) (N:=N) (lv:=lv+1) u.1;obtain⟨T1,L1,n1⟩:=tj (λc hc=>by
      split at hc;rw[Vb.1 hc];decide
      ·cases hc) (λc hc=>by
      grind) U
     have af:=mL U;obtain⟨T2,L2,k2⟩:=qQ n f.2 (lv+1) d g1 g3 g2 s q _ af Z;have sl:=s5 E (by unfold dF;simp);refine⟨(8,((b:Int),((b+(dF f.1).length:Nat):Int)))::(2+indexByte yl 58,(((b+(dF f.1).length:Nat):Int),((b+(dF f.1).length+1:Nat):Int)))::(T1++T2),?_,?_⟩;refine Lex.step tq (ye E (by simp)) (Lex.step tc (ye B (by simp)) ?_);have:=L1.append L2;simp only[Uf,Uk]at this ⊢;grind;rw[qy (show(8:Int)≠1 by decide),qy (show(2+indexByte yl 58:Int)≠1 by decide),j8,n1,UX];exact⟨_,_,_,rfl,rfl,show(2+indexByte yl 58:Int)=7 by decide,by dsimp only;rw[sl.2,Dp I],by grind,hf,rfl,k2⟩) m
    refine⟨_,by rw[Uk,show a+((Zz ln N lv 125 (kvs.map λf=>du ln (bl f.1) (jy ln N f.2 (lv+1)))).length+1)=a+1+(Zz ln N lv 125 (kvs.map λf=>du ln (bl f.1) (jy ln N f.2 (lv+1)))).length from by omega];exact Lex.step tk (ye i (by simp)) L,?_⟩;rw[qy (show(2+indexByte yl 123:Int)≠1 by decide)];refine⟨_,.inr (.inr (.inr ⟨_,_,_,rfl,show(2+indexByte yl 123:Int)=2 by decide,k,?_,?_⟩))⟩;grind;rw[e2,q9,Nat.add_comm]
theorem rO(b:zz v=Ta)(c:(jy ln N v 0).length<=65536):∃n:Int,jc (jy ln N v 0)=(v,n,0):=by unfold zz wm at b;simp only[Ui,zB]at b;obtain⟨T,L,k⟩:=qQ (ln:=ln) (N:=N) (bR v) v 0 32 (Uc _) b.2 b.1.2 (jy ln N v 0) [] 0 (by simp) yB;rw[UI]at L;exact⟨_,Mt c L k b.1.1⟩
end
section
variable {xs ys:List Tr} {α:Type} {v:Tr}
theorem OJ(h:xs.Perm ys):xn xs=xn ys:=by
 induction h with
 |nil=>rfl
 |cons x _ c=>rw[xn,xn,c]
 |swap x y l=>simp only[xn];omega
 |trans _ _ a b=>rw[a,b]
theorem He(h:xs.Perm ys):Wb xs=Wb ys:=by
 induction h with
 |nil=>rfl
 |cons x _ c=>rw[Wb,Wb,c]
 |swap x y l=>simp only[Wb];omega
 |trans _ _ a b=>rw[a,b]
theorem RG{xs ys:List Nat}(h:xs.Perm ys):xs.sum=ys.sum:=by
 induction h with
 |nil=>rfl
 |cons x _ c=>rw[List.sum_cons,List.sum_cons,c]
 |swap x y l=>simp only[List.sum_cons];omega
 |trans _ _ a b=>rw[a,b]
theorem um{p:α->Bool}{xs ys:List α}(h:xs.Perm ys):xs.all p=ys.all p:=by rw[Uy,Us,Us];exact⟨λa x b=>a x (h.mem_iff.2 b),λa x b=>a x (h.mem_iff.1 b)⟩
theorem lN:∀(ks:List Bt) (ys:List Tr),ks.Nodup->ks.length=ys.length->(ks.map λq=>(q,dq (ks.zip ys) q))=ks.zip ys
 |[],ys,_,_=>by simp
 |k::ks,[],_,h=>by simp at h
 |k::ks,y::ys,hn,h=>by rw[Vp]at hn;rw[Uq,Vv];congr 1;rw[dq,zA rfl];rw[<-lN ks ys hn.2 (by simpa using h)];refine WN λq b=>?_;have:k≠q:=λe=>hn.1 (e ▸ b);rw[dq,za this];congr 2;exact lN ks ys hn.2 (by simpa using h)
structure SrtF (v w:Tr):Prop where
 k:w.kind=v.kind
 t:w.text=v.text
 kp:w.keys.Perm v.keys
 ip:w.items.Perm (v.items.map zf)
 zp:(w.keys.zip w.items).Perm (v.keys.zip (v.items.map zf))
theorem KQ(b:zn v=Ta)(i:v.kind≠6):v.keys=[]:=by unfold zn at b;simp only[i,if_false]at b;by_cases h1:v.kind=1;simp[h1]at b;exact b.1.2;by_cases h2:v.kind=2;simp[h2]at b;exact b.1.2;by_cases h:v.kind=3;simp[h]at b;exact b.1.2;by_cases c:v.kind=4;simp[c]at b;exact b.1.2;by_cases f:v.kind=5;simp[f]at b;exact b.2;by_cases e:v.kind=7;simp[e]at b;exact b.1.2;simp[h1,h2,h,c,f,e]at b
theorem Y1(b:zn v=Ta)(c:v.kind=6):v.keys.Nodup/\v.keys.length=v.items.length:=by unfold zn qw at b;simp[c]at b;exact⟨b.1.1.2,b.1.2⟩
theorem pD(h:zn v=Ta):SrtF v (zf v):=by
 rw[yg];by_cases b:v.kind=6;rw[zA b];obtain⟨m,k⟩:=Y1 h b;have n:=lN v.keys (v.items.map zf) m (by rw[Um];exact k);have c:=(yw v.keys).map λq=>(q,dq (v.keys.zip (v.items.map zf)) q);rw[n]at c;have e:∀l:List Bt,l.zip (l.map λq=>dq (v.keys.zip (v.items.map zf)) q)=l.map λq=>(q,dq (v.keys.zip (v.items.map zf)) q):=by
  intro l;induction l with
  |nil=>rfl
  |cons x l i=>rw[Uq,Vv,i,Uq]
 refine⟨rfl,rfl,yw _,?_,?_⟩;have:=c.map (·.2);rw[U3,List.map_snd_zip (by rw[Um];omega)]at this;exact this;show((yo v.keys).zip _).Perm _;rw[e];exact c;rw[za b];have f:=KQ h b;exact⟨rfl,rfl,by rw[f],.refl _,by rw[f]⟩
theorem Xi{a:List α}:a.isEmpty=decide (a.length=0):=by cases a <;> simp
theorem GW{a b:List Bt}(h:a.Perm b):qw a=qw b:=by unfold qw;rw[um h];congr 1;rw[Uy,zB,zB];exact h.nodup_iff
theorem NY{v w:Tr}(h1:w.kind=v.kind)(h2:w.text=v.text)(c:w.keys.length=v.keys.length)(e:w.items.length=v.items.length)(b:qw w.keys=qw v.keys):zn w=zn v:=by unfold zn;rw[h1,h2,b,Xi,Xi,Xi,Xi,c,e]
theorem A4(ln:Bool)(nd lv:Nat)(ps:List Bs):(we ln nd lv ps).length+(if ps=[]then 0 else 1)=(ps.map λp=>p.length+(1+(jd ln nd lv).length)).sum:=by
 cases ps with
 |nil=>rfl
 |cons p ps=>
  have:∀b:List Bs,(b.flatMap λq=>44::(jd ln nd lv++q)).length=(b.map λp=>p.length+(1+(jd ln nd lv).length)).sum:=by
   intro b;induction b with
   |nil=>rfl
   |cons q b c=>rw[List.flatMap_cons,Uf,c,Uq,List.sum_cons];simp;omega
  rw[we,Uf,Uf,this,Uq,List.sum_cons,za (by simp)];omega
theorem xI{ln:Bool}{nd lv:Nat}{ps b:List Bs}(h:(ps.map VA).Perm (b.map VA)):(J5 ln nd lv ps).length=(J5 ln nd lv b).length:=by
 have e:(ps=[])↔(b=[]):=by have:=h.length_eq;rw[Um,Um]at this;rw[<-Vk,<-Vk,this]
 have h1:=A4 ln nd (lv+1) ps;have h2:=A4 ln nd (lv+1) b;have f:=RG (h.map λn=>n+(1+(jd ln nd (lv+1)).length));rw[U3,U3]at f;have f:(ps.map λp=>p.length+(1+(jd ln nd (lv+1)).length)).sum=(b.map λp=>p.length+(1+(jd ln nd (lv+1)).length)).sum:=f;unfold J5;rw[Uf,Uf];by_cases c:ps=[];rw[zA c]at h1 ⊢;rw[zA (e.1 c)]at h2 ⊢;omega;rw[za c]at h1 ⊢;rw[za (λq=>c (e.2 q))]at h2 ⊢;omega
theorem xN{α β γ:Type}(f:α->β->γ):∀(a:List α) (b:List β),List.zipWith f a b=(a.zip b).map λp=>f p.1 p.2
 |[],_=>by simp
 |_::_,[]=>by simp
 |x::a,y::b=>by rw[List.zipWith_cons_cons,Vv,Uq,xN f a b]
structure SrtG (v:Tr):Prop where
 sz:bR (zf v)=bR v
 dp:c6 (zf v)=c6 v
 okv:Zy cX (zf v)=Zy cX v
 nok:Zy zn (zf v)=Ta
 tx:∀m,dw m v->dw m (zf v)
 len:∀(ln:Bool) (N lv:Nat),(jy ln N (zf v) lv).length=(jy ln N v lv).length
theorem wC{f:Tr->Tr}:∀{l:List Tr},(∀x∈l,bR (f x)=bR x)->xn (l.map f)=xn l
 |[],_=>rfl
 |x::l,h=>by rw[Uq,xn,xn,h x Uu,wC λy b=>h y (Uo _ b)]
theorem CF{f:Tr->Tr}:∀{l:List Tr},(∀x∈l,c6 (f x)=c6 x)->Wb (l.map f)=Wb l
 |[],_=>rfl
 |x::l,h=>by rw[Uq,Wb,Wb,h x Uu,CF λy b=>h y (Uo _ b)]
theorem vl:∀(n:Nat) (v:Tr),bR v<=n->Zy zn v=Ta->SrtG v
 |0,v,h,_=>by have:=Zf v;omega
 |n+1,v,hz,hok=>by
  rw[yp,Ui,yz,Us]at hok;obtain⟨l,e⟩:=hok;have S:=pD l;have c:∀x∈v.items,SrtG x:=λx b=>vl n x (by have:=qi b;omega) (e x b);have i:zn (zf v)=zn v:=NY S.k S.t S.kp.length_eq (by rw[S.ip.length_eq,Um]) (GW S.kp);refine⟨?_,?_,?_,?_,λm h=>?_,λln N lv=>?_⟩;rw[q9,q9 v,OJ S.ip,wC λx b=>(c x b).sz];rw[gZ,gZ v,He S.ip,CF λx b=>(c x b).dp];rw[yp,yp _ v,yz,yz,um S.ip,YO];have r:cX (zf v)=cX v:=by unfold cX;rw[i,S.k]
  rw[r];congr 1;rw[Uy,Us,Us];exact⟨λa x b=>by rw[<-(c x b).okv];exact a x b,λa x b=>by show Zy cX (zf x)=Ta;rw[(c x b).okv];exact a x b⟩;rw[yp,i,l,Vo,yz,um S.ip,YO,Us];exact λx b=>(c x b).nok;rw[i6]at h ⊢;obtain⟨⟨h1,h2,q⟩,s⟩:=h;refine⟨⟨by rw[S.t];exact h1,by rw[S.kp.length_eq];exact h2,λk e=>q k (S.kp.mem_iff.1 e)⟩,oO.2 λx b=>?_⟩;obtain⟨y,f,rfl⟩:=US.1 (S.ip.mem_iff.1 b);exact(c y f).tx m (oO.1 s y f);rw[xo,xo (v:=v),S.k,S.t];split;rfl;split;rfl;split;simp only[Uf,Uk];congr 2;refine xI ?_;rw[U3,U3];have h1:=S.ip.map λx=>(jy ln N x (lv+1)).length;rw[U3]at h1;refine h1.trans ?_;have:v.items.map ((λx=>(jy ln N x (lv+1)).length) ∘ zf)=v.items.map (VA ∘ λx=>jy ln N x (lv+1)):=WN λx b=>(c x b).len ln N (lv+1);rw[this];split;simp only[Uf,Uk];congr 2;refine xI ?_;have conv:∀(ks:List Bt) (xs:List Tr),(List.zipWith (du ln) ks (xs.map λx=>jy ln N x (lv+1))).map VA=(ks.zip xs).map λp=>(du ln p.1 (jy ln N p.2 (lv+1))).length:=by intro ks xs;rw[xN,List.zip_map_right,U3,U3];rfl
  rw[conv,conv];have h1:=S.zp.map λp=>(du ln p.1 (jy ln N p.2 (lv+1))).length;refine h1.trans ?_;rw[List.zip_map_right,U3];have:(v.keys.zip v.items).map ((λp=>(du ln p.1 (jy ln N p.2 (lv+1))).length) ∘ Prod.map id zf)=(v.keys.zip v.items).map λp=>(du ln p.1 (jy ln N p.2 (lv+1))).length:=WN λp o=>by have:=(c p.2 (List.of_mem_zip o).2).len ln N (lv+1);show(du ln p.1 (jy ln N (zf p.2) (lv+1))).length=_;unfold du;simp only[Uf,Uk,this]
  rw[this];rfl
theorem Cs(h:Zg v=Ta):zz (zf v)=zz v:=by unfold Zg at h;rw[Ui]at h;have S:=vl (bR v) v (Uc _) h.2;have e:∀w:Tr,zz w=(wm w&&Zy cX w):=λw=>rfl;rw[e,e,S.okv];unfold wm;rw[S.sz,S.dp]
theorem J7(h:zz v=Ta):Zg v=Ta:=by have e:zz v=(wm v&&Zy cX v):=rfl;rw[e,Ui]at h;unfold Zg;rw[h.1,Vo];exact lT (λx b=>by unfold cX at b;rw[Ui]at b;exact b.2) v h.2
theorem sn(h:Sm v):Sm (ja v):=by unfold ja;by_cases b:Zg v=Ta;rw[zA b];unfold Zg at b;rw[Ui]at b;have S:=vl (bR v) v (Uc _) b.2;exact⟨by rw[S.sz];exact h.sz,S.tx _ h.tx⟩;rw[za b];exact⟨by decide,by rw[i6];exact⟨⟨by decide,by decide,by decide⟩,trivial⟩⟩
theorem zM:zz (ja v)=zz v:=by
 unfold ja;by_cases b:Zg v=Ta;rw[zA b];exact Cs b;rw[za b];cases hr:zz v with
 |true=>exact absurd (J7 hr) b
 |false=>rfl
end
end
section
open Go.RowKit
set_option maxRecDepth 100000 in
section
theorem FN{gl:Fr}(P:GL gl){v:Tr}(I:Sm v){R:Tr->Prop}(n:R (ja v)):PC Tp gl 56 [Arg.mk .tree v] [.tree] R:=by
 intro h M vs N ag ha
 match vs,ha with
 |[u],⟨A,_⟩=>
  have A:RdV M .tree v u:=A;have x:=A;obtain⟨sk,si,rfl,rk,ri⟩:=qq A;apply PX.of;apply N1 v.kind v.text sk si;intro h1;obtain⟨J,z1,B1⟩:=jf (g:=h1) rfl;clear_value h1;intro h2;obtain⟨k2,z2,Q⟩:=jf (g:=h2) rfl;clear_value h2;have F:=B1.ofKeep k2;have D:Keep h.size h h2:=J.trans k2 (by omega);have H:Later h M h2 M:=Later.same ag D;refine⟨v.kind,v.text,sk,si,F.ld (cs:=[_,_,aK sk,aK si]),?_⟩;refine(tU P I (R:=λr=>r=Zg v) rfl).go (vs:=[.agg #[.int .i64 v.kind,.string v.text,aK sk,aK si]]) N H.ag (zq x zy) λw V C r m o Y=>?_;subst Y;have z8:=m.keep.size;have G:=Q.keep (m.keep.get h1.size (by omega));have B8:=F.keep (m.keep.get h.size (by omega));have E:C h1.size=Te:=by rw[m.old _ (by omega)];exact ag.none (by omega)
  have y:=H.trans m;have stay:∀{g g':zb} {M':Fr},Later h M g M'->M' h1.size=Te->(∀j,j≠h1.size->g'[j]?=g[j]?)->g'.size=g.size->Later h M g' M':=λ {g g' M'} L hn f z=>⟨⟨by have:=L.keep.size;omega,λj hj=>by rw[f j (by omega)];exact L.keep.get j hj⟩,L.le,L.old,λc cs e=>by rw[f c (λh=>by subst h;rw[hn]at e;cases e)];exact L.ag c cs e⟩;refine⟨_,dt o,λb=>?_,λb=>?_⟩;have b:Zg v=Tc:=by simpa using b
  unfold ja at n;rw[za (by rw[b];simp)]at n;refine yq (k:=0) (s:=⟨#[]⟩) (sk:=⟨Te,0,0⟩) (si:=⟨Te,0,0⟩) G λg f z B=>⟨_,_,_,_,B.ld (cs:=[.int .i64 0,.string ⟨#[]⟩,aK ⟨Te,0,0⟩,aK ⟨Te,0,0⟩]),?_⟩;exact⟨C,_,stay y E f z,Yk.2 (zr (v:=.mk 0 (bl []) [] []) Xg Xg),n⟩;have b:Zg v=Ta:=by simpa using b
  unfold ja at n;rw[zA b]at n;unfold Zg wm at b;simp only[Ui,zB]at b;refine⟨v.kind,v.text,sk,si,B8.ld (cs:=[_,_,aK sk,aK si]),?_⟩;refine(yS (bR v) v (by omega) (Uc _) b.2 I V C _ m.ag (RdV.mono m.le x)).go λw U p q i l S=>?_;subst S;obtain⟨xk,xi,rfl,O,y2⟩:=qq (Yk.1 l);have Z:=i.keep.size;refine⟨_,_,xk,xi,rfl,?_⟩;refine yq (G.keep (i.keep.get h1.size (by omega))) λg f z B=>⟨_,_,xk,xi,B.ld (cs:=[_,_,aK xk,aK xi]),?_⟩;have t:p h1.size=Te:=by rw[i.old _ (by omega)];exact E
  exact⟨p,_,stay (y.trans i) t f z,Yk.2 (zr O y2),n⟩
end
end
section
open Go.Lib
variable {l:List Tr} {m:Nat}
def eS(k:Bt):Bt:=bl (107::(dv (lb k)).1)
def dI(v:Tr):Bt:=if v.kind=5 then bl [91]else if v.kind=6 then bl [123]else bl (jy Tc 0 v 0)
mutual
def Qh:Tr->Nat->List (Bt×Int)
 |.mk k s ks xs,n=>(if k=6 then Ja xs ks n else if k=5 then c9 xs n else [])++[(dI (.mk k s ks xs),(n:Int))]
def c9:List Tr->Nat->List (Bt×Int)
 |[],_=>[]
 |x::l,n=>Qh x n++c9 l (n+(Qh x n).length)
def Ja:List Tr->List Bt->Nat->List (Bt×Int)
 |[],_,_=>[]
 |x::l,ks,n=>Qh x n++((eS ks.head!,(n:Int))::Ja l ks.tail (n+(Qh x n).length+1))
end
theorem ly(v:Tr)(n:Nat):Qh v n=(if v.kind=6 then Ja v.items v.keys n else if v.kind=5 then c9 v.items n else [])++[(dI v,(n:Int))]:=by cases v;rw[Qh]
mutual
def wy:Tr->Nat
 |.mk k _ _ xs=>(if k=6 then cY 1 xs else if k=5 then cY 0 xs else 0)+1
def cY(d:Nat):List Tr->Nat
 |[]=>0
 |x::l=>wy x+d+cY d l
end
theorem oF(v:Tr):wy v=(if v.kind=6 then cY 1 v.items else if v.kind=5 then cY 0 v.items else 0)+1:=by cases v;rw[wy]
mutual
theorem jz:∀(v:Tr) (n:Nat),(Qh v n).length=wy v
 |.mk k s ks xs,n=>by rw[Qh,wy,Uf,VH];congr 1;split;exact rN xs ks n;split;exact kU xs n;rfl
theorem kU:∀(l:List Tr) (n:Nat),(c9 l n).length=cY 0 l
 |[],_=>by rw[c9,cY];rfl
 |x::l,n=>by rw[c9,cY,Uf,jz x n,kU l];omega
theorem rN:∀(l:List Tr) (ks:List Bt) (n:Nat),(Ja l ks n).length=cY 1 l
 |[],_,_=>by rw[Ja,cY];rfl
 |x::l,ks,n=>by rw[Ja,cY,Uf,Uk,jz x n,rN l];omega
end
theorem Fo:∀(l:List Tr) (m:List Tr) (n:Nat),c9 (l++m) n=c9 l n++c9 m (n+(c9 l n).length)
 |[],m,n=>by rw[c9];rfl
 |x::l,m,n=>by rw[UF,c9,c9,Fo l m,UB,Uf];congr 3;omega
theorem s4(h:m<l.length)(n:Nat):c9 (l.take (m+1)) n=c9 (l.take m) n++Qh l[m] (n+(c9 (l.take m) n).length):=by rw[Uh h,Fo,c9,c9,UM]
theorem wY:∀(l:List Tr) (m:List Tr) (ks:List Bt) (n:Nat),Ja (l++m) ks n=Ja l ks n++Ja m (ks.drop l.length) (n+(Ja l ks n).length)
 |[],m,ks,n=>by rw[Ja];rfl
 |x::l,m,ks,n=>by rw[UF,Ja,Ja,wY l m,UB,UF,Uf,Uk,Uk,<-List.drop_tail];congr 4;omega
theorem DX{ks:List Bt}(h:m<l.length)(b:m<ks.length)(n:Nat):
  Ja (l.take (m+1)) ks n=Ja (l.take m) ks n++(Qh l[m] (n+(Ja (l.take m) ks n).length)++[(eS ks[m],((n+(Ja (l.take m) ks n).length:Nat):Int))]):=by
 rw[Uh h,wY,Ja,Ja,UQ,V9 (by omega)];congr 4;rw[UZ b];rfl
def dA(X:List (Bt×Int)):List (Bt×Int):=X.take 513
theorem oV(X:List (Bt×Int)):(dA X).length<=513:=by unfold dA;rw[UQ];omega
theorem kE{X:List (Bt×Int)}(h:X.length<=513):dA X=X:=Vi h
theorem qE(X:List (Bt×Int))(f:Nat->List (Bt×Int)):dA (dA X++f (dA X).length)=dA (X++f X.length):=by
 by_cases h:X.length<=513;rw[kE h];have b:(dA X).length=513:=by unfold dA;rw[UQ];omega
 unfold dA at b ⊢;rw[WH (Nat.le_of_eq b.symm),WH (by omega:513<=X.length),List.take_take];rfl
theorem x5{X:List (Bt×Int)}(h:X.length<=513)(p:Bt×Int):(if X.length<=512 then X++[p]else X)=dA (X++[p]):=by
 split;rename_i b;rw[kE (by simp;omega)];rename_i b;have:X.length=513:=by omega
 unfold dA;rw[WH (by omega),Vi h]
end
section
section
def vJ(P:Program)(t:TypeId)(n:Nat)(u:Value)(h:zb)(K:Value->zb->Prop):Prop:=
 g9 P (do let x <-Instr.buildSlice t n #[(0,u)];pure (XQ x)) h λnx h'=>match nx with
  |.value v=>K v h'
  |.skip=>K undef h'
  |_=>False
end
section
theorem LI(h:zb)(R:Value->zb->Prop) (H:let b:=h.push (.cells #[.string (⟨#[98]⟩:Bt),.string (⟨#[97]⟩:Bt)] 9);XC Tp 51 #[iV 1] b (λc d=>∃e f g i,c=tA e f g i/\XC Tp 51 #[iV 2] d (λj k=>∃l m n o,j=tA l m n o/\let p:=k.push (.cells #[iV l,.string m,aK n,aK o] 25);XC Tp 52 #[.slice (Td ⟨k.size,0,Te⟩) 1 1] p (λq r=>∃s t u v,q=tA s t u v/\let w:=r.push (.cells #[iV e,.string f,aK g,aK i,iV s,.string t,aK u,aK v] 25);XC Tp 47 #[.slice (Td ⟨h.size,0,Te⟩) 2 2,.slice (Td ⟨r.size,0,Te⟩) 2 2] w (λx y=>∃z A B C,x=tA z A B C/\let D:=y.push (.cells tC 25);XRunU Tp (Ub 25 (.pointer (Td ⟨y.size,0,Te⟩)) (tA z A B C)) D (λE=>∃F G I J,zd E ⟨y.size,0,Te⟩ 0 (tL F G I J)/\XC Tp 14 #[tA F G I J] E (λL M=>∃N O P,L=.tuple #[.agg #[aK N,aK O],iV P]/\let Q:=M.push (.cells #[.slice Te 0 0,.slice Te 0 0] 31);XRunU Tp (Ub 31 (.pointer (Td ⟨M.size,0,Te⟩)) (.agg #[aK N,aK O])) Q (λS=>let T:=S.push (.cells #[.string (⟨#[50]⟩:Bt),.string (⟨#[91]⟩:Bt),.string (⟨#[107,34,97,34]⟩:Bt),.string (⟨#[49]⟩:Bt),.string (⟨#[107,34,98,34]⟩:Bt),.string (⟨#[123]⟩:Bt)] 9);let U:=T.push (.cells #[iV 0,iV 0,iV 0,iV 3,iV 3,iV 0] 3);let V:=U.push (.cells #[.slice Te 0 0,.slice Te 0 0] 31);XRunU Tp (Ub 31 (.pointer (Td ⟨U.size,0,Te⟩)) (.agg #[.slice (Td ⟨S.size,0,Te⟩) 6 6,.slice (Td ⟨T.size,0,Te⟩) 6 6])) V (λW=>∃X Y,zd W ⟨M.size,0,Te⟩ 0 [aK X,aK Y]/\XC Tp 19 #[.agg #[aK X,aK Y]] W (λZ aa=>∃ab ac ad ae af,Z=.tuple #[tA ab ac ad ae,.bool af]/\let ag:=aa.push (.cells tC 25);XRunU Tp (Ub 25 (.pointer (Td ⟨aa.size,0,Te⟩)) (tA ab ac ad ae)) ag (λah=>∃ai aj,((P==0)=Ta->zd ah ⟨M.size,0,Te⟩ 0 [aK ai,aK aj])/\∃ak al,((P==0)=Ta->zd ah ⟨U.size,0,Te⟩ 0 [aK ak,aK al])/\∃am:Value->zb->Prop,((P==0)=Ta->XC Tp 16 #[.agg #[aK ai,aK aj],.agg #[aK ak,aK al]] ah (λan ao=>∃ap,an=.bool ap/\am (.bool ap) ao))/\((P==0)=Tc->∃aq,am (.bool aq) ah)/\((P==0)=Ta->∀ar au,am ar au->∃av,ar=.bool av)/\∀aw:Bool,∀ax,am (.bool aw) ax->∃ay az aA aB,((bif (bif (P==0)then aw else Tc)then af else Tc)=Ta->zd ax ⟨y.size,0,Te⟩ 0 (tL ay az aA aB))/\∃aC aD aE aF,((bif (bif (P==0)then aw else Tc)then af else Tc)=Ta->zd ax ⟨aa.size,0,Te⟩ 0 (tL aC aD aE aF))/\∃aG:Value->zb->Prop,((bif (bif (P==0)then aw else Tc)then af else Tc)=Ta->XC Tp 46 #[tA ay az aA aB,tA aC aD aE aF] ax (λaH aI=>∃aJ,aH=.bool aJ/\aG (.bool aJ) aI))/\((bif (bif (P==0)then aw else Tc)then af else Tc)=Tc->∃aL,aG (.bool aL) ax)/\((bif (bif (P==0)then aw else Tc)then af else Tc)=Ta->∀aM aN,aG aM aN->∃aO,aM=.bool aO)/\∀aP:Bool,∀aQ,aG (.bool aP) aQ->∃aS aT,((bif (bif (bif (P==0)then aw else Tc)then af else Tc)then aP else Tc)=Ta->zd aQ ⟨M.size,0,Te⟩ 0 [aK aS,aK aT])/\∃aU:Value->zb->Prop,((bif (bif (bif (P==0)then aw else Tc)then af else Tc)then aP else Tc)=Ta->XC Tp 28 #[.agg #[aK aS,aK aT]] aQ (λaV aW=>∃aX,aV=aK aX/\aU (aK aX) aW))/\((bif (bif (bif (P==0)then aw else Tc)then af else Tc)then aP else Tc)=Tc->∃aY,aU (aK aY) aQ)/\((bif (bif (bif (P==0)then aw else Tc)then af else Tc)then aP else Tc)=Ta->∀aZ a0,aU aZ a0->∃a1,aZ=aK a1)/\∀a2:Sl,∀a3,aU (aK a2) a3->∃a4:Value->zb->Prop,((bif (bif (bif (P==0)then aw else Tc)then af else Tc)then aP else Tc)=Ta->let a5:=a3.push (.cells #[iV 4,iV 5] 3);a4 (.slice (Td ⟨a3.size,0,Te⟩) 2 2) a5)/\((bif (bif (bif (P==0)then aw else Tc)then af else Tc)then aP else Tc)=Tc->∃a6,a4 (aK a6) a3)/\((bif (bif (bif (P==0)then aw else Tc)then af else Tc)then aP else Tc)=Ta->∀a7 a8,a4 a7 a8->∃a9,a7=aK a9)/\∀ba:Sl,∀bb,a4 (aK ba) bb->∃bc:Value->zb->Prop,((bif (bif (bif (P==0)then aw else Tc)then af else Tc)then aP else Tc)=Ta->XC Tp 23 #[aK a2,aK ba] bb (λbd be=>∃bf,bd=.bool bf/\bc (.bool bf) be))/\((bif (bif (bif (P==0)then aw else Tc)then af else Tc)then aP else Tc)=Tc->∃bg,bc (.bool bg) bb)/\((bif (bif (bif (P==0)then aw else Tc)then af else Tc)then aP else Tc)=Ta->∀bh bi,bc bh bi->∃bj,bh=.bool bj)/\∀bk:Bool,∀bl,bc (.bool bk) bl->∃bm bn,((bif (bif (bif (bif (P==0)then aw else Tc)then af else Tc)then aP else Tc)then bk else Tc)=Ta->zd bl ⟨M.size,0,Te⟩ 0 [aK bm,aK bn])/\∃bo:Value->zb->Prop,((bif (bif (bif (bif (P==0)then aw else Tc)then af else Tc)then aP else Tc)then bk else Tc)=Ta->XC Tp 24 #[.agg #[aK bm,aK bn]] bl (λbp bq=>∃br,bp=aK br/\bo (aK br) bq))/\((bif (bif (bif (bif (P==0)then aw else Tc)then af else Tc)then aP else Tc)then bk else Tc)=Tc->∃bs,bo (aK bs) bl)/\((bif (bif (bif (bif (P==0)then aw else Tc)then af else Tc)then aP else Tc)then bk else Tc)=Ta->∀bt bu,bo bt bu->∃bv,bt=aK bv)/\∀bw:Sl,∀bx,bo (aK bw) bx->∃bz:Value->zb->Prop,((bif (bif (bif (bif (P==0)then aw else Tc)then af else Tc)then aP else Tc)then bk else Tc)=Ta->let bA:=bx.push (.cells #[iV 5] 3);bz (.slice (Td ⟨bx.size,0,Te⟩) 1 1) bA)/\((bif (bif (bif (bif (P==0)then aw else Tc)then af else Tc)then aP else Tc)then bk else Tc)=Tc->∃bB,bz (aK bB) bx)/\((bif (bif (bif (bif (P==0)then aw else Tc)then af else Tc)then aP else Tc)then bk else Tc)=Ta->∀bC bD,bz bC bD->∃bE,bC=aK bE)/\∀bF:Sl,∀bG,bz (aK bF) bG->∃bH:Value->zb->Prop,((bif (bif (bif (bif (P==0)then aw else Tc)then af else Tc)then aP else Tc)then bk else Tc)=Ta->XC Tp 23 #[aK bw,aK bF] bG (λbI bJ=>∃bL,bI=.bool bL/\bH (.bool bL) bJ))/\((bif (bif (bif (bif (P==0)then aw else Tc)then af else Tc)then aP else Tc)then bk else Tc)=Tc->∃bM,bH (.bool bM) bG)/\((bif (bif (bif (bif (P==0)then aw else Tc)then af else Tc)then aP else Tc)then bk else Tc)=Ta->∀bN bO,bH bN bO->∃bP,bN=.bool bP)/\∀bQ:Bool,∀bS,bH (.bool bQ) bS->R (.bool (bif (bif (bif (bif (bif (P==0)then aw else Tc)then af else Tc)then aP else Tc)then bk else Tc)then bQ else Tc)) bS))))))))))):
  XC Tp 11 #[] h R:=
 XF ⟨[],[],[]⟩ [.tmp 0] 54 Tryz.func11 H
theorem Lv(b:Int)(c:Bt)(d:Sl)(e:Sl)(h:zb)(R:Value->zb->Prop) (H:let f:=h.push (.cells #[iV b,.string c,aK d,aK e] 25);let g:=f.push (.cells #[.slice Te 0 0,.slice Te 0 0] 31);∃i j k l,zd g ⟨h.size,0,Te⟩ 0 (tL i j k l)/\XC Tp 49 #[tA i j k l] g (λm n=>∃o,m=.bool o/\((!o)=Ta->XRunU Tp (Ub 31 (.pointer (Td ⟨f.size,0,Te⟩)) (.agg #[.slice Te 0 0,.slice Te 0 0])) n (λp=>∃q r,zd p ⟨f.size,0,Te⟩ 0 [aK q,aK r]/\R (.tuple #[.agg #[aK q,aK r],iV 1]) p))/\((!o)=Tc->let s:=n.push (.cells #[.slice Te 0 0,.slice Te 0 0] 69);∃t u v w,zd s ⟨h.size,0,Te⟩ 0 (tL t u v w)/\XC Tp 56 #[tA t u v w] s (λx y=>∃z A B C,x=tA z A B C/\XC Tp 55 #[.pointer (Td ⟨n.size,0,Te⟩),tA z A B C] y (λD E=>D=.tuple #[]/\∃F,zc E (Ua (Ua ⟨n.size,0,Te⟩ 0) 0)=Td (aK F)/\(decide ((F.len:Int)>512)=Ta->XRunU Tp (Ub 31 (.pointer (Td ⟨f.size,0,Te⟩)) (.agg #[.slice Te 0 0,.slice Te 0 0])) E (λG=>∃I J,zd G ⟨f.size,0,Te⟩ 0 [aK I,aK J]/\R (.tuple #[.agg #[aK I,aK J],iV 6]) G))/\(decide ((F.len:Int)>512)=Tc->∃L M,zd E (Ua ⟨n.size,0,Te⟩ 0) 0 [aK L,aK M]/\XRunU Tp (Ub 31 (.pointer (Td ⟨f.size,0,Te⟩)) (.agg #[aK L,aK M])) E (λN=>∃O P,zd N ⟨f.size,0,Te⟩ 0 [aK O,aK P]/\R (.tuple #[.agg #[aK O,aK P],iV 0]) N))))))):
  XC Tp 14 #[.agg #[.int .i64 b,.string c,.slice d.a d.len d.cap,.slice e.a e.len e.cap]] h R:=
 XF ⟨[],[],[]⟩ [.cell 2 31,.tmp 3] 20 Tryz.func14 H
theorem Ma(b:Sl)(c:Sl)(h:zb)(R:Value->zb->Prop) (H:let d:=h.push (.cells #[aK b,aK c] 31);let e:=d.push (.cells tC 25);∃f g,zd e ⟨h.size,0,Te⟩ 0 [aK f,aK g]/\XC Tp 60 #[.agg #[aK f,aK g]] e (λi j=>∃k l,i=.tuple #[aK k,.bool l]/\∃m,((!(bif (!l)then Ta else((k.len:Int)==0)))=Ta->zc j (Ua ⟨h.size,0,Te⟩ 1)=Td (aK m))/\∃n,((!(bif (!l)then Ta else((k.len:Int)==0)))=Ta->(m.a=Td n/\0<=(hZ ((k.len:Int)-1))/\(hZ ((k.len:Int)-1))<(m.len:Int)))/\∃o,((!(bif (!l)then Ta else((k.len:Int)==0)))=Ta->zc j (n.add ((hZ ((k.len:Int)-1)).toNat*1))=Td (iV o))/\((bif (bif (!l)then Ta else((k.len:Int)==0))then Ta else(o != 0))=Ta->XRunU Tp (Ub 25 (.pointer (Td ⟨d.size,0,Te⟩)) (tZ)) j (λp=>∃q r s t,zd p ⟨d.size,0,Te⟩ 0 (tL q r s t)/\R (.tuple #[tA q r s t,.bool Tc]) p))/\((bif (bif (!l)then Ta else((k.len:Int)==0))then Ta else(o != 0))=Tc->∃u v,zd j ⟨h.size,0,Te⟩ 0 [aK u,aK v]/\XRun Tp (Instr.makeSlice 74 (iV (k.len:Int)) (iV (k.len:Int))) j (λw x=>∃y,w=aK y/\g7 x j ⟨h.size,0,Te⟩/\let z:=x.push (.cells #[aK u,aK v,aK y] 76);∃(A:Int->zb->Prop) (B:Int->zb->Nat),A 0 z/\∀C:Int,∀D:zb,A C D->((decide (C<k.len)=Ta->∃E,(k.a=Td E/\0<=C/\C<k.len)/\∃F,zc D (E.add (C.toNat*1))=Td (iV F)/\(decide (F>=0)=Ta->∃G:Addr,Td ⟨x.size,0,Te⟩=Td G/\∃I,zc D (Ua G 2)=Td (aK I)/\∃J:Addr,Td ⟨x.size,0,Te⟩=Td J/\∃L,zc D (Ua J 2)=Td (aK L)/\∃M,(L.a=Td M/\0<=F/\F<L.len)/\∃N,zc D (M.add (F.toNat*1))=Td (aK N)/\let O:=D.push (.cells #[iV C] 3);g7 O D ((M.add (F.toNat*1)))/\g7 O D (Ua J 2)/\g7 O D (Ua G 2)/\XRun Tp (Ug #[29,29] 29 #[aK N,.slice (Td ⟨D.size,0,Te⟩) 1 1]) O (λP Q=>∃S,P=aK S/\∃T,(I.a=Td T/\0<=F/\F<I.len)/\g7 Q D (Ua G 2)/\XRunU Tp (Ub 29 (.pointer (Td (T.add (F.toNat*1)))) (aK S)) Q (λU=>(A (hZ (C+1)) U/\B (hZ (C+1)) U<B C D))))/\(decide (F>=0)=Tc->(A (hZ (C+1)) D/\B (hZ (C+1)) D<B C D)))/\(decide (C<k.len)=Tc->XC Tp 61 #[.pointer (Td ⟨x.size,0,Te⟩),iV (hZ ((k.len:Int)-1))] D (λV W=>∃X Y Z aa ab,V=.tuple #[tA X Y Z aa,.bool ab]/\let ac:=W.push (.cells tC 25);XRunU Tp (Ub 25 (.pointer (Td ⟨W.size,0,Te⟩)) (tA X Y Z aa)) ac (λad=>∃ae af ag ah,zd ad ⟨W.size,0,Te⟩ 0 (tL ae af ag ah)/\XC Tp 14 #[tA ae af ag ah] ad (λai aj=>∃ak al am,ai=.tuple #[.agg #[aK ak,aK al],iV am]/\let an:=aj.push (.cells #[.slice Te 0 0,.slice Te 0 0] 31);XRunU Tp (Ub 31 (.pointer (Td ⟨aj.size,0,Te⟩)) (.agg #[aK ak,aK al])) an (λao=>∃ap aq,((!(bif (!ab)then Ta else(am != 0)))=Ta->zd ao ⟨aj.size,0,Te⟩ 0 [aK ap,aK aq])/\∃ar au,((!(bif (!ab)then Ta else(am != 0)))=Ta->zd ao ⟨h.size,0,Te⟩ 0 [aK ar,aK au])/\∃av:Value->zb->Prop,((!(bif (!ab)then Ta else(am != 0)))=Ta->XC Tp 62 #[.agg #[aK ap,aK aq],.agg #[aK ar,aK au]] ao (λaw ax=>∃ay,aw=.bool ay/\av (.bool ay) ax))/\((!(bif (!ab)then Ta else(am != 0)))=Tc->∃az,av (.bool az) ao)/\((!(bif (!ab)then Ta else(am != 0)))=Ta->∀aA aB,av aA aB->∃aC,aA=.bool aC)/\∀aD:Bool,∀aE,av (.bool aD) aE->((bif (bif (!ab)then Ta else(am != 0))then Ta else(!aD))=Ta->XRunU Tp (Ub 25 (.pointer (Td ⟨d.size,0,Te⟩)) (tZ)) aE (λaF=>∃aG aH aI aJ,zd aF ⟨d.size,0,Te⟩ 0 (tL aG aH aI aJ)/\R (.tuple #[tA aG aH aI aJ,.bool Tc]) aF))/\((bif (bif (!ab)then Ta else(am != 0))then Ta else(!aD))=Tc->∃aL aM aN aO,zd aE ⟨W.size,0,Te⟩ 0 (tL aL aM aN aO)/\XRunU Tp (Ub 25 (.pointer (Td ⟨d.size,0,Te⟩)) (tA aL aM aN aO)) aE (λaP=>∃aQ aS aT aU,zd aP ⟨d.size,0,Te⟩ 0 (tL aQ aS aT aU)/\R (.tuple #[tA aQ aS aT aU,.bool Ta]) aP)))))))))))):
  XC Tp 19 #[.agg #[.slice b.a b.len b.cap,.slice c.a c.len c.cap]] h R:=
 XF ⟨[(5,8000),(10,8000)],[(7,[(44,.one (.int .i64))])],[]⟩ [.cell 2 25,.tmp 3] 94 Tryz.func19 H
theorem OI(b:Sl)(c:Sl)(h:zb)(R:Value->zb->Prop) (H:let d:=h.push (.cells #[aK b,aK c] 31);∃e f,zd d ⟨h.size,0,Te⟩ 0 [aK e,aK f]/\XC Tp 21 #[.agg #[aK e,aK f]] d (λg i=>∃j,g=.bool j/\((!j)=Ta->R (.slice Te 0 0) i)/\((!j)=Tc->let k:=i.push (.map #[] 0);∃l,zc k (Ua ⟨h.size,0,Te⟩ 1)=Td (aK l)/\∃(m:Int->zb->Prop) (n:Int->zb->Nat),m 0 k/\∀o:Int,∀p:zb,m o p->((decide (o<l.len)=Ta->∃q,(l.a=Td q/\0<=o/\o<l.len)/\∃r,zc p (q.add (o.toNat*1))=Td (iV r)/\XRunU Tp (VC 79 (.map (Td i.size)) (iV r) (iV o)) p (λs=>(m (hZ (o+1)) s/\n (hZ (o+1)) s<n o p)))/\(decide (o<l.len)=Tc->XRun Tp (YE 79 (.map (Td i.size))) p (λt u=>∃v:Option Addr,t=.pointer v/\∃(w:Sl->zb->Prop) (x:Sl->zb->Nat),w (⟨Te,0,0⟩:Sl) u/\∀y:Sl,∀z:zb,w y z->(XRun Tp (WS (.pointer v) Tc 0) z (λA B=>(A=.tuple #[.bool Tc]/\(Tc=Ta->XRun Tp (XS (.pointer v)) B (λC D=>∃E F:Value,C=.tuple #[E,F]/\vJ Tp 29 1 F D (λG I=>XRun Tp (Ug #[29,29] 29 #[aK y,G]) I (λJ L=>∃M,J=aK M/\(w M L/\x M L<x y z)))))/\(Tc=Tc->XC Tp 64 #[aK y] B (λN O=>N=.tuple #[]/\R (aK y) O)))\/∃P Q:Value,A=.tuple #[.bool Ta,P,Q]/\(Ta=Ta->XRun Tp (XS (.pointer v)) B (λS T=>∃U V:Value,S=.tuple #[U,V]/\vJ Tp 29 1 V T (λW X=>XRun Tp (Ug #[29,29] 29 #[aK y,W]) X (λY Z=>∃aa,Y=aK aa/\(w aa Z/\x aa Z<x y z)))))/\(Ta=Tc->XC Tp 64 #[aK y] B (λab ac=>ab=.tuple #[]/\R (aK y) ac)))))))))):
  XC Tp 28 #[.agg #[.slice b.a b.len b.cap,.slice c.a c.len c.cap]] h R:=
 XF ⟨[],[(5,[(16,.one (.int .i64))]),(11,[(6,.one (.sl))])],[]⟩ [.tmp 2] 38 Tryz.func28 H
theorem SR(b0:Option Addr)(b:Int)(c:Bt)(d:Sl)(e:Sl)(h:zb)(R:Value->zb->Prop) (H:let f:=h.push (.cells #[.pointer b0] 112);let g:=f.push (.cells #[iV b,.string c,aK d,aK e] 25);∃i,zc g (Ua ⟨f.size,0,Te⟩ 0)=Td (iV i)/\((i==5)=Ta->∃j:Option Addr,zc g ⟨h.size,0,Te⟩=Td (.pointer j)/\XC Tp 94 #[.pointer j,.string (⟨#[91]⟩:Bt),.func (.func 95) #[] #[.pointer (Td ⟨f.size,0,Te⟩),.pointer (Td ⟨h.size,0,Te⟩)]] g (λk l=>k=.tuple #[]/\R (.tuple #[]) l))/\((i==5)=Tc->((i==6)=Ta->∃m:Option Addr,zc g ⟨h.size,0,Te⟩=Td (.pointer m)/\XC Tp 94 #[.pointer m,.string (⟨#[123]⟩:Bt),.func (.func 96) #[] #[.pointer (Td ⟨f.size,0,Te⟩),.pointer (Td ⟨h.size,0,Te⟩)]] g (λn o=>n=.tuple #[]/\R (.tuple #[]) o))/\((i==6)=Tc->∃p:Option Addr,zc g ⟨h.size,0,Te⟩=Td (.pointer p)/\∃q r s t,zd g ⟨f.size,0,Te⟩ 0 (tL q r s t)/\XC Tp 97 #[tA q r s t] g (λu v=>∃w,u=.string w/\g7 v g ⟨h.size,0,Te⟩/\XC Tp 94 #[.pointer p,.string w,.func (.func 100) #[] #[]] v (λx y=>x=.tuple #[]/\R (.tuple #[]) y))))):
  XC Tp 55 #[.pointer b0,.agg #[.int .i64 b,.string c,.slice d.a d.len d.cap,.slice e.a e.len e.cap]] h R:=
 XF ⟨[(2,8000)],[],[]⟩ [] 20 Tryz.func55 H
theorem IE(b:Sl)(c:Sl)(d:Int)(e:Bt)(f:Sl)(g:Sl)(h:zb)(R:Value->zb->Prop) (H:let i:=h.push (.cells #[aK b,aK c] 31);let j:=i.push (.cells #[iV d,.string e,aK f,aK g] 25);let k:=j.push (.cells #[.slice Te 0 0,.slice Te 0 0] 31);∃l,zc k (Ua ⟨h.size,0,Te⟩ 0)=Td (aK l)/\∀m:Bt->zb->Prop,(∀n:Bt,∀o:zb,(∀p:Bt->zb->Prop,(∀q:Bt,∀r:zb,(∃(s:Int->zb->Prop) (t:Int->zb->Nat),s 0 r/\∀u:Int,∀v:zb,s u v->(∃w,zc v (Ua ⟨i.size,0,Te⟩ 3)=Td (aK w)/\(decide (u<w.len)=Ta->∃x,zc v (Ua ⟨h.size,0,Te⟩ 0)=Td (aK x)/\∃y z,zd v ⟨h.size,0,Te⟩ 0 [aK y,aK z]/\∃A,zc v (Ua ⟨i.size,0,Te⟩ 3)=Td (aK A)/\∃B,(A.a=Td B/\0<=u/\u<A.len)/\∃C D E F,zd v (B.add (u.toNat*4)) 0 (tL C D E F)/\XC Tp 58 #[.agg #[aK y,aK z],tA C D E F] v (λG I=>∃J L,G=.agg #[aK J,aK L]/\XRunU Tp (Ub 31 (.pointer (Td ⟨h.size,0,Te⟩)) (.agg #[aK J,aK L])) I (λM=>∃N,zc M (Ua ⟨i.size,0,Te⟩ 0)=Td (iV N)/\((N==6)=Ta->∃O,zc M (Ua ⟨i.size,0,Te⟩ 2)=Td (aK O)/\∃P,(O.a=Td P/\0<=u/\u<O.len)/\∃Q,zc M (P.add (u.toNat*1))=Td (.string Q)/\XC Tp 105 #[.string Q] M (λS T=>∃U V W X,S=tA U V W X/\XC Tp 73 #[tA U V W X] T (λY Z=>∃aa ab,Y=.tuple #[.string aa,iV ab]/\∃ac,zc Z (Ua ⟨h.size,0,Te⟩ 0)=Td (aK ac)/\zw (((⟨#[107]⟩:Bt)).size+aa.size)/\let ad:=Z.push (.cells #[.string ((⟨#[107]⟩:Bt)++aa)] 9);XRun Tp (Ug #[22,22] 22 #[aK ac,.slice (Td ⟨Z.size,0,Te⟩) 1 1]) ad (λae af=>∃ag,ae=aK ag/\XRunU Tp (Ub 22 (.pointer (Td (Ua ⟨h.size,0,Te⟩ 0))) (aK ag)) af (λah=>∃ai,zc ah (Ua ⟨h.size,0,Te⟩ 1)=Td (aK ai)/\let aj:=ah.push (.cells #[iV (x.len:Int)] 3);XRun Tp (Ug #[29,29] 29 #[aK ai,.slice (Td ⟨ah.size,0,Te⟩) 1 1]) aj (λak al=>∃am,ak=aK am/\XRunU Tp (Ub 29 (.pointer (Td (Ua ⟨h.size,0,Te⟩ 1))) (aK am)) al (λan=>(s (hZ (u+1)) an/\t (hZ (u+1)) an<t u v))))))))/\((N==6)=Tc->(s (hZ (u+1)) M/\t (hZ (u+1)) M<t u v)))))/\(decide (u<w.len)=Tc->∃ao,zc v (Ua ⟨h.size,0,Te⟩ 0)=Td (aK ao)/\let ap:=v.push (.cells #[.string q] 9);XRun Tp (Ug #[22,22] 22 #[aK ao,.slice (Td ⟨v.size,0,Te⟩) 1 1]) ap (λaq ar=>∃au,aq=aK au/\XRunU Tp (Ub 22 (.pointer (Td (Ua ⟨h.size,0,Te⟩ 0))) (aK au)) ar (λav=>∃aw,zc av (Ua ⟨h.size,0,Te⟩ 1)=Td (aK aw)/\let ax:=av.push (.cells #[iV (l.len:Int)] 3);XRun Tp (Ug #[29,29] 29 #[aK aw,.slice (Td ⟨av.size,0,Te⟩) 1 1]) ax (λay az=>∃aA,ay=aK aA/\XRunU Tp (Ub 29 (.pointer (Td (Ua ⟨h.size,0,Te⟩ 1))) (aK aA)) az (λaB=>∃aC aD,zd aB ⟨h.size,0,Te⟩ 0 [aK aC,aK aD]/\XRunU Tp (Ub 31 (.pointer (Td ⟨j.size,0,Te⟩)) (.agg #[aK aC,aK aD])) aB (λaE=>∃aF aG,zd aE ⟨j.size,0,Te⟩ 0 [aK aF,aK aG]/\R (.agg #[aK aF,aK aG]) aE))))))))->p q r)->∃aH,zc o (Ua ⟨i.size,0,Te⟩ 0)=Td (iV aH)/\∃aI,((aH != 5)=Ta->zc o (Ua ⟨i.size,0,Te⟩ 0)=Td (iV aI))/\((bif (aH != 5)then(aI != 6)else Tc)=Ta->∃aJ aL aM aN,zd o ⟨i.size,0,Te⟩ 0 (tL aJ aL aM aN)/\XC Tp 73 #[tA aJ aL aM aN] o (λaO aP=>∃aQ aS,aO=.tuple #[.string aQ,iV aS]/\p aQ aP))/\((bif (aH != 5)then(aI != 6)else Tc)=Tc->p n o))->m n o)->∃aT,zc k (Ua ⟨i.size,0,Te⟩ 0)=Td (iV aT)/\((aT==6)=Ta->m (⟨#[123]⟩:Bt) k)/\((aT==6)=Tc->m (⟨#[91]⟩:Bt) k)):
  XC Tp 58 #[.agg #[.slice b.a b.len b.cap,.slice c.a c.len c.cap],.agg #[.int .i64 d,.string e,.slice f.a f.len f.cap,.slice g.a g.len g.cap]] h R:=
 XF ⟨[(11,8000)],[(8,[(7,.one (.int .i64))])],[(5,[(6,.one (.str))]),(7,[(6,.one (.str))])]⟩ [.cell 4 31] 86 Tryz.func58 H
theorem JS(b:Sl)(c:Sl)(h:zb)(R:Value->zb->Prop) (H:let d:=h.push (.cells #[aK b,aK c] 31);∃e,zc d (Ua ⟨h.size,0,Te⟩ 0)=Td (aK e)/\∃f,zc d (Ua ⟨h.size,0,Te⟩ 1)=Td (aK f)/\∃g,((!((e.len:Int) != (f.len:Int)))=Ta->zc d (Ua ⟨h.size,0,Te⟩ 0)=Td (aK g))/\((bif ((e.len:Int) != (f.len:Int))then Ta else(decide ((g.len:Int)>512)))=Ta->R (.tuple #[.slice Te 0 0,.bool Tc]) d)/\((bif ((e.len:Int) != (f.len:Int))then Ta else(decide ((g.len:Int)>512)))=Tc->∃i,zc d (Ua ⟨h.size,0,Te⟩ 1)=Td (aK i)/\XRun Tp (Instr.makeSlice 29 (iV (i.len:Int)) (iV (i.len:Int))) d (λj k=>∃l,j=aK l/\∃m,zc k (Ua ⟨h.size,0,Te⟩ 1)=Td (aK m)/\∃(n:Sl->Int->zb->Prop) (o:Sl->Int->zb->Nat),n (⟨Te,0,0⟩:Sl) 0 k/\∀p:Sl,∀q:Int,∀r:zb,n p q r->((decide (q<m.len)=Ta->∃s,(m.a=Td s/\0<=q/\q<m.len)/\∃t,zc r (s.add (q.toNat*1))=Td (iV t)/\((bif (decide (t<0))then Ta else(decide (t>q)))=Ta->R (.tuple #[.slice Te 0 0,.bool Tc]) r)/\((bif (decide (t<0))then Ta else(decide (t>q)))=Tc->∃(u:Sl->zb->Prop) (w:Sl->zb->Nat),u p r/\∀x:Sl,∀y:zb,u x y->(∃z,(decide ((x.len:Int)>0)=Ta->(x.a=Td z/\0<=(hZ ((x.len:Int)-1))/\(hZ ((x.len:Int)-1))<(x.len:Int)))/\∃A,(decide ((x.len:Int)>0)=Ta->zc y (z.add ((hZ ((x.len:Int)-1)).toNat*1))=Td (iV A))/\((bif (decide ((x.len:Int)>0))then(decide (A>=t))else Tc)=Ta->∃B,(x.a=Td B/\0<=(hZ ((x.len:Int)-1))/\(hZ ((x.len:Int)-1))<(x.len:Int))/\∃C,zc y (B.add ((hZ ((x.len:Int)-1)).toNat*1))=Td (iV C)/\∃D,zc y (Ua ⟨h.size,0,Te⟩ 1)=Td (aK D)/\∃E,(D.a=Td E/\0<=C/\C<D.len)/\∃F,zc y (E.add (C.toNat*1))=Td (iV F)/\(decide (F<t)=Ta->R (.tuple #[.slice Te 0 0,.bool Tc]) y)/\(decide (F<t)=Tc->∃G,(l.a=Td G/\0<=C/\C<l.len)/\let I:zb->Prop:=λ(J:zb)=>((u (⟨de x.a 1 ((0:Int).toNat) ((x.cap:Int).toNat),(hZ ((x.len:Int)-1)).toNat-(0:Int).toNat,(x.cap:Int).toNat-(0:Int).toNat⟩:Sl) J/\w (⟨de x.a 1 ((0:Int).toNat) ((x.cap:Int).toNat),(hZ ((x.len:Int)-1)).toNat-(0:Int).toNat,(x.cap:Int).toNat-(0:Int).toNat⟩:Sl) J<w x y));(((Te:Option Value)=Te\/∃v,(Td (iV (hZ ((x.len:Int)-1))):Option Value)=Td v)/\(0<=(0:Int)/\(0:Int)<=(hZ ((x.len:Int)-1))/\(hZ ((x.len:Int)-1))<=(x.cap:Int)/\(x.cap:Int)<=(x.cap:Int))/\XRunU Tp (Ub 3 (.pointer (Td (G.add (C.toNat*1)))) (iV q)) y (λL=>I L))/\(XRunU Tp (Ub 3 (.pointer (Td (G.add (C.toNat*1)))) (iV q)) y (λM=>((Te:Option Value)=Te\/∃v,(Td (iV (hZ ((x.len:Int)-1))):Option Value)=Td v)/\(0<=(0:Int)/\(0:Int)<=(hZ ((x.len:Int)-1))/\(hZ ((x.len:Int)-1))<=(x.cap:Int)/\(x.cap:Int)<=(x.cap:Int))/\I M))))/\((bif (decide ((x.len:Int)>0))then(decide (A>=t))else Tc)=Tc->∃N,(l.a=Td N/\0<=q/\q<l.len)/\XRunU Tp (Ub 3 (.pointer (Td (N.add (q.toNat*1)))) (iV (-1))) y (λO=>let P:=O.push (.cells #[iV q] 3);XRun Tp (Ug #[29,29] 29 #[aK x,.slice (Td ⟨O.size,0,Te⟩) 1 1]) P (λQ S=>∃T,Q=aK T/\(n T (hZ (q+1)) S/\o T (hZ (q+1)) S<o p q r)))))))/\(decide (q<m.len)=Tc->R (.tuple #[aK l,.bool Ta]) r))))):
  XC Tp 60 #[.agg #[.slice b.a b.len b.cap,.slice c.a c.len c.cap]] h R:=
 XF ⟨[(14,8000)],[(6,[(5,.one (.sl)),(29,.one (.int .i64))]),(10,[(5,.one (.sl))])],[]⟩ [.tmp 2,.tmp 3] 85 Tryz.func60 H
theorem PI(r0:Option Addr)(n1:Int)(h:zb)(R:Value->zb->Prop) (H:let b:=h.push (.cells tC 25);∃c,r0=Td c/\∃d,zc b (Ua (Ua c 0) 0)=Td (aK d)/\∃e,(d.a=Td e/\0<=n1/\n1<d.len)/\∃f,zc b (e.add (n1.toNat*1))=Td (.string f)/\((f.toList==(⟨#[91]⟩:Bt).toList)=Ta->XRunU Tp (Ub 3 (.pointer (Td (Ua ⟨h.size,0,Te⟩ 0))) (iV 5)) b (λg=>∃i,r0=Td i/\∃j,zc g (Ua i 2)=Td (aK j)/\∃k,(j.a=Td k/\0<=n1/\n1<j.len)/\∃l,zc g (k.add (n1.toNat*1))=Td (aK l)/\∃(m:Int->zb->Prop) (n:Int->zb->Nat),m 0 g/\∀o:Int,∀p:zb,m o p->((decide (o<l.len)=Ta->∃q,(l.a=Td q/\0<=o/\o<l.len)/\∃r,zc p (q.add (o.toNat*1))=Td (iV r)/\XC Tp 61 #[.pointer r0,iV r] p (λs t=>∃u v w x y,s=.tuple #[tA u v w x,.bool y]/\let z:=t.push (.cells tC 25);XRunU Tp (Ub 25 (.pointer (Td ⟨t.size,0,Te⟩)) (tA u v w x)) z (λA=>((!y)=Ta->XRunU Tp (Ub 25 (.pointer (Td ⟨h.size,0,Te⟩)) (tZ)) A (λB=>∃C D E F,zd B ⟨h.size,0,Te⟩ 0 (tL C D E F)/\R (.tuple #[tA C D E F,.bool Tc]) B))/\((!y)=Tc->∃G,zc A (Ua ⟨h.size,0,Te⟩ 3)=Td (aK G)/\∃I J L M,zd A ⟨t.size,0,Te⟩ 0 (tL I J L M)/\let N:=A.push (.cells #[iV I,.string J,aK L,aK M] 25);XRun Tp (Ug #[23,23] 23 #[aK G,.slice (Td ⟨A.size,0,Te⟩) 1 1]) N (λO P=>∃Q,O=aK Q/\XRunU Tp (Ub 23 (.pointer (Td (Ua ⟨h.size,0,Te⟩ 3))) (aK Q)) P (λS=>(m (hZ (o+1)) S/\n (hZ (o+1)) S<n o p)))))))/\(decide (o<l.len)=Tc->∃T U V W,zd p ⟨h.size,0,Te⟩ 0 (tL T U V W)/\XRunU Tp (Ub 25 (.pointer (Td ⟨h.size,0,Te⟩)) (tA T U V W)) p (λX=>∃Y Z aa ab,zd X ⟨h.size,0,Te⟩ 0 (tL Y Z aa ab)/\R (.tuple #[tA Y Z aa ab,.bool Ta]) X)))))/\((f.toList==(⟨#[91]⟩:Bt).toList)=Tc->((f.toList==(⟨#[123]⟩:Bt).toList)=Ta->XRunU Tp (Ub 3 (.pointer (Td (Ua ⟨h.size,0,Te⟩ 0))) (iV 6)) b (λac=>∃ad,r0=Td ad/\∃ae,zc ac (Ua ad 2)=Td (aK ae)/\∃af,(ae.a=Td af/\0<=n1/\n1<ae.len)/\∃ag,zc ac (af.add (n1.toNat*1))=Td (aK ag)/\∃(ah:Int->zb->Prop) (ai:Int->zb->Nat),ah 0 ac/\∀aj:Int,∀ak:zb,ah aj ak->((decide (aj<ag.len)=Ta->∃al,(ag.a=Td al/\0<=aj/\aj<ag.len)/\∃am,zc ak (al.add (aj.toNat*1))=Td (iV am)/\XC Tp 108 #[.pointer r0,iV am] ak (λan ao=>∃ap aq ar au av aw,an=.tuple #[.string ap,tA aq ar au av,.bool aw]/\let ax:=ao.push (.cells tC 25);XRunU Tp (Ub 25 (.pointer (Td ⟨ao.size,0,Te⟩)) (tA aq ar au av)) ax (λay=>((!aw)=Ta->XRunU Tp (Ub 25 (.pointer (Td ⟨h.size,0,Te⟩)) (tZ)) ay (λaz=>∃aA aB aC aD,zd az ⟨h.size,0,Te⟩ 0 (tL aA aB aC aD)/\R (.tuple #[tA aA aB aC aD,.bool Tc]) az))/\((!aw)=Tc->∃aE,zc ay (Ua ⟨h.size,0,Te⟩ 2)=Td (aK aE)/\∃aF,zc ay (Ua ⟨h.size,0,Te⟩ 3)=Td (aK aF)/\∃aG aH aI aJ,zd ay ⟨ao.size,0,Te⟩ 0 (tL aG aH aI aJ)/\let aL:Sl->Sl->zb->Prop:=λ(aM:Sl) (aN:Sl) (aO:zb)=>(XRun Tp (Ug #[23,23] 23 #[aK aF,aK aM]) aO (λaP aQ=>∃aS,aP=aK aS/\XRunU Tp (Ub 22 (.pointer (Td (Ua ⟨h.size,0,Te⟩ 2))) (aK aN)) aQ (λaT=>XRunU Tp (Ub 23 (.pointer (Td (Ua ⟨h.size,0,Te⟩ 3))) (aK aS)) aT (λaU=>(ah (hZ (aj+1)) aU/\ai (hZ (aj+1)) aU<ai aj ak)))));let aV:Sl->Sl->zb->Prop:=λ(aW:Sl) (aX:Sl) (aY:zb)=>(XRun Tp (Ug #[22,22] 22 #[aK aE,aK aX]) aY (λaZ a0=>∃a1,aZ=aK a1/\g7 a0 ay (Ua ⟨h.size,0,Te⟩ 3)/\aL aW a1 a0));(let a2:=ay.push (.cells #[.string ap] 9);g7 a2 ay ⟨ao.size,0,Te⟩/\g7 a2 ay (Ua ⟨h.size,0,Te⟩ 3)/\g7 a2 ay (Ua ⟨h.size,0,Te⟩ 2)/\(XRun Tp (Ug #[22,22] 22 #[aK aE,.slice (Td ⟨ay.size,0,Te⟩) 1 1]) a2 (λa3 a4=>∃a5,a3=aK a5/\g7 a4 ay ⟨ao.size,0,Te⟩/\g7 a4 ay (Ua ⟨h.size,0,Te⟩ 3)/\let a6:=a4.push (.cells #[iV aG,.string aH,aK aI,aK aJ] 25);g7 a6 ay (Ua ⟨h.size,0,Te⟩ 3)/\aL (⟨Td ⟨a4.size,0,Te⟩,1,1⟩:Sl) a5 a6))/\(let a7:=a2.push (.cells #[iV aG,.string aH,aK aI,aK aJ] 25);g7 a7 ay (Ua ⟨h.size,0,Te⟩ 3)/\g7 a7 ay (Ua ⟨h.size,0,Te⟩ 2)/\aV (⟨Td ⟨a2.size,0,Te⟩,1,1⟩:Sl) (⟨Td ⟨ay.size,0,Te⟩,1,1⟩:Sl) a7))/\(let a8:=ay.push (.cells #[iV aG,.string aH,aK aI,aK aJ] 25);g7 a8 ay (Ua ⟨h.size,0,Te⟩ 3)/\g7 a8 ay (Ua ⟨h.size,0,Te⟩ 2)/\let a9:=a8.push (.cells #[.string ap] 9);g7 a9 ay (Ua ⟨h.size,0,Te⟩ 3)/\g7 a9 ay (Ua ⟨h.size,0,Te⟩ 2)/\aV (⟨Td ⟨ay.size,0,Te⟩,1,1⟩:Sl) (⟨Td ⟨a8.size,0,Te⟩,1,1⟩:Sl) a9)))))/\(decide (aj<ag.len)=Tc->∃ba bb bc bd,zd ak ⟨h.size,0,Te⟩ 0 (tL ba bb bc bd)/\XRunU Tp (Ub 25 (.pointer (Td ⟨h.size,0,Te⟩)) (tA ba bb bc bd)) ak (λbe=>∃bf bg bh bi,zd be ⟨h.size,0,Te⟩ 0 (tL bf bg bh bi)/\R (.tuple #[tA bf bg bh bi,.bool Ta]) be)))))/\((f.toList==(⟨#[123]⟩:Bt).toList)=Tc->∃bj,r0=Td bj/\∃bk,zc b (Ua (Ua bj 0) 0)=Td (aK bk)/\∃bl,(bk.a=Td bl/\0<=n1/\n1<bk.len)/\∃bm,zc b (bl.add (n1.toNat*1))=Td (.string bm)/\XC Tp 109 #[.string bm] b (λbn bo=>∃bp bq br bs bt,bn=.tuple #[tA bp bq br bs,.bool bt]/\XRunU Tp (Ub 25 (.pointer (Td ⟨h.size,0,Te⟩)) (tA bp bq br bs)) bo (λbu=>∃bv bw bx bz,zd bu ⟨h.size,0,Te⟩ 0 (tL bv bw bx bz)/\let bA:Bool->zb->Prop:=λbB (bC:zb)=>(∃bD bE bF bG,zd bC ⟨h.size,0,Te⟩ 0 (tL bD bE bF bG)/\R (.tuple #[tA bD bE bF bG,.bool bB]) bC);let bH:Bool->zb->Prop:=λbI (bJ:zb)=>(bA (bif bt then bI else Tc) bJ);let bL:Int->zb->Prop:=λbM (bN:zb)=>(bH (bM==0) bN);let bO:Sl->zb->Prop:=λ(bP:Sl) (bQ:zb)=>(bL (bP.len:Int) bQ);let bS:Addr->zb->Prop:=λ(bT:Addr) (bU:zb)=>(∃bV,(bt=Ta->zc bU bT=Td (aK bV))/\bO bV bU);let bW:Sl->zb->Prop:=λ(bX:Sl) (bY:zb)=>(∃bZ,(bt=Ta->(bX.a=Td bZ/\0<=n1/\n1<bX.len))/\bS (bZ.add (n1.toNat*1)) bY);let b0:Sl->zb->Prop:=λ(b1:Sl) (b2:zb)=>((∃b3,(bt=Ta->(b1.a=Td b3/\0<=n1/\n1<b1.len))/\g7 b2 bu ⟨h.size,0,Te⟩/\(∃b4,(bt=Ta->zc b2 (b3.add (n1.toNat*1))=Td (aK b4))/\g7 b2 bu ⟨h.size,0,Te⟩/\(g7 b2 bu ⟨h.size,0,Te⟩/\(g7 b2 bu ⟨h.size,0,Te⟩/\(g7 b2 bu ⟨h.size,0,Te⟩/\XRunU Tp (Ub 25 (.pointer (Td ⟨h.size,0,Te⟩)) (tA bv bw bx bz)) b2 (λb5=>bA (bif bt then((b4.len:Int)==0)else Tc) b5))/\(XRunU Tp (Ub 25 (.pointer (Td ⟨h.size,0,Te⟩)) (tA bv bw bx bz)) b2 (λb6=>bH ((b4.len:Int)==0) b6)))/\(XRunU Tp (Ub 25 (.pointer (Td ⟨h.size,0,Te⟩)) (tA bv bw bx bz)) b2 (λb7=>bL (b4.len:Int) b7)))/\(XRunU Tp (Ub 25 (.pointer (Td ⟨h.size,0,Te⟩)) (tA bv bw bx bz)) b2 (λb8=>bO b4 b8)))/\(XRunU Tp (Ub 25 (.pointer (Td ⟨h.size,0,Te⟩)) (tA bv bw bx bz)) b2 (λb9=>bS (b3.add (n1.toNat*1)) b9)))/\(XRunU Tp (Ub 25 (.pointer (Td ⟨h.size,0,Te⟩)) (tA bv bw bx bz)) b2 (λca=>bW b1 ca)));let cb:Sl->zb->Prop:=λ(cc:Sl) (cd:zb)=>(bW cc cd);let ce:Addr->zb->Prop:=λ(cf:Addr) (cg:zb)=>(∃ch,(bt=Ta->zc cg cf=Td (aK ch))/\bW ch cg);let ci:Addr->zb->Prop:=λ(cj:Addr) (ck:zb)=>((∃cl,(bt=Ta->zc ck cj=Td (aK cl))/\g7 ck bu ⟨h.size,0,Te⟩/\b0 cl ck)/\(XRunU Tp (Ub 25 (.pointer (Td ⟨h.size,0,Te⟩)) (tA bv bw bx bz)) ck (λcm=>ce cj cm)));let cn:Addr->zb->Prop:=λ(co:Addr) (cp:zb)=>((∃cq,(bt=Ta->zc cp co=Td (aK cq))/\cb cq cp)/\(ce co cp));let cr:Addr->zb->Prop:=λ(cs:Addr) (ct:zb)=>(ce (Ua cs 2) ct);let cu:Addr->zb->Prop:=λ(cv:Addr) (cw:zb)=>((g7 cw bu ⟨h.size,0,Te⟩/\ci (Ua cv 2) cw)/\(XRunU Tp (Ub 25 (.pointer (Td ⟨h.size,0,Te⟩)) (tA bv bw bx bz)) cw (λcx=>cr cv cx)));let cy:Addr->zb->Prop:=λ(cz:Addr) (cA:zb)=>((cn (Ua cz 2) cA)/\(cr cz cA));let cB:zb->Prop:=λ(cC:zb)=>(∃cD,(bt=Ta->r0=Td cD)/\cr cD cC);let cE:zb->Prop:=λ(cF:zb)=>((∃cG,(bt=Ta->r0=Td cG)/\g7 cF bu ⟨h.size,0,Te⟩/\cu cG cF)/\(XRunU Tp (Ub 25 (.pointer (Td ⟨h.size,0,Te⟩)) (tA bv bw bx bz)) cF (λcH=>cB cH)));let cI:zb->Prop:=λ(cJ:zb)=>((∃cL,(bt=Ta->r0=Td cL)/\cy cL cJ)/\(cB cJ));let cM:zb->Prop:=λ(cN:zb)=>(cB cN);(g7 bu bu ⟨h.size,0,Te⟩/\(∃cO,(bt=Ta->r0=Td cO)/\g7 bu bu ⟨h.size,0,Te⟩/\(g7 bu bu ⟨h.size,0,Te⟩/\(∃cP,(bt=Ta->zc bu (Ua cO 2)=Td (aK cP))/\g7 bu bu ⟨h.size,0,Te⟩/\(g7 bu bu ⟨h.size,0,Te⟩/\b0 cP bu)/\(XRunU Tp (Ub 25 (.pointer (Td ⟨h.size,0,Te⟩)) (tA bv bw bx bz)) bu (λcQ=>cb cP cQ)))/\(g7 bu bu ⟨h.size,0,Te⟩/\ci (Ua cO 2) bu)/\(XRunU Tp (Ub 25 (.pointer (Td ⟨h.size,0,Te⟩)) (tA bv bw bx bz)) bu (λcS=>cn (Ua cO 2) cS)))/\(g7 bu bu ⟨h.size,0,Te⟩/\cu cO bu)/\(XRunU Tp (Ub 25 (.pointer (Td ⟨h.size,0,Te⟩)) (tA bv bw bx bz)) bu (λcT=>cy cO cT)))/\(g7 bu bu ⟨h.size,0,Te⟩/\cE bu)/\(XRunU Tp (Ub 25 (.pointer (Td ⟨h.size,0,Te⟩)) (tA bv bw bx bz)) bu (λcU=>cI cU)))/\(g7 bu bu ⟨h.size,0,Te⟩/\(g7 bu bu ⟨h.size,0,Te⟩/\cE bu)/\(XRunU Tp (Ub 25 (.pointer (Td ⟨h.size,0,Te⟩)) (tA bv bw bx bz)) bu (λcV=>cM cV)))/\(XRunU Tp (Ub 25 (.pointer (Td ⟨h.size,0,Te⟩)) (tA bv bw bx bz)) bu (λcW=>(cI cW)/\(cM cW)))))))):
  XC Tp 61 #[.pointer r0,.int .i64 n1] h R:=
 XF ⟨[(21,8000),(25,8000)],[(5,[(34,.one (.int .i64))]),(16,[(66,.one (.int .i64))])],[]⟩ [.cell 4 25,.tmp 5] 119 Tryz.func61 H
theorem HM(b:Int)(c:Bt)(d:Sl)(e:Sl)(f:Int)(g:Bt)(i:Sl)(j:Sl)(h:zb)(R:Value->zb->Prop) (H:let k:=h.push (.cells #[iV b,.string c,aK d,aK e] 25);let l:=k.push (.cells #[iV f,.string g,aK i,aK j] 25);∀m:Bool->zb->Prop,(∀n:Bool,∀o:zb,((n=Ta->R (.bool Tc) o)/\(n=Tc->∃p,zc o (Ua ⟨h.size,0,Te⟩ 0)=Td (iV p)/\((p != 6)=Ta->∃q,zc o (Ua ⟨h.size,0,Te⟩ 3)=Td (aK q)/\∃r,zc o (Ua ⟨k.size,0,Te⟩ 3)=Td (aK r)/\XC Tp 140 #[aK q,aK r,.func (.func 84) #[] #[]] o (λs t=>∃u,s=.bool u/\R (.bool u) t))/\((p != 6)=Tc->∃v w x y,zd o ⟨h.size,0,Te⟩ 0 (tL v w x y)/\∃z A B C,zd o ⟨k.size,0,Te⟩ 0 (tL z A B C)/\XC Tp 142 #[tA v w x y] o (λD E=>∃F:Option Nat,D=.map F/\g7 E o ⟨k.size,0,Te⟩/\XC Tp 142 #[tA z A B C] E (λG I=>∃J:Option Nat,G=.map J/\XC Tp 141 #[.map F,.map J,.func (.func 84) #[] #[]] I (λL M=>∃N,L=.bool N/\R (.bool N) M))))))->m n o)->∃O,zc l (Ua ⟨h.size,0,Te⟩ 0)=Td (iV O)/\∃P,zc l (Ua ⟨k.size,0,Te⟩ 0)=Td (iV P)/\((O != P)=Ta->m (O != P) l)/\((O != P)=Tc->∃Q,zc l (Ua ⟨h.size,0,Te⟩ 1)=Td (.string Q)/\∃S,zc l (Ua ⟨k.size,0,Te⟩ 1)=Td (.string S)/\((!(Q.toList==S.toList))=Ta->m (!(Q.toList==S.toList)) l)/\((!(Q.toList==S.toList))=Tc->∃T,zc l (Ua ⟨h.size,0,Te⟩ 3)=Td (aK T)/\∃U,zc l (Ua ⟨k.size,0,Te⟩ 3)=Td (aK U)/\m ((T.len:Int) != (U.len:Int)) l))):
  XC Tp 84 #[.agg #[.int .i64 b,.string c,.slice d.a d.len d.cap,.slice e.a e.len e.cap],.agg #[.int .i64 f,.string g,.slice i.a i.len i.cap,.slice j.a j.len j.cap]] h R:=
 XF ⟨[(7,8000)],[],[(4,[(5,.one (.bool))])]⟩ [.tmp 4] 37 Tryz.func84 H
theorem Rt(b0:Option Addr)(O:Bt)(P:FuncId)(S:Array Value)(Q:Array Value)(h:zb)(R:Value->zb->Prop) (H:∃b,b0=Td b/\∃c,zc h (Ua (Ua b 0) 0)=Td (aK c)/\zo Tp P=Ta/\XC Tp P (S++#[]++Q) h (λd e=>d=.tuple #[]/\∃f,b0=Td f/\∃g,zc e (Ua (Ua f 0) 0)=Td (aK g)/\(decide ((g.len:Int)<=512)=Ta->∃i,b0=Td i/\∃j,zc e (Ua (Ua i 0) 0)=Td (aK j)/\∃k,b0=Td k/\∃l,zc e (Ua (Ua k 0) 1)=Td (aK l)/\let m:Sl->Sl->zb->Prop:=λ(n:Sl) (o:Sl) (p:zb)=>(XRun Tp (Ug #[29,29] 29 #[aK l,aK n]) p (λq r=>∃s,q=aK s/\∃t,b0=Td t/\XRunU Tp (Ub 22 (.pointer (Td (Ua (Ua t 0) 0))) (aK o)) r (λu=>∃v,b0=Td v/\XRunU Tp (Ub 29 (.pointer (Td (Ua (Ua v 0) 1))) (aK s)) u (λw=>R (.tuple #[]) w))));let x:Sl->Sl->zb->Prop:=λ(y:Sl) (z:Sl) (A:zb)=>(XRun Tp (Ug #[22,22] 22 #[aK j,aK z]) A (λB C=>∃D,B=aK D/\g7 C e ((Ua (Ua k 0) 1))/\m y D C));(let E:=e.push (.cells #[.string O] 9);g7 E e ((Ua (Ua k 0) 1))/\g7 E e ((Ua (Ua i 0) 0))/\(XRun Tp (Ug #[22,22] 22 #[aK j,.slice (Td ⟨e.size,0,Te⟩) 1 1]) E (λF G=>∃I,F=aK I/\g7 G e ((Ua (Ua k 0) 1))/\let J:=G.push (.cells #[iV (c.len:Int)] 3);g7 J e ((Ua (Ua k 0) 1))/\m (⟨Td ⟨G.size,0,Te⟩,1,1⟩:Sl) I J))/\(let L:=E.push (.cells #[iV (c.len:Int)] 3);g7 L e ((Ua (Ua k 0) 1))/\g7 L e ((Ua (Ua i 0) 0))/\x (⟨Td ⟨E.size,0,Te⟩,1,1⟩:Sl) (⟨Td ⟨e.size,0,Te⟩,1,1⟩:Sl) L))/\(let M:=e.push (.cells #[iV (c.len:Int)] 3);g7 M e ((Ua (Ua k 0) 1))/\g7 M e ((Ua (Ua i 0) 0))/\let N:=M.push (.cells #[.string O] 9);g7 N e ((Ua (Ua k 0) 1))/\g7 N e ((Ua (Ua i 0) 0))/\x (⟨Td ⟨e.size,0,Te⟩,1,1⟩:Sl) (⟨Td ⟨M.size,0,Te⟩,1,1⟩:Sl) N))/\(decide ((g.len:Int)<=512)=Tc->R (.tuple #[]) e))):
  XC Tp 94 #[.pointer b0,.string O,.func (.func P) S Q] h R:=
 XF ⟨[(3,8000)],[],[]⟩ [] 46 Tryz.func94 H
theorem Xj(c0:Addr)(c1:Addr)(h:zb)(R:Value->zb->Prop) (H:∃b,zc h (Ua c0 3)=Td (aK b)/\∃(c:Int->zb->Prop) (d:Int->zb->Nat),c 0 h/\∀e:Int,∀f:zb,c e f->((decide (e<b.len)=Ta->∃g,(b.a=Td g/\0<=e/\e<b.len)/\∃i j k l,zd f (g.add (e.toNat*4)) 0 (tL i j k l)/\let m:=f.push (.cells tC 25);XRunU Tp (Ub 25 (.pointer (Td ⟨f.size,0,Te⟩)) (tA i j k l)) m (λn=>∃o:Option Addr,zc n c1=Td (.pointer o)/\∃p q r s,zd n ⟨f.size,0,Te⟩ 0 (tL p q r s)/\XC Tp 55 #[.pointer o,tA p q r s] n (λt u=>t=.tuple #[]/\(c (hZ (e+1)) u/\d (hZ (e+1)) u<d e f))))/\(decide (e<b.len)=Tc->R (.tuple #[]) f))):
  XC Tp 95 #[.pointer (Td c0),.pointer (Td c1)] h R:=
 XF ⟨[],[(1,[(7,.one (.int .i64))])],[]⟩ [] 15 Tryz.func95 H
theorem Xk(c0:Addr)(c1:Addr)(h:zb)(R:Value->zb->Prop) (H:∃b,zc h (Ua c0 3)=Td (aK b)/\∃(c:Int->zb->Prop) (d:Int->zb->Nat),c 0 h/\∀e:Int,∀f:zb,c e f->((decide (e<b.len)=Ta->∃g,(b.a=Td g/\0<=e/\e<b.len)/\∃i j k l,zd f (g.add (e.toNat*4)) 0 (tL i j k l)/\let m:=f.push (.cells tC 25);XRunU Tp (Ub 25 (.pointer (Td ⟨f.size,0,Te⟩)) (tA i j k l)) m (λn=>∃o:Option Addr,zc n c1=Td (.pointer o)/\∃p,zc n (Ua c0 2)=Td (aK p)/\∃q,(p.a=Td q/\0<=e/\e<p.len)/\∃r,zc n (q.add (e.toNat*1))=Td (.string r)/\let s:Bt->zb->Prop:=λt (u:zb)=>(XC Tp 94 #[.pointer o,.string t,.func (.func 99) #[] #[.pointer (Td c1),.pointer (Td ⟨f.size,0,Te⟩)]] u (λv w=>v=.tuple #[]/\(c (hZ (e+1)) w/\d (hZ (e+1)) w<d e f)));let x:Int->Bt->Sl->Sl->zb->Prop:=λy z (A:Sl) (B:Sl) (C:zb)=>(XC Tp 97 #[tA y z A B] C (λD E=>∃F,D=.string F/\zw (((⟨#[107]⟩:Bt)).size+F.size)/\g7 E n c1/\s ((⟨#[107]⟩:Bt)++F) E));(XC Tp 98 #[.string r] n (λG I=>∃J L M N,G=tA J L M N/\g7 I n c1/\(XC Tp 97 #[tA J L M N] I (λO P=>∃Q,O=.string Q/\zw (((⟨#[107]⟩:Bt)).size+Q.size)/\g7 P n c1/\g7 P n c1/\s ((⟨#[107]⟩:Bt)++Q) P))/\(g7 I n c1/\x J L M N I)))/\(g7 n n ((q.add (e.toNat*1)))/\g7 n n (Ua c0 2)/\g7 n n c1/\XC Tp 98 #[.string r] n (λS T=>∃U V W X,S=tA U V W X/\g7 T n c1/\x U V W X T))))/\(decide (e<b.len)=Tc->R (.tuple #[]) f))):
  XC Tp 96 #[.pointer (Td c0),.pointer (Td c1)] h R:=
 XF ⟨[(3,8000)],[(1,[(7,.one (.int .i64))])],[]⟩ [] 24 Tryz.func96 H
theorem Y9(c0:Addr)(c1:Addr)(h:zb)(R:Value->zb->Prop) (H:∃b:Option Addr,zc h c0=Td (.pointer b)/\∃c d e f,zd h c1 0 (tL c d e f)/\XC Tp 55 #[.pointer b,tA c d e f] h (λg i=>g=.tuple #[]/\R (.tuple #[]) i)):
  XC Tp 99 #[.pointer (Td c0),.pointer (Td c1)] h R:=
 XF ⟨[],[],[]⟩ [] 5 Tryz.func99 H
theorem MQ(r0:Option Addr)(n1:Int)(h:zb)(R:Value->zb->Prop) (H:let b:=h.push (.cells tC 25);∃c,r0=Td c/\∃d,zc b (Ua (Ua c 0) 0)=Td (aK d)/\∃e,(d.a=Td e/\0<=n1/\n1<d.len)/\∃f,zc b (e.add (n1.toNat*1))=Td (.string f)/\((!((f.size:Int)==0))=Ta->(0<=(0:Int)/\(0:Int)<=1/\(1:Int)<=(f.size:Int)))/\∃g,((!(bif ((f.size:Int)==0)then Ta else(!((f.extract (0:Int).toNat (1:Int).toNat:Bt).toList==(⟨#[107]⟩:Bt).toList))))=Ta->r0=Td g)/\∃i,((!(bif ((f.size:Int)==0)then Ta else(!((f.extract (0:Int).toNat (1:Int).toNat:Bt).toList==(⟨#[107]⟩:Bt).toList))))=Ta->zc b (Ua g 2)=Td (aK i))/\∃j,((!(bif ((f.size:Int)==0)then Ta else(!((f.extract (0:Int).toNat (1:Int).toNat:Bt).toList==(⟨#[107]⟩:Bt).toList))))=Ta->(i.a=Td j/\0<=n1/\n1<i.len))/\∃k,((!(bif ((f.size:Int)==0)then Ta else(!((f.extract (0:Int).toNat (1:Int).toNat:Bt).toList==(⟨#[107]⟩:Bt).toList))))=Ta->zc b (j.add (n1.toNat*1))=Td (aK k))/\((bif (bif ((f.size:Int)==0)then Ta else(!((f.extract (0:Int).toNat (1:Int).toNat:Bt).toList==(⟨#[107]⟩:Bt).toList)))then Ta else((k.len:Int) != 1))=Ta->XRunU Tp (Ub 25 (.pointer (Td ⟨h.size,0,Te⟩)) (tZ)) b (λl=>∃m n o p,zd l ⟨h.size,0,Te⟩ 0 (tL m n o p)/\R (.tuple #[.string (⟨#[]⟩:Bt),tA m n o p,.bool Tc]) l))/\((bif (bif ((f.size:Int)==0)then Ta else(!((f.extract (0:Int).toNat (1:Int).toNat:Bt).toList==(⟨#[107]⟩:Bt).toList)))then Ta else((k.len:Int) != 1))=Tc->(0<=(1:Int)/\(1:Int)<=(f.size:Int)/\(f.size:Int)<=(f.size:Int))/\XC Tp 109 #[.string (f.extract (1:Int).toNat (f.size:Int).toNat)] b (λq r=>∃s t u v w,q=.tuple #[tA s t u v,.bool w]/\let x:=r.push (.cells tC 25);XRunU Tp (Ub 25 (.pointer (Td ⟨r.size,0,Te⟩)) (tA s t u v)) x (λy=>∃z,r0=Td z/\∃A,zc y (Ua z 2)=Td (aK A)/\∃B,(A.a=Td B/\0<=n1/\n1<A.len)/\∃C,zc y (B.add (n1.toNat*1))=Td (aK C)/\∃D,(C.a=Td D/\0<=(0:Int)/\(0:Int)<(C.len:Int))/\∃E,zc y (D.add ((0:Int).toNat*1))=Td (iV E)/\XC Tp 61 #[.pointer r0,iV E] y (λF G=>∃I J L M N,F=.tuple #[tA I J L M,.bool N]/\let O:=G.push (.cells tC 25);XRunU Tp (Ub 25 (.pointer (Td ⟨G.size,0,Te⟩)) (tA I J L M)) O (λP=>∃Q,zc P (Ua ⟨r.size,0,Te⟩ 1)=Td (.string Q)/\∃S T U V,zd P ⟨G.size,0,Te⟩ 0 (tL S T U V)/\let W:Bool->zb->Prop:=λX (Y:zb)=>(∃Z aa ab ac,zd Y ⟨h.size,0,Te⟩ 0 (tL Z aa ab ac)/\R (.tuple #[.string Q,tA Z aa ab ac,.bool X]) Y);let ad:Bool->zb->Prop:=λae (af:zb)=>(XRunU Tp (Ub 25 (.pointer (Td ⟨h.size,0,Te⟩)) (tA S T U V)) af (λag=>W ae ag));let ah:Bool->zb->Prop:=λai (aj:zb)=>(W (bif (bif w then N else Tc)then ai else Tc) aj);let ak:Bool->zb->Prop:=λal (am:zb)=>((g7 am P ⟨G.size,0,Te⟩/\ad (bif (bif w then N else Tc)then al else Tc) am)/\(XRunU Tp (Ub 25 (.pointer (Td ⟨h.size,0,Te⟩)) (tA S T U V)) am (λan=>ah al an)));let ao:Int->zb->Prop:=λap (aq:zb)=>(ah (ap==4) aq);let ar:Int->zb->Prop:=λau (av:zb)=>((g7 av P ⟨G.size,0,Te⟩/\ak (au==4) av)/\(XRunU Tp (Ub 25 (.pointer (Td ⟨h.size,0,Te⟩)) (tA S T U V)) av (λaw=>ao au aw)));let ax:zb->Prop:=λ(ay:zb)=>(∃az,((bif w then N else Tc)=Ta->zc ay (Ua ⟨r.size,0,Te⟩ 0)=Td (iV az))/\ao az ay);let aA:zb->Prop:=λ(aB:zb)=>((∃aC,((bif w then N else Tc)=Ta->zc aB (Ua ⟨r.size,0,Te⟩ 0)=Td (iV aC))/\g7 aB P ⟨G.size,0,Te⟩/\ar aC aB)/\(XRunU Tp (Ub 25 (.pointer (Td ⟨h.size,0,Te⟩)) (tA S T U V)) aB (λaD=>ax aD)));g7 P P ⟨G.size,0,Te⟩/\g7 P P (Ua ⟨r.size,0,Te⟩ 1)/\g7 P P ⟨G.size,0,Te⟩/\g7 P P (Ua ⟨r.size,0,Te⟩ 1)/\(g7 P P ⟨G.size,0,Te⟩/\g7 P P (Ua ⟨r.size,0,Te⟩ 1)/\(∃aE,((bif w then N else Tc)=Ta->zc P (Ua ⟨r.size,0,Te⟩ 0)=Td (iV aE))/\g7 P P ⟨G.size,0,Te⟩/\g7 P P (Ua ⟨r.size,0,Te⟩ 1)/\(g7 P P ⟨G.size,0,Te⟩/\g7 P P (Ua ⟨r.size,0,Te⟩ 1)/\(g7 P P ⟨G.size,0,Te⟩/\g7 P P (Ua ⟨r.size,0,Te⟩ 1)/\g7 P P ⟨G.size,0,Te⟩/\ad (bif (bif w then N else Tc)then(aE==4)else Tc) P)/\(g7 P P ⟨G.size,0,Te⟩/\ak (aE==4) P))/\(g7 P P ⟨G.size,0,Te⟩/\ar aE P))/\(g7 P P ⟨G.size,0,Te⟩/\aA P))/\(g7 P P ⟨G.size,0,Te⟩/\(g7 P P ⟨G.size,0,Te⟩/\aA P)/\(XRunU Tp (Ub 25 (.pointer (Td ⟨h.size,0,Te⟩)) (tA S T U V)) P (λaF=>ax aF))))))))):
  XC Tp 108 #[.pointer r0,.int .i64 n1] h R:=
 XF ⟨[(6,8000)],[],[]⟩ [.tmp 4,.cell 5 25,.tmp 6] 72 Tryz.func108 H
theorem Xl(h:zb)(R:Value->zb->Prop) (H:R (.tuple #[]) h):
  XC Tp 100 #[] h R:=
 XF ⟨[],[],[]⟩ [] 0 Tryz.func100 H
theorem qu(F:Sl)(G:Sl)(I:FuncId)(J:Array Value)(L:Array Value)(h:zb)(R:Value->zb->Prop) (H:(((F.len:Int) != (G.len:Int))=Ta->R (.bool Tc) h)/\(((F.len:Int) != (G.len:Int))=Tc->∃(b:Int->zb->Prop) (c:Int->zb->Nat),b 0 h/\∀d:Int,∀e:zb,b d e->((decide (d<F.len)=Ta->∃f,(F.a=Td f/\0<=d/\d<F.len)/\∃g i j k,zd e (f.add (d.toNat*4)) 0 (tL g i j k)/\let l:=e.push (.cells tC 25);XRunU Tp (Ub 25 (.pointer (Td ⟨e.size,0,Te⟩)) (tA g i j k)) l (λm=>∃n,(G.a=Td n/\0<=d/\d<G.len)/\∃o p q r,zd m (n.add (d.toNat*4)) 0 (tL o p q r)/\let s:=m.push (.cells tC 25);XRunU Tp (Ub 25 (.pointer (Td ⟨m.size,0,Te⟩)) (tA o p q r)) s (λt=>∃u v w x,zd t ⟨e.size,0,Te⟩ 0 (tL u v w x)/\∃y z A B,zd t ⟨m.size,0,Te⟩ 0 (tL y z A B)/\zo Tp I=Ta/\XC Tp I (J++#[tA u v w x,tA y z A B]++L) t (λC D=>∃E,C=.bool E/\((!E)=Ta->R (.bool Tc) D)/\((!E)=Tc->(b (hZ (d+1)) D/\c (hZ (d+1)) D<c d e))))))/\(decide (d<F.len)=Tc->R (.bool Ta) e)))):
  XC Tp 140 #[.slice F.a F.len F.cap,.slice G.a G.len G.cap,.func (.func I) J L] h R:=
 XF ⟨[],[(4,[(17,.one (.int .i64))])],[]⟩ [.tmp 6] 32 Tryz.func140 H
theorem zu(aI:Option Nat)(aH:Option Nat)(aE:FuncId)(aG:Array Value)(aF:Array Value)(h:zb)(R:Value->zb->Prop) (H:∃b,QExec Tp (WF #[144] 3 #[.map aI]) h (iV b)/\∃c,QExec Tp (WF #[144] 3 #[.map aH]) h (iV c)/\((b != c)=Ta->R (.bool Tc) h)/\((b != c)=Tc->XRun Tp (YE 144 (.map aI)) h (λd e=>∃f:Option Addr,d=.pointer f/\∃(g:zb->Prop) (i:zb->Nat),g e/\∀j:zb,g j->(XRun Tp (WS (.pointer f) Tc 0) j (λk l=>(k=.tuple #[.bool Tc]/\(Tc=Ta->XRun Tp (XS (.pointer f)) l (λm n=>∃o p:Value,m=.tuple #[o,p]/\let q:=n.push (.cells tC 25);XRunU Tp (Ub 25 (.pointer (Td ⟨n.size,0,Te⟩)) p) q (λr=>∃s t u v w,QExec Tp (XG 144 (.map aH) o Ta) r (.tuple #[tA s t u v,.bool w])/\let x:=r.push (.cells tC 25);XRunU Tp (Ub 25 (.pointer (Td ⟨r.size,0,Te⟩)) (tA s t u v)) x (λy=>∃z A B C,((!(!w))=Ta->zd y ⟨n.size,0,Te⟩ 0 (tL z A B C))/\∃D E F G,((!(!w))=Ta->zd y ⟨r.size,0,Te⟩ 0 (tL D E F G))/\∃I:Value->zb->Prop,((!(!w))=Ta->zo Tp aE=Ta/\XC Tp aE (aG++#[tA z A B C,tA D E F G]++aF) y (λJ L=>∃M,J=.bool M/\I (.bool M) L))/\((!(!w))=Tc->∃N,I (.bool N) y)/\((!(!w))=Ta->∀O P,I O P->∃Q,O=.bool Q)/\∀S:Bool,∀T,I (.bool S) T->((bif (!w)then Ta else(!S))=Ta->R (.bool Tc) T)/\((bif (!w)then Ta else(!S))=Tc->(g T/\i T<i j))))))/\(Tc=Tc->R (.bool Ta) l))\/∃U V:Value,k=.tuple #[.bool Ta,U,V]/\(Ta=Ta->XRun Tp (XS (.pointer f)) l (λW X=>∃Y Z:Value,W=.tuple #[Y,Z]/\let aa:=X.push (.cells tC 25);XRunU Tp (Ub 25 (.pointer (Td ⟨X.size,0,Te⟩)) Z) aa (λab=>∃ac ad ae af ag,QExec Tp (XG 144 (.map aH) Y Ta) ab (.tuple #[tA ac ad ae af,.bool ag])/\let ah:=ab.push (.cells tC 25);XRunU Tp (Ub 25 (.pointer (Td ⟨ab.size,0,Te⟩)) (tA ac ad ae af)) ah (λai=>∃aj ak al am,((!(!ag))=Ta->zd ai ⟨X.size,0,Te⟩ 0 (tL aj ak al am))/\∃an ao ap aq,((!(!ag))=Ta->zd ai ⟨ab.size,0,Te⟩ 0 (tL an ao ap aq))/\∃ar:Value->zb->Prop,((!(!ag))=Ta->zo Tp aE=Ta/\XC Tp aE (aG++#[tA aj ak al am,tA an ao ap aq]++aF) ai (λau av=>∃aw,au=.bool aw/\ar (.bool aw) av))/\((!(!ag))=Tc->∃ax,ar (.bool ax) ai)/\((!(!ag))=Ta->∀ay az,ar ay az->∃aA,ay=.bool aA)/\∀aB:Bool,∀aC,ar (.bool aB) aC->((bif (!ag)then Ta else(!aB))=Ta->R (.bool Tc) aC)/\((bif (!ag)then Ta else(!aB))=Tc->(g aC/\i aC<i j))))))/\(Ta=Tc->R (.bool Ta) l)))))):
  XC Tp 141 #[.map aI,.map aH,.func (.func aE) aG aF] h R:=
 XF ⟨[],[(4,[])],[]⟩ [.tmp 6] 38 Tryz.func141 H
end
end
section
open Go.RowKit
variable {h h' h'':zb} {M M' M'':Fr} {bs bs' b1 b2:List Nat} {b lo bv:Nat} {K:Value -> zb -> Prop}
theorem Later.own{h g:zb}(L:Later h M g M')(e:∀c∈bs,h.size<=c):Later h M g (MxL M' g bs):=by
 refine⟨L.keep,L.le.trans (gv L.ag bs),λc f=>?_,MxL.ag L.ag bs⟩;have i:c∉bs:=λb=>by have:=e c b;omega
 rw[<-L.old c f];unfold MxL;rw[za i]
structure Grw (h:zb) (M:Fr) (b:Nat) (bs:List Nat) (h':zb) (M':Fr) (bs':List Nat):Prop where
 grow:h.size<=h'.size
 le:Fr.le M M'
 old:∀c,c<h.size->M' c=M c
 ag:AgM M' h'
 fr:∀j,j<h.size->j≠b->j∉bs->h'[j]?=h[j]?
 nw:∀c∈bs',c∈bs\/h.size<=c
theorem Grw.refl(ag:AgM M h):Grw h M b bs h M bs:=⟨Uc _,Fr.le.refl _,λ_ _=>rfl,ag,λ_ _ _ _=>rfl,λ_ c=>.inl c⟩
theorem Grw.trans{bs bs' e:List Nat}(A:Grw h M b bs h' M' bs')(B:Grw h' M' b bs' h'' M'' e):Grw h M b bs h'' M'' e:=by have m:=A.grow;refine⟨VB A.grow B.grow,A.le.trans B.le,λc f=>(B.old c (by omega)).trans (A.old c f),B.ag,λj l h0 i=>(B.fr j (by omega) h0 λk=>?_).trans (A.fr j l h0 i),λc f=>?_⟩;rcases A.nw j k with h|h;exact i h;omega;rcases B.nw c f with h|h;exact A.nw c h;exact .inr (by omega)
theorem Grw.call(A:Grw h M b bs h' M' bs')(L:Later h' M' h'' M''):Grw h M b bs h'' M'' bs':=by have k:=A.grow;exact⟨VB A.grow L.keep.size,A.le.trans L.le,λc f=>(L.old c (by omega)).trans (A.old c f),L.ag,λj e h0 i=>(L.keep.get j (by omega)).trans (A.fr j e h0 i),A.nw⟩
theorem Grw.ofCall(L:Later h M h' M')(A:Grw h' M' b bs h'' M'' bs')(l:∀c∈bs,c<h.size):Grw h M b bs h'' M'' bs':=by have f:=L.keep.size;refine⟨VB f A.grow,L.le.trans A.le,λc e=>(A.old c (by omega)).trans (L.old c e),A.ag,λj k h0 i=>(A.fr j (by omega) h0 i).trans (L.keep.get j k),λc e=>?_⟩;rcases A.nw c e with h|h;exact .inl h;exact .inr (by omega)
structure TbS (lo:Nat) (h:zb) (M:Fr) (b:Nat) (S:List (Bt×Int)) (sl sf:Sl) (b1 b2:List Nat):Prop where
 box:Blk h b #[aK sl,aK sf]
 r1:ORow lo h M .str (S.map (·.1)) sl b1
 r2:ORow lo h M (.int .i64) (S.map (·.2)) sf b2
 dj:∀c∈b1,c∉b2
 n1:b∉b1
 n2:b∉b2
 nM:M b=Te
 lb:lo<=b
def Tb(lo:Nat)(h:zb)(M:Fr)(b:Nat)(S:List (Bt×Int))(bs:List Nat):Prop:=∃sl sf b1 b2,bs=b1++b2/\TbS lo h M b S sl sf b1 b2
theorem TbS.call{S:List (Bt×Int)}{sl sf:Sl}(B:TbS lo h M b S sl sf b1 b2)(L:Later h M h' M'):TbS lo h' M' b S sl sf b1 b2:= ⟨B.box.keep (L.keep.get b B.box.lt),B.r1.call L,B.r2.call L,B.dj,B.n1,B.n2,(L.old b B.box.lt).trans B.nM,B.lb⟩
theorem Tb.call{S:List (Bt×Int)}(B:Tb lo h M b S bs)(L:Later h M h' M'):Tb lo h' M' b S bs:=by obtain⟨sl,sf,b1,b2,e,B⟩:=B;exact⟨sl,sf,b1,b2,e,B.call L⟩
theorem Tb.lt{S:List (Bt×Int)}(B:Tb lo h M b S bs):∀c∈bs,c<h.size:=by obtain⟨sl,sf,b1,b2,rfl,B⟩:=B;intro c e;rcases Uv.1 e with h|h;exact(B.r1.own c h).2.1;exact(B.r2.own c h).2.1
theorem Tb.ltb{S:List (Bt×Int)}(B:Tb lo h M b S bs):b<h.size:=by obtain⟨sl,sf,b1,b2,rfl,B⟩:=B;exact B.box.lt
structure AdM (lo:Nat) (h:zb) (M:Fr) (b:Nat) (sl sf:Sl) (b0:List Nat) (g:zb) (X:List Bt) (s1:Sl) (c1:List Nat) (Y:List Int) (s2:Sl) (c2:List Nat):Prop where
 box:Blk g b #[aK sl,aK sf]
 r1:ORow lo g M .str X s1 c1
 r2:ORow lo g M (.int .i64) Y s2 c2
 dj:∀c∈c1,c∉c2
 n1:b∉c1
 n2:b∉c2
 gr:h.size<=g.size
 bh:b<h.size
 fr:∀j,j<h.size->j≠b->j∉b0->g[j]?=h[j]?
 w1:∀c∈c1,c∈b0\/h.size<=c
 w2:∀c∈c2,c∈b0\/h.size<=c
 ag:AgM M g
 nM:M b=Te
 lb:lo<=b
section
variable {lo : Nat} {h g : zb} {M : Fr} {b : Nat} {sl sf : Sl} {b0 : List Nat} {X : List Bt} {s1 : Sl} {c1 : List Nat} {Y : List Int} {s2 : Sl} {c2 : List Nat}
theorem AdM.start{S:List (Bt×Int)}(B:TbS lo h M b S sl sf b1 b2)(ag:AgM M h):AdM lo h M b sl sf (b1++b2) h (S.map (·.1)) sl b1 (S.map (·.2)) sf b2:= ⟨B.box,B.r1,B.r2,B.dj,B.n1,B.n2,Uc _,B.box.lt,λ_ _ _ _=>rfl,λc e=>.inl (Un _ e),λc e=>.inl (Uw _ e),ag,B.nM,B.lb⟩
theorem AdM.push(D:AdM lo h M b sl sf b0 g X s1 c1 Y s2 c2)(o:Obj):AdM lo h M b sl sf b0 (g.push o) X s1 c1 Y s2 c2:=by have k:Keep g.size g (g.push o):=Keep.push _ _ (Uc _);have l:=D.gr;have m:(g.push o).size=g.size+1:=Ur _;refine⟨D.box.ofKeep k,D.r1.frame (λc e=>k.get c (D.r1.own c e).2.1) (Fr.le.refl _) λc e=>(D.r1.own c e).2.2,D.r2.frame (λc e=>k.get c (D.r2.own c e).2.1) (Fr.le.refl _) λc e=>(D.r2.own c e).2.2,D.dj,D.n1,D.n2,by omega,D.bh,λj i h0 f=>(k.get j (by omega)).trans (D.fr j i h0 f),D.w1,D.w2,D.ag.keep k,D.nM,D.lb⟩
theorem AdM.lab(D:AdM lo h M b sl sf b0 g X s1 c1 Y s2 c2)(p:lo<=h.size)(m:X.length<=1000000){x:Bt}(q:Blk g bv #[.string x]) (s:∀(l:Sl) (g':zb) (n:List Nat),AdM lo h M b sl sf b0 g' (X++[x]) l n Y s2 c2->g.size<=g'.size->(∀j,j<g.size->j∉c1->g'[j]?=g[j]?)->K (aK l) g'):
  XRun Tp (Ug #[22,22] 22 #[aK s1,.slice (Td ⟨bv,0,Te⟩) 1 1]) g K:=by
 have t:=D.gr;refine ORow.app vq (by omega) D.ag D.r1 (by omega) (vs:=[.string x]) q rfl m λl g' n r z w f=>s l g' n ⟨D.box.keep (f b D.box.lt D.n1),r,D.r2.frame (λc k=>f c (D.r2.own c k).2.1 λi=>D.dj c i k) (Fr.le.refl _) λc k=>(D.r2.own c k).2.2,λc k i=>?_,λi=>?_,D.n2,by omega,D.bh,λj o h0 m=>(f j (by omega) λi=>?_).trans (D.fr j o h0 m),λc k=>?_,D.w2,λc cs e=>?_,D.nM,D.lb⟩ z f;rcases w c k with h|h;exact D.dj c h i;have:=(D.r2.own c i).2.1;omega;rcases w b i with h|h;exact D.n1 h;have:=D.bh;omega;rcases D.w1 j i with h|h;exact m h;omega;rcases w c k with h|h;exact D.w1 c h;exact .inr (by omega);have k:=D.ag.lt e;rw[f c k λi=>by have:=(D.r1.own c i).2.2;rw[this]at e;cases e];exact D.ag c cs e
theorem AdM.lef(D:AdM lo h M b sl sf b0 g X s1 c1 Y s2 c2)(p:lo<=h.size)(m:Y.length<=1000000){x:Int}(q:Blk g bv #[.int .i64 x]) (s:∀(l:Sl) (g':zb) (n:List Nat),AdM lo h M b sl sf b0 g' X s1 c1 (Y++[x]) l n->g.size<=g'.size->(∀j,j<g.size->j∉c2->g'[j]?=g[j]?)->K (aK l) g'):
  XRun Tp (Ug #[29,29] 29 #[aK s2,.slice (Td ⟨bv,0,Te⟩) 1 1]) g K:=by
 have t:=D.gr;refine ORow.app kz (by omega) D.ag D.r2 (by omega) (vs:=[.int .i64 x]) q rfl m λl g' n r z w f=>s l g' n ⟨D.box.keep (f b D.box.lt D.n2),D.r1.frame (λc i=>f c (D.r1.own c i).2.1 λk=>D.dj c i k) (Fr.le.refl _) λc i=>(D.r1.own c i).2.2,r,λc i k=>?_,D.n1,λk=>?_,by omega,D.bh,λj o h0 m=>(f j (by omega) λk=>?_).trans (D.fr j o h0 m),D.w1,λc i=>?_,λc cs e=>?_,D.nM,D.lb⟩ z f;rcases w c k with h|h;exact D.dj c i h;have:=(D.r1.own c i).2.1;omega;rcases w b k with h|h;exact D.n2 h;have:=D.bh;omega;rcases D.w2 j k with h|h;exact m h;omega;rcases w c i with h|h;exact D.w2 c h;exact .inr (by omega);have i:=D.ag.lt e;rw[f c i λk=>by have:=(D.r2.own c k).2.2;rw[this]at e;cases e];exact D.ag c cs e
theorem rY:qj Tp 29=Ta:=by kernel_rfl
theorem qY:jg Tp 29=1:=by kernel_rfl
theorem AdM.fin(D:AdM lo h M b sl sf b0 g X s1 c1 Y s2 c2){S:List (Bt×Int)}(o:X=S.map (·.1))(u:Y=S.map (·.2)){K:zb->Prop}(s:∀g' bs',Grw h M b b0 g' M bs'->Tb lo g' M b S bs'->K g'):
  XRunU Tp (Ub 22 (.pointer (Td (Ua (Ua ⟨b,0,Te⟩ 0) 0))) (aK s1)) g λl=>XRunU Tp (Ub 29 (.pointer (Td (Ua (Ua ⟨b,0,Te⟩ 0) 1))) (aK s2)) l K:=by
 subst o;subst u;have w:=D.gr;rw[add0,add0,zj];refine qo mq mQ D.box (by show 0<2;omega) rfl λl n x r=>?_;refine qo rY qY n (by show 1<2;omega) rfl λm t z2 q=>?_;have f:∀j,j≠b->m[j]?=g[j]?:=λj k=>(q j k).trans (r j k);refine s m (c1++c2) ⟨by omega,Fr.le.refl _,λ_ _=>rfl,λc cs e=>?_,λj k h0 p=>(f j h0).trans (D.fr j k h0 p),λc i=>?_⟩ ⟨s1,s2,c1,c2,rfl,t,D.r1.frame (λc i=>f c λe=>D.n1 (e ▸ i)) (Fr.le.refl _) λc i=>(D.r1.own c i).2.2,D.r2.frame (λc i=>f c λe=>D.n2 (e ▸ i)) (Fr.le.refl _) λc i=>(D.r2.own c i).2.2,D.dj,D.n1,D.n2,D.nM,D.lb⟩;rw[f c λh=>by subst h;rw[D.nM]at e;cases e];exact D.ag c cs e;rcases Uv.1 i with h|h;exact D.w1 c h;exact D.w2 c h
end
end
section
theorem Xm(gl:Fr)(h:Tr)(R:Bool->Prop) (H:PC Tp gl 11 [] [.bool] (λa:Bool=>PC Tp gl 12 [Arg.mk .tree (Tr.mk h.kind h.text h.keys h.items),Arg.mk p3 700] [.bool] (λb:Bool=>((!b)=Ta->R a)/\((!b)=Tc->PC Tp gl 13 [Arg.mk .tree (Tr.mk h.kind h.text h.keys h.items)] [.tree] (λc:Tr=>PC Tp gl 14 [Arg.mk .tree (Tr.mk h.kind h.text h.keys h.items)] [.pair (.row .str) (.row p3),.int .i64] (λd:((List Bt)×List Int)×Int=>PC Tp gl 15 [Arg.mk .tree (Tr.mk h.kind h.text h.keys h.items)] [.pair (.row .str) (.row p3),.int .i64] (λe:((List Bt)×List Int)×Int=>∃f:Bool->Prop,(a=Ta->PC Tp gl 16 [Arg.mk (.pair (.row .str) (.row p3)) (d.1.1,d.1.2),Arg.mk (.pair (.row .str) (.row p3)) (e.1.1,e.1.2)] [.bool] f)/\∀g:Bool,(a=Ta->f g)->∃i:Bool->Prop,((bif (bif a then g else Tc)then(d.2==e.2)else Tc)=Ta->PC Tp gl 17 [Arg.mk .tree (Tr.mk h.kind h.text h.keys h.items),Arg.mk .tree (Tr.mk c.kind c.text c.keys c.items)] [.bool] i)/\∀j:Bool,((bif (bif a then g else Tc)then(d.2==e.2)else Tc)=Ta->i j)->R (bif (bif (bif a then g else Tc)then(d.2==e.2)else Tc)then j else Tc)))))))):
  PC Tp gl 3 [Arg.mk .tree h] [.bool] R:=
 PF ⟨[],[],[],[]⟩ [.tmp 2] 44 Tryz.func3 H
theorem Ij(gl:Fr)(h:(List Bt)×List Int)(b1:(List Bt)×List Int)(R:Bool->Prop) (H:((bif ((h.1.length:Int) != (b1.1.length:Int))then Ta else((h.2.length:Int) != (b1.2.length:Int)))=Ta->R Tc)/\((bif ((h.1.length:Int) != (b1.1.length:Int))then Ta else((h.2.length:Int) != (b1.2.length:Int)))=Tc->∃(a:Int->Prop) (b:Int->Nat),a 0/\∀c:Int,a c->((decide (c<h.1.length)=Ta->∃d,(0<=c/\h.1[c.toNat]?=Td d)/\∃e,(0<=c/\b1.1[c.toNat]?=Td e)/\((!(d.toList==e.toList))=Ta->R Tc)/\((!(d.toList==e.toList))=Tc->(a (hZ (c+1))/\b (hZ (c+1))<b c)))/\(decide (c<h.1.length)=Tc->∃(f:Int->Prop) (g:Int->Nat),f 0/\∀i:Int,f i->((decide (i<h.2.length)=Ta->∃j,(0<=i/\h.2[i.toNat]?=Td j)/\∃k,(0<=i/\b1.2[i.toNat]?=Td k)/\((j != k)=Ta->R Tc)/\((j != k)=Tc->(f (hZ (i+1))/\g (hZ (i+1))<g i)))/\(decide (i<h.2.length)=Tc->R Ta)))))):
  PC Tp gl 16 [Arg.mk (.pair (.row .str) (.row p3)) h,Arg.mk (.pair (.row .str) (.row p3)) b1] [.bool] R:=
 PF ⟨[],[],[(4,⟨[(5,.one (.dat p3))],[],[2,3],[100320]⟩),(9,⟨[(6,.one (.dat p3))],[],[2,3],[100384]⟩)],[]⟩ [.tmp 4] 59 Tryz.func16 H
theorem OX(gl:Fr)(b:(List Bt)×List Int)(R:Bool->Prop) (H:PC Tp gl 60 [Arg.mk (.pair (.row .str) (.row p3)) (b.1,b.2)] [.row p3,.bool] (λa:(List Int)×Bool=>R a.2)):
  PC Tp gl 21 [Arg.mk (.pair (.row .str) (.row p3)) b] [.bool] R:=
 PF ⟨[],[],[],[]⟩ [.tmp 2] 11 Tryz.func21 H
theorem Tn(gl:Fr)(f:List Int)(b1:List Int)(R:Bool->Prop) (H:(((f.length:Int) != (b1.length:Int))=Ta->R Tc)/\(((f.length:Int) != (b1.length:Int))=Tc->∃(a:Int->Prop) (b:Int->Nat),a 0/\∀c:Int,a c->((decide (c<f.length)=Ta->∃d,(0<=c/\f[c.toNat]?=Td d)/\∃e,(0<=c/\b1[c.toNat]?=Td e)/\((d != e)=Ta->R Tc)/\((d != e)=Tc->(a (hZ (c+1))/\b (hZ (c+1))<b c)))/\(decide (c<f.length)=Tc->R Ta)))):
  PC Tp gl 23 [Arg.mk (.row p3) f,Arg.mk (.row p3) b1] [.bool] R:=
 PF ⟨[],[],[(4,⟨[(5,.one (.dat p3))],[],[],[100320]⟩)],[]⟩ [.tmp 4] 26 Tryz.func23 H
theorem OD(gl:Fr)(h:(List Bt)×List Int)(R:(List Int)->Prop) (H:PC Tp gl 26 [Arg.mk (.pair (.row .str) (.row p3)) (h.1,h.2)] [.row p3] (λa:List Int=>∃(b:(List Int)->Int->Prop) (c:(List Int)->Int->Nat),b [] 0/\∀d:List Int,∀e:Int,b d e->((decide (e<a.length)=Ta->∃f,(0<=e/\a[e.toNat]?=Td f)/\(decide (f<0)=Ta->((d.length+VA ([e]:List Int))*8<=140737488355328/\(b (d++[e]) (hZ (e+1))/\c (d++[e]) (hZ (e+1))<c d e)))/\(decide (f<0)=Tc->(b d (hZ (e+1))/\c d (hZ (e+1))<c d e)))/\(decide (e<a.length)=Tc->R d)))):
  PC Tp gl 24 [Arg.mk (.pair (.row .str) (.row p3)) h] [.row p3] R:=
 PF ⟨[],[],[(3,⟨[(3,.one (.own 3 (.int .i64))),(9,.one (.dat p3))],[],[],[100192,100576]⟩)],[]⟩ [.tmp 2] 22 Tryz.func24 H
theorem MB(gl:Fr)(b:(List Bt)×List Int)(R:(List Int)->Prop) (H:PC Tp gl 60 [Arg.mk (.pair (.row .str) (.row p3)) (b.1,b.2)] [.row p3,.bool] (λa:(List Int)×Bool=>((!a.2)=Ta->R [])/\((!a.2)=Tc->R a.1))):
  PC Tp gl 26 [Arg.mk (.pair (.row .str) (.row p3)) b] [.row p3] R:=
 PF ⟨[],[],[],[]⟩ [.tmp 2] 13 Tryz.func26 H
theorem IZ(gl:Fr)(f:Tr)(b1:Tr)(R:Bool->Prop) (H:PC Tp gl 83 [Arg.mk .tree (Tr.mk f.kind f.text f.keys f.items)] [.bool] (λa:Bool=>∃b:Bool->Prop,(a=Ta->PC Tp gl 83 [Arg.mk .tree (Tr.mk b1.kind b1.text b1.keys b1.items)] [.bool] b)/\∀c:Bool,(a=Ta->b c)->∃d:Bool->Prop,((bif a then c else Tc)=Ta->PC Tp gl 84 [Arg.mk .tree (Tr.mk f.kind f.text f.keys f.items),Arg.mk .tree (Tr.mk b1.kind b1.text b1.keys b1.items)] [.bool] d)/\∀e:Bool,((bif a then c else Tc)=Ta->d e)->R (bif (bif a then c else Tc)then e else Tc))):
  PC Tp gl 46 [Arg.mk .tree f,Arg.mk .tree b1] [.bool] R:=
 PF ⟨[],[],[],[]⟩ [.tmp 4] 16 Tryz.func46 H
theorem QU(gl:Fr)(c:Tr)(R:Tr->Prop) (H:PC Tp gl 106 [Arg.mk .tree (Tr.mk c.kind c.text c.keys c.items)] [.bool] (λa:Bool=>((!a)=Ta->R (Tr.mk 0 (⟨#[]⟩:Bt) [] []))/\((!a)=Tc->PC Tp gl 107 [Arg.mk .tree (Tr.mk c.kind c.text c.keys c.items)] [.tree] (λb:Tr=>R (Tr.mk b.kind b.text b.keys b.items))))):
  PC Tp gl 59 [Arg.mk .tree c] [.tree] R:=
 PF ⟨[],[],[],[]⟩ [.cell 2 25] 11 Tryz.func59 H
theorem IX(gl:Fr)(e:(List Bt)×List Int)(b1:(List Bt)×List Int)(R:Bool->Prop) (H:PC Tp gl 110 [Arg.mk (.row .str) e.1,Arg.mk (.row .str) b1.1] [.bool] (λa:Bool=>∃b:Bool->Prop,(a=Ta->PC Tp gl 111 [Arg.mk (.row p3) e.2,Arg.mk (.row p3) b1.2] [.bool] b)/\∀c:Bool,(a=Ta->b c)->R (bif a then c else Tc))):
  PC Tp gl 62 [Arg.mk (.pair (.row .str) (.row p3)) e,Arg.mk (.pair (.row .str) (.row p3)) b1] [.bool] R:=
 PF ⟨[],[],[],[]⟩ [.tmp 4] 17 Tryz.func62 H
theorem Pk(gl:Fr)(b:Tr)(R:Bt->Prop) (H:PC Tp gl 126 [Arg.mk .tree (Tr.mk b.kind b.text b.keys b.items)] [.str,.int .i64] (λa:Bt×Int=>R a.1)):
  PC Tp gl 97 [Arg.mk .tree b] [.str] R:=
 PF ⟨[],[],[],[]⟩ [.tmp 2] 11 Tryz.func97 H
theorem GP(gl:Fr)(c:Tr)(R:(Bt×Int)->Prop) (H:PC Tp gl 57 [Arg.mk .tree (Tr.mk c.kind c.text c.keys c.items)] [.bool] (λa:Bool=>((!a)=Ta->R ((⟨#[]⟩:Bt),1))/\((!a)=Tc->PC Tp gl 132 [Arg.mk .tree (Tr.mk c.kind c.text c.keys c.items),Arg.mk p3 (-1),Arg.mk p3 0] [.str] (λb:Bt=>R (b,0))))):
  PC Tp gl 73 [Arg.mk .tree c] [.str,.int .i64] R:=
 PF ⟨[],[],[],[]⟩ [.tmp 2,.tmp 3] 11 Tryz.func73 H
theorem Kt(gl:Fr)(A:Tr)(h:Int)(z:Int)(R:Bt->Prop) (H:((A.kind==1)=Ta->R (⟨#[110,117,108,108]⟩:Bt))/\((A.kind==1)=Tc->∀a:Bool->Prop,(∀b:Bool,((b=Ta->R A.text)/\(b=Tc->((A.kind==4)=Ta->PC Tp gl 131 [Arg.mk .str A.text] [.str,.int .i64] (λc:Bt×Int=>R c.1))/\((A.kind==4)=Tc->∀d:Bt->Bt->Prop,(∀e f:Bt,((((A.items.length:Int)==0)=Ta->zw (e.size+f.size)/\R (e++f))/\(((A.items.length:Int)==0)=Tc->∃(g:Bt->Int->Prop) (i:Bt->Int->Nat),g e 0/\∀j:Bt,∀k:Int,g j k->((decide (k<A.items.length)=Ta->∀l:Bt->Prop,(∀m:Bt,(∀n:Bt->Prop,(∀o:Bt,(∀p:Bt->Prop,(∀q:Bt,(∃r,(0<=k/\A.items[k.toNat]?=Td r)/\PC Tp gl 132 [Arg.mk .tree (Tr.mk r.kind r.text r.keys r.items),Arg.mk p3 h,Arg.mk p3 (hZ (z+1))] [.str] (λs:Bt=>zw (q.size+s.size)/\(g (q++s) (hZ (k+1))/\i (q++s) (hZ (k+1))<i j k)))->p q)->((A.kind==6)=Ta->∃t,(0<=k/\A.keys[k.toNat]?=Td t)/\PC Tp gl 131 [Arg.mk .str t] [.str,.int .i64] (λu:Bt×Int=>zw (o.size+u.1.size)/\zw ((o++u.1).size+((⟨#[58]⟩:Bt)).size)/\(decide (h>=0)=Ta->zw (((o++u.1)++(⟨#[58]⟩:Bt)).size+((⟨#[32]⟩:Bt)).size)/\p (((o++u.1)++(⟨#[58]⟩:Bt))++(⟨#[32]⟩:Bt)))/\(decide (h>=0)=Tc->p ((o++u.1)++(⟨#[58]⟩:Bt)))))/\((A.kind==6)=Tc->p o))->n o)->(decide (h>=0)=Ta->zw (m.size+((⟨#[10]⟩:Bt)).size)/\PC Tp gl 204 [Arg.mk p3 (hZ (h*(hZ (z+1))))] [.str] (λv:Bt=>zw ((m++(⟨#[10]⟩:Bt)).size+v.size)/\n ((m++(⟨#[10]⟩:Bt))++v)))/\(decide (h>=0)=Tc->n m))->l m)->(decide (k>0)=Ta->zw (j.size+((⟨#[44]⟩:Bt)).size)/\l (j++(⟨#[44]⟩:Bt)))/\(decide (k>0)=Tc->l j))/\(decide (k<A.items.length)=Tc->∀w:Bt->Prop,(∀x:Bt,(zw (x.size+f.size)/\R (x++f))->w x)->(decide (h>=0)=Ta->zw (j.size+((⟨#[10]⟩:Bt)).size)/\PC Tp gl 204 [Arg.mk p3 (hZ (h*z))] [.str] (λy:Bt=>zw ((j++(⟨#[10]⟩:Bt)).size+y.size)/\w ((j++(⟨#[10]⟩:Bt))++y)))/\(decide (h>=0)=Tc->w j)))))->d e f)->((A.kind==6)=Ta->d (⟨#[123]⟩:Bt) (⟨#[125]⟩:Bt))/\((A.kind==6)=Tc->d (⟨#[91]⟩:Bt) (⟨#[93]⟩:Bt)))))->a b)->((A.kind==2)=Ta->a (A.kind==2))/\((A.kind==2)=Tc->a (A.kind==3)))):
  PC Tp gl 132 [Arg.mk .tree A,Arg.mk p3 h,Arg.mk p3 z] [.str] R:=
 PF ⟨[],[],[(19,⟨[(11,.one (.dat .str)),(12,.one (.dat p3))],[],[3],[100704,100768]⟩)],[(6,⟨[(19,.one (.dat .bool))],[],[3],[101216]⟩),(15,⟨[(9,.one (.dat .str)),(10,.one (.dat .str))],[],[3],[100576,100640]⟩),(23,⟨[(11,.one (.dat .str))],[],[],[100704]⟩),(25,⟨[(11,.one (.dat .str))],[],[],[100704]⟩),(30,⟨[(11,.one (.dat .str))],[],[],[100704]⟩),(33,⟨[(11,.one (.dat .str))],[],[],[100704]⟩)]⟩ [.tmp 6] 108 Tryz.func132 H
theorem Qi(gl:Fr)(f:List Bt)(h:List Bt)(R:Bool->Prop) (H:(((f.length:Int) != (h.length:Int))=Ta->R Tc)/\(((f.length:Int) != (h.length:Int))=Tc->∃(a:Int->Prop) (b:Int->Nat),a 0/\∀c:Int,a c->((decide (c<f.length)=Ta->∃d,(0<=c/\f[c.toNat]?=Td d)/\∃e,(0<=c/\h[c.toNat]?=Td e)/\((!(d.toList==e.toList))=Ta->R Tc)/\((!(d.toList==e.toList))=Tc->(a (hZ (c+1))/\b (hZ (c+1))<b c)))/\(decide (c<f.length)=Tc->R Ta)))):
  PC Tp gl 110 [Arg.mk (.row .str) f,Arg.mk (.row .str) h] [.bool] R:=
 PF ⟨[],[],[(4,⟨[(13,.one (.dat p3))],[],[],[100832]⟩)],[]⟩ [.tmp 4] 26 Tryz.func110 H
theorem Xn(gl:Fr)(f:List Int)(h:List Int)(R:Bool->Prop) (H:(((f.length:Int) != (h.length:Int))=Ta->R Tc)/\(((f.length:Int) != (h.length:Int))=Tc->∃(a:Int->Prop) (b:Int->Nat),a 0/\∀c:Int,a c->((decide (c<f.length)=Ta->∃d,(0<=c/\f[c.toNat]?=Td d)/\∃e,(0<=c/\h[c.toNat]?=Td e)/\((d != e)=Ta->R Tc)/\((d != e)=Tc->(a (hZ (c+1))/\b (hZ (c+1))<b c)))/\(decide (c<f.length)=Tc->R Ta)))):
  PC Tp gl 111 [Arg.mk (.row p3) f,Arg.mk (.row p3) h] [.bool] R:=
 PF ⟨[],[],[(4,⟨[(13,.one (.dat p3))],[],[],[100832]⟩)],[]⟩ [.tmp 4] 26 Tryz.func111 H
theorem LU(gl:Fr)(f:Tr)(R:Bool->Prop) (H:PC Tp gl 102 [Arg.mk .tree (Tr.mk f.kind f.text f.keys f.items)] [.int .i64] (λa:Int=>∃b:Int->Prop,(decide (a<=4096)=Ta->PC Tp gl 103 [Arg.mk .tree (Tr.mk f.kind f.text f.keys f.items)] [.int .i64] b)/\∀c:Int,(decide (a<=4096)=Ta->b c)->∃d:Bool->Prop,((bif (decide (a<=4096))then(decide (c<=32))else Tc)=Ta->PC Tp gl 104 [Arg.mk .tree (Tr.mk f.kind f.text f.keys f.items),Arg.mk .bool Tc] [.bool] d)/\∀e:Bool,((bif (decide (a<=4096))then(decide (c<=32))else Tc)=Ta->d e)->R (bif (bif (decide (a<=4096))then(decide (c<=32))else Tc)then e else Tc))):
  PC Tp gl 57 [Arg.mk .tree f] [.bool] R:=
 PF ⟨[],[],[],[]⟩ [.tmp 2] 15 Tryz.func57 H
theorem Ir(gl:Fr)(b:Bt)(R:Tr->Prop) (H:R (Tr.mk 4 b [] [])):
  PC Tp gl 105 [Arg.mk .str b] [.tree] R:=
 PF ⟨[],[],[],[]⟩ [.cell 2 25] 5 Tryz.func105 H
theorem KX(gl:Fr)(f:Tr)(e:Bt)(R:Int->Prop) (H:∃(a:Int->Prop) (b:Int->Nat),a 0/\∀c:Int,a c->((decide (c<f.keys.length)=Ta->∃d,(0<=c/\f.keys[c.toNat]?=Td d)/\((d.toList==e.toList)=Ta->R c)/\((d.toList==e.toList)=Tc->(a (hZ (c+1))/\b (hZ (c+1))<b c)))/\(decide (c<f.keys.length)=Tc->R (-1)))):
  PC Tp gl 164 [Arg.mk .tree f,Arg.mk .str e] [.int .i64] R:=
 PF ⟨[],[],[(2,⟨[(5,.one (.dat p3))],[],[2],[100320]⟩)],[]⟩ [.tmp 4] 21 Tryz.func164 H
end
section
open Go.RowKit
variable {v:Tr} {k:Bt}
set_option maxRecDepth 100000 in
theorem AS{lo:Nat}{h:zb}{M:Fr}{b:Nat}{S t:List (Bt×Int)}{bs:List Nat}{lab:Bt}{F:FuncId}{A C:Array Value}(hF:zo Tp F=Ta)(H:Tb lo h M b S bs)(au:lo<=h.size)(Y:t.length<=513) (hk:XC Tp F (A++#[]++C) h λv h1=>v=.tuple #[]/\∃f y,Grw h M b bs h1 f y/\Tb lo h1 f b t y) {K:Value->zb->Prop} (hK:∀h' M' bs',Grw h M b bs h' M' bs'->Tb lo h' M' b (dA (t++[(lab,(S.length:Int))])) bs'->K (.tuple #[]) h'):
  XC Tp 94 #[.pointer (Td ⟨b,0,Te⟩),.string lab,.func (.func F) A C] h K:=by
 obtain⟨sl,sf,b1,b2,rfl,B⟩:=H;have l0:=B.r1.len;rw[Um]at l0;apply Rt (Td ⟨b,0,Te⟩) lab F A C;refine⟨⟨b,0,Te⟩,rfl,sl,by rw[add0];exact B.box.cellAdd (o:=0) (k:=0) rfl,hF,XC.mono hk ?_⟩;rintro v h4 ⟨rfl,f,y,T,c,e,r,d2,rfl,m⟩;have l1:=m.r1.len;have l2:=m.r2.len;rw[Um]at l1 l2;have ax:=T.grow;refine⟨rfl,⟨b,0,Te⟩,rfl,c,by rw[add0];exact m.box.cellAdd (o:=0) (k:=0) rfl,λG=>?_,λG=>?_⟩
 ·have G:t.length<=512:=by have:=zC G;omega
  have D:=AdM.start m T.ag;have aa:=m.box.lt;have fin:∀{g:zb} {s1:Sl} {c1:List Nat} {s2:Sl} {c2:List Nat},AdM lo h4 f b c e (r++d2) g (t.map (·.1)++[lab]) s1 c1 (t.map (·.2)++[(sl.len:Int)]) s2 c2->∃u:Addr,Td (⟨b,0,Te⟩:Addr)=Td u /\
    XRunU Tp (Ub 22 (.pointer (Td (Ua (Ua u 0) 0))) (aK s1)) g (λg1=>∃w:Addr,Td (⟨b,0,Te⟩:Addr)=Td w/\XRunU Tp (Ub 29 (.pointer (Td (Ua (Ua w 0) 1))) (aK s2)) g1 (λL=>K (.tuple #[]) L)):=by
   intro g s1 c1 s2 c2 x;refine⟨_,rfl,?_⟩;have:=x.fin (S:=t++[(lab,(sl.len:Int))]) (by simp) (by simp) (K:=λL=>K (.tuple #[]) L) λg' bs' T' B'=>hK g' f bs' (T.trans T') (by rw[<-x5 Y,zA G,<-l0];exact B');exact XRunU.mono this λg1 h1=>⟨_,rfl,h1⟩
  refine⟨⟨b,0,Te⟩,rfl,c,by rw[add0];exact m.box.cellAdd (o:=0) (k:=0) rfl,⟨b,0,Te⟩,rfl,e,by rw[add0];exact m.box.cellAdd (o:=0) (k:=1) rfl,?_,?_⟩;intro l;obtain⟨ah,az,Z⟩:=jf (g:=l) rfl;have s:AdM lo h4 f b c e (r++d2) l _ _ _ _ _ _:=D.push _;clear_value l;have i:l[b]?=h4[b]?:=ah.get b aa;refine⟨i,i,?_,?_⟩;refine s.lab (by omega) (by rw[Um];omega) Z λU g' c' x z' f'=>⟨U,rfl,?_,?_⟩;exact(f' b (by omega) s.n1).trans i;intro z;obtain⟨ab,_,am⟩:=jf (g:=z) rfl;have an:AdM lo h4 f b c e (r++d2) z _ _ _ _ _ _:=x.push _;clear_value z;refine⟨(ab.get b x.box.lt).trans ((f' b (by omega) s.n1).trans i),?_⟩;exact an.lef (by omega) (by rw[Um];omega) am λs2 L c2 O _ _=>⟨s2,rfl,fin O⟩;intro p;obtain⟨P,ar,ai⟩:=jf (g:=p) rfl;have Q:AdM lo h4 f b c e (r++d2) p _ _ _ _ _ _:=s.push _;clear_value p;have J:p[b]?=h4[b]?:=(P.get b (by omega)).trans i;refine⟨J,J,?_⟩;refine Q.lab (by omega) (by rw[Um];omega) (Z.ofKeep P) λU g' c' x z' f'=>⟨U,rfl,(f' b (by omega) Q.n1).trans J,?_⟩;have hn:l.size∉r:=λhm=>by have:=(m.r1.own _ hm).2.1;omega
  exact x.lef (by omega) (by rw[Um];omega) (ai.keep (f' _ (by omega) hn)) λs2 L c2 O _ _=>⟨s2,rfl,fin O⟩;intro n;obtain⟨aj,ap,ak⟩:=jf (g:=n) rfl;have af:AdM lo h4 f b c e (r++d2) n _ _ _ _ _ _:=D.push _;clear_value n;have E:n[b]?=h4[b]?:=aj.get b aa;refine⟨E,E,?_⟩;intro q;obtain⟨V,ay,ae⟩:=jf (g:=q) rfl;have N:AdM lo h4 f b c e (r++d2) q _ _ _ _ _ _:=af.push _;clear_value q;have I:q[b]?=h4[b]?:=(V.get b (by omega)).trans E;refine⟨I,I,?_⟩;refine N.lab (by omega) (by rw[Um];omega) ae λU g' c' x z' f'=>⟨U,rfl,(f' b (by omega) N.n1).trans I,?_⟩;have hn:h4.size∉r:=λhm=>by have:=(m.r1.own _ hm).2.1;omega
  exact x.lef (by omega) (by rw[Um];omega) ((ak.ofKeep V).keep (f' _ (by omega) hn)) λs2 L c2 O _ _=>⟨s2,rfl,fin O⟩
 have G:¬t.length<=512:=by have:=zD G;omega
 refine hK h4 f _ T ?_;rw[<-x5 Y,za G];exact⟨c,e,r,d2,rfl,m⟩
theorem uA{gl:Fr}(c:GL gl)(b:Brn gl)(e:Sm v){R:Bt->Prop}(f:R (Y7 v).1):PC Tp gl 97 [Arg.mk .tree v] [.str] R:=by apply Pk;simp only[wn];exact GN c b e f
theorem zZ(h:cX v=Ta)(i:v.kind≠5)(f:v.kind≠6):v.items=[]/\zz v=Ta:=by
 have hi:v.items=[]:=by unfold cX zn at h;simp only[i,f,if_false]at h;by_cases h1:v.kind=1;simp[h1]at h;exact h.2;by_cases h2:v.kind=2;simp[h2]at h;exact h.2;by_cases e:v.kind=3;simp[e]at h;exact h.2;by_cases b:v.kind=4;simp[b]at h;exact h.2;by_cases c:v.kind=7;simp[c]at h;simp[h1,h2,e,b,c]at h
 refine⟨hi,?_⟩;unfold zz wm;rw[q9,gZ,yp,hi];simp only[Ui,zB];refine⟨⟨by rw[xn];omega,by rw[Wb];omega⟩,?_,by rfl⟩;unfold cX at h;simpa using h
theorem Lw(h:xd (lb k)=Ta):cX (.mk 4 k [] [])=Ta:=by unfold cX zn;simpa[Tr.kind,Tr.text,Tr.keys,Tr.items]using h
theorem rv(h:xd (lb k)=Ta):zz (.mk 4 k [] [])=Ta:= (zZ (Lw h) (show¬(4:Int)=5 by decide) (show¬(4:Int)=6 by decide)).2
theorem Cj(h:cX v=Ta)(b:v.kind≠5)(c:v.kind≠6):(Y7 v).1=dI v:=by unfold Y7 dI;rw[zA (zZ h b c).2,za b,za c]
theorem EX(h:xd (lb k)=Ta):(⟨#[107]⟩:Bt)++(Y7 (.mk 4 k [] [])).1=eS k:=by unfold Y7 eS;rw[zA (rv h),xo];show bl [107]++bl (dv (lb k)).1=_;rw[qb];rfl
end
end Go.X
