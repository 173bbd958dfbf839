/- A part of the proof: nothing is stated here for its own sake. -/
import Derived.Test.YtbploiccompocaaGreatDoorPlF
open _root_.Array renaming ext'->Dr,push->Et,size->CC,size_push->Ai
open _root_.Go.Instr renaming storeAt->Al
open _root_.Int renaming toNat_natCast->Ad
open _root_.Go.IntKind renaming wrap->Aa
open _root_.List.cons renaming injEq->Br
open _root_.List renaming drop_eq_getElem_cons->AC,drop_length->BC,drop_zero->AQ,getElem_mem->Ao,length->Bm,mem_append->Am,mem_append_left->Ap,mem_append_right->Ay,nodup_append->A0,range->AZ
open _root_.Nat renaming add_zero->CX,le_refl->Ae,le_trans->D6,mul_one->Cf,zero_add->AD,zero_le->BP
open _root_.Option.some renaming inj->Aw
open _root_.Go.Value.slice renaming injEq->AJ
set_option linter.unusedVariables false
set_option maxRecDepth 100000
namespace Go.X
end Go.X
namespace Go.Proofs
end Go.Proofs
open Go Go.X Go.Proofs
section
namespace Go.X
open Go Go.X Go.Proofs Go.Lib
set_option maxHeartbeats 4000000 in
section
theorem z3o{gl:Fr}(hg:GL gl){v:Tr}{l:List OpT}(hv:Sm v)(hl:∀o∈l,OpS o)(hn:l.length<=1000000){h:zb}{M:Fr}{u1 u2:Value}(hM:Fr.le gl M)(ag:AgM M h)(aM:RdV M .tree v u1)(bq:RdV M (.row Yt) l u2){K:Value->zb->Prop}
  (hK:∀(h':zb) (sk si:Sl) (bs:List Nat),Keep h.size h h'->OT h' (qi v l).1 bs (zc (qi v l).1.kind (qi v l).1.text sk si)->(∀b∈bs,h.size<=b)->K (.tuple #[.agg #[.int .i64 (qi v l).1.kind,.string (qi v l).1.text,slV sk,slV si],.int .i64 (qi v l).2.1,.int .i64 (qi v l).2.2]) h'):
  XC Tp 13 #[u1,u2] h K:=by
 obtain⟨R,aU⟩:∃R:Tr×Int×Int->Prop,R=λr=>∀(h':zb) (sk si:Sl) (bs:List Nat),Keep h.size h h'->OT h' r.1 bs (zc r.1.kind r.1.text sk si)->(∀b∈bs,h.size<=b)->K (.tuple #[.agg #[.int .i64 r.1.kind,.string r.1.text,slV sk,slV si],.int .i64 r.2.1,.int .i64 r.2.2]) h':=⟨_,rfl⟩
 have hR:R (qi v l):=by rw[aU];exact hK
 clear hK
 have ar:=aM
 obtain⟨sk,si,rfl,rk,ri⟩:=yp aM
 obtain⟨sl,rfl,rl⟩:=zdg bq
 obtain⟨ll,_,_⟩:=rowLen rl
 apply za3 v.kind v.text sk si sl
 intro h1 h2
 have k1:Keep h.size h h1:=Keep.push _ _ (Ae _)
 have k2:Keep h1.size h1 h2:=Keep.push _ _ (Ae _)
 have b1:Blk h1 h.size (zc v.kind v.text sk si).toArray:=Blk.new _ _ _
 have b2:Blk h2 h1.size (zc 0 ⟨#[]⟩ ⟨none,0,0⟩ ⟨none,0,0⟩).toArray:=Blk.new _ _ _
 have z1:h1.size=h.size+1:=Ai _
 have z2:h2.size=h1.size+1:=Ai _
 clear_value h1 h2
 have aJ:=b1.ofKeep k2
 have aD:Keep h.size h h2:=k1.trans k2 (by omega)
 have bp:=ag.keep aD
 have ret:∀(g':zb) (r:Tr) (sk si:Sl) (bs:List Nat) (i e:Int),Keep h.size h g'->OT g' r bs (zc r.kind r.text sk si)->(∀b∈bs,h.size<=b)->R (r,i,e) ->
   K (.tuple #[.agg #[.int .i64 r.kind,.string r.text,slV sk,slV si],.int .i64 i,.int .i64 e]) g':=by
  intro g' r sk si bs i e k o hb hR
  rw[aU]at hR
  exact hR g' sk si bs k o hb
 have aN:∀(g:zb) (i e:Int),Keep h.size h g->Blk g h1.size (zc 0 ⟨#[]⟩ ⟨none,0,0⟩ ⟨none,0,0⟩).toArray->R (zT,i,e) ->
   XRunU Tp (Al 25 (.pointer (some ⟨h1.size,0,none⟩)) (.agg #[.int .i64 0,.string (⟨#[]⟩:Bt),.slice none 0 0,.slice none 0 0])) g (λg'=>∃ap:Int,∃au:Bt,∃Z:Sl,∃aa:Sl,ze g' ⟨h1.size,0,none⟩ 0 [.int .i64 ap,.string au,.slice Z.a Z.len Z.cap,.slice aa.a aa.len aa.cap] /\
    K (.tuple #[.agg #[.int .i64 ap,.string au,.slice Z.a Z.len Z.cap,.slice aa.a aa.len aa.cap],.int .i64 i,.int .i64 e]) g'):=by
  intro g i e kg bg a6
  refine qa bg rfl 0 ⟨#[]⟩ ⟨none,0,0⟩ ⟨none,0,0⟩ λg' b' z' f'=>⟨0,⟨#[]⟩,⟨none,0,0⟩,⟨none,0,0⟩,b'.ld (cs:=zc 0 ⟨#[]⟩ ⟨none,0,0⟩ ⟨none,0,0⟩),?_⟩
  have aA:Keep h.size h g':=⟨by have:=kg.size;omega,λj hj=>by rw[f' j (by omega)];exact kg.get j hj⟩
  exact ret g' zT ⟨none,0,0⟩ ⟨none,0,0⟩ [] i e aA (OT.zero g') (λb hb=>by cases hb) a6
 refine⟨v.kind,v.text,sk,si,aJ.ld (cs:=zc v.kind v.text sk si),?_⟩
 have am:PC Tp gl 21 [Arg.mk .tree v] [.bool] (λr=>r=qy v):=zea hg hv rfl
 refine am.go (vs:=[.agg #[.int .i64 v.kind,.string v.text,slV sk,slV si]]) hM bp (yo ar ww) λw h8 M8 r L8 aF hr=>?_
 have hr:r=qy v:=hr
 subst hr
 have k8:Keep h.size h h8:=aD.trans L8.keep (by omega)
 have z8:=L8.keep.size
 refine⟨qy v,zay aF,λhf=>?_,λht=>?_⟩
 ·have bh:qy v=false:=by simpa using hf
  unfold qi at hR
  rw[bh]at hR
  exact aN h8 0 1 k8 (b2.ofKeep L8.keep) hR
 have aB:qy v=true:=by simpa using ht
 have aG:qi v l=Zj v l 0:=by unfold qi;rw[aB];rfl
 rw[aG]at hR
 refine⟨v.kind,v.text,sk,si,(aJ.ofKeep L8.keep).ld (cs:=zc v.kind v.text sk si),?_⟩
 refine zfc hg hv (wb aB) hM (ag.keep k8) ar λO bs ck ci aC ot bc=>⟨v.kind,v.text,ck,ci,rfl,?_⟩
 have bF:=aC.size
 intro ac
 have ax:Keep O.size O ac:=Keep.push _ _ (Ae _)
 have be:Blk ac O.size (zc v.kind v.text ck ci).toArray:=Blk.new _ _ _
 have bE:ac.size=O.size+1:=Ai _
 clear_value ac
 have bu:Keep h.size h ac:=(k8.trans aC (by omega)).trans ax (by omega)
 have aO:OT ac v bs (zf v ck ci):=ot.frame λc hc=>ax.get c (ot.lt c hc)
 have bj:Doc ac O.size v bs:=⟨⟨_,be,rfl,aO⟩,λhm=>by have:=ot.lt _ hm;omega⟩
 have aI:Blk ac h1.size (zc 0 ⟨#[]⟩ ⟨none,0,0⟩ ⟨none,0,0⟩).toArray:=((b2.ofKeep L8.keep).ofKeep aC).ofKeep ax
 refine⟨λi g=>∃(k:Nat) (w:Tr) (D:List Nat),i=(k:Int)/\k<=l.length/\Keep h.size h g/\O.size<g.size/\Blk g h1.size (zc 0 ⟨#[]⟩ ⟨none,0,0⟩ ⟨none,0,0⟩).toArray/\Doc g O.size w D/\(∀c∈D,h2.size<=c)/\qy w=true/\Sm w/\R (Zj w (l.drop k) k),
  λi _=>l.length-i.toNat,⟨0,v,bs,rfl,BP _,bu,by omega,aI,bj,(λc hc=>by have:=bc c hc;omega),aB,hv,by rw[AQ];exact hR⟩,?_⟩
 rintro i g ⟨k,w,D,rfl,hk,kg,zg,bg,dg,hD,al,aS,ai⟩
 have agg:=ag.keep kg
 refine⟨λhc=>?_,λhc=>?_⟩
 ·have ae:k<l.length:=by rw[ll]at hc;simp at hc;omega
  obtain⟨a,sp,sf,tk,ti,ea,aY,ba⟩:=opAt agg rl ae
  have aP:=hl l[k] (Ao ae)
  refine⟨a,⟨ea,by omega,by omega⟩,l[k].1,sp,sf,l[k].2.2.2.kind,l[k].2.2.2.text,tk,ti,by rw[Ad];exact aY,?_⟩
  intro aj
  have a8:Keep g.size g aj:=Keep.push _ _ (Ae _)
  have a1:Blk aj g.size opZero.toArray:=Blk.new _ _ _
  have bG:aj.size=g.size+1:=Ai _
  clear_value aj
  refine z0a a1 rfl l[k].1 sp sf l[k].2.2.2 tk ti λak bo bD bm=>?_
  refine⟨l[k].1,sp,sf,l[k].2.2.2.kind,l[k].2.2.2.text,tk,ti,bo.ld (cs:=qg l[k].1 sp sf l[k].2.2.2 tk ti),?_⟩
  have ay:Keep g.size g ak:=⟨by omega,λj hj=>by rw[bm j (by omega)];exact a8.get j hj⟩
  have af:Keep h.size h ak:=kg.trans ay (by have:=kg.size;omega)
  have aZ:At gl w ak M O.size D:=⟨hM,ag.keep af,dg.keep λc hc=>ay.get c (dg.lt c hc),aS,xd (wb al),zjc al⟩
  have a7:∀b cs,M b=some cs->b≠O.size/\b∉D:=λb cs e=>by
   have:=ag.lt e
   exact⟨by omega,λhm=>by have:=hD b hm;omega⟩
  have an:R (if(wj w l[k]).2=0 then Zj (wj w l[k]).1 (l.drop (k+1)) (k+1)else(zT,(k:Int),(wj w l[k]).2)):=by
   rw[AC ae,Zj]at ai
   exact ai
  have key:∀(h':zb) (D':List Nat),Turn ak h' O.size D [] D'->Keep h.size h h'/\Blk h' h1.size (zc 0 ⟨#[]⟩ ⟨none,0,0⟩ ⟨none,0,0⟩).toArray:=λh' D' tn=>
   ⟨⟨by have:=tn.size;have:=af.size;omega,λj hj=>by rw[tn.old j (by have:=af.size;omega) (by omega) (λhm=>by have:=hD j hm;omega)];exact af.get j hj⟩,
    (bg.ofKeep ay).keep (tn.old _ (by omega) (by omega) (λhm=>by have:=hD _ hm;omega))⟩
  refine zz9 hg aZ a7 al aP ba λh' D' aQ tn=>⟨(wj w l[k]).2,rfl,λbz=>?_,λbn=>?_⟩
  all_goals obtain⟨aT,aL⟩:=key h' D' tn
  ·have aH:¬(wj w l[k]).2=0:=by simpa using bz
   rw[if_neg aH]at an
   exact aN h' k (wj w l[k]).2 aT aL an
  ·have ah:(wj w l[k]).2=0:=by simpa using bn
   rw[if_pos ah]at an
   rw[yz ae (by omega)]
   refine⟨⟨k+1,(wj w l[k]).1,D',rfl,ae,aT,by have:=tn.size;omega,aL,aQ ah,λc hc=>?_,Wt ah,zg0 aS al aP,an⟩,by simp only[Ad];omega⟩
   rcases tn.own c hc with q|q|q
   ·exact hD c q
   ·cases q
   ·omega
 ·have ae:k=l.length:=by rw[ll]at hc;simp at hc;omega
  subst ae
  rw[BC,Zj]at ai
  obtain⟨⟨cs,bd,bC,az⟩,bB⟩:=dg
  obtain⟨dk,di,aV⟩:=az.cells
  have aE:cs=(zf w dk di).toArray:=by apply Dr;rw[aV];rfl
  rw[aV]at az
  subst aE
  refine⟨⟨O.size,0,none⟩,rfl,w.kind,w.text,dk,di,?_,?_⟩
  ·rw[zo];exact bd.ld (cs:=zf w dk di)
  refine qa bg rfl w.kind w.text dk di λg' b' z' f'=>⟨w.kind,w.text,dk,di,b'.ld (cs:=zc w.kind w.text dk di),?_⟩
  have aA:Keep h.size h g':=⟨by have:=kg.size;omega,λj hj=>by rw[f' j (by omega)];exact kg.get j hj⟩
  have bA:OT g' w D (zf w dk di):=az.frame λc hc=>f' c (by have:=hD c hc;omega)
  rw[ll]
  exact ret g' w dk di D _ _ aA bA (λb hb=>by have:=hD b hb;omega) ai
end
end Go.X
end
section
namespace Go.X
section
theorem qam:ji Tp 9=true:=by kernel_rfl
theorem qan:je Tp 9=1:=by kernel_rfl
theorem qao:ji Tp 3=true:=by kernel_rfl
theorem qap:je Tp 3=1:=by kernel_rfl
def But(bs:List Nat)(h h':zb):Prop:=h.size<=h'.size/\∀i,i<h.size->i∉bs->h'[i]?=h[i]?
theorem But.refl(bs:List Nat)(h:zb):But bs h h:=⟨Ae _,λ_ _ _=>rfl⟩
theorem But.trans{bs:List Nat}{a b c:zb}(x:But bs a b)(y:But bs b c):But bs a c:=⟨D6 x.1 y.1,λi hi hn=>(y.2 i (by have:=x.1;omega) hn).trans (x.2 i hi hn)⟩
set_option maxHeartbeats 2000000 in
theorem z3p(n:Nat):∀(v:Tr),tsz v<=n->∀{h:zb} {bs:List Nat} {sk si:Sl},OT h v bs (zc v.kind v.text sk si)->∀{K:Value->zb->Prop},(∀h',But bs h h'->K (.tuple #[]) h')->XC Tp 16 #[.agg #[.int .i64 v.kind,.string v.text,slV sk,slV si]] h K:=by
 induction n with
 |zero=>intro v hn;have:=zb5 v;omega
 |succ n ih=>
 intro v hn h bs sk si ot K hK
 have ae:=ot
 generalize hq:zc v.kind v.text sk si=cells at ae
 cases ae with
 | @mk kd s ks xs sk' si' bk bb b cs bf hkk hnn hz hi hd=>
 have:sk'=sk/\si'=si:=by
  simp only[zc,slV,Br,AJ,and_true]at hq
  obtain⟨_,_,⟨a1,a2,a3⟩,a4,a5,a6⟩:=hq
  cases sk;cases si;cases sk';cases si'
  simp only at a1 a2 a3 a4 a5 a6
  subst a1;subst a2;subst a3;subst a4;subst a5;subst a6;exact⟨rfl,rfl⟩
 obtain⟨rfl,rfl⟩:=this
 obtain⟨aN,aZ,aY,au⟩:=hkk
 rw[A0]at hd
 obtain⟨aQ,ax,aC⟩:=hd
 rw[A0]at ax
 obtain⟨aS,aJ,aM⟩:=ax
 have nf:=ziv.1 aJ
 have ai:=ot.lt
 apply zb7 kd s sk' si'
 intro h1
 have z1:h1.size=h.size+1:=Ai _
 have k1:Keep h.size h h1:=Keep.push _ _ (Ae _)
 have b1:Blk h1 h.size (zc kd s sk' si').toArray:=Blk.new _ _ _
 clear_value h1
 refine⟨λi g=>∃k:Nat,i=(k:Int)/\k<=ks.length/\h1.size<=g.size/\(∀x,x<h1.size->x∉bk->g[x]?=h1[x]?)/\(∀bx∈bk,∃c:Array Value,Blk g bx c/\ks.length<=c.size),λi _=>ks.length-i.toNat,⟨0,rfl,by omega,Ae _,λ_ _ _=>rfl,λbx O=>?_⟩,?_⟩
 ·rcases au with⟨_,rfl,_⟩|⟨b',cs',rfl,e1,e2,_,e3⟩
  ·cases O
  ·simp at O;subst O
   refine⟨cs',e2.ofKeep k1,?_⟩
   have:=congrArg Bm e3
   unfold cut at this
   simp at this;omega
 rintro i g ⟨k,rfl,hk,zg,fg,blk⟩
 have aL:h.size∉bk:=λhm=>by have:=ai h.size (by simp[hm]);omega
 have bg:Blk g h.size (zc kd s sk' si').toArray:=b1.keep (fg _ (by omega) aL)
 refine⟨sk',bg.cellAdd (o:=0) (k:=2) rfl,λhc=>?_,λhc=>?_⟩
 ·have Z:k<ks.length:=by rw[aN]at hc;simp at hc;omega
  rcases au with⟨h0,_⟩|⟨b',cs',rfl,e1,e2,_,e3⟩
  ·rw[h0]at Z;simp at Z
  obtain⟨c,aI,ap⟩:=blk b' (by simp)
  refine⟨sk',bg.cellAdd (o:=0) (k:=2) rfl,⟨b',0,none⟩,⟨e1,by omega,by omega⟩,?_⟩
  rw[z0q,AD,Ad,Cf]
  refine xr (vs:=[.string (⟨#[115,112,111,105,108,116]⟩:Bt)]) qam aI rfl qan (by simp;omega) (by simp[Value.oneCell']) λh9 b9 z9 f9=>?_
  rw[yz Z (by omega)]
  refine⟨⟨k+1,rfl,by omega,by omega,λx hx hm=>by rw[f9 x (λe=>hm (by simp[e]))];exact fg x hx hm,λbx O=>?_⟩,by simp only[Ad];omega⟩
  simp at O;subst O
  exact⟨_,b9,by rw[y0 (by simp;omega)];exact ap⟩
 have aj:∀i,i<xs.length->∀x∈bf i,x∉bk/\x∉bb/\x<h.size:=λi ah x hx=>
  ⟨λhm=>aC x hm x (Ay _ (Wq.2 ⟨i,ah,hx⟩)) rfl,λhm=>aM x hm x (Wq.2 ⟨i,ah,hx⟩) rfl,ai x (by simp only[Am];exact .inr (.inr (Wq.2 ⟨i,ah,hx⟩)))⟩
 have ac:∀x∈bb,x∉bk/\x<h.size:=λx hx=>⟨λhm=>aC x hm x (Ap _ hx) rfl,ai x (by simp[hx])⟩
 refine⟨λi g'=>∃(k:Nat) (cs':Array Value),i=(k:Int)/\k<=xs.length/\h1.size<=g'.size/\(∀x,x<h1.size->x∉bk++(bb++(AZ xs.length).flatMap bf)->g'[x]?=h1[x]?)/\(∀bx∈bb,Blk g' bx cs'/\xs.length*4<=cs'.size)/\(∀i (hx:i<xs.length),k<=i->OT g' xs[i] (bf i) (cut cs' (i*4) 4)),
  λi _=>xs.length-i.toNat,⟨0,cs,rfl,by omega,zg,λx hx hm=>fg x hx (λe=>hm (by simp[e])),λbx O=>?_,λi hx _=>?_⟩,?_⟩
 ·rcases hz with⟨_,rfl,_⟩|⟨rfl,e1,e2,e3⟩
  ·cases O
  ·simp at O;subst O
   exact⟨(e2.ofKeep k1).keep (fg bx (by have:=(ac bx (by simp)).2;omega) (ac bx (by simp)).1),by have:=hnn.2.2;omega⟩
 ·exact(hi i hx).frame λx af=>by
   obtain⟨q1,q2,q3⟩:=aj i hx x af
   rw[fg x (by omega) q1];exact k1.get x q3
 rintro i g' ⟨j,cs',rfl,hj,aU,al,aB,todo⟩
 have aE:h.size∉bk++(bb++(AZ xs.length).flatMap bf):=λhm=>by have:=ai h.size hm;omega
 have an:Blk g' h.size (zc kd s sk' si').toArray:=b1.keep (al _ (by omega) aE)
 refine⟨si',an.cellAdd (o:=0) (k:=3) rfl,λhc=>?_,λhc=>?_⟩
 ·have Z:j<xs.length:=by rw[hnn.1]at hc;simp at hc;omega
  rcases hz with⟨h0,_⟩|⟨rfl,e1,e2,e3⟩
  ·rw[h0]at Z;simp at Z
  obtain⟨az,ap⟩:=aB b (by simp)
  have ar:=todo j Z (Ae _)
  obtain⟨tk,ti,ak⟩:=ar.cells
  rw[ak]at ar
  refine⟨si',an.cellAdd (o:=0) (k:=3) rfl,⟨b,0,none⟩,⟨e1,by omega,by omega⟩,xs[j].kind,xs[j].text,tk,ti,?_,?_⟩
  ·rw[z0q,AD,Ad]
   exact zj7 az (vs:=zc xs[j].kind xs[j].text tk ti) (o:=j*4) (i:=0) ak
  ·have hm:xs[j]∈xs:=Ao Z
   have aP:=yh (v:=.mk kd s ks xs) hm
   refine ih xs[j] (by omega) ar λay aa=>⟨rfl,?_⟩
   have a7:=aa.1
   have aH:∀x,x∈bf j->x<h.size:=λx hx=>(aj j Z x hx).2.2
   have aD:Blk ay h.size (zc kd s sk' si').toArray:=an.keep (aa.2 _ (by omega) λhm=>by have:=aH _ hm;omega)
   refine⟨si',aD.cellAdd (o:=0) (k:=3) rfl,⟨b,0,none⟩,⟨e1,by omega,by omega⟩,?_⟩
   have aG:b∉bf j:=λhm=>(aj j Z b hm).2.1 (by simp)
   have aA:Blk ay b cs':=az.keep (aa.2 b (by have:=(ac b (by simp)).2;omega) aG)
   rw[z0q,z0q,AD,CX,Ad]
   refine xr (vs:=[.int .i64 (-7)]) qao aA rfl qap (by show j*4+1<=cs'.size;omega) (by simp[Value.oneCell']) λaT aO aV aF=>?_
   rw[yz Z (by omega)]
   refine⟨⟨j+1,upd cs' (j*4) [.int .i64 (-7)],rfl,by omega,by omega,λx hx hm=>?_,λbx O=>?_,λi hx ah=>?_⟩,by simp only[Ad];omega⟩
   ·rw[aF x (λe=>hm (by simp[e])),aa.2 x (by omega) λam=>hm (by simp only[Am];exact .inr (.inr (Wq.2 ⟨j,Z,am⟩)))]
    exact al x hx hm
   ·simp at O;subst O
    exact⟨aO,by rw[y0 (by show j*4+1<=cs'.size;omega)];exact ap⟩
   ·rw[Jw (by show j*4+1<=cs'.size;omega) (by right;show j*4+1<=i*4;omega)]
    have oi:=todo i hx (by omega)
    refine oi.frame λx af=>?_
    rw[aF x (λe=>(aj i hx x af).2.1 (by simp[e])),aa.2 x (oi.lt x af) λam=>nf.2 j i (by omega) hx x am x af rfl]
 ·refine hK g' ⟨by omega,λx hx hm=>?_⟩
  rw[al x (by omega) hm];exact k1.get x hx
end
section
theorem Yu(b:Int)(c:Bt)(d:Sl)(e:Sl)(l1:Sl)(h:zb)(R:Value->zb->Prop)
  (H:let f:=h.push (.cells #[.int .i64 b,.string c,slV d,slV e] 25);XC Tp 9 #[] f (λg i=>∃j,g=.bool j/\∃k l m n,ze i ⟨h.size,0,none⟩ 0 [.int .i64 k,.string l,slV m,slV n]/\XC Tp 10 #[.agg #[.int .i64 k,.string l,slV m,slV n],.int .i64 300] i (λo p=>∃q,o=.bool q/\∃r:Value->zb->Prop,(q=true->XC Tp 11 #[slV l1] p (λs t=>∃u,s=.bool u/\r (.bool u) t))/\(q=false->∃v,r (.bool v) p)/\(q=true->∀w x,r w x->∃y,w=.bool y)/\∀z:Bool,∀A,r (.bool z) A->((!(bif q then z else false))=true->R (.bool j) A)/\((!(bif q then z else false))=false->∃B C D E,ze A ⟨h.size,0,none⟩ 0 [.int .i64 B,.string C,slV D,slV E]/\XC Tp 12 #[.agg #[.int .i64 B,.string C,slV D,slV E]] A (λF G=>∃I J L M,F=.agg #[.int .i64 I,.string J,slV L,slV M]/\let N:=G.push (.cells #[.int .i64 0,.string (⟨#[]⟩:Bt),.slice none 0 0,.slice none 0 0] 25);XRunU Tp (Al 25 (.pointer (some ⟨G.size,0,none⟩)) (.agg #[.int .i64 I,.string J,slV L,slV M])) N (λO=>∃P Q S T,ze O ⟨h.size,0,none⟩ 0 [.int .i64 P,.string Q,slV S,slV T]/\XC Tp 13 #[.agg #[.int .i64 P,.string Q,slV S,slV T],slV l1] O (λU V=>∃W X Y Z aa ab,U=.tuple #[.agg #[.int .i64 W,.string X,slV Y,slV Z],.int .i64 aa,.int .i64 ab]/\let ac:=V.push (.cells #[.int .i64 0,.string (⟨#[]⟩:Bt),.slice none 0 0,.slice none 0 0] 25);XRunU Tp (Al 25 (.pointer (some ⟨V.size,0,none⟩)) (.agg #[.int .i64 W,.string X,slV Y,slV Z])) ac (λad=>∃ae af ag ah,ze ad ⟨h.size,0,none⟩ 0 [.int .i64 ae,.string af,slV ag,slV ah]/\XC Tp 14 #[.agg #[.int .i64 ae,.string af,slV ag,slV ah],slV l1] ad (λai aj=>∃ak al am an ao ap,ai=.tuple #[.agg #[.int .i64 ak,.string al,slV am,slV an],.int .i64 ao,.int .i64 ap]/\let aq:=aj.push (.cells #[.int .i64 0,.string (⟨#[]⟩:Bt),.slice none 0 0,.slice none 0 0] 25);XRunU Tp (Al 25 (.pointer (some ⟨aj.size,0,none⟩)) (.agg #[.int .i64 ak,.string al,slV am,slV an])) aq (λar=>∃au av aw ax,ze ar ⟨V.size,0,none⟩ 0 [.int .i64 au,.string av,slV aw,slV ax]/\∃ay az aA aB,ze ar ⟨aj.size,0,none⟩ 0 [.int .i64 ay,.string az,slV aA,slV aB]/\XC Tp 15 #[.agg #[.int .i64 au,.string av,slV aw,slV ax],.agg #[.int .i64 ay,.string az,slV aA,slV aB]] ar (λaC aD=>∃aE,aC=.bool aE/\∃aF aG aH aI,ze aD ⟨V.size,0,none⟩ 0 [.int .i64 aF,.string aG,slV aH,slV aI]/\XC Tp 16 #[.agg #[.int .i64 aF,.string aG,slV aH,slV aI]] aD (λaJ aL=>aJ=.tuple #[]/\∃(aM:Int->zb->Prop) (aN:Int->zb->Nat),aM 0 aL/\∀aO:Int,∀aP:zb,aM aO aP->((decide (aO<l1.len)=true->∃aQ,(l1.a=some aQ/\0<=aO/\aO<l1.len)/\∃aS aT aU aV aW aX aY,ze aP (aQ.add (aO.toNat*7)) 0 [.string aS,slV aT,slV aU,.int .i64 aV,.string aW,slV aX,slV aY]/\∃aZ,(l1.a=some aZ/\0<=aO/\aO<l1.len)/\∃a0 a1 a2 a3 a4 a5 a6,ze aP (aZ.add (aO.toNat*7)) 0 [.string a0,slV a1,slV a2,.int .i64 a3,.string a4,slV a5,slV a6]/\XC Tp 17 #[.agg #[.string aS,slV aT,slV aU,.int .i64 aV,.string aW,slV aX,slV aY]] aP (λa7 a8=>∃a9,a7=.bool a9/\(a8)[((aZ.add (aO.toNat*7)):Addr).block]?=(aP)[((aZ.add (aO.toNat*7)):Addr).block]?/\XC Tp 18 #[.agg #[.string a0,slV a1,slV a2,.int .i64 a3,.string a4,slV a5,slV a6]] a8 (λba bb=>∃bc,ba=.bool bc/\((!(a9==bc))=true->R (.bool false) bb)/\((!(a9==bc))=false->(aM (Aa .i64 (aO+1)) bb/\aN (Aa .i64 (aO+1)) bb<aN aO aP)))))/\(decide (aO<l1.len)=false->∃bd be bf bg,ze aP ⟨h.size,0,none⟩ 0 [.int .i64 bd,.string be,slV bf,slV bg]/\XC Tp 13 #[.agg #[.int .i64 bd,.string be,slV bf,slV bg],slV l1] aP (λbh bi=>∃bj bk bl bm bn bo,bh=.tuple #[.agg #[.int .i64 bj,.string bk,slV bl,slV bm],.int .i64 bn,.int .i64 bo]/\let bp:=bi.push (.cells #[.int .i64 0,.string (⟨#[]⟩:Bt),.slice none 0 0,.slice none 0 0] 25);XRunU Tp (Al 25 (.pointer (some ⟨bi.size,0,none⟩)) (.agg #[.int .i64 bj,.string bk,slV bl,slV bm])) bp (λbq=>∃br bs bt bu,((bif (bif (bif j then aE else false)then(aa==ao)else false)then(ab==ap)else false)=true->ze bq ⟨h.size,0,none⟩ 0 [.int .i64 br,.string bs,slV bt,slV bu])/\∃bv bw bx bz,((bif (bif (bif j then aE else false)then(aa==ao)else false)then(ab==ap)else false)=true->ze bq ⟨G.size,0,none⟩ 0 [.int .i64 bv,.string bw,slV bx,slV bz])/\∃bA:Value->zb->Prop,((bif (bif (bif j then aE else false)then(aa==ao)else false)then(ab==ap)else false)=true->XC Tp 15 #[.agg #[.int .i64 br,.string bs,slV bt,slV bu],.agg #[.int .i64 bv,.string bw,slV bx,slV bz]] bq (λbB bC=>∃bD,bB=.bool bD/\bA (.bool bD) bC))/\((bif (bif (bif j then aE else false)then(aa==ao)else false)then(ab==ap)else false)=false->∃bE,bA (.bool bE) bq)/\((bif (bif (bif j then aE else false)then(aa==ao)else false)then(ab==ap)else false)=true->∀bF bG,bA bF bG->∃bH,bF=.bool bH)/\∀bI:Bool,∀bJ,bA (.bool bI) bJ->∃bL bM bN bO,((bif (bif (bif (bif j then aE else false)then(aa==ao)else false)then(ab==ap)else false)then bI else false)=true->ze bJ ⟨aj.size,0,none⟩ 0 [.int .i64 bL,.string bM,slV bN,slV bO])/\∃bP bQ bS bT,((bif (bif (bif (bif j then aE else false)then(aa==ao)else false)then(ab==ap)else false)then bI else false)=true->ze bJ ⟨bi.size,0,none⟩ 0 [.int .i64 bP,.string bQ,slV bS,slV bT])/\∃bU:Value->zb->Prop,((bif (bif (bif (bif j then aE else false)then(aa==ao)else false)then(ab==ap)else false)then bI else false)=true->XC Tp 15 #[.agg #[.int .i64 bL,.string bM,slV bN,slV bO],.agg #[.int .i64 bP,.string bQ,slV bS,slV bT]] bJ (λbV bW=>∃bX,bV=.bool bX/\bU (.bool bX) bW))/\((bif (bif (bif (bif j then aE else false)then(aa==ao)else false)then(ab==ap)else false)then bI else false)=false->∃bY,bU (.bool bY) bJ)/\((bif (bif (bif (bif j then aE else false)then(aa==ao)else false)then(ab==ap)else false)then bI else false)=true->∀bZ b0,bU bZ b0->∃b1,bZ=.bool b1)/\∀b2:Bool,∀b3,bU (.bool b2) b3->R (.bool (bif (bif (bif (bif (bif j then aE else false)then(aa==ao)else false)then(ab==ap)else false)then bI else false)then b2 else false)) b3)))))))))))))))):
  XC Tp 3 #[.agg #[.int .i64 b,.string c,.slice d.a d.len d.cap,.slice e.a e.len e.cap],.slice l1.a l1.len l1.cap] h R:=
 XF ⟨[(13,8000)],[(11,[(15,.one (.int .i64))])],[]⟩ [.tmp 4] 98 Tryz.func3 H
end
section
variable {h:zb} {K:Value -> zb -> Prop} {gl M:Fr} {u1:Value} {v:Tr}
theorem z3q{k:Int}{s:Bt}{sk si:Sl}{K:zb->Prop}(hK:∀h':zb,Keep h.size h h'->h'.size=h.size+1->Blk h' h.size (zc k s sk si).toArray->K h'):
  let O:zb:=Et h (.cells #[.int .i64 0,.string (⟨#[]⟩:Bt),.slice none 0 0,.slice none 0 0] 25);XRunU Tp (Al 25 (.pointer (some ⟨CC h,0,none⟩)) (.agg #[.int .i64 k,.string s,.slice sk.a sk.len sk.cap,.slice si.a si.len si.cap])) O K:=by
 intro h1
 have z1:h1.size=h.size+1:=Ai _
 have k1:Keep h.size h h1:=Keep.push _ _ (Ae _)
 have b1:Blk h1 h.size (zc 0 ⟨#[]⟩ ⟨none,0,0⟩ ⟨none,0,0⟩).toArray:=Blk.new _ _ _
 clear_value h1
 exact qa b1 rfl k s sk si λh5 b5 z5 f5=>hK h5 ⟨by omega,λi hi=>by rw[f5 i (by omega)];exact k1.get i hi⟩ (by omega) b5
theorem zr8{a b:Tr}(ha:tsz a<=1000000000000){u1 u2:Value}(hM:Fr.le gl M)(ag:AgM M h)(h1:RdV M .tree a u1)(h2:RdV M .tree b u2)
  (hK:∀(h':zb) (r:Bool),Keep h.size h h'->(r=true↔a=b)->K (.bool r) h'):XC Tp 15 #[u1,u2] h K:=by
 have he:PC Tp gl 15 [Arg.mk .tree a,Arg.mk .tree b] [.bool] (λr=>r=true↔a=b):=zpr a b ha λr hr=>hr
 refine he.go (vs:=[u1,u2]) hM ag (yo h1 (yo h2 ww)) λw h' M' r L O hr=>?_
 rw[zay O]
 exact hK h' r L.keep hr
theorem qb9{m:Int}(hm:0<=m/\m<=1000)(hM:Fr.le gl M)(ag:AgM M h)(h1:RdV M .tree v u1)
  (hK:∀(h':zb) (r:Bool),Keep h.size h h'->(r=true->((tks v:Nat):Int)<=m/\Sm v)->K (.bool r) h'):XC Tp 10 #[u1,.int .i64 m] h K:=by
 have he:PC Tp gl 10 [Arg.mk .tree v,Arg.mk (.int .i64) m] [.bool] (λr=>r=true->((tks v:Nat):Int)<=m/\Sm v):=z4j hm λr hr=>hr
 refine he.go (vs:=[u1,.int .i64 m]) hM ag (yo h1 (yo (zxu _ _) ww)) λw h' M' r L O hr=>?_
 rw[zay O]
 exact hK h' r L.keep hr
theorem z8i(hv:Sm v){u:Value}(hM:Fr.le gl M)(ag:AgM M h)(hu:RdV M .tree v u)
  (hK:∀(h':zb) (M':Fr) (sk si:Sl),Later h M h' M'->RdV M' .tree v (.agg #[.int .i64 v.kind,.string v.text,slV sk,slV si])->K (.agg #[.int .i64 v.kind,.string v.text,slV sk,slV si]) h'):XC Tp 12 #[u] h K:=by
 have he:PC Tp gl 12 [Arg.mk .tree v] [.tree] (λr=>r=v):=Xu v hv rfl
 refine he.go (vs:=[u]) hM ag (yo hu ww) λw h' M' r L Z hr=>?_
 have hr:r=v:=hr
 subst hr
 have O:=zax.1 Z
 obtain⟨sk,si,rfl,rk,ri⟩:=yp O
 exact hK h' M' sk si L O
set_option maxHeartbeats 8000000 in
theorem zvz(hg:GL gl){l:List OpT}{R:Bool->Prop}(hR:R true):PC Tp gl 3 [Arg.mk .tree v,Arg.mk (.row Yt) l] [.bool] R:=by
 intro h M vs hM ag bA
 match vs,bA with
 |[u1,u2],⟨a8,be,_⟩=>
 have a8:RdV M .tree v u1:=a8
 have be:RdV M (.row Yt) l u2:=be
 have aS:=a8
 have bm:=be
 obtain⟨sk,si,rfl,rk,ri⟩:=yp a8
 obtain⟨sl,rfl,rl⟩:=zdg be
 obtain⟨ll,_,_⟩:=rowLen rl
 apply PX.of
 apply Yu v.kind v.text sk si sl
 intro h1
 have z1:h1.size=h.size+1:=Ai _
 have k1:Keep h.size h h1:=Keep.push _ _ (Ae _)
 have bv:Blk h1 h.size (zc v.kind v.text sk si).toArray:=Blk.new _ _ _
 clear_value h1
 have bL:∀g:zb,Keep h1.size h1 g->∃M' r,Later h M g M'/\zht M' [.bool] r (.bool true)/\R r:=λg kg=>⟨M,true,Later.same ag (k1.trans kg (by omega)),zax.2 (rdBool true),hR⟩
 have aE:PC Tp gl 9 [] [.bool] (λr=>r=true):=zvy hg rfl
 refine aE.go (vs:=[]) hM (ag.keep k1) ww λx h3 M3 r L3 O hr=>?_
 have hr:r=true:=hr
 subst hr
 refine⟨true,zay O,?_⟩
 have k3:Keep h1.size h1 h3:=L3.keep
 have z3:=k3.size
 refine⟨v.kind,v.text,sk,si,(bv.ofKeep k3).ld (cs:=zc v.kind v.text sk si),?_⟩
 refine qb9 (by decide) hM (ag.keep (k1.trans k3 (by omega))) aS λcH c1 co bT=>⟨c1,rfl,?_⟩
 have aD:Keep h1.size h1 cH:=k3.trans co (by omega)
 have du:=aD.size
 refine⟨λy g=>Keep h1.size h1 g/\∃b,y=.bool b/\(c1=true->b=true->l.length<=30/\∀o∈l,OpF o),λhx=>?_,λhx=>⟨false,aD,false,rfl,λe=>by rw[e]at hx;cases hx⟩,λ_ y g hj=>by obtain⟨_,b,e,_⟩:=hj;exact⟨b,e⟩,λc2 bZ hj=>?_⟩
 ·have hf:PC Tp gl 11 [Arg.mk (.row Yt) l] [.bool] (λb=>b=true->l.length<=30/\∀o∈l,OpF o):=z3k λb hb=>hb
  refine hf.go (vs:=[slV sl]) hM (ag.keep (k1.trans aD (by omega))) (yo bm ww) λw df dt r cj O hr=>⟨r,zay O,aD.trans cj.keep (by omega),r,rfl,λ_=>hr⟩
 obtain⟨a1,dd,e,cb⟩:=hj
 cases e
 have di:=a1.size
 refine⟨λ_=>bL bZ a1,λhx=>?_⟩
 have cr:c1=true/\c2=true:=by
  cases c1 <;> cases c2 <;> first|exact⟨rfl,rfl⟩|cases hx
 obtain⟨rfl,rfl⟩:=cr
 obtain⟨_,hv⟩:=bT rfl
 obtain⟨hn,hl⟩:=cb rfl rfl
 have aH:∀o∈l,OpS o:=λo ho=>(hl o ho).s
 clear bT cb hx aE
 have cd:Keep h.size h bZ:=k1.trans a1 (by omega)
 refine⟨v.kind,v.text,sk,si,(bv.ofKeep a1).ld (cs:=zc v.kind v.text sk si),?_⟩
 refine z8i hv hM (ag.keep cd) aS λc7 bu ak ai ar bO=>⟨v.kind,v.text,ak,ai,rfl,?_⟩
 refine z3q λay b8 cZ cL=>?_
 have da:=ar.keep.size
 have ac:Keep h1.size h1 ay:=(a1.trans ar.keep (by omega)).trans b8 (by omega)
 have bj:AgM bu ay:=ar.ag.keep b8
 have aO:Fr.le gl bu:=hM.trans ar.le
 have aY:=aS.mono ar.le
 have aL:=bm.mono ar.le
 refine⟨v.kind,v.text,sk,si,(bv.ofKeep ac).ld (cs:=zc v.kind v.text sk si),?_⟩
 refine z3o hg hv aH (by omega) aO bj aY aL λcF xk xi bs bU a7 bI=>⟨_,_,xk,xi,_,_,rfl,?_⟩
 refine z3q λaG bY dh cc=>?_
 have db:=bU.size
 have al:Keep ay.size ay aG:=bU.trans bY (by omega)
 have bB:Keep h1.size h1 aG:=ac.trans al (by have:=ac.size;omega)
 have aM:=a7.frame λb hb=>bY.get b (a7.lt b hb)
 refine⟨v.kind,v.text,sk,si,(bv.ofKeep bB).ld (cs:=zc v.kind v.text sk si),?_⟩
 have cn:PC Tp gl 14 [Arg.mk .tree v,Arg.mk (.row Yt) l] [.tree,.int .i64,.int .i64] (λr=>r=qi v l):=z0e hg hv aH (by omega) rfl
 refine cn.go (vs:=[.agg #[.int .i64 v.kind,.string v.text,slV sk,slV si],slV sl]) (M:=bu) aO (bj.keep al) (yo aY (yo aL ww)) λx cz ae r ap O hr=>?_
 have hr:r=qi v l:=hr
 subst hr
 obtain⟨us,⟨y1,cm,rfl,ry,y2,cq,rfl,cg,y3,rfl,cJ⟩,rfl⟩:=O
 have bE:RdV ae .tree (qi v l).1 y1:=ry
 obtain⟨yk,yi,rfl,_,_⟩:=yp ry
 obtain rfl:y2=.int .i64 (qi v l).2.1:=zdf cg
 obtain rfl:y3=.int .i64 (qi v l).2.2:=zdf cJ
 refine⟨(qi v l).1.kind,(qi v l).1.text,yk,yi,_,_,rfl,?_⟩
 refine z3q λbo bF de bP=>?_
 have dl:=ap.keep.size
 have am:Keep aG.size aG bo:=ap.keep.trans bF (by omega)
 have az:=aM.frame λb hb=>am.get b (aM.lt b hb)
 have aJ:AgM ae bo:=ap.ag.keep bF
 have ax:Fr.le gl ae:=aO.trans ap.le
 have cC:∀b∈bs,ae b=none:=λb hb=>by
  have h1:=bI b hb
  have h2:=a7.lt b hb
  rw[ap.old b (by omega)]
  exact qb8 ar.ag (by omega)
 have bD:Sm (qi v l).1:=z0h hv aH
 refine⟨_,_,xk,xi,(cc.ofKeep am).ld (cs:=zc _ _ xk xi),(qi v l).1.kind,(qi v l).1.text,yk,yi,bP.ld (cs:=zc _ _ yk yi),?_⟩
 have bS:Fr.le ae (MxL ae bo bs):=Y7 aJ bs
 refine zr8 bD.sz (ax.trans bS) (MxL.ag aJ bs) az.rdv (bE.mono bS) λcE r1 aP bp=>⟨r1,rfl,?_⟩
 have bp:r1=true:=bp.2 rfl
 subst bp
 have dr:=aP.size
 have aB:Keep aG.size aG cE:=am.trans aP (by omega)
 have bq:=az.frame λb hb=>aP.get b (az.lt b hb)
 refine⟨_,_,xk,xi,(cc.ofKeep aB).ld (cs:=zc _ _ xk xi),?_⟩
 refine z3p _ _ (Ae _) bq λan aA=>⟨rfl,?_⟩
 have c8:=aA.1
 have bG:∀b∈bs,b<cF.size:=λb hb=>a7.lt b hb
 have bQ:AgM ae an:=AgM.app (aJ.keep aP) (λj hj hn=>aA.2 j hj hn) cC
 have old:∀b,b<ay.size->an[b]?=ay[b]?:=λb hb=>by
  rw[aA.2 b (by omega) λhm=>by have:=bI b hm;omega]
  exact(al.trans aB (by omega)).get b hb
 have aF:Keep ay.size ay an:=⟨by omega,old⟩
 have bc:Blk an cz.size (zc (qi v l).1.kind (qi v l).1.text yk yi).toArray:=(bP.ofKeep aP).keep (aA.2 _ (by omega) λhm=>by have:=bG _ hm;omega)
 have aU:Keep h1.size h1 an:=ac.trans aF (by have:=ac.size;omega)
 have ba:=cL.ofKeep aF
 have bn:=aY.mono ap.le
 have bM:=aL.mono ap.le
 have aj:Fr.le M ae:=ar.le.trans ap.le
 refine⟨λi g=>∃k:Nat,i=k/\k<=l.length/\Keep an.size an g,λi _=>l.length-i.toNat,⟨0,rfl,by omega,Keep.refl _ _⟩,?_⟩
 rintro i g ⟨k,rfl,hk,kg⟩
 have agg:AgM ae g:=bQ.keep kg
 have zg:=kg.size
 refine⟨λhc=>?_,λhc=>?_⟩
 ·have aQ:k<l.length:=by simp at hc;omega
  obtain⟨a,sp,sf,ck,ci,e1,cells,q1,q2,q3⟩:=qb7 rl aQ
  obtain⟨b,o,cs,f1,f2,_⟩:=Go.X.rowAt rl aQ
  have bC:sl.a=some a/\(0:Int)<=k/\(k:Int)<sl.len:=⟨e1,by omega,by omega⟩
  have cG:a=⟨b,o,none⟩:=Aw (e1.symm.trans f1)
  have cA:b<g.size:=agg.lt (aj _ _ f2)
  have bH:RdV ae Yt l[k] (.agg (qg l[k].1 sp sf l[k].2.2.2 ck ci).toArray):=zz8 (q1.mono aj) (q2.mono aj) (q3.mono aj)
  refine⟨a,bC,l[k].1,sp,sf,l[k].2.2.2.kind,l[k].2.2.2.text,ck,ci,cells agg aj,a,bC,l[k].1,sp,sf,l[k].2.2.2.kind,l[k].2.2.2.text,ck,ci,cells agg aj,?_⟩
  have hp:PC Tp gl 17 [Arg.mk Yt l[k]] [.bool] (λr=>r=ja l[k]):=zqd hg (aH _ (Ao aQ)) rfl
  refine hp.go (vs:=[.agg (qg l[k].1 sp sf l[k].2.2.2 ck ci).toArray]) ax agg (yo bH ww) λw cQ cP r ah O hr=>?_
  have hr:r=ja l[k]:=hr
  subst hr
  refine⟨_,zay O,?_,?_⟩
  ·subst cG
   rw[z0q]
   exact ah.keep.get b cA
  have cp:PC Tp gl 18 [Arg.mk Yt l[k]] [.bool] (λr=>r=ja l[k]):=zlr hg (aH _ (Ao aQ)) rfl
  refine cp.go (vs:=[.agg (qg l[k].1 sp sf l[k].2.2.2 ck ci).toArray]) (ax.trans ah.le) ah.ag (yo (bH.mono ah.le) ww) λw cO cM r bJ O hr=>?_
  have hr:r=ja l[k]:=hr
  subst hr
  refine⟨_,zay O,λhz=>by simp at hz,λ_=>?_⟩
  rw[yz aQ (by omega)]
  exact⟨⟨k+1,rfl,by omega,kg.trans (ah.keep.trans bJ.keep ah.keep.size) zg⟩,by simp only[Ad];omega⟩
 have aZ:Keep h1.size h1 g:=aU.trans kg (by have:=aU.size;omega)
 refine⟨v.kind,v.text,sk,si,(bv.ofKeep aZ).ld (cs:=zc v.kind v.text sk si),?_⟩
 have ha:PC Tp gl 13 [Arg.mk .tree v,Arg.mk (.row Yt) l] [.tree,.int .i64,.int .i64] (λr=>r=qi v l):=zg1 hg hv aH (by omega) rfl
 refine ha.go (vs:=[.agg #[.int .i64 v.kind,.string v.text,slV sk,slV si],slV sl]) (M:=ae) ax agg (yo bn (yo bM ww)) λx cV a6 r aa O hr=>?_
 have hr:r=qi v l:=hr
 subst hr
 obtain⟨us,⟨y1,cm,rfl,rz,y2,cq,rfl,cy,y3,rfl,cu⟩,rfl⟩:=O
 have cB:RdV a6 .tree (qi v l).1 y1:=rz
 obtain⟨zk,zi,rfl,_,_⟩:=yp rz
 obtain rfl:y2=.int .i64 (qi v l).2.1:=zdf cy
 obtain rfl:y3=.int .i64 (qi v l).2.2:=zdf cu
 refine⟨(qi v l).1.kind,(qi v l).1.text,zk,zi,_,_,rfl,?_⟩
 refine z3q λaf bh cT b9=>?_
 have cY:=aa.keep.size
 have aC:Keep g.size g af:=aa.keep.trans bh (by omega)
 have au:Keep an.size an af:=kg.trans aC zg
 have Z:Keep h1.size h1 af:=aZ.trans aC (by have:=aZ.size;omega)
 have aI:AgM a6 af:=aa.ag.keep bh
 have aV:Fr.le gl a6:=ax.trans aa.le
 have t1:((qi v l).2.1==(qi v l).2.1)=true:=by simp
 have t2:((qi v l).2.2==(qi v l).2.2)=true:=by simp
 simp only[t1,t2,cond_true]
 refine⟨v.kind,v.text,sk,si,λ_=>(bv.ofKeep Z).ld (cs:=zc v.kind v.text sk si),v.kind,v.text,ak,ai,λ_=>(ba.ofKeep au).ld (cs:=zc v.kind v.text ak ai),?_⟩
 refine⟨λy g=>Keep af.size af g/\y=.bool true,λ_=>?_,λhx=>(by cases hx),λ_ y g hj=>⟨true,hj.2⟩,λc5 g5 hj=>?_⟩
 ·refine zr8 hv.sz aV aI (bn.mono aa.le) ((bO.mono ap.le).mono aa.le) λbV r2 aN bz=>⟨r2,rfl,aN,?_⟩
  rw[bz.2 rfl]
 obtain⟨aT,e⟩:=hj
 cases e
 have dm:=aT.size
 simp only[cond_true]
 refine⟨_,_,yk,yi,λ_=>((bc.ofKeep au).ofKeep aT).ld (cs:=zc _ _ yk yi),_,_,zk,zi,λ_=>(b9.ofKeep aT).ld (cs:=zc _ _ zk zi),?_⟩
 refine⟨λy g=>Keep g5.size g5 g/\y=.bool true,λ_=>?_,λhx=>(by cases hx),λ_ y g hj=>⟨true,hj.2⟩,λc6 g6 hj=>?_⟩
 ·refine zr8 bD.sz aV (aI.keep aT) (bE.mono aa.le) cB λbV r2 aN bz=>⟨r2,rfl,aN,?_⟩
  rw[bz.2 rfl]
 obtain⟨ca,e⟩:=hj
 cases e
 have dq:=ca.size
 exact bL g6 ((Z.trans aT (by have:=Z.size;omega)).trans ca (by have:=Z.size;omega))
end
end Go.X
end
