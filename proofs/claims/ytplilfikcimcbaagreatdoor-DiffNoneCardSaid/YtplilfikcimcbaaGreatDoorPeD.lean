/- A part of the proof: nothing is stated here for its own sake. -/
import Derived.Test.YtplilfikcimcbaaGreatDoorPeC
import Derived.Sort.KeysCollected
import Derived.Sort.OwnSortedInts
open _root_.Go.Addr renaming add->Ue
open _root_.Array renaming getD_eq_getD_getElem?->Vh,getElem?_append_left->VU,getElem?_eq_some_iff->Uu,getElem?_push->XL,getElem?_setIfInBounds_ne->U9,getElem?_setIfInBounds_self_of_lt->VG,getElem?_toList->U2,push->VS,replicate->VZ,size->Uw,size_push->Uh,size_setIfInBounds->UL,toList->VW
open _root_.Bool renaming and_eq_true->Uq,eq_iff_iff->UR,not_eq_true'->WX,or_eq_true->WU,true_and->Vz
open _root_.Go.Builtin renaming append_->Us,firstCells->VQ
open _root_.Go.Code renaming region->YA
open _root_.Go.Deferred renaming ofValue->XG
open _root_.Go.Instr renaming entry->XA,findNow->VO,keyThatStays->WF,makeSlice->UW,mapUpdate->VC,next->WE,range->XQ,sameNow->XN,storeAt->Uj
open _root_.Int renaming toNat_natCast->Ui
open _root_.Go.IntKind renaming wrap->Ud
open _root_.List renaming all_eq_true->UI,any_eq_true->XJ,append_assoc->UK,append_eq_nil_iff->WB,append_nil->Vg,cons_append->U8,drop_eq_getElem_cons->U6,eq_nil_of_length_eq_zero->UN,ext_getElem?->U1,filter_cons->WP,flatMap_cons->Vq,getD_eq_getElem?_getD->Ux,getElem?_eq_getElem->Ul,getElem?_eq_none->U5,getElem?_eq_some_iff->UV,getElem?_map->Vk,getElem?_take->UU,getElem_append_left->VD,getElem_append_right->V1,getElem_map->VM,getElem_mem->Ur,length->Vi,length_append->Uk,length_cons->Uz,length_eq_zero_iff->V6,length_map->Um,length_nil->Vb,length_pos_iff->Vt,length_replicate->V2,length_singleton->Vs,length_take->Ve,map_append->U3,map_congr_left->VN,map_cons->UJ,map_map->UZ,mem_append->Uo,mem_append_left->Uv,mem_append_right->UH,mem_cons->Up,mem_cons_of_mem->UG,mem_cons_self->UF,mem_filter->U0,mem_flatMap->Vy,mem_iff_getElem->XE,mem_map->UD,mem_of_getElem?->VA,mem_range->UT,mem_singleton->Ut,nil_append->Vw,nodup_append->VX,nodup_cons->Vf,nodup_nil->V5,pairwise_cons->VB,range->UO,replicate->Vx,take_append_drop->Vr,take_append_of_le_length->V4,take_length->UE,take_of_length_le->Vv,take_succ_cons->WO,take_succ_eq_append_getElem->Un,zip_cons_cons->VR
open _root_.List.cons renaming injEq->VY
open _root_.Nat renaming add_mul->VH,add_zero->XH,eq_of_beq_eq_true->UC,le_of_ble_eq_true->VE,le_of_lt->XK,le_refl->Uf,le_trans->Vj,lt_of_lt_of_le->VP,lt_or_ge->Va,min_eq_left->XO,mul_comm->WS,mul_le_mul->WJ,mul_le_mul_right->UM,mul_one->U4,not_lt_zero->VJ,succ_mul->WT,zero_add->Uy,zero_le->UB
open _root_.Option renaming bind_some->VK
open _root_.Option.some renaming inj->UQ
open _root_.Prod.mk renaming injEq->Vl
open _root_.Go.Region renaming wanted->UX
open _root_.Go.Proofs.Tryz renaming prog->US
open _root_.Go.Value renaming int->Vo,slice->YC,string->UA
open _root_.Go.Value.slice renaming injEq->UY
set_option linter.unusedVariables false
set_option maxRecDepth 100000
namespace Go.X
end Go.X
namespace Go.Proofs
end Go.Proofs
open Go Go.X Go.Proofs
open _root_.Bool renaming true->Ta,false->Tc
open _root_.Option renaming some->Td,none->Te
section
namespace Go.X
section
variable {P:Program} {n m id:Nat} {ro:Option Nat} {e:bK} {h:zc} {a:Act}
theorem u7{P:Program}{ops:Array Oper}{D:List Deferred}{K:Act->World->Prop}:∀(l:List Oper) (a:Act) (w:World),wpList P ops (j0 K) l a w->wpList P ops (j0 λa1 w1=>∃b,a1=Qx D b/\K b w1) l (Qx D a) w
 |[],a,w,h=>⟨a,rfl,h⟩
 |o::l,a,w,h=>by
  unfold wpList at h ⊢;have j:yielded ops (Qx D a).tmps=yielded ops a.tmps:=rfl;rw[j];by_cases c:UX o (yielded ops a.tmps)=Ta;rw[zA c]at h ⊢;rcases h with h|⟨_,h⟩;exact .inl (Oper.wp_mono (λa1 w1 ⟨b,e,i⟩=>by rw[e];exact u7 l b w1 i) (Dx h));exact(Qj h).elim;rw[zv c]at h ⊢;have f:(Qx D a).put o.dst undef=Qx D (a.put o.dst undef):=by cases o.dst <;> rfl
  rw[f];exact u7 l _ w h
def pU(P:Program)(n:Nat)(ops:Array Oper)(b:Bool)(K:bK->zc->Prop)(e:bK)(h:zc):Prop:=
 bif ops.toList.all xd then(bif b then(bif mO Tc ops then wI P n h Ta ops (λc=>lj Tc P n ops h K (iK Tc ops).length [] (iK Tc ops) c h) (Yd [] (Yc Tc ops [] ops.size) ops.size) e else False)else wR P n ops K ops.toList e h)else False
theorem uS(w:P.follows .mixedOrders=Ta){D:List Deferred}{ops:Array Oper}{j:Bool}{K:bK->zc->Prop}(H:pU P n ops j K e h)(B:World)(d:Nat)(r:Sat n e a){Q:Exit->Act->World->Prop}
  (u:∀b k c h',Sat n b k->Same (wv ops.toList) a k->K b h'->Q .normal (Qx D k) (mk B c h')):(YA id ops j).wpIn (rf ro) m P Q (Qx D a) (mk B d h):=by
 unfold pU at H;cases hd:ops.toList.all xd with
 |false=>simp_all
 |true=>
  rw[hd,zK]at H;have fin:∀a1 w1,(∃f,a1=Qx D f/\∃b c h',w1=mk B c h'/\Sat n b f/\Same (wv ops.toList) a f/\K b h')->Q .normal a1 w1:=by rintro a1 w1 ⟨f,rfl,b,c,h',rfl,l,q,p⟩;exact u b f c h' l q p
  cases j with
  |false=>refine wpIn_region_list ?_;rw[<-Vg ops.toList];exact pY _ [] _ _ hd (u7 (K:=λf w1=>∃b c h',w1=mk B c h'/\Sat n b f/\Same (wv ops.toList) a f/\K b h') _ _ _ (pE B _ _ _ _ _ H r λb k c h' l q p=>⟨b,c,h',rfl,l,q,p⟩)) fin
  |true=>
   rw[zK]at H;cases hB:mO Tc ops with
   |false=>simp_all
   |true=>
    rw[hB]at H;have h0:wpAny P .any ops (j0 λf w1=>∃b c h',w1=mk B c h'/\Sat n b f/\Same (wv ops.toList) a f/\K b h') ops.size (VZ ops.size Tc) a (mk B (d+1) h):= AD B hB H r (λb k c h' l q p=>⟨b,c,h',rfl,l,q,p⟩) (d+1);refine wpIn_mono (wpIn_region_any (Q:=j0 λa1 w1=>∃f,a1=Qx D f/\∃b c h',w1=mk B c h'/\Sat n b f/\Same (wv ops.toList) a f/\K b h') w (sI (λi o y=>?_) _ _ _ _ (rO _ _ _ _ h0))) λx k w' t=>?_;grind;cases x with
    |normal=>exact fin _ _ t
    |_=>exact t.elim
def WG(P:Program)(n:Nat):Code->Ye->bK->zc->Prop
 |.skip,Q,e,h=>Q .normal e h
 |.ret,Q,e,h=>Q .ret e h
 |.exit id,Q,e,h=>Q (.exit id) e h
 |.region _ ops draw,Q,e,h=>pU P n ops draw (λe h=>Q .normal e h) e h
 |.seq x y,Q,e,h=>WG P n x (mb (λe h=>WG P n y Q e h) Q) e h
 |.cond c x y,Q,e,h=>match Jz e [] c with
  |some (.bool b)=>(b=Ta->WG P n x Q e h)/\(b=Tc->WG P n y Q e h)
  |_=>False
 |.block id x,Q,e,h=>WG P n x (lM id Q) e h
 |_,_,_,_=>False
def xM(n:Nat)(B:World)(D:List Deferred)(Q:Ye):Exit->Act->World->Prop:=
 λx a w=>∃e d h b,a=Qx D b/\w=mk B d h/\Sat n e b/\Q x e h
theorem Rp{B:World}{D:List Deferred}{Q:Ye}:∀c a w,xM n B D (lM id Q) c a w->Exit.inBlock id (xM n B D Q) c a w:=by
 rintro c a1 w1 ⟨h,d1,h1,f,rfl,rfl,s1,b⟩;cases c with
 |exit i=>simp only[lM]at b;simp only[Exit.inBlock];by_cases e:Nat.beq i id=Ta;rw[zA (UC e)];simp only[e,zK]at b;exact⟨h,d1,h1,f,rfl,rfl,s1,b⟩;rw[zv (λj=>e (by rw[j];simp))];simp only[e,zL]at b;exact⟨h,d1,h1,f,rfl,rfl,s1,b⟩
 |_=>exact⟨h,d1,h1,f,rfl,rfl,s1,b⟩
theorem Et(z:P.follows .mixedOrders=Ta){D:List Deferred}:∀(c:Code) (Q:Ye) (e:bK) (h:zc),WG P n c Q e h ->
  ∀(B:World) (d:Nat) (a:Act),Sat n e a->c.wpIn (rf ro) m P (xM n B D Q) (Qx D a) (mk B d h):=by
 intro c;induction c with
 |skip=>exact λQ e h H B d a f=>wpIn_skip ⟨e,d,h,a,rfl,rfl,f,H⟩
 |ret=>exact λQ e h H B d a f=>wpIn_ret ⟨e,d,h,a,rfl,rfl,f,H⟩
 |exit id=>exact λQ e h H B d a f=>wpIn_exit ⟨e,d,h,a,rfl,rfl,f,H⟩
 |region id ops p=>exact λQ e h H B d a f=>uS z H B d f λu t w h' k _ F=>⟨u,w,h',t,rfl,rfl,k,F⟩
 |seq x y j i=>
  intro Q e h H B d a f;refine wpIn_seq (wpIn_mono (j _ _ _ H B d a f) ?_);rintro ex a1 w1 ⟨A,d1,h1,q,rfl,rfl,s1,k⟩;cases ex with
  |normal=>exact i _ _ _ k B d1 q s1
  |_=>exact⟨A,d1,h1,q,rfl,rfl,s1,k⟩
 |cond c x y j i=>intro Q e h H B d a f;simp only[WG]at H;split at H;rename_i b r;have E:(Qx D a).eval c=.bool b:=ql f (c:=[]) trivial r;exact wpIn_cond_split E (λo=>j _ _ _ (H.1 o) B d a f) (λl=>i _ _ _ (H.2 l) B d a f);exact H.elim
 |block id x C=>intro Q e h H B d a f;exact wpIn_block (wpIn_mono (C _ _ _ H B d a f) Rp)
 |_=>exact λQ e h H=>H.elim
def WL(P:Program)(n:Nat)(pl:List (Nat×iy)):Code->Ye->bK->zc->Prop
 |.skip,Q,e,h=>Q .normal e h
 |.ret,Q,e,h=>Q .ret e h
 |.exit id,Q,e,h=>Q (.exit id) e h
 |.region _ ops draw,Q,e,h=>pU P n ops draw (λe h=>Q .normal e h) e h
 |.seq x y,Q,e,h=>WL P n pl x (mb (λe h=>WL P n pl y Q e h) Q) e h
 |.cond c x y,Q,e,h=>match Jz e [] c with
  |some (.bool b)=>(b=Ta->WL P n pl x Q e h)/\(b=Tc->WL P n pl y Q e h)
  |_=>False
 |.block id x,Q,e,h=>WL P n pl x (lM id Q) e h
 |.loop x,Q,e,h=>match pP pl (yo x)with
  |some J=>um J (λf e h=>WL P n pl x (mb f Q) e h) (Y4 (wm x) e) e h
  |none=>False
 |_,_,_,_=>False
def JR(n:Nat)(B:World)(D:List Deferred)(ms:List Nat)(a1:Act)(Q:Ye):Exit->Act->World->Prop:=
 λx a w=>∃e d h b,a=Qx D b/\w=mk B d h/\Sat n e b/\Same ms a1 b/\Q x e h
theorem Kf(hm:P.follows .mixedOrders=Ta){D:List Deferred}{pl:List (Nat×iy)}:∀(c:Code) (Q:Ye) (e:bK) (h:zc),WL P n pl c Q e h ->
  ∀(B:World) (d:Nat) (a:Act),Sat n e a->c.wpIn (rf ro) m P (JR n B D (wm c) a Q) (Qx D a) (mk B d h):=by
 intro c;induction c with
 |skip=>exact λQ e h H B d a f=>wpIn_skip ⟨e,d,h,a,rfl,rfl,f,Same.refl _ _,H⟩
 |ret=>exact λQ e h H B d a f=>wpIn_ret ⟨e,d,h,a,rfl,rfl,f,Same.refl _ _,H⟩
 |exit id=>exact λQ e h H B d a f=>wpIn_exit ⟨e,d,h,a,rfl,rfl,f,Same.refl _ _,H⟩
 |region id ops aj=>exact λQ e h H B d a f=>uS hm H B d f λe' a' d' h' l o q3=>⟨e',d',h',a',rfl,rfl,l,o,q3⟩
 |seq x y E G=>
  intro Q e h H B d a f;have O:∀i∈wm x,i∈wm (.seq x y):=λi hi=>Uo.2 (.inl hi);have hy:∀i∈wm y,i∈wm (.seq x y):=λi hi=>Uo.2 (.inr hi);refine wpIn_seq (wpIn_mono (E _ _ _ H B d a f) ?_);rintro z a1 w1 ⟨C,d1,h1,j,rfl,rfl,s1,M,l⟩;cases z with
  |normal=>refine wpIn_mono (G _ _ _ l B d1 j s1) ?_;rintro z a2 w2 ⟨r,d2,u,t,rfl,rfl,s2,A,o⟩;exact⟨r,d2,u,t,rfl,rfl,s2,(M.mono O).trans (A.mono hy),o⟩
  |_=>exact⟨C,d1,h1,j,rfl,rfl,s1,M.mono O,l⟩
 |cond c x y E G=>intro Q e h H B d a f;have O:∀i∈wm x,i∈wm (.cond c x y):=λi hi=>Uo.2 (.inl hi);have hy:∀i∈wm y,i∈wm (.cond c x y):=λi hi=>Uo.2 (.inr hi);simp only[WL]at H;split at H;rename_i b w;have hc:(Qx D a).eval c=.bool b:=ql f (c:=[]) trivial w;exact wpIn_cond_split hc (λS=>wpIn_mono (E _ _ _ (H.1 S) B d a f) λz a2 w2 ⟨r,d2,u,t,r1,r2,s2,A,o⟩=>⟨r,d2,u,t,r1,r2,s2,A.mono O,o⟩) (λaa=>wpIn_mono (G _ _ _ (H.2 aa) B d a f) λz a2 w2 ⟨r,d2,u,t,r1,r2,s2,A,o⟩=>⟨r,d2,u,t,r1,r2,s2,A.mono hy,o⟩);exact H.elim
 |block id x Z=>
  intro Q e h H B d a f;refine wpIn_block (wpIn_mono (Z _ _ _ H B d a f) ?_);rintro z a1 w1 ⟨C,d1,h1,j,rfl,rfl,s1,M,l⟩;cases z with
  |exit i=>simp only[lM]at l;simp only[Exit.inBlock];by_cases w:Nat.beq i id=Ta;rw[zA (UC w)];simp only[w,zK]at l;exact⟨C,d1,h1,j,rfl,rfl,s1,M,l⟩;rw[zv (λhe=>w (by rw[he];simp))];simp only[w,zL]at l;exact⟨C,d1,h1,j,rfl,rfl,s1,M,l⟩
  |_=>exact⟨C,d1,h1,j,rfl,rfl,s1,M,l⟩
 |loop x Z=>
  intro Q e h H B d a f;simp only[WL]at H;split at H;rename_i J hJ;obtain⟨I,μ,h0,L⟩:=H;obtain⟨Y,p0,ah,ai,af⟩:=Wj h0;let F:=nq (y9 J) I μ;let at_:Act->Option ((zc->Prop)×(zc->Nat)):=λa1=>(J1 (λi=>Td (qh a1 i)) J).bind λvs=>iG (y9 J) vs F;refine wpIn_loop (λa1 w1=>∃d1 h1 vs p j,a1=Qx D j/\w1=mk B d1 h1/\j.defers=[]/\j.tmps.size=n/\Same (wm x) a j/\J1 (λi=>Td (qh j i)) J=Td vs/\iG (y9 J) vs F=Td p/\p.1 h1) (λa1 w1=>match at_ a1 with|some p=>p.2 w1.heap|none=>0) ⟨d,h,Y,p0,a,rfl,rfl,f.defers,f.size,Same.refl _ _,qw f ah,ai,af⟩ ?_;rintro a1 w1 ⟨d1,h1,vs,p,j,rfl,rfl,T,ae,k,hv,hp,hI⟩;have s1:Sat n (Z7 J vs++Y4 (wm x) e) j:=Wi f T ae k hv;have w:=tO hp L h1 hI;refine wpIn_mono (Z _ _ _ w B d1 j s1) ?_;rintro z a2 w2 ⟨r,d2,u,t,rfl,rfl,s2,A,o⟩;have va:∀(a1:Act),(λi=>Td (qh (Qx D a1) i))=λi=>Td (qh a1 i):=λ_=>rfl;cases z with
  |normal=>
   obtain⟨V,q,N,hq,U,ac⟩:=Wj o;refine⟨⟨d2,u,V,q,t,rfl,rfl,s2.defers,s2.size,k.trans A,qw s2 N,hq,U⟩,?_⟩;have C:at_ (Qx D j)=Td p:=by simp only[at_,va,hv,VK];exact hp
   have r:at_ (Qx D t)=Td q:=by simp only[at_,va,qw s2 N,VK];exact hq
   rw[C,r];exact ac
  |_=>exact⟨r,d2,u,t,rfl,rfl,s2,k.trans A,o⟩
  exact H.elim
 |_=>exact λQ e h H=>H.elim
abbrev iL:=LoopState->Option Code->Loop
def Rb(rec:iL)(l:Nat)(K:Value->zc->Prop):Ye
 |.normal,_,h=>h[l]?=Td (.loop (rec .busy Te))/\K (.bool Ta) (h.setIfInBounds l (.loop (rec .ready Te)))
 |.ret,_,h=>h[l]?=Td (.loop (rec .busy Te))/\K (.bool Tc) (h.setIfInBounds l (.loop (rec .done (Td .ret))))
 |_,_,_=>False
def lH(P:Program)(n:Nat)(b bd:Code)(rec:iL)(l:Nat)(K:Value->zc->Prop)(e:bK)(h:zc):Prop:=
 WG P n b (λx c h1=>match x with
  |.normal=>h1[l]?=Td (.loop (rec .ready Te))/\WG P n bd (Rb rec l K) c (h1.setIfInBounds l (.loop (rec .busy Te)))
  |_=>False) e h
theorem Cy(a:Act):Qx [] a=a:=by unfold Qx;simp
def w3:bK->List Nat->List Value->bK
 |e,p::ps,v::vs=>w3 (putO e (Td p) [] v) ps vs
 |e,_,_=>e
def pv:Array Value->List Nat->List Value->Array Value
 |t,p::ps,v::vs=>pv (t.setIfInBounds p v) ps vs
 |t,_,_=>t
theorem EB:∀(ps:List Nat) (vs:List Value) (t:Array Value),(ps.zip vs).foldl (λ(t:Array Value) (x:Tmp×Value)=>t.setIfInBounds x.1 x.2) t=pv t ps vs
 |[],_,_=>rfl
 |_::_,[],_=>rfl
 |p::ps,v::vs,t=>EB ps vs (t.setIfInBounds p v)
theorem E0{n:Nat}:∀(ps:List Nat) (vs:List Value) (e:bK) (a:Act),(∀p∈ps,wj n [] (Td p)=Ta)->Sat n e a->Sat n (w3 e ps vs) { tmps:=pv a.tmps ps vs,defers:=[] }
 |[],vs,e,a,_,hs=>by have:=hs.defers;cases a;simp only at this;subst this;exact hs
 |p::ps,[],e,a,_,hs=>by have:=hs.defers;cases a;simp only at this;subst this;exact hs
 |p::ps,v::vs,e,a,h,hs=>E0 ps vs _ (a.put (Td p) v) (λq b=>h q (UG _ b)) (hs.putO (h p UF) (λ_=>rfl) (λc=>absurd trivial c))
theorem Ar(E:P.follows .mixedOrders=Ta){n l:Nat}{ps:List Nat}{f bd:Code}{fn:FuncId}{D:Nat}(z:∀p∈ps,wj n [] (Td p)=Ta) {rec:iL} (b:rec=λst O=>{ state:=st,pending:=O,fn:=fn,tmps:=a.tmps,params:=ps.toArray,assign:=f,body:=bd,defers:=D }) {vs:List Value} (Y:ps.length=vs.length) (S:Sat n e a) (J:h[l]?=Td (.loop (rec .ready Te))) {K:Value->zc->Prop}
  (H:lH P n f bd rec l K (w3 e ps vs) h):YX P l vs.toArray h K:=by
 intro m B d;have y:(mk B d h).heap[l]?=Td (.loop (rec .ready Te)):=J;have C:=run_yield (P:=P) (w:=mk B d h) (args:=vs.toArray) y (by simp_all);refine⟨_,_,_,_,C,?_⟩;rw[b]at C ⊢;have s2:=E0 ps vs e a z S;have key:RoundIn (rf Te) m P l fn (pv a.tmps ps vs) f bd (mk B d h) (λe w'=>∃v L h',e=.returned v/\w'=mk B L h'/\K v h'):=by
  refine roundIn_of_wpIn (F:=rf Te) trivial ?_;have Q:(rf Te).inRound l=rf (Td l):=rfl;rw[Q,<-Cy { tmps:=pv a.tmps ps vs,defers:=[] }];refine wpIn_mono (Et E f _ _ _ H B d _ s2) ?_;rintro ex a1 w1 ⟨V,d1,h1,M,rfl,rfl,s1,A⟩;cases ex with
  |normal=>
   obtain⟨I,N⟩:=A;have q:(mk B d1 h1).heap[l]?=Td (.loop (rec .ready Te)):=I;have G:=run_beginRound (P:=P) q (by rw[b]);refine⟨_,G,?_⟩;have j:({ rec .ready Te with state:=.busy }:Loop)=rec .busy Te:=by rw[b]
   rw[j];refine wpIn_mono (Et E bd _ _ _ N B d1 M s1) ?_;rintro ex a2 w2 ⟨T,d2,o,Z,rfl,rfl,U,r⟩;cases ex with
   |normal=>
    obtain⟨u,t⟩:=r;have i:(mk B d2 o).heap[l]?=Td (.loop (rec .busy Te)):=u;have c:=run_endRound (P:=P) Te i;refine⟨_,_,c,.bool Ta,d2,o.setIfInBounds l (.loop (rec .ready Te)),rfl,?_,t⟩;have k:({ rec .busy Te with state:=if(Te:Option Code).isNone then .ready else .done,pending:=Te }:Loop)=rec .ready Te:=by rw[b];rfl
    rw[k];rfl
   |ret=>
    obtain⟨u,t⟩:=r;have i:(mk B d2 o).heap[l]?=Td (.loop (rec .busy Te)):=u;have c:=run_endRound (P:=P) (Td .ret) i;refine⟨_,_,c,.bool Tc,d2,o.setIfInBounds l (.loop (rec .done (Td .ret))),rfl,?_,t⟩;have k:({ rec .busy Te with state:=if(Td Code.ret:Option Code).isNone then .ready else .done,pending:=Td .ret }:Loop)=rec .done (Td .ret):=by rw[b];rfl
    rw[k];rfl
   |_=>exact r.elim
  |_=>exact A.elim
 simp_all[EB]
def lA:Code->Code
 |.rangeFunc _ _ x _=>x
 |.seq x y=>match lA x with
  |.skip=>lA y
  |c=>c
 |.block _ x=>lA x
 |_=>.skip
def kN:Code->Code
 |.rangeFunc _ _ _ y=>y
 |.seq x y=>match kN x with
  |.skip=>kN y
  |c=>c
 |.block _ x=>kN x
 |_=>.skip
def marks(c:List Nat):List Deferred:=c.map λb=>{ target:=.collected b,args:=#[] }
abbrev kz:=Exit->List Nat->bK->zc->Prop
def MV(K:List Nat->bK->zc->Prop)(Q:kz):kz
 |.normal,ds,e,h=>K ds e h
 |x,ds,e,h=>Q x ds e h
def CE(id:Nat)(Q:kz):kz
 |.exit i,ds,e,h=>bif Nat.beq i id then Q .normal ds e h else Q (.exit i) ds e h
 |x,ds,e,h=>Q x ds e h
def oW(rec:iL)(l:Nat)(N R:zc->Prop)(h:zc):Prop:=
 (h[l]?=Td (.loop (rec .ready Te))/\N (h.setIfInBounds l (.loop (rec .exhausted Te))))\/(h[l]?=Td (.loop (rec .done (Td .ret)))/\R (h.setIfInBounds l (.loop (rec .exhausted (Td .ret)))))
def DU(P:Program)(n:Nat)(i j:Nat)(f bd:Code)(v:Value)(Q:kz)(m:List Nat)(e:bK)(h:zc):Prop:=
 bif wj n [] (Td i)&&wj n [] (Td j)then(∃g lb,v=.func (.func g) #[] lb/\zk P g=Ta/\∀rec:iL,
  (∀{l k:Value} {b:zc} {K:Value->zc->Prop},b[h.size+1]?=Td (.loop (rec .ready Te))->lH P n f bd rec (h.size+1) K (putO (putO e (Td i) [] l) (Td j) [] k) b->YX P (h.size+1) #[l,k] b K) ->
  lJ P g (#[.func (.yield (h.size+1)) #[] #[]]++lb) ((h.push (.deferred (Td []))).push (.loop (rec .ready Te))) λ_ o=>oW rec (h.size+1) (λc=>Q .normal (h.size::m) e c) (λc=>Q .ret (h.size::m) e c) o)else False
def FE(P:Program)(n:Nat)(i:Nat)(f bd:Code)(v:Value)(Q:kz)(k:List Nat)(e:bK)(h:zc):Prop:=
 bif wj n [] (Td i)then(∃g lb,v=.func (.func g) #[] lb/\zk P g=Ta/\∀rec:iL,
  (∀{j:Value} {b:zc} {K:Value->zc->Prop},b[h.size+1]?=Td (.loop (rec .ready Te))->lH P n f bd rec (h.size+1) K (putO e (Td i) [] j) b->YX P (h.size+1) #[j] b K) ->
  lJ P g (#[.func (.yield (h.size+1)) #[] #[]]++lb) ((h.push (.deferred (Td []))).push (.loop (rec .ready Te))) λ_ l=>oW rec (h.size+1) (λc=>Q .normal (h.size::k) e c) (λc=>Q .ret (h.size::k) e c) l)else False
def nC(e:bK):Nat->Nat->bK
 |0,_=>[]
 |f+1,i=>match lY e i with
  |some v=>(i,[],v)::nC e f (i+1)
  |none=>nC e f (i+1)
theorem zR{e:bK}:∀{f i:Nat} {x:Nat×qk×Value},x∈nC e f i->x.2.1=[]/\lY e x.1=Td x.2.2
 |0,_,_,h=>nomatch h
 |f+1,i,x,h=>by unfold nC at h;split at h;rename_i v b;rcases Up.1 h with rfl|h;simp_all;exact zR h;exact zR h
theorem sc(h:Sat n e a)(f i:Nat):Sat n (nC e f i) a:=⟨h.defers,h.size,λx j=>by obtain⟨k,c,v⟩:=x;obtain⟨h1,b⟩:=zR j;have h1:c=[]:=h1;subst h1;exact⟨λ_=>Z8 h b,λl=>absurd trivial l⟩⟩
def WD(P:Program)(n:Nat)(pl:List (Nat×iy)):Code->kz->List Nat->bK->zc->Prop
 |.skip,Q,f,e,h=>Q .normal f e h
 |.ret,Q,f,e,h=>Q .ret f e h
 |.exit id,Q,f,e,h=>Q (.exit id) f e h
 |.region _ ops draw,Q,f,e,h=>pU P n ops draw (λe h=>Q .normal f e h) e h
 |.seq x y,Q,f,e,h=>WD P n pl x (MV (λf e h=>WD P n pl y Q f e h) Q) f e h
 |.cond c x y,Q,f,e,h=>match Jz e [] c with
  |some (.bool b)=>(b=Ta->WD P n pl x Q f e h)/\(b=Tc->WD P n pl y Q f e h)
  |_=>False
 |.block id x,Q,f,e,h=>WD P n pl x (CE id Q) f e h
 |.rangeFunc g ps asg bd,Q,f,e,h=>match Jz e [] g,ps.toList with
  |some v,[p1,p2]=>DU P n p1 p2 asg bd v Q f (nC e n 0) h
  |some v,[p1]=>FE P n p1 asg bd v Q f (nC e n 0) h
  |_,_=>False
 |.loop x,Q,f,e,h=>WL P n pl (.loop x) (λi e h=>Q i f e h) e h
 |_,_,_,_,_=>False
def F7(n:Nat)(B:World)(Q:kz):Exit->Act->World->Prop:=
 λx a w=>∃c e d h b,a=Qx (marks c) b/\w=mk B d h/\Sat n e b/\Q x c e h
theorem DY(w:1<=m){ps:Array Nat}{i bd:Code}{l:FuncId}{lb:Array Value}(D:zk P l=Ta){g:Operand}{Q:kz}{j:List Nat}(z:Sat n e a)(I:(Qx (marks j) a).eval g=.func (.func l) #[] lb) (E:∀fn (rec:iL),rec=(λst t=>{ state:=st,pending:=t,fn:=fn,tmps:=a.tmps,params:=ps,assign:=i,body:=bd,defers:=h.size }) -> lJ P l (#[.func (.yield (h.size+1)) #[] #[]]++lb) ((h.push (.deferred (Td []))).push (.loop (rec .ready Te))) λ_ q=>oW rec (h.size+1) (λA=>Q .normal (h.size::j) e A) (λA=>Q .ret (h.size::j) e A) q)
  (B:World) (d:Nat):(Code.rangeFunc g ps i bd).wpIn (rf Te) m P (F7 n B Q) (Qx (marks j) a) (mk B d h):=by
 refine wpIn_rangeFunc λo _=>?_;obtain⟨rec,b⟩:∃rec:iL,rec=λst t=>{ state:=st,pending:=t,fn:=o,tmps:=a.tmps,params:=ps,assign:=i,body:=bd,defers:=h.size }:=⟨_,rfl⟩;have u:=E o rec b;refine⟨h.size+1,[{ target:=.collected h.size,args:=#[] }],mk B d ((h.push (.deferred (Td []))).push (.loop (rec .ready Te))),{ target:=.fn (.func l) lb,args:=#[.func (.yield (h.size+1)) #[] #[]] },mk B d ((h.push (.deferred (Td []))).push (.loop (rec .ready Te))),l,#[.func (.yield (h.size+1)) #[] #[]]++lb,mk B d ((h.push (.deferred (Td []))).push (.loop (rec .ready Te))),?_,?_,λ_ _=>trivial,?_,λ_=>w,?_⟩;rw[b];exact run_enterLoop_outer _ _ _ _ _;simp only[resolve,I];simp[go_sem,XG];simp only[invoke];exact Wd D _ _;have G:({ Qx (marks j) a with defers:=[{ target:=.collected h.size,args:=#[] }]++(Qx (marks j) a).defers }:Act)=Qx (marks (h.size::j)) a:=by unfold Qx marks;simp only[z.defers];rfl
 rw[G];refine CallsIn.mono (u (m-1) B d) ?_;rintro e' w' ⟨v,r,q,rfl,rfl,k⟩;rcases k with⟨f,H⟩|⟨f,F⟩;have c:(mk B r q).heap[h.size+1]?=Td (.loop (rec .ready Te)):=f;have p:=run_endLoop (P:=P) c (by simp_all);have C:({ rec .ready Te with state:=.exhausted }:Loop)=rec .exhausted Te:=by rw[b]
 have y:(rec .ready Te).pending=Te:=by rw[b]
 rw[C,y]at p;exact⟨Te,_,p,_,e,r,_,a,rfl,rfl,z,H⟩;have c:(mk B r q).heap[h.size+1]?=Td (.loop (rec .done (Td .ret))):=f;have p:=run_endLoop (P:=P) c (by simp_all);have C:({ rec .done (Td .ret)with state:=.exhausted }:Loop)=rec .exhausted (Td .ret):=by rw[b]
 have y:(rec .done (Td .ret)).pending=Td .ret:=by rw[b]
 rw[C,y]at p;exact⟨Td .ret,_,p,wpIn_ret ⟨_,e,r,_,a,rfl,rfl,z,F⟩⟩
theorem OD(E:P.follows .mixedOrders=Ta)(D:1<=m){pl:List (Nat×iy)}:∀(c:Code) (Q:kz) (j:List Nat) (e:bK) (h:zc),WD P n pl c Q j e h ->
  ∀(B:World) (d:Nat) (a:Act),Sat n e a->c.wpIn (rf Te) m P (F7 n B Q) (Qx (marks j) a) (mk B d h):=by
 intro c;induction c with
 |skip=>exact λQ j e h H B d a f=>wpIn_skip ⟨j,e,d,h,a,rfl,rfl,f,H⟩
 |ret=>exact λQ j e h H B d a f=>wpIn_ret ⟨j,e,d,h,a,rfl,rfl,f,H⟩
 |exit id=>exact λQ j e h H B d a f=>wpIn_exit ⟨j,e,d,h,a,rfl,rfl,f,H⟩
 |region id ops S=>exact λQ j e h H B d a f=>uS E H B d f λZ V d' h' k _ q2=>⟨j,Z,d',h',V,rfl,rfl,k,q2⟩
 |seq x y A t=>
  intro Q j e h H B d a f;refine wpIn_seq (wpIn_mono (A _ _ _ _ H B d a f) ?_);rintro ex a1 w1 ⟨o,z,d1,h1,q,rfl,rfl,s1,k⟩;cases ex with
  |normal=>exact t _ _ _ _ k B d1 q s1
  |_=>exact⟨o,z,d1,h1,q,rfl,rfl,s1,k⟩
 |cond c x y A t=>intro Q j e h H B d a f;simp only[WD]at H;split at H;rename_i b C;have hc:(Qx (marks j) a).eval c=.bool b:=ql f (c:=[]) trivial C;exact wpIn_cond_split hc (λL=>A _ _ _ _ (H.1 L) B d a f) (λF=>t _ _ _ _ (H.2 F) B d a f);exact H.elim
 |block id x ih=>
  intro Q j e h H B d a f;refine wpIn_block (wpIn_mono (ih _ _ _ _ H B d a f) ?_);rintro ex a1 w1 ⟨o,z,d1,h1,q,rfl,rfl,s1,k⟩;cases ex with
  |exit i=>simp only[CE]at k;simp only[Exit.inBlock];by_cases C:Nat.beq i id=Ta;rw[zA (UC C)];simp only[C,zK]at k;exact⟨o,z,d1,h1,q,rfl,rfl,s1,k⟩;rw[zv (λhe=>C (by rw[he];simp))];simp only[C,zL]at k;exact⟨o,z,d1,h1,q,rfl,rfl,s1,k⟩
  |_=>exact⟨o,z,d1,h1,q,rfl,rfl,s1,k⟩
 |rangeFunc g ps U bd Y aa=>
  intro Q j e h H B d a f;simp only[WD]at H;split at H;rename_i v u G O w;have l:ps=#[u,G]:=by rw[<-Array.toList_inj];exact w
  subst l;unfold DU at H;cases hok:(wj n [] (Td u)&&wj n [] (Td G))with
  |false=>simp_all
  |true=>rw[hok]at H;rw[Uq]at hok;obtain⟨gf,lb,rfl,I,M⟩:=H;exact DY D I (sc f n 0) (ql f (c:=[]) trivial O) (λfn rec p=>M rec (λ {J v2 T K} N r=>Ar E (ps:=[u,G]) (vs:=[J,v2]) (by simp_all) p rfl (sc f n 0) N r)) B d
  rename_i v u O w;have l:ps=#[u]:=by rw[<-Array.toList_inj];exact w
  subst l;unfold FE at H;cases hok:wj n [] (Td u)with
  |false=>simp_all
  |true=>rw[hok]at H;obtain⟨gf,lb,rfl,I,M⟩:=H;exact DY D I (sc f n 0) (ql f (c:=[]) trivial O) (λfn rec p=>M rec (λ {J T K} N r=>Ar E (ps:=[u]) (vs:=[J]) (by simp_all) p rfl (sc f n 0) N r)) B d
  exact H.elim
 |loop x _=>intro Q j e h H B d a f;refine wpIn_mono (Kf E (.loop x) _ _ _ H B d a f) ?_;rintro ex a1 w1 ⟨z,d1,h1,q,rfl,rfl,s1,_,k⟩;exact⟨j,z,d1,h1,q,rfl,rfl,s1,k⟩
 |_=>exact λQ j e h H=>H.elim
def takeD:List Nat->(zc->Prop)->zc->Prop
 |[],K,h=>K h
 |b::ds,K,h=>h[b]?=Td (.deferred (Td []))/\takeD ds K (h.setIfInBounds b (.deferred Te))
def Nt(P:Program)(rs:List ResultVar)(R:Value->zc->Prop):kz
 |.normal,ds,e,h=>takeD ds (λh'=>kj P h' e rs λvs=>R (kE vs) h') h
 |.ret,ds,e,h=>takeD ds (λh'=>kj P h' e rs λvs=>R (kE vs) h') h
 |_,_,_,_=>False
theorem vg{P:Program}{fn:Func}{n:Nat}{rs:List ResultVar}(i:fn.results.toList=rs){e:bK}{a:Act}(j:Sat n e a){B:World}{R:Value->zc->Prop}{D:Nat}:∀(c:List Nat) (d:Nat) (h:zc),takeD c (λh'=>kj P h' e rs λvs=>R (kE vs) h') h ->
  LeavesInM Fence.wide D P fn a.tmps (λe w'=>∃v k h',e=.returned v/\w'=mk B k h'/\R v h') (marks c) .returning (mk B d h)
 |[],d,h,H=>by obtain⟨v,m,l⟩:=Z9 j i H;exact⟨v,l B d,v,d,h,rfl,rfl,m⟩
 |b::c,d,h,⟨h1,H⟩=>by have f:(mk B d h).heap[b]?=Td (.deferred (Td [])):=h1;exact⟨by simp,.inl ⟨_,_,rfl,run_takeDeferred (P:=P) f,vg i j c d _ H⟩⟩
theorem EN(z:P.follows .mixedOrders=Ta)(vs:List Value){f:FuncId}{fn:Func}{rs:List ResultVar}(t:P.funcs[f]?=Td fn)(c:Qa fn=Ta)(q:fn.results.toList=rs)(y:fn.ntmps=n)(hz:Nat.ble vs.length n=Ta){R:Value->zc->Prop}{F:Prop}(H:F)(pl:List (Nat×iy):=[])(r:F=WD P n pl (codeOf fn) (Nt P rs R) [] (kf 0 vs) h):XC P f vs.toArray h R:=by
 have l:fn.body=Td (codeOf fn):=by unfold Qa at c;unfold codeOf;split at c;omega;cases c
 intro B d;refine callsIn_wide.1 (callsIn_of_wp_marks (F:=Fence.wide) (n:=1) t l trivial ?_ rfl);subst y;have C:vs.length<=fn.ntmps:=VE hz;have u:Sat fn.ntmps (kf 0 vs) { tmps:=vs.toArray++VZ (fn.ntmps-vs.toArray.size) undef,defers:=[] }:=by
  refine⟨rfl,by simp;omega,?_⟩;refine Xj vs.toArray _ vs 0 λj v A=>?_;have i:j<vs.length:=by rcases Va j vs.length with h|h;exact h;simp_all
  simp only[Uy,Vh];rw[VU (by simpa using i)];simp[A]
 have:=OD z (m:=1) (by omega) (codeOf fn) _ [] _ _ (r ▸ H) B d _ u;rw[show marks []=[]from rfl,Cy]at this;refine wpIn_mono this ?_;rintro ex a w ⟨b,D,d1,h1,k,rfl,rfl,s1,e⟩;have o:(Qx (marks b) k).defers=marks b:=by unfold Qx;rw[s1.defers];rfl
 have p:(Qx (marks b) k).tmps=k.tmps:=rfl;cases ex with
 |normal=>show LeavesInM _ _ _ _ _ _ _ _ _;rw[o,p];exact vg q s1 b d1 h1 e
 |ret=>show LeavesInM _ _ _ _ _ _ _ _ _;rw[o,p];exact vg q s1 b d1 h1 e
 |_=>exact e.elim
end
end Go.X
end
section
namespace Go.X
open Go Go.X Go.Proofs Go.RowKit
section
variable {g:zc} {i:Nat}
theorem zl{i j:Nat}{o:Obj}(h:j≠i):(g.setIfInBounds i o)[j]?=g[j]?:=U9 (Ne.symm h)
theorem set_self{o:Obj}(h:i<g.size):(g.setIfInBounds i o)[i]?=Td o:=VG h
section
variable {h : zc} {M : Fr} {b2 b3 b4 b5 bc D l : Nat} {rec : iL} {s : Bs} {sl : Sl} {bs : List Nat} {g : zc}
end
end
section
section
variable {lo : Nat} {g : zc} {M : Fr} {bp : Nat} {s : Bs} {a e : Int} {O : Nat -> Prop} {K : Value -> zc -> Prop}
theorem CU:qo Tp 3=Ta:=by kernel_rfl
end
end
section
variable {g:zc}
theorem tS{M:Fr}(ag:AgM M g){xs:List Int}{s:Sl}(H:Rd M (.row (.int .i64)) xs [aK s]){k:Nat}(c:k<xs.length):∃b o,s.a=Td ⟨b,o,Te⟩/\zd g ⟨b,o+k*1,Te⟩=Td (.int .i64 xs[k]):=by obtain⟨b,o,cs,e,h,f⟩:=Go.X.rowAt H c;exact⟨b,o,e,Ak ag h f⟩
theorem Lt:qo Tp 25=Ta:=by kernel_rfl
theorem JA:je Tp 25=4:=by kernel_rfl
theorem W0{b:Nat}{x y z w:Value}(B:Blk g b #[x,y,z,w]){k:Int}{s:Bt}{sk si:Sl}{K:zc->Prop}(f:∀g',(∀j,j≠b->g'[j]?=g[j]?)->g'.size=g.size->Blk g' b #[.int .i64 k,.string s,aK sk,aK si]->K g'):
  XRunU Tp (Uj 25 (.pointer (Td ⟨b,0,Te⟩)) (.agg #[.int .i64 k,.string s,aK sk,aK si])) g K:=by
 refine Wu (vs:=[.int .i64 k,.string s,aK sk,aK si]) Lt B rfl JA (Uf _) (λu c=>?_) λg' e i h=>f g' h i e;simp at c;rcases c with rfl|rfl|rfl|rfl <;> rfl
section
variable {t : Bs} {lvs : List Nat} {gl : Fr}
end
end
section
theorem nn:ElemT Tp 29 3 (.int .i64 0) (sz (.int .i64)) 8:=⟨by kernel_rfl,⟨Tryz.t3,by kernel_rfl,by kernel_rfl,by kernel_rfl,by kernel_rfl⟩,rfl,by decide⟩
section
variable {lo : Nat} {g : zc} {M : Fr} {bp : Nat} {s : Bs} {a e : Int} {O J D : Nat -> Prop} {K : Value -> zc -> Prop} {HI : List Bs -> zc -> Prop} {F : FuncId} {A C : Array Value}
end
end
section
theorem JI:ElemT Tp 22 9 (.string ⟨#[]⟩) (sz .str) 16:=⟨by kernel_rfl,⟨Tryz.t9,by kernel_rfl,by kernel_rfl,by kernel_rfl,by kernel_rfl⟩,rfl,by decide⟩
section
variable {lo : Nat} {g : zc} {M gl : Fr} {bp : Nat} {s : Bs} {a e : Int} {O : Nat -> Prop} {K : Value -> zc -> Prop}
end
end
section
theorem kI{M:Fr}{T:Ty}:Rd M (.row T) [] [aK ⟨Te,0,0⟩]:=⟨_,rfl,Te,0,rfl,⟨by simp,by simp⟩,.inl rfl⟩
end
end Go.X
end
section
namespace Go.X
section
theorem Ew(gl:Fr)(b:Bt)(R:Tr->Prop) (H:R (Tr.mk 4 b [] [])):
  PC Tp gl 98 [Arg.mk .str b] [.tree] R:=
 PF ⟨[],[],[],[]⟩ [.cell 2 25] 5 Tryz.func98 H
end
end Go.X
end
section
namespace Go.X
open Go Go.X Go.Proofs Go.RowKit
section
def lO(k:Int)(s:Bt)(a b:Sl):Value:=.agg #[.int .i64 k,.string s,aK a,aK b]
section
variable {gl : Fr} {b2 b29 : Nat} {k2 k29 : Int} {s2 : Bt} {a2 c2 a29 c29 : Sl} {h : zc} {M : Fr}
end
end
section
variable {v:Tr} {sk si:Sl} {lv i:Nat}
section
variable {gl M : Fr} {b N : Nat} {ln : Bool}
def mA(gl M:Fr)(b N:Nat)(ln:Bool)(F:FuncId)(args:Array Value)(p:Bs):Prop:=
 ∀(l:Bs) (g:zc) (K:Value->zc->Prop),Prn g b ln (N:Int) l->Low gl M b g->l.length+p.length<=140737488355328->(∀g',Prn g' b ln (N:Int) (l++p)->FrP b g g'->K (.tuple #[]) g')->XC Tp F args g K
set_option maxRecDepth 100000 in
set_option maxHeartbeats 4000000 in
theorem ES{F:FuncId}(hF:zk Tp F=Ta)(hi:Rd M (.row .tree) v.items [aK si])(hN:N<=8)(hv:lv<=90){o c:UInt8}{ps:List Bs}(Q:ps.length=v.items.length)(U:v.items.length<=1000000) (hE:∀(i:Nat) (h:i<ps.length),mA gl M b N ln F (#[.pointer (Td ⟨b,0,Te⟩)]++#[lO v.kind v.text sk si,.int .i64 (i:Int),.int .i64 ((lv+1:Nat):Int)]++#[]) ps[i]):
  mA gl M b N ln 254 #[.pointer (Td ⟨b,0,Te⟩),lO v.kind v.text sk si,.int .i64 (lv:Int),.string (bl [o,c]),.func (.func F) #[.pointer (Td ⟨b,0,Te⟩)] #[]] (o::jA ln N lv ps++[c]):=by
 intro l g K H L V hK;have ac:=(rowLen hi).1;have J:=H.lt;have e1:(o::jA ln N lv ps++[c]).length=2+(Zx ln N (lv+1) ps).length+(if ps=[]then []else Zb ln N lv:Bs).length:=by unfold jA;simp only[Uz,Uk,Vb];omega
 rw[e1]at V;apply J5;intro h1;have Z:Keep g.size g h1:=Keep.push _ _ (Uf _);have B1:h1[g.size]?=Td (.cells #[.int .i64 v.kind,.string v.text,aK sk,aK si] 25 (0,0)):=qp _ _;clear_value h1;have f1:=FrP.ofKeep Z (XK J);have H1:=H.keep Z;refine⟨_,rfl,⟨by decide,by rw[zy];simp⟩,?_⟩;rw[add0];have eo:y8 (bl [o,c]) (0:Int).toNat=(o.toNat:Int):=by rw[Ys];rfl
 have ec:y8 (bl [o,c]) (1:Int).toNat=(c.toNat:Int):=by rw[Ys];rfl
 rw[eo];refine Z3 H1 (by omega) o λt H4 Y o4=>⟨_,rfl,?_⟩;have O:FrP b g t:=f1.trans ⟨Y,o4⟩;have box:∀g',FrP b t g'->Blk g' g.size #[.int .i64 v.kind,.string v.text,aK sk,aK si]:=λg' f=>⟨_,f.blk ((⟨Y,o4⟩:FrP b h1 t).blk B1)⟩;refine⟨si,Blk.cellAdd (o:=0) (k:=3) (box t (FrP.refl _ _)) rfl,?_⟩;refine⟨λi g'=>∃n:Nat,i=(n:Int)/\n<=ps.length/\Prn g' b ln (N:Int) (l++[o]++Zx ln N (lv+1) (ps.take n))/\FrP b t g',λi _=>ps.length-i.toNat,⟨0,rfl,by omega,by simpa[Zx]using H4,FrP.refl _ _⟩,?_⟩;rintro i g' ⟨n,rfl,hn,B,z⟩;have P:=O.trans z;have L':=L.frp P;have aa:=Gl ln N (lv+1) hn;have q:(l++[o]++Zx ln N (lv+1) (ps.take n)).length=l.length+1+(Zx ln N (lv+1) (ps.take n)).length:=by rw[Uk,Uk];rfl
 refine⟨λp=>?_,λy=>?_⟩;have p:n<ps.length:=by have:=zH p;omega
 have r:=Gl ln N (lv+1) (ps:=ps) (n:=n+1) p;have C:=BU ln N (lv+1) p;rw[C]at r;simp only[Uk]at r;intro E D;have m:∀g2,Prn g2 b ln (N:Int) (l++[o]++Zx ln N (lv+1) (ps.take n)++(if n=0 then []else [44]))->FrP b t g2->E g2:=λg2 w u=>D _ (by have L2:=L.frp (O.trans u);rw[hH (by omega),show(lv:Int)+1=((lv+1:Nat):Int)from by omega];refine AW w L2 hN (by omega) (by rw[Uk,q];omega) λT G S=>⟨rfl,v.kind,v.text,sk,si,(box T (u.trans S)).ld (cs:=[_,_,aK sk,aK si]),hF,?_⟩;refine hE n p _ _ _ G (L2.frp S) (by rw[Uk,Uk,q];omega) λg5 H5 f5=>⟨rfl,⟨n+1,by rw[hH (by omega)];omega,p,?_,u.trans (S.trans f5)⟩,?_⟩;rw[C];simpa[UK]using H5;show ps.length-(Ud .i64 ((n:Int)+1)).toNat<ps.length-(n:Int).toNat;rw[hH (by omega)];omega);refine⟨λj=>?_,λj=>?_⟩;have h0:n≠0:=by have:=zH j;omega
 refine⟨_,rfl,?_⟩;rw[add0];refine Z3 B (by rw[q];rw[zv h0]at r;simp only[Uz,Vb]at r;omega) 44 λg2 w k2 o2=>⟨_,rfl,m g2 ?_ (z.trans ⟨k2,o2⟩)⟩;rw[zv h0];exact w;have h0:n=0:=by have:=zI j;omega
 refine m g' ?_ z;rw[zA h0,Vg];exact B;have y:n=ps.length:=by have:=zI y;omega
 subst y;rw[UE]at B q;intro I A;have m:∀g2,Prn g2 b ln (N:Int) (l++[o]++Zx ln N (lv+1) ps++(if ps=[]then []else Zb ln N lv))->FrP b t g2->I g2:=λg2 w u=>A _ (by refine⟨_,rfl,⟨by decide,by rw[zy];simp⟩,?_⟩;rw[add0,ec];refine Z3 w (by rw[Uk,q];omega) c λT G k3 o3=>⟨_,rfl,hK T ?_ (O.trans (u.trans ⟨k3,o3⟩))⟩;unfold jA;simpa[UK]using G);refine⟨si,Blk.cellAdd (o:=0) (k:=3) (box g' z) rfl,λj=>?_,λj=>?_⟩;have h0:ps≠[]:=λe=>by
  have:=zH j;have ae:v.items.length=0:=by rw[<-Q,e];rfl
  omega
 rw[zv h0]at V;refine AW B L' hN (by omega) (by rw[q];omega) λg2 w u=>⟨rfl,m g2 ?_ (z.trans u)⟩;rw[zv h0];exact w;have h0:ps=[]:=by have:=zI j;apply UN;omega
 refine m g' ?_ z;rw[zA h0,Vg];exact B
theorem KL:zk Tp 255=Ta:=by kernel_rfl
theorem KE:zk Tp 256=Ta:=by kernel_rfl
set_option maxRecDepth 100000 in
theorem O7(hi:Rd M (.row .tree) v.items [aK si])(h:i<v.items.length){p:Bs}(n:∀(c e:Sl),Rd M (.row .str) v.items[i].keys [aK c]->Rd M (.row .tree) v.items[i].items [aK e]->mA gl M b N ln 201 #[.pointer (Td ⟨b,0,Te⟩),lO v.items[i].kind v.items[i].text c e,.int .i64 (lv:Int)] p):
  mA gl M b N ln 255 #[.pointer (Td ⟨b,0,Te⟩),lO v.kind v.text sk si,.int .i64 (i:Int),.int .i64 (lv:Int)] p:=by
 intro l g K H L q A;have y:=(rowLen hi).1;apply Ww;intro h1;have f:Keep g.size g h1:=Keep.push _ _ (Uf _);have t:Blk h1 g.size #[.int .i64 v.kind,.string v.text,aK sk,aK si]:=Blk.new _ _ _;clear_value h1;have j:=FrP.ofKeep f (XK H.lt);have m:=L.frp j;obtain⟨a,c,e,u,C,w,z⟩:=Yo m.ag hi h;refine⟨si,Blk.cellAdd (o:=0) (k:=3) t rfl,a,⟨u,by omega,by omega⟩,_,_,c,e,by rw[Ui];exact C,?_⟩;exact n c e w z l h1 _ (H.keep f) m q λg' B r=>⟨rfl,A g' B (j.trans r)⟩
set_option maxRecDepth 100000 in
theorem NW(hg:GL gl)(Y:Brn gl)(F:Rd M (.row .str) v.keys [aK sk])(hi:Rd M (.row .tree) v.items [aK si])(h:i<v.items.length)(V:i<v.keys.length)(t:(lb v.keys[i]).length<=1048576){p:Bs}(hE:∀(c e:Sl),Rd M (.row .str) v.items[i].keys [aK c]->Rd M (.row .tree) v.items[i].items [aK e]->mA gl M b N ln 201 #[.pointer (Td ⟨b,0,Te⟩),lO v.items[i].kind v.items[i].text c e,.int .i64 (lv:Int)] p):
  mA gl M b N ln 256 #[.pointer (Td ⟨b,0,Te⟩),lO v.kind v.text sk si,.int .i64 (i:Int),.int .i64 (lv:Int)] (i5 ln v.keys[i] p):=by
 intro l g K H L y I;unfold i5 at y I;simp only[Uk,Uz]at y;have aa:=(rowLen hi).1;have E:=(rowLen F).1;apply Jj;intro h1;have D:Keep g.size g h1:=Keep.push _ _ (Uf _);have J:h1[g.size]?=Td (.cells #[.int .i64 v.kind,.string v.text,aK sk,aK si] 25 (0,0)):=qp _ _;clear_value h1;have G:=FrP.ofKeep D (XK H.lt);have C:=L.frp G;obtain⟨a,w,x,q,n⟩:=kZ C.ag F V (i:=(i:Int)) rfl (L:=sk.len) rfl (Q:=λx=>x=v.keys[i]) rfl;subst n;refine⟨sk,Blk.cellAdd (o:=0) (k:=2) ⟨_,J⟩ rfl,a,w,v.keys[i],q,?_⟩;refine GZ hg Y (H.keep D) C t (by omega) λh6 T f6=>⟨rfl,_,rfl,?_⟩;rw[add0];refine Z3 T (by simp only[Uk];omega) 58 λO z k9 o9=>⟨_,rfl,?_⟩;have S:FrP b h1 O:=f6.trans ⟨k9,o9⟩;intro r m;have f:∀g2,Prn g2 b ln (N:Int) (l++(iz (lb v.keys[i])).1++[58]++(if ln then [32]else []))->FrP b h1 g2->r g2:=λg2 B A=>m _ (by have P:=C.frp A;obtain⟨a',c,e,e1,e2,e3,e4⟩:=Yo P.ag hi h;refine⟨si,Blk.cellAdd (o:=0) (k:=3) ⟨_,A.blk J⟩ rfl,a',⟨e1,by omega,by omega⟩,_,_,c,e,by rw[Ui];exact e2,?_⟩;refine hE c e e3 e4 _ g2 _ B P (by simp only[Uk,Uz,Vb];omega) λg' H' f'=>⟨rfl,I g' ?_ (G.trans (A.trans f'))⟩;simpa[UK]using H');have u:=z;obtain⟨p9,Z,e9,ac,U⟩:=u;refine⟨_,rfl,ln,Blk.cellAdd (o:=0) (k:=2) (cs:=#[.pointer p9,aK Z,.bool ln,.int .i64 (N:Int)]) ⟨_,e9⟩ rfl,λj=>?_,λj=>?_⟩;subst j;refine⟨_,rfl,?_⟩;rw[add0];refine Z3 z (by simp only[if_true,Uz,Vb]at y;simp only[Uk,Uz,Vb];omega) 32 λg2 B k2 o2=>⟨_,rfl,f g2 B (S.trans ⟨k2,o2⟩)⟩;subst j;refine f O ?_ S;simpa using z
end
end
section
section
variable {gl M : Fr} {b N : Nat} {ln : Bool}
theorem PG{g:zc}{l:Bs}(H:Prn g b ln (N:Int) l)(s:Bt)(c:l.length+(lb s).length<=140737488355328){K:Value->zc->Prop}(e:∀g',Prn g' b ln (N:Int) (l++lb s)->Keep b g g'->Otk g g'->K (.tuple #[.int .i64 ((lb s).length:Int),.nilIface]) g'):
  XC Tp 68 #[.pointer (Td ⟨b,0,Te⟩),.string s] g K:=by
 have:=Qz H (lb s) c e;rw[jF]at this;exact this
set_option maxRecDepth 100000 in
set_option maxHeartbeats 2000000 in
theorem Cg(T:GL gl)(O:Brn gl)(V:N<=8):∀(n:Nat) (v:Tr) (lv:Nat) (sk si:Sl),n<=1000000->bR v<=n->xp zm v=Ta->Sm v->lv+gK v<=90->Rd M (.row .str) v.keys [aK sk]->Rd M (.row .tree) v.items [aK si] ->
  mA gl M b N ln 201 #[.pointer (Td ⟨b,0,Te⟩),lO v.kind v.text sk si,.int .i64 (lv:Int)] (Yu ln N v lv)
 |0,v,lv,sk,si,_,h,_,_,_,_,_=>by have:=Qg v;omega
 |n+1,v,lv,sk,si,hn,hz,hok,hsm,hd,hk,hi=>by
  intro l g K H L q t;have f:=hok;rw[x9,Uq]at f;have r:∀(i:Nat) (h:i<v.items.length) (j m:Sl),Rd M (.row .str) v.items[i].keys [aK j]->Rd M (.row .tree) v.items[i].items [aK m]->mA gl M b N ln 201 #[.pointer (Td ⟨b,0,Te⟩),lO v.items[i].kind v.items[i].text j m,.int .i64 ((lv+1:Nat):Int)] (Yu ln N v.items[i] (lv+1)):=λi h j m h1 Z=>by
   have J:=Ur h;have hs:=qn J;have aa:=BN J;have G:xp zm v.items[i]=Ta:=by rw[ju,UI]at f;exact f.2 _ J
   exact Cg T O V n v.items[i] (lv+1) j m (by omega) (by omega) G (hsm.item J) (by omega) h1 Z
  have I:v.items.length<=1000000:=by have:=Zg v.items;rw[wq]at hz;omega
  rw[mS]at q t;apply J4;intro h1;have Y:Keep g.size g h1:=Keep.push _ _ (Uf _);have E:Blk h1 g.size #[.int .i64 v.kind,.string v.text,aK sk,aK si]:=Blk.new _ _ _;clear_value h1;have B:=FrP.ofKeep Y (XK H.lt);have C:=H.keep Y;have Q:=L.frp B;refine⟨v.kind,Blk.cellAdd (o:=0) (k:=0) E rfl,λp=>?_,λp=>⟨λu=>?_,λu=>⟨λy=>?_,λy=>⟨λz=>?_,λz=>?_⟩⟩⟩⟩;have p:v.kind=1:=eq_of_beq p;rw[zA p]at q t;refine⟨_,rfl,?_⟩;rw[add0];exact Qz C [110,117,108,108] q λg' w P U=>⟨_,_,rfl,t g' w (B.trans ⟨P,U⟩)⟩;have A:v.kind≠1:=λe=>by rw[e]at p;cases p
  have u:v.kind=4:=eq_of_beq u;rw[zv A,zA u]at q t;exact⟨v.text,Blk.cellAdd (o:=0) (k:=1) E rfl,GZ T O C Q hsm.text q λg' w D=>⟨rfl,t g' w (B.trans D)⟩⟩;have A:v.kind≠1:=λe=>by rw[e]at p;cases p
  have F:v.kind≠4:=λe=>by rw[e]at u;cases u
  have y:v.kind=5:=eq_of_beq y;rw[zv A,zv F,zA y]at q t;refine⟨v.kind,v.text,sk,si,E.ld (cs:=[_,_,aK sk,aK si]),?_⟩;refine ES (o:=91) (c:=93) (ps:=v.items.map λx=>Yu ln N x (lv+1)) KL hi V (by omega) (Um _) I (λi h=>?_) l h1 _ C Q q λg' w D=>⟨rfl,t g' w (B.trans D)⟩;rw[Um]at h;rw[VM];exact O7 hi h λj m a1 a2=>r i h j m a1 a2;have A:v.kind≠1:=λe=>by rw[e]at p;cases p
  have F:v.kind≠4:=λe=>by rw[e]at u;cases u
  have S:v.kind≠5:=λe=>by rw[e]at y;cases y
  have z:v.kind=6:=eq_of_beq z;rw[zv A,zv F,zv S,zA z]at q t;have ac:v.keys.length=v.items.length:=by have:=f.1;unfold zm at this;simp[z]at this;exact this.1.2
  refine⟨v.kind,v.text,sk,si,E.ld (cs:=[_,_,aK sk,aK si]),?_⟩;refine ES (o:=123) (c:=125) (ps:=List.zipWith (i5 ln) v.keys (v.items.map λx=>Yu ln N x (lv+1))) KE hi V (by omega) (by rw[List.length_zipWith,Um];omega) I (λi h=>?_) l h1 _ C Q q λg' w D=>⟨rfl,t g' w (B.trans D)⟩;rw[List.length_zipWith,Um]at h;rw[List.getElem_zipWith,VM];exact NW T O hk hi (by omega) (by omega) (hsm.key (Ur _)) λj m a1 a2=>r i (by omega) j m a1 a2;have A:v.kind≠1:=λe=>by rw[e]at p;cases p
  have F:v.kind≠4:=λe=>by rw[e]at u;cases u
  have S:v.kind≠5:=λe=>by rw[e]at y;cases y
  have n6:v.kind≠6:=λe=>by rw[e]at z;cases z
  rw[zv A,zv F,zv S,zv n6]at q t;refine⟨_,rfl,v.text,Blk.cellAdd (o:=0) (k:=1) E rfl,?_⟩;rw[add0];exact PG C v.text q λg' w P U=>⟨_,_,rfl,t g' w (B.trans ⟨P,U⟩)⟩
end
end
end Go.X
end
section
namespace Go.X
open Go Go.Lib
section
variable {ln:Bool} {lv:Nat}
theorem Ip(ln:Bool)(nd lv:Nat)(ps:List Bs):(Zx ln nd lv ps).length<=(ps.map λp=>p.length+(1+(Zb ln nd lv).length)).sum:=by
 cases ps with
 |nil=>exact Uf _
 |cons p ps=>
  have:∀b:List Bs,(b.flatMap λq=>44::(Zb ln nd lv++q)).length=(b.map λp=>p.length+(1+(Zb ln nd lv).length)).sum:=by
   intro b;induction b with
   |nil=>rfl
   |cons q b c=>rw[Vq,Uk,c,UJ,List.sum_cons];simp;omega
  rw[Zx,Uk,Uk,this,UJ,List.sum_cons];omega
theorem FJ{nd lv:Nat}(h:nd<=8)(b:lv<=100):(Zb ln nd lv).length<=801:=by unfold Zb;have:nd*lv<=800:=Vj (WJ h b) (by omega);split;rw[Uz,V2];omega;simp
theorem o8(t:Bs):(iz t).1.length<=6*t.length+2:=by unfold iz;have:=vV t;split;simp;omega;simp
theorem v6{ln:Bool}{N:Nat}(r:N<=8):∀(n:Nat) (v:Tr) (lv:Nat),bR v<=n->Sm v->lv+gK v<=90->(Yu ln N v lv).length+10000000<=bR v*20000000
 |0,v,lv,h,_,_=>by have:=Qg v;omega
 |n+1,v,lv,hz,hsm,hd=>by
  have C:=hsm.text;have u:=Qg v;have e:∀x∈v.items,(Yu ln N x (lv+1)).length+10000000<=bR x*20000000:=λx q=>by have h1:=qn q;have t:=BN q;exact v6 r n x (lv+1) (by omega) (hsm.item q) (by omega)
  have B:=FJ (ln:=ln) (lv:=lv) r (by omega);have z:=FJ (ln:=ln) (lv:=lv+1) r (by omega);have f:∀l:List Tr,(∀x∈l,(Yu ln N x (lv+1)).length+10000000<=bR x*20000000)->(l.map λx=>(Yu ln N x (lv+1)).length+10000000).sum<=jz l*20000000:=by
   intro l;induction l with
   |nil=>intro _;exact UB _
   |cons x l j=>intro h;have h1:=h x UF;have t:=j λy m=>h y (UG _ m);rw[UJ,List.sum_cons,jz,VH];omega
  have w:=f v.items e;have b:∀ps:List Bs,(ps.map λp=>p.length+(1+(Zb ln N (lv+1)).length)).sum<=jz v.items*20000000->∀o c:UInt8,(o::jA ln N lv ps++[c]).length+10000000<=bR v*20000000:=λps A o c=>by
   have F:=Ip ln N (lv+1) ps;have:(o::jA ln N lv ps++[c]).length<=2+(Zx ln N (lv+1) ps).length+(Zb ln N lv).length:=by unfold jA;simp only[Uz,Uk,Vb];split <;> simp <;> omega
   rw[wq,VH];omega
  rw[mS];split;simp only[Uz,Vb];omega;split;have:=o8 (lb v.text);omega;split;refine b _ (Vj ?_ w) 91 93;rw[UZ];have:∀l:List Tr,(l.map ((λp:Bs=>p.length+(1+(Zb ln N (lv+1)).length)) ∘ λx=>Yu ln N x (lv+1))).sum<=(l.map λx=>(Yu ln N x (lv+1)).length+10000000).sum:=by
   intro l;induction l with
   |nil=>exact Uf _
   |cons x l j=>simp only[UJ,List.sum_cons,Function.comp];omega
  exact this _;split;refine b _ (Vj ?_ w) 123 125;have:∀(ks:List Bt) (l:List Tr),(∀k∈ks,(lb k).length<=1048576)->((List.zipWith (i5 ln) ks (l.map λx=>Yu ln N x (lv+1))).map λp:Bs=>p.length+(1+(Zb ln N (lv+1)).length)).sum<=(l.map λx=>(Yu ln N x (lv+1)).length+10000000).sum:=by
   intro ks;induction ks with
   |nil=>intro l _;simp
   |cons k ks j=>
    intro l i;cases l with
    |nil=>simp
    |cons x l=>
     have h1:=j l λy m=>i y (UG _ m);have t:=i k UF;have E:=o8 (lb k);have D:(i5 ln k (Yu ln N x (lv+1))).length<=(iz (lb k)).1.length+2+(Yu ln N x (lv+1)).length:=by unfold i5;rw[Uk,Uz,Uk];split <;> simp <;> omega
     simp only[UJ,List.zipWith_cons_cons,List.sum_cons];omega
  exact this v.keys v.items λk i=>hsm.key i;omega
theorem HH{N:Nat}{v:Tr}(h:ir v=Ta):Yu ln N v lv≠[]:=by unfold ir at h;rw[Uq]at h;obtain⟨k,h⟩:=h;unfold zm at h;rw[mS];by_cases h1:v.kind=1;rw[zA h1];simp;rw[zv h1]at h ⊢;by_cases b:v.kind=4;rw[zA b];rw[b]at h;simp at h;unfold iz;rw[zA h.1.1];simp;rw[zv b];by_cases f:v.kind=5;rw[zA f];simp;rw[zv f];by_cases c:v.kind=6;rw[zA c];simp;rw[zv c];by_cases i:v.kind=2;rw[zA i]at h;simp at h;rcases h.1.1 with e|e <;> (rw[e];simp);rw[zv i]at h;by_cases j:v.kind=3;rw[zA j]at h;simp only[Uq]at h;have:=h.1.1;unfold ku at this;simp only[Uq,beq_iff_eq]at this;intro e;rw[e]at this;exact absurd this.1 (by decide);rw[zv j,zv b,zv f,zv c]at h;split at h;rename_i e;simp[e]at k;cases h
end
end Go.X
end
section
namespace Go.X
open Go Go.X Go.Proofs Go.RowKit
section
variable {v:Tr} {ln:Bool} {N lv:Nat} {gl M:Fr}
def W5(v:Tr):Bt×Int:=if zi v=Ta then(bl (Yu Tc 0 v 0),0)else(⟨#[]⟩,1)
theorem Qm(h:zi v=Ta):bR v<=4096/\gK v<=32/\xp ir v=Ta/\xp zm v=Ta:=by unfold zi xq at h;simp only[Uq,zG]at h;refine⟨h.1.1,h.1.2,h.2,?_⟩;exact xZ (λx b=>by rw[Uq]at b;exact b.2) v h.2
theorem MH(h:zi v=Ta):Yu ln N v lv≠[]:=by have:=(Qm h).2.2.1;rw[x9,Uq]at this;exact HH this.1
theorem JX(o:GL gl)(n:Brn gl)(h:Sm v)(e:zi v=Ta)(f:N<=8)(y:lv<=32){g:zc}{b:Nat}(m:Fr.le gl M)(ag:AgM M g)(low:∀c cs,M c=Td cs->c<b)(H:Prn g b ln (N:Int) []) {sk si:Sl} (u:Rd M (.row .str) v.keys [aK sk]) (q:Rd M (.row .tree) v.items [aK si]) {K:Value->zc->Prop} (t:∀h',Keep b g h'->K (.string (bl (Yu ln N v lv))) h'):
  XC Tp 201 #[.pointer (Td ⟨b,0,Te⟩),lO v.kind v.text sk si,.int .i64 (lv:Int)] g λr h1=>r=.tuple #[]/\XC Tp 70 #[.pointer (Td (Ue ⟨b,0,Te⟩ 0))] h1 K:=by
 obtain⟨z,A,w,p⟩:=Qm e;have j:=v6 (ln:=ln) f (bR v) v lv (Uf _) h (by omega);refine Cg o n f 1000000 v lv sk si (Uf _) (by omega) p h (by omega) u q [] g _ H ⟨m,ag,low⟩ (by simp only[Vb];omega) λg' i l=>⟨rfl,?_⟩;rw[add0];rw[Vw]at i;exact QQ i (MH e) λh' k=>t h' (l.keep.trans k (Uf _))
theorem Es(s:Bt)(e:Int):Q5 M [.str,.int .i64] (s,e) (.tuple #[.string s,.int .i64 e]):=⟨[_,_],⟨_,_,rfl,rdStr _,_,rfl,Yn _ _⟩,rfl⟩
set_option maxRecDepth 100000 in
theorem F0(A:GL gl)(C:Brn gl)(B:Sm v){R:Bt×Int->Prop}(l:R (W5 v)):PC Tp gl 126 [Arg.mk .tree v] [.str,.int .i64] R:=by
 intro h M vs z ag I
 match vs,I with
 |[u],⟨p,_⟩=>
  have p:RdV M .tree v u:=p;have y:=p;obtain⟨sk,si,rfl,F,H⟩:=qj p;apply PX.of;apply SC v.kind v.text sk si;intro h1;have f:Later h M h1 M:=Later.push ag _;have s1:h1.size=h.size+1:=Uh _;have i:∀h':zc,Keep h1.size h1 h'->ze h' ⟨h.size,0,Te⟩ 0 [.int .i64 v.kind,.string v.text,aK sk,aK si]:=λh' k=>pr (h':=h') (by rw[s1]at k;exact k);clear_value h1;refine⟨v.kind,v.text,sk,si,i h1 (Keep.refl _ _),?_⟩;refine(Ql A B (R:=λr=>r=zi v) rfl).go (vs:=[.agg #[.int .i64 v.kind,.string v.text,aK sk,aK si]]) (z.trans f.le) f.ag (zn (RdV.mono f.le y) qg) λw o t r b m G=>?_;subst G;refine⟨_,Ju m,λj=>?_,λj=>?_⟩;have j:zi v=Tc:=by simpa using j
  unfold W5 at l;rw[zv (by rw[j];simp)]at l;exact⟨t,_,f.trans b,Es _ _,l⟩;have j:zi v=Ta:=by simpa using j
  unfold W5 at l;rw[zA j]at l;intro n;have D:Prn n o.size Tc ((0:Nat):Int) []:=Prn.new o Tc 0;have q:Keep o.size o n:=Keep.push _ _ (Uf _);clear_value n;have E:Later h M n t:=(f.trans b).trans (Later.same b.ag q);refine⟨v.kind,v.text,sk,si,i n (b.keep.trans q b.keep.size),?_⟩;refine JX A C B j (N:=0) (lv:=0) (by omega) (by omega) (z.trans (f.trans b).le) E.ag (λc cs e=>b.ag.lt e) D (F.mono (f.trans b).le) (H.mono (f.trans b).le) λL J=>⟨_,rfl,t,_,?_,Es _ _,l⟩;exact(f.trans b).trans (Later.same b.ag (q.trans J (Uf _)))
end
end Go.X
end
section
namespace Go.X
section
theorem qy(b:Nat)(c1:Addr)(h:zc)(R:Value->zc->Prop) (H:∃r:Option Nat,zd h c1=Td (.map r)/\qt Tp (XQ 144 (.map r)) h (λI G=>∃j:Option Addr,I=.pointer j/\∃(m:zc->Prop) (o:zc->Nat),m G/\∀l:zc,m l->(qt Tp (WE (.pointer j) Tc 0) l (λA k=>(A=.tuple #[.bool Tc]/\(Tc=Ta->qt Tp (XA (.pointer j)) k (λz C=>∃q u:Value,z=.tuple #[q,u]/\YX Tp b #[q] C (λy f=>∃e:Bool,y=.bool e/\((!e)=Ta->R (.tuple #[]) f)/\((!e)=Tc->(m f/\o f<o l)))))/\(Tc=Tc->R (.tuple #[]) k))\/∃D B:Value,A=.tuple #[.bool Ta,D,B]/\(Ta=Ta->qt Tp (XA (.pointer j)) k (λE F=>∃p w:Value,E=.tuple #[p,w]/\YX Tp b #[p] F (λt i=>∃c:Bool,t=.bool c/\((!c)=Ta->R (.tuple #[]) i)/\((!c)=Tc->(m i/\o i<o l)))))/\(Ta=Tc->R (.tuple #[]) k))))):
  lJ Tp 222 #[.func (.yield b) #[] #[],.pointer (Td c1)] h R:=
 wL Tryz.mixed ⟨[],[(1,[])],[]⟩ [.func (.yield b) #[] #[],.pointer (Td c1)] (rs:=[]) (n:=14) Tryz.func222 (by kernel_rfl) (by kernel_rfl) (by kernel_rfl) (by kernel_rfl) (Eq.mp (by kernel_rfl) H)
theorem yf(j:Sl)(f:Value)(h:zc)(R:Value->zc->Prop) (H:let c:zc:=VS h (.cells #[.slice j.a j.len j.cap] 22);∃(m:FuncId) (k:Array Value),f=.func (.func m) #[] k/\zk Tp m=Ta/\∀e:iL,(∀{p:Value} {l:zc} {o:Value->zc->Prop},l[(Uw c+1)]?=Td (.loop (e .ready Te))->lH Tp 13 (lA (codeOf Tryz.f277)) (kN (codeOf Tryz.f277)) e (Uw c+1) o (putO [(0,[],.slice j.a j.len j.cap),(1,[],f),(2,[],.pointer (Td ⟨Uw h,0,Te⟩)),(4,[],.slice Te 0 0),(6,[],f)] (Td 7) [] p) l->YX Tp (Uw c+1) #[p] l o)->lJ Tp m (#[.func (.yield (Uw c+1)) #[] #[]]++k) (VS (VS c (.deferred (Td []))) (.loop (e .ready Te))) λ_ q=>oW e (Uw c+1) (λi=>∃b:Sl,zd i ⟨Uw h,0,Te⟩=Td (.slice b.a b.len b.cap)/\(i)[Uw c]?=Td (.deferred (Td []))/\R (.slice b.a b.len b.cap) (Array.setIfInBounds i (Uw c) (.deferred Te))) (λi=>(i)[Uw c]?=Td (.deferred (Td []))/\R (.slice Te 0 0) (Array.setIfInBounds i (Uw c) (.deferred Te))) q):
  XC Tp 277 #[.slice j.a j.len j.cap,f] h R:=
 EN Tryz.mixed [.slice j.a j.len j.cap,f] (rs:=[.tmp 4]) (n:=13) Tryz.func277 (by kernel_rfl) (by kernel_rfl) (by kernel_rfl) (by kernel_rfl) H (pl:=[]) (by kernel_rfl)
theorem yg(o:Value)(r:Value)(m:Addr)(p:Value)(q:Value)(n:Bt)(rec:iL)(l:Nat)(K:Value->zc->Prop)(h:zc) (H:(h)[l]?=Td (.loop (rec .ready Te))/\let e:zc:=Array.setIfInBounds h l (.loop (rec .busy Te));∃c:Sl,zd e m=Td (.slice c.a c.len c.cap)/\let i:zc:=VS e (.cells #[.string n] 9);qt Tp (Us #[22,22] 22 #[.slice c.a c.len c.cap,.slice (Td ⟨Uw e,0,Te⟩) 1 1]) i (λj k=>∃b:Sl,j=.slice b.a b.len b.cap/\XRunU Tp (Uj 22 (.pointer (Td m)) (.slice b.a b.len b.cap)) k (λf=>(f)[l]?=Td (.loop (rec .busy Te))/\K (.bool Ta) (Array.setIfInBounds f l (.loop (rec .ready Te)))))):
  lH Tp 13 (lA (codeOf Tryz.f277)) (kN (codeOf Tryz.f277)) rec l K [(7,[],.string n),(0,[],o),(1,[],r),(2,[],.pointer (Td m)),(4,[],p),(6,[],q)] h:=
 Eq.mp (by kernel_rfl) H
end
section
theorem xe(j:FuncId)(i:Array Value)(k:Array Value)(h:zc)(R:Value->zc->Prop) (H:XC Tp 220 #[.func (.func j) i k] h (λb c=>∃d,b=aK d/\XC Tp 221 #[aK d] c (λe f=>e=.tuple #[]/\R (aK d) f))):
  XC Tp 161 #[.func (.func j) i k] h R:=
 XF ⟨[],[],[]⟩ [.tmp 2] 9 Tryz.func161 H
theorem ya(b:Option Nat)(h:zc)(R:Value->zc->Prop) (H:let a:=h.push (.cells #[.map b] 144);R (.func (.func 222) #[] #[.pointer (Td ⟨h.size,0,Te⟩)]) a):
  XC Tp 162 #[.map b] h R:=
 XF ⟨[],[],[]⟩ [.tmp 2] 4 Tryz.func162 H
theorem wu(f:FuncId)(e:Array Value)(i:Array Value)(h:zc)(R:Value->zc->Prop) (H:XC Tp 277 #[.slice Te 0 0,.func (.func f) e i] h (λb c=>∃d,b=aK d/\R (aK d) c)):
  XC Tp 220 #[.func (.func f) e i] h R:=
 XF ⟨[],[],[]⟩ [.tmp 2] 5 Tryz.func220 H
end
end Go.X
end
section
namespace Go.X
open Go Go.Proofs Go.Shelf Go.RowKit
section
def Kd:Go.Shelf.Ren:=⟨fun|190=>221|125=>114|258=>278|128=>177|129=>178|302=>324|303=>325|304=>326|305=>327|306=>328|307=>329|308=>330|309=>331|310=>332|333=>371|329=>236|330=>237|334=>372|335=>373|336=>207|344=>395|n=>n,fun|31=>22|9=>9|3=>3|46=>123|0=>0|51=>176|53=>178|4=>4|183=>168|182=>167|131=>173|5=>5|218=>245|222=>249|228=>299|229=>300|n=>n,fun|n=>n⟩
theorem BH:Go.Proofs.Lays.n190 Tp Kd:=by constructor <;> intros <;> kernel_rfl
open Go.Sort Go.RowKit in
theorem X7(blk off cap:Nat)(ss:List (List UInt8))(w:World)(f:Holds encStr w blk off ss.toArray)(b:blk<w.heap.size)(c:ss.length<4611686018427387904):
  Calls Tp 221 #[.slice (Td ⟨blk,off,Te⟩) ss.length cap] w λe w'=>
   e=.returned (.tuple #[])/\∃n os,w'=grow (putRow encStr (Sort.ahead w n) blk off (ss.mergeSort λx y=>decide (x<=y)).toArray) os:=Any.slices_Sort_string BH blk off cap ss w f b c
open Go.RowKit Go.Sort in
theorem Q4(p:Option Addr)(cap:Nat)(w:World): Calls Tp 221 #[.slice p 0 cap] w λe w'=>e=.returned (.tuple #[])/\w'=w:=Any.slices_Sort_string_none BH p cap w
end
end Go.X
end
section
namespace Go.X
open Go Go.Lib
section
def zj(xs:List Bt):List Bt:=((xs.map lb).mergeSort λx y=>decide (x<=y)).map bl
theorem Iw{xs ys:List Bt}(h:xs.Perm ys):zj xs=zj ys:=by unfold zj;rw[mergeSort_of_perm (h.map lb)]
theorem qe(xs:List Bt):(zj xs).Perm xs:=by
 have h:=(List.mergeSort_perm (xs.map lb) λx y=>decide (x<=y)).map bl;rw[UZ]at h;have e:bl ∘ lb=id:=by funext x;exact jF x
 rw[e,List.map_id]at h;exact h
theorem Rq(xs:List Bt):(zj xs).length=xs.length:=(qe xs).length_eq
end
end Go.X
end
section
namespace Go.X
open Go Go.X Go.Proofs Go.RowKit Go.Sort Go.Shelf
section
variable {h:zc} {xs:List Bt} {K:Value -> zc -> Prop} {c m:Nat}
theorem XC.of_below{P:Program}{f:FuncId}{args:Array Value}{R:Value->zc->Prop}(H:∀B d,Calls P f args (mk B d h) λe w'=>∃v,e=.returned v/\w'.os=B.os/\w'.tape=B.tape/\w'.output=B.output/\R v w'.heap):XC P f args h R:=by intro B d;refine(H B d).mono ?_;rintro e w' ⟨v,rfl,h1,b,i,c⟩;refine⟨v,w'.drawn,w'.heap,rfl,?_,c⟩;cases w';simp only[mk]at *;subst h1;subst b;subst i;rfl
theorem mT{base:Nat}{s:Sl}(H:Owns h base 9 1 s (xs.map UA)):s.len=xs.length:=by have:=H.length;simp at this;omega
theorem Sf(xs:List Bt):(xs.map lb).map encStr=xs.map UA:=by rw[UZ];refine VN λx _=>?_;show UA _=_;exact congrArg UA (jF x)
theorem G9{base:Nat}{s:Sl}(H:Owns h base 9 1 s (xs.map UA))(t:xs.length<=1000000):
  XC Tp 221 #[.slice s.a s.len s.cap] h λv h'=>v=.tuple #[]/\Owns h' base 9 1 s ((zj xs).map UA)/\h.size<=h'.size/\∀i,i<h.size->(∀p,s.a=Td p->i≠p.block)->h'[i]?=h[i]?:=by
 refine XC.of_below λB d=>?_;have k:s.len=xs.length:=mT H;have b:(xs.map lb).length=xs.length:=by simp
 have f:(zj xs).map UA=((xs.map lb).mergeSort λx y=>decide (x<=y)).map encStr:=by unfold zj;rw[UZ];rfl
 rcases H.2 with⟨q,h0⟩|⟨g,cap,m,q,o,F,E,J,C,G⟩;have D:xs=[]:=UN (by omega);subst D;rw[h0];refine(Q4 s.a s.cap (mk B d h)).mono ?_;rintro e w' ⟨rfl,rfl⟩;exact⟨_,rfl,rfl,rfl,rfl,rfl,by rw[show zj []=[]from List.Perm.eq_nil (qe [])];exact H,Uf _,λ_ _ _=>rfl⟩;simp only[UY]at q;obtain⟨z,_,rfl⟩:=q;have j:(mk B d h).heap[g]?=Td (.cells m 9 (0,0)):=F;have r:g<(mk B d h).heap.size:=(Uu.1 j).1;have I:Holds encStr (mk B d h) g 0 (xs.map lb).toArray:=holds_of_block j (by rw[b,Sf,<-k];simpa using G);have A:=X7 g 0 s.cap (xs.map lb) (mk B d h) I r (by rw[b];omega);rw[b,<-k]at A;rw[z];refine A.mono ?_;rintro e w' ⟨rfl,n,os,rfl⟩;have c:=grownBy_sorted (w:=mk B d h) (g:=g) (n:=n) (os:=os) ((xs.map lb).mergeSort λx y=>decide (x<=y)).toArray;refine⟨_,rfl,c.os,c.tape,c.output,rfl,?_,c.size,λi hi l=>c.block i hi λe=>l _ rfl (by simpa using e)⟩;have u:=ownsRow_sorted (w:=mk B d h) (base:=base) (n:=n) (os:=os) (ss:=xs.map lb) (ts:=(xs.map lb).mergeSort λx y=>decide (x<=y)) (by simp) o j (by rw[b,<-k];exact E) J (by simpa using C);rw[<-f,b,<-k]at u;show World.ownsRow _ base _ 1 (.slice s.a s.len s.cap) s.len _;rw[z];exact u
theorem Hn:US.underlying 144=Td (.map 9 25):=by kernel_rfl
theorem Rm:zk Tp 222=Ta:=by kernel_rfl
theorem Ek:∀{xs ys:List Bt},xs.Nodup->(∀x∈xs,x∈ys)->xs.length<=ys.length
 |[],_,_,_=>UB _
 |x::xs,ys,hn,hs=>by
  rw[Vf]at hn;have e:=hs x UF;obtain⟨a,b,rfl⟩:=List.append_of_mem e;have:=Ek (ys:=a++b) hn.2 λy c=>by have:=hs y (UG _ c);rw[Uo,Up]at this;rw[Uo];rcases this with h|rfl|h;exact .inl h;exact absurd c hn.1;exact .inr h
  simp only[Uk,Uz]at this ⊢;omega
structure KyS (h:zc) (m:Nat) (rec:iL) (ps:List (Bt×Value)) (g:zc) (xs:List Bt) (sl:Sl):Prop where
 keep:Keep h.size h g
 d:g[h.size+1]?=Td (.deferred (Td []))
 rc:g[h.size+2]?=Td (.loop (rec .ready Te))
 box:Blk g h.size #[aK sl]
 o:Owns g (h.size+4) 9 1 sl (xs.map UA)
 it:MapIt g (h.size+3) m (Qy ps) (xs.reverse.map UA)
 nd:xs.Nodup
 sub:∀x∈xs,x∈ps.map (·.1)
 gz:h.size+4<=g.size
theorem JZ(ps:List (Bt×Value)):(Qy ps).map (·.1)=(ps.map (·.1)).map UA:=by unfold Qy;rw[UZ,UZ];rfl
theorem PP{ks:List Bt}(h:ks.Nodup):(ks.map UA).Nodup:=by
 induction ks with
 |nil=>exact V5
 |cons k ks b=>rw[Vf]at h;rw[UJ,Vf];refine⟨λc=>?_,b h.2⟩;obtain⟨x,f,e⟩:=UD.1 c;injection e with e;exact h.1 (e ▸ f)
section
variable {h : zc} {m : Nat} {rec : iL} {ps : List (Bt × Value)} {g : zc} {xs : List Bt} {sl : Sl}
set_option maxRecDepth 100000 in
theorem KyS.round(S:KyS h m rec ps g xs sl)(hm:m<h.size)(u:xs.length<=1000000){g1:zc}{k:Bt}(C:MapIt g1 (h.size+3) m (Qy ps) ((k::xs.reverse).map UA))(z1:g1.size=g.size)(H:∀j,j≠h.size+3->g1[j]?=g[j]?)(Z:k∉xs)(B:k∈ps.map (·.1)) {x6 V U T:Value} (hK:∀g' E,KyS h m rec ps g' (xs++[k]) E->g'[h.size+3]?=g1[h.size+3]?->g'[m]?=g1[m]?->K (.bool Ta) g'):
  lH Tp 13 (lA (codeOf Tryz.f277)) (kN (codeOf Tryz.f277)) rec (h.size+2) K [(7,[],.string k),(0,[],U),(1,[],T),(2,[],.pointer (Td ⟨h.size,0,Te⟩)),(4,[],V),(6,[],x6)] g1:=by
 apply yg;have gz:=S.gz;have ky:=S.keep.size;refine⟨by rw[H _ (by omega)];exact S.rc,?_⟩;intro c;have r:∀j,j≠h.size+2->c[j]?=g1[j]?:=λj w=>zl w;have l2:c[h.size+2]?=Td (.loop (rec .busy Te)):=set_self (by omega);have z2:c.size=g1.size:=UL;clear_value c;have l:∀j,j≠h.size+2->j≠h.size+3->c[j]?=g[j]?:=λj a b=>(r j a).trans (H j b);have J:Blk c h.size #[aK sl]:=S.box.keep (l _ (by omega) (by omega));refine⟨sl,J.cell rfl,?_⟩;intro t;have G:Keep c.size c t:=Keep.push _ _ (Uf _);have z3:t.size=c.size+1:=Uh _;have S3:Blk t c.size #[.string k]:=Blk.new _ _ _;clear_value t;have o2:Owns c (h.size+4) 9 1 sl (xs.map UA):=S.o.keep λp q=>by have:=S.o.base_le p q;exact l _ (by omega) (by omega)
 have I:=o2.keepN G;have hl:=mT S.o;refine xw m9 I (src:=⟨Td ⟨c.size,0,Te⟩,1,1⟩) (news:=[.string k]) (n:=t.size) ?_ rfl (by simp[Value.oneCell']) (by simp only;omega) (by simp only;omega) (by omega) λA N q1 L O q4 q5=>⟨A,rfl,?_⟩;refine .inr ⟨c.size,0,rfl,by omega,λi v z=>?_⟩
 match i,z with
 |0,z=>cases z;exact S3.cell rfl
 have y:∀j,j<h.size+4->N[j]?=c[j]?:=λj w=>by rw[O j (by omega) λp q=>by have:=I.base_le p q;omega];exact G.get j (by omega)
 refine jo wW vW (J.keep (y _ (by omega))) (by show 0<1;omega) rfl λD P u3 M=>?_;have f:∀j,j<h.size+4->j≠h.size->D[j]?=c[j]?:=λj w h0=>(M j h0).trans (y j w);have Y:D[h.size+2]?=Td (.loop (rec .busy Te)):=by rw[f _ (by omega) (by omega)];exact l2
 refine⟨Y,hK _ A ⟨?_,?_,set_self (by omega),?_,?_,?_,?_,?_,?_⟩ ?_ ?_⟩;refine S.keep.trans ⟨by rw[UL];omega,λj w=>?_⟩ (Uf _);rw[zl (by omega),f j (by omega) (by omega),l j (by omega) (by omega)];rw[zl (by omega),f _ (by omega) (by omega),l _ (by omega) (by omega)];exact S.d;exact Blk.keep P (zl (by omega));have:Owns D (h.size+4) 9 1 A ((xs++[k]).map UA):=by rw[U3];exact L.keep λp q=>by have:=L.base_le p q;exact M _ (by omega)
 exact this.keep λp q=>by have:=this.base_le p q;exact zl (by omega)
 rw[List.reverse_append];refine C.keep ?_ ?_;rw[zl (by omega),f _ (by omega) (by omega),r _ (by omega)];rw[zl (by omega),f _ (by omega) (by omega),r _ (by omega)];rw[VX];exact⟨S.nd,by simp,λa Q b F e=>by rw[Ut]at F;subst F;subst e;exact Z Q⟩;intro x u;rw[Uo,Ut]at u;rcases u with u|rfl;exact S.sub x u;exact B;rw[UL];omega;rw[zl (by omega),f _ (by omega) (by omega),r _ (by omega)];rw[zl (by omega),f _ (by omega) (by omega),r _ (by omega)]
end
set_option maxRecDepth 100000 in
theorem JB{ps:List (Bt×Value)}(C:Blk h c #[.map (Td m)])(W:MapW h m (Qy ps))(P:(ps.map (·.1)).Nodup)(hl:ps.length<=1000000) (hK:∀(h':zc) (sl:Sl) (xs:List Bt),Keep h.size h h'->Owns h' h.size 9 1 sl (xs.map UA)->xs.Perm (ps.map (·.1))->K (.slice sl.a sl.len sl.cap) h'):
  XC Tp 277 #[.slice Te 0 0,.func (.func 222) #[] #[.pointer (Td ⟨c,0,Te⟩)]] h K:=by
 apply yf ⟨Te,0,0⟩;intro h1;have U:Keep h.size h h1:=Keep.push _ _ (Uf _);have Z:h1.size=h.size+1:=Uh _;have B1:Blk h1 h.size #[aK ⟨Te,0,0⟩]:=Blk.new _ _ _;clear_value h1;have Q:=W.lt;have hc:=C.lt;refine⟨_,_,rfl,Rm,λrec M=>?_⟩;obtain⟨f,b⟩:∃f:zc,f=((h1.push (.deferred (Td []))).push (.loop (rec .ready Te))):=⟨_,rfl⟩;have T:Keep h1.size h1 f:=by rw[b];exact(Keep.push _ _ (Uf _)).trans (Keep.push _ _ (by rw[Uh];omega)) (Uf _)
 have z4:f.size=h1.size+2:=by rw[b,Uh,Uh]
 have O:f[h1.size]?=Td (.deferred (Td [])):=by rw[b,XL,zv (by rw[Uh];omega)];exact qp _ _
 have N:f[h1.size+1]?=Td (.loop (rec .ready Te)):=by rw[b];have:=qp (h1.push (.deferred (Td []))) (.loop (rec .ready Te));rw[Uh]at this;exact this
 rw[<-b];clear b;have l:Keep h.size h f:=U.trans T (by omega);have G:h1.size=h.size+1:=Z;rw[G]at O N M ⊢;apply qy;refine⟨Td m,(C.keep (l.get c hc)).cell rfl,?_⟩;have W4:MapW f m (Qy ps):=W.keep (l.get m Q);refine wd Hn W4 λh5 z5 w t=>⟨Td ⟨f.size,0,Te⟩,rfl,λg=>∃xs sl,KyS h m rec ps g xs sl,λg=>leftN g (h.size+3) m,⟨[],⟨Te,0,0⟩,?_⟩,?_⟩;have H:f.size=h.size+3:=by omega
 rw[H]at t;exact⟨l.trans w (by omega),(w.get _ (by omega)).trans O,(w.get _ (by omega)).trans N,(B1.ofKeep T).keep (w.get _ (by omega)),Owns.nil _ _ _ _,t,V5,λx i=>(by cases i),by omega⟩;have H:f.size=h.size+3:=by omega
 rw[H];rintro g ⟨xs,sl,S⟩;have y:((Qy ps).map (·.1)).Nodup:=by rw[JZ];exact PP P
 have z:xs.length<=1000000:=by have h1:=Ek S.nd S.sub;rw[Um]at h1;omega
 refine wX S.it y (by omega) (λn=>.inl ⟨rfl,(λi=>by cases i),λ_=>.inl ⟨S.rc,?_⟩⟩) λk v F V g1 A u B J q=>.inr ⟨k,v,rfl,λ_=>?_,λi=>by cases i⟩;have aa:=S.gz;refine⟨sl,?_,?_,hK _ sl xs ?_ ?_ ?_⟩;exact(S.box.keep (zl (by omega))).cell rfl;rw[zl (by omega)];exact S.d;refine S.keep.trans ⟨by rw[UL,UL];exact Uf _,λj hj=>?_⟩ (Uf _);rw[zl (by omega),zl (by omega)];refine(S.o.keep λp E=>?_).base (by omega);have:=S.o.base_le p E;rw[zl (by omega),zl (by omega)];refine(List.perm_ext_iff_of_nodup S.nd P).2 λa=>⟨S.sub a,λha=>?_⟩;obtain⟨p,E,rfl⟩:=UD.1 ha;have:=n (.string p.1,p.2) (UD.2 ⟨p,E,rfl⟩);obtain⟨x,i,e⟩:=UD.1 this;injection e with e;subst e;exact List.mem_reverse.1 i;obtain⟨⟨L,vv⟩,r,e⟩:=UD.1 F;injection e with G e2;subst G;subst e2;have D:L∉xs:=λi=>V (UD.2 ⟨L,List.mem_reverse.2 i,rfl⟩);refine wU u ⟨_,_,rfl,M ?_ ?_⟩;rw[J _ (by omega)];exact S.rc;refine S.round Q z A B J D (UD.2 ⟨_,r,rfl⟩) λg' I S' Y q2=>⟨Ta,rfl,(λi=>by cases i),λ_=>⟨⟨_,I,S'⟩,?_⟩⟩;show leftN g' (h.size+3) m<_;rw[leftN.keep Y q2];exact q
theorem IX{ps:List (Bt×Value)}(C:Blk h c #[.map (Td m)])(W:MapW h m (Qy ps))(l:(ps.map (·.1)).Nodup)(j:ps.length<=1000000) (q:∀h' sl,Keep h.size h h'->Owns h' h.size 9 1 sl ((zj (ps.map (·.1))).map UA)->K (.slice sl.a sl.len sl.cap) h'):
  XC Tp 161 #[.func (.func 222) #[] #[.pointer (Td ⟨c,0,Te⟩)]] h K:=by
 apply xe;apply wu;refine JB C W l j λh1 sl xs e k b=>⟨sl,rfl,sl,rfl,?_⟩;have f:xs.length<=1000000:=by rw[b.length_eq,Um];exact j
 refine XC.mono (G9 k f) ?_;rintro v h2 ⟨rfl,r,o,n⟩;refine⟨rfl,q h2 sl ⟨Vj e.size o,λi hi=>?_⟩ (by rw[<-Iw b];exact r)⟩;refine(n i (VP hi e.size) λp b=>?_).trans (e.get i hi);have:=(k.base_le p b).1;omega
end
end Go.X
end
section
namespace Go.X
open Go Go.Lib
section
def jC:List (Bt×Tr)->Bt->Tr
 |[],_=>.mk 0 (bl []) [] []
 |p::l,k=>if p.1=k then p.2 else jC l k
mutual
def zo:Tr->Tr
 |.mk k s ks xs=>if k=6 then .mk k s (zj ks) ((zj ks).map λq=>jC (ks.zip (po xs)) q)else .mk k s [] (po xs)
def po:List Tr->List Tr
 |[]=>[]
 |x::l=>zo x::po l
end
def Zc(v:Tr):Tr:=if j3 v=Ta then zo v else .mk 0 (bl []) [] []
theorem AP:∀l:List Tr,po l=l.map zo
 |[]=>rfl
 |x::l=>by rw[po,AP l];rfl
theorem yW(v:Tr):zo v=if v.kind=6 then .mk v.kind v.text (zj v.keys) ((zj v.keys).map λq=>jC (v.keys.zip (v.items.map zo)) q)else .mk v.kind v.text [] (v.items.map zo):=by
 cases v with
 |mk k s ks xs=>rw[zo,AP]
theorem xI(k:Bt):∀(ks:List Bt) (ys:List Tr),ks.length=ys.length->k∈ks->∃(j:Nat) (h1:j<ks.length) (l:j<ys.length),ks[j]=k/\jC (ks.zip ys) k=ys[j]/\∀us:List Value,us.length=ks.length->X1 (ks.zip us) k=us[j]?
 |[],_,_,h=>by cases h
 |z::ks,[],h,_=>by simp at h
 |z::ks,y::ys,h,hk=>by
  by_cases hz:z=k;refine⟨0,by simp,by simp,hz,?_,λus b=>?_⟩;rw[VR,jC,zA hz];rfl
  match us,b with
  |u::us,_=>rw[VR,X1,zA hz];rfl
  have c:k∈ks:=by rcases Up.1 hk with e|e;exact absurd e.symm hz;exact e
  obtain⟨j,h1,l,f,m,i⟩:=xI k ks ys (by simpa using h) c;refine⟨j+1,by simp;omega,by simp;omega,by simpa using f,?_,λus b=>?_⟩;rw[VR,jC,zv hz,m];rfl
  match us,b with
  |u::us,b=>rw[VR,X1,zv hz,i us (by simpa using b)];rfl
end
end Go.X
end
section
namespace Go.X
open Go Go.X Go.Proofs Go.RowKit
section
variable {ks:List Bt}
theorem Owns.frz{h g:zc}{M M':Fr}(L:Later h M g M'){s:Sl}{base:Nat}(o:Owns g base 9 1 s (ks.map UA))(B:h.size<=base)(D:ks.length<=1000000):
  ∃k,Later h M g k/\(∀c,c<base->k c=M' c)/\Rd k (.row .str) ks [aK s]:=by
 have p:=mT o;rcases o.2 with⟨j,h0⟩|⟨b,cap,f,j,n,r,A,C,z,t⟩;have l:ks=[]:=UN (by omega);subst l;simp only[UY]at j;refine⟨M',L,λ_ _=>rfl,⟨_,rfl,s.a,s.cap,?_,⟨by simp,by simp⟩,.inl rfl⟩⟩;show aK s=_;unfold aK;rw[h0];rfl;simp only[UY]at j;obtain⟨u,_,y⟩:=j;have w:Blk g b f:=⟨_,r⟩;refine⟨MxL M' g [b],⟨L.keep,L.le.trans (oI L.ag _),λx l=>?_,MxL.ag L.ag _⟩,λc y=>?_,⟨_,rfl,s.a,s.cap,?_,⟨by omega,by omega⟩,.inr ⟨b,0,f,u,MxL.at (by simp) w,λi hi=>?_⟩⟩⟩;unfold MxL;rw[zv (by simp;omega)];exact L.old x l;unfold MxL;rw[zv (by simp;omega)];show aK s=_;unfold aK;rw[p];show cut f (0+i*1) 1=[.string ks[i]];apply U1;intro q;rw[qi];by_cases m:q<1;have:q=0:=by omega
 subst this;rw[zA m];have e:(f.toList.take (s.len*1))[i]?=(ks.map UA)[i]?:=by rw[t]
 rw[UU,zA (by omega)]at e;rw[show 0+i*1+0=i from by omega,e];simp[hi];rw[zv m,U5 (by simp;omega)]
structure SrS (h:zc) (M:Fr) (r o lo:Nat) (k:Int) (s:Bt) (sk:Sl) (xs:List Tr) (g:zc) (M':Fr) (so:Sl) (bs:List Nat):Prop where
 L:Later h M g M'
 res:Blk g r #[.int .i64 0,.string ⟨#[]⟩,.slice Te 0 0,.slice Te 0 0]
 out:Blk g o #[.int .i64 k,.string s,aK sk,aK so]
 row:ORow lo g M' .tree xs so bs
 nO:M' o=Te
 nR:M' r=Te
 hr:h.size<=r
 ro:r<o
 ol:o<lo
 lg:lo<=g.size
section
variable {h : zc} {M : Fr} {r o lo : Nat} {k : Int} {s : Bt} {sk : Sl} {xs : List Tr} {g : zc} {M' : Fr} {so : Sl} {bs : List Nat}
theorem SrS.add(S:SrS h M r o lo k s sk xs g M' so bs)(hn:xs.length<=1000000){g1:zc}{w:Fr}(m:Later g M' g1 w){x:Tr}{G D:Sl}(Q:RdV w .tree x (.agg #[.int .i64 x.kind,.string x.text,aK G,aK D])){K:zc->Prop}
  (hK:∀g' so' bs',SrS h M r o lo k s sk (xs++[x]) g' w so' bs'->(∀j,j<lo->j≠o->g'[j]?=g[j]?)->K g'):
  let f:=g1.push (.cells #[.int .i64 x.kind,.string x.text,aK G,aK D] 25)
  qt Tp (Us #[23,23] 23 #[aK so,.slice (Td ⟨g1.size,0,Te⟩) 1 1]) f (λv n=>∃z:Sl,v=aK z/\XRunU Tp (Uj 23 (.pointer (Td (Ue ⟨o,0,Te⟩ 3))) (aK z)) n K):=by
 intro f;have E:Keep g1.size g1 f:=Keep.push _ _ (Uf _);have ae:f.size=g1.size+1:=Uh _;have U:Blk f g1.size [.int .i64 x.kind,.string x.text,aK G,aK D].toArray:=Blk.new _ _ _;clear_value f;have z1:=m.keep.size;have P:=S.hr;have N:=S.ro;have C:=S.ol;have af:=S.lg;have p:Later g M' f w:=m.trans (Later.same m.ag E);have u:=S.row.call p;have rd:Rd w .tree x [.int .i64 x.kind,.string x.text,aK G,aK D]:=by
  unfold RdV at Q;simp only[Wo,if_true]at Q;obtain⟨cs,e,P⟩:=Q;injection e with e;have:cs=[.int .i64 x.kind,.string x.text,aK G,aK D]:=by have:=congrArg VW e;simpa using this.symm
  rw[<-this];exact P
 refine ORow.app rH (by omega) p.ag u (by omega) U rd hn λV n bs' l aa ac F=>⟨V,rfl,?_⟩;have y:∀c∈bs,lo<=c/\c<g.size/\M' c=Te:=S.row.own;have q:∀j,j<lo->n[j]?=g[j]?:=λj H=>by rw[F j (by omega) (λT=>by have:=(y j T).1;omega),E.get j (by omega)];exact m.keep.get j (by omega)
 rw[zh];refine jo Rs Pu (S.out.keep (q o C)) (by show 3<4;omega) rfl λB u1 u3 O=>?_;have i:∀j,j<lo->j≠o->B[j]?=g[j]?:=λj H h0=>(O j h0).trans (q j H);have t:∀c∈bs',lo<=c/\c<n.size/\w c=Te:=l.own;have hg:=S.L.keep.size;refine hK B V bs' ⟨⟨⟨by omega,λj H=>?_⟩,S.L.le.trans m.le,λb Z=>?_,?_⟩,?_,u1,?_,?_,?_,P,N,C,by omega⟩ i;rw[i j (by omega) (by omega)];exact S.L.keep.get j H;rw[m.old b (by omega)];exact S.L.old b Z;intro c cs e;have A:=p.ag.lt e;have J:c∉bs:=λT=>by obtain⟨_,h1,Y⟩:=y c T;rw[m.old c h1,Y]at e;cases e
 have I:c≠o:=λh=>by subst h;rw[m.old c (by omega),S.nO]at e;cases e
 rw[O c I,F c A J];exact p.ag c cs e;exact S.res.keep (i r (by omega) (by omega));exact l.frame (λc A=>O c (by have:=(t c A).1;omega)) (Fr.le.refl _) λc A=>(t c A).2.2;rw[m.old o (by omega)];exact S.nO;rw[m.old r (by omega)];exact S.nR
theorem SrS.fin(S:SrS h M r o lo k s sk xs g M' so bs)(P:xs.length<=1000000)(J:Rd M' (.row .str) ks [aK sk]){w:Tr}(O:Tr.mk k s ks xs=w):
  ∃(E:Int) (B:Bt) (u t:Sl),ze g ⟨o,0,Te⟩ 0 [.int .i64 E,.string B,aK u,aK t]/\XRunU Tp (Uj 25 (.pointer (Td ⟨r,0,Te⟩)) (.agg #[.int .i64 E,.string B,aK u,aK t])) g λl=>
   ∃(y:Int) (F:Bt) (z C:Sl),ze l ⟨r,0,Te⟩ 0 [.int .i64 y,.string F,aK z,aK C]/\∃A q,Later h M l A/\Q5 A [.tree] q (.agg #[.int .i64 y,.string F,aK z,aK C])/\q=w:=by
 refine⟨k,s,sk,so,S.out.ld (cs:=[_,_,aK sk,aK so]),?_⟩;refine W0 S.res λg2 p V U=>⟨k,s,sk,so,U.ld (cs:=[_,_,aK sk,aK so]),?_⟩;have Y:=S.hr;have I:=S.ro;have G:=S.ol;have N:=S.lg;have i:∀c∈bs,lo<=c/\c<g.size/\M' c=Te:=S.row.own;have f:AgM M' g2:=λc cs e=>by rw[p c (λh=>by subst h;rw[S.nR]at e;cases e)];exact S.L.ag c cs e
 have m:ORow lo g2 M' .tree xs so bs:=S.row.frame (λc n=>p c (by have:=(i c n).1;omega)) (Fr.le.refl _) λc n=>(i c n).2.2;have D:Later h M g2 M':=⟨⟨by have:=S.L.keep.size;omega,λj T=>by rw[p j (by omega)];exact S.L.keep.get j T⟩,S.L.le,S.L.old,f⟩;refine⟨MxL M' g2 bs,_,⟨D.keep,D.le.trans (oI f bs),λb H=>?_,MxL.ag f bs⟩,Z2.2 (zr (v:=.mk k s ks xs) (J.mono (oI f bs)) (m.rd f (λc n=>n) P)),O⟩;unfold MxL;rw[zv (λQ=>by have:=(i b Q).1;omega)];exact S.L.old b H
end
set_option maxRecDepth 100000 in
set_option maxHeartbeats 2000000 in
theorem Ed:∀(n:Nat) (v:Tr),n<=1000000->bR v<=n->xp zm v=Ta->Sm v->∀(h:zc) (M:Fr) (u:Value),AgM M h->RdV M .tree v u->PX Tp 101 #[u] h M [.tree] (λq=>q=zo v)
 |0,v,_,hz,_,_=>by have:=Qg v;omega
 |n+1,v,hn,hz,hok,hsm=>by
  intro h M u ag hu;have aQ:=hu;obtain⟨sk,si,rfl,rk,ri⟩:=qj hu;have l:=hok;rw[x9,Uq]at l;have aL:v.items.length<=1000000:=by have:=Zg v.items;rw[wq]at hz;omega
  have ih:∀(i:Nat) (hi:i<v.items.length) (h:zc) (M:Fr) (u:Value),AgM M h->RdV M .tree v.items[i] u->PX Tp 101 #[u] h M [.tree] (λq=>q=zo v.items[i]):=λi hi=>by
   have hm:=Ur hi;have hs:=qn hm;have an:xp zm v.items[i]=Ta:=by rw[ju,UI]at l;exact l.2 _ hm
   exact Ed n v.items[i] (by omega) (by omega) an (hsm.item hm)
  obtain⟨li,_,_⟩:=rowLen ri;apply PX.of;apply Ks v.kind v.text sk si;intro h1;have k1:Keep h.size h h1:=Keep.push _ _ (Uf _);have z1:h1.size=h.size+1:=Uh _;have B1:Blk h1 h.size #[.int .i64 v.kind,.string v.text,aK sk,aK si]:=Blk.new _ _ _;clear_value h1;intro f;have k2:Keep h1.size h1 f:=Keep.push _ _ (Uf _);have z2:f.size=h1.size+1:=Uh _;have R2:Blk f h1.size #[.int .i64 0,.string ⟨#[]⟩,.slice Te 0 0,.slice Te 0 0]:=Blk.new _ _ _;clear_value f;have B2:=B1.ofKeep k2;refine⟨v.kind,B2.cellAdd (o:=0) (k:=0) rfl,v.text,B2.cellAdd (o:=0) (k:=1) rfl,?_⟩;intro h5;have k5:Keep f.size f h5:=Keep.push _ _ (Uf _);have z5:h5.size=f.size+1:=Uh _;have O5:Blk h5 f.size #[.int .i64 0,.string ⟨#[]⟩,.slice Te 0 0,.slice Te 0 0]:=Blk.new _ _ _;clear_value h5;refine W0 (sk:=⟨Te,0,0⟩) (si:=⟨Te,0,0⟩) O5 λh6 f6 z6 O6=>?_;have k6:Keep f.size f h6:=⟨by omega,λj H=>by rw[f6 j (by omega)];exact k5.get j H⟩;have N:Keep h.size h h6:=(k1.trans k2 (by omega)).trans k6 (by omega);have B6:=B2.ofKeep k6;have R6:=R2.ofKeep k6;have aF:=ag.keep N;refine⟨v.kind,B6.cellAdd (o:=0) (k:=0) rfl,λhx=>?_,λhx=>?_⟩;have h6:v.kind≠6:=by simpa using hx
  have hS:zo v=.mk v.kind v.text [] (v.items.map zo):=by rw[yW,zv h6]
  refine⟨si,B6.cellAdd (o:=0) (k:=3) rfl,λi g=>∃(m:Nat) (M':Fr) (so:Sl) (bs:List Nat),i=(m:Int)/\m<=v.items.length/\SrS h M h1.size f.size (f.size+1) v.kind v.text ⟨Te,0,0⟩ ((v.items.take m).map zo) g M' so bs,λi _=>v.items.length-i.toNat,⟨0,M,⟨Te,0,0⟩,[],rfl,UB _,⟨Later.same ag N,R6,O6,ORow.nil,ag.none (by omega),ag.none (by omega),by omega,by omega,by omega,by omega⟩⟩,?_⟩;rintro i g ⟨m,M',so,bs,rfl,hm,S⟩;have t:=S.L.ag;refine⟨λP=>?_,λP=>?_⟩;have b:m<v.items.length:=by have:=zH P;omega
  obtain⟨a,ck,ci,ea,aO,t1,t2⟩:=Yo t (ri.mono S.L.le) b;refine⟨a,⟨ea,by omega,by omega⟩,v.items[m].kind,v.items[m].text,ck,ci,by rw[Ui];exact aO,?_⟩;intro D;have aI:Keep g.size g D:=Keep.push _ _ (Uf _);have a6:D.size=g.size+1:=Uh _;have aG:Blk D g.size #[.int .i64 0,.string ⟨#[]⟩,.slice Te 0 0,.slice Te 0 0]:=Blk.new _ _ _;clear_value D;refine W0 aG λZ aH aY aM=>?_;have aB:Keep g.size g Z:=⟨by omega,λj H=>by rw[aH j (by omega)];exact aI.get j H⟩;have a8:=S.out.lt;refine⟨so,(S.out.ofKeep aB).cellAdd (o:=0) (k:=3) rfl,v.items[m].kind,v.items[m].text,ck,ci,aM.ld (cs:=[_,_,aK ck,aK ci]),?_⟩;have aA:Later g M' Z M':=Later.same t aB;refine(ih m b _ _ _ aA.ag (zr t1 t2)).go λw ay O q F y hq=>?_;subst hq;obtain⟨xk,xi,rfl,y1,y2⟩:=qj (Z2.1 y);have aZ:=F.keep.size;have ho:ay[f.size]?=Z[f.size]?:=F.keep.get _ (by omega);refine⟨_,_,xk,xi,rfl,by rw[zh];exact ho,?_⟩;intro be;refine⟨by rw[zh];exact((Keep.push ay _ (Uf _)).get f.size (by omega)).trans ho,S.add (by rw[Um,Ve];omega) (aA.trans F) (zr y1 y2) λg' so' bs' S' _=>⟨⟨m+1,O,so',bs',by rw[ja b (by omega)],b,?_⟩,?_⟩⟩;rw[Un b,U3];exact S';show v.items.length-(Ud .i64 ((m:Int)+1)).toNat<v.items.length-(m:Int).toNat;rw[ja b (by omega)];omega;have b:m=v.items.length:=by have:=zI P;omega
  subst b;rw[UE]at S;exact S.fin (by rw[Um];exact aL) kI hS.symm;have V:v.kind=6:=by simpa using hx
  have hS:zo v=.mk v.kind v.text (zj v.keys) ((zj v.keys).map λq=>jC (v.keys.zip (v.items.map zo)) q):=by rw[yW,zA V]
  have r:=l.1;have au:v.keys.Nodup:=by unfold zm j9 at r;simp[V]at r;exact r.1.1.2
  have ak:v.keys.length=v.items.length:=by unfold zm at r;simp[V]at r;exact r.1.2
  refine⟨v.kind,v.text,sk,si,B6.ld (cs:=[_,_,aK sk,aK si]),?_⟩;refine vr au ak (by omega) aF aQ λE m us al aV bw aU ax=>⟨Td m,rfl,?_⟩;have br:=al.size;apply ya;intro B;have ae:Keep E.size E B:=Keep.push _ _ (Uf _);have ba:B.size=E.size+1:=Uh _;have aD:Blk B E.size #[.map (Td m)]:=Blk.new _ _ _;clear_value B;have T:MapW B m (Qy (v.keys.zip us)):=ax.keep (ae.get m ax.lt);have af:(v.keys.zip us).map (·.1)=v.keys:=List.map_fst_zip (by omega);refine⟨_,rfl,IX aD T (by rw[af];exact au) (by simp;omega) λI sl J az=>⟨sl,rfl,?_⟩⟩;rw[af]at az;have bm:=J.size;have bn:(zj v.keys).length=v.keys.length:=Rq _;have A:Keep h6.size h6 I:=(al.trans ae (by omega)).trans J (by omega);have aj:Keep h.size h I:=N.trans A (by omega);obtain⟨O,F,G,U⟩:=Owns.frz (Later.same ag aj) az (by omega) (by omega);have aT:Blk I f.size #[.int .i64 v.kind,.string v.text,aK ⟨Te,0,0⟩,aK ⟨Te,0,0⟩]:=O6.keep (A.get _ (by omega));have aa:O f.size=Te:=by rw[G _ (by omega)];exact ag.none (by omega)
  have aS:O h1.size=Te:=by rw[G _ (by omega)];exact ag.none (by omega)
  rw[zh];refine jo ET Az aT (by show 2<4;omega) rfl λz ah bj C=>?_;have aC:Later h M z O:=⟨⟨by have:=F.keep.size;omega,λj H=>by rw[C j (by omega)];exact F.keep.get j H⟩,F.le,F.old,λc cs e=>by rw[C c (λh=>by subst h;rw[aa]at e;cases e)];exact F.ag c cs e⟩;have ai:MapW z m (Qy (v.keys.zip us)):=T.keep ((C m (by omega)).trans (J.get m T.lt));have am:=ai.lt;refine⟨sl,Blk.cell (o:=2) ah rfl,λi g=>∃(p:Nat) (M':Fr) (so:Sl) (bs:List Nat),i=(p:Int)/\p<=(zj v.keys).length/\SrS h M h1.size f.size z.size v.kind v.text sl (((zj v.keys).take p).map λq=>jC (v.keys.zip (v.items.map zo)) q) g M' so bs/\Fr.le O M'/\(∀j,j<z.size->j≠f.size->g[j]?=z[j]?),λi _=>(zj v.keys).length-i.toNat,⟨0,O,⟨Te,0,0⟩,[],rfl,UB _,⟨aC,R6.keep ((C _ (by omega)).trans (A.get _ (by omega))),ah,ORow.nil,aa,aS,by omega,by omega,by omega,Uf _⟩,Fr.le.refl _,λ_ _ _=>rfl⟩,?_⟩;obtain⟨bg,_,_⟩:=rowLen U;rintro i g ⟨p,M',so,bs,rfl,hp,S,Y,fg⟩;have t:=S.L.ag;refine⟨λP=>?_,λP=>?_⟩;have b:p<(zj v.keys).length:=by have:=zH P;omega
  obtain⟨a,aJ,x,aN,aE⟩:=kZ t (U.mono Y) b (i:=(p:Int)) rfl (L:=sl.len) rfl (Q:=λx=>x=(zj v.keys)[p]) rfl;subst aE;refine⟨a,aJ,(zj v.keys)[p],aN,so,S.out.cellAdd (o:=0) (k:=3) rfl,?_⟩;have aP:(zj v.keys)[p]∈v.keys:=(qe v.keys).mem_iff.1 (Ur b);obtain⟨j,j1,j2,e1,e2,e3⟩:=xI (zj v.keys)[p] v.keys (v.items.map zo) (by rw[Um];exact ak) aP;rw[Um]at j2;have ar:j<us.length:=by omega
  obtain⟨ck,ci,eu,t1,t2⟩:=qj (aU j j2 ar);have wg:MapW g m (Qy (v.keys.zip us)):=ai.keep (fg m am (by omega));refine⟨v.items[j].kind,v.items[j].text,ck,ci,?_,rfl,?_⟩;have:=Qb mapVal wg.at (zj v.keys)[p] Tc;have eg:iU (v.keys.zip us) (zj v.keys)[p] (.agg #[.int .i64 0,.string ⟨#[]⟩,.slice Te 0 0,.slice Te 0 0])=us[j]:=by unfold iU;rw[e3 us (by omega),Ul ar];rfl
  rw[zv (by simp),eg,eu]at this;exact this;refine(ih j j2 _ _ _ t (zr (t1.mono S.L.le) (t2.mono S.L.le))).go λw ac M3 q L3 y hq=>?_;subst hq;obtain⟨xk,xi,rfl,y1,y2⟩:=qj (Z2.1 y);have bu:=L3.keep.size;have a7:=S.lg;have ho:ac[f.size]?=g[f.size]?:=L3.keep.get _ (by omega);refine⟨_,_,xk,xi,rfl,by rw[zh];exact ho,?_⟩;intro bq;refine⟨by rw[zh];exact((Keep.push ac _ (Uf _)).get f.size (by omega)).trans ho,S.add (by rw[Um,Ve];omega) L3 (zr y1 y2) λg' so' bs' S' f'=>⟨⟨p+1,M3,so',bs',by rw[ja b (by omega)],b,?_,Y.trans L3.le,λj H h0=>(f' j H h0).trans (fg j H h0)⟩,?_⟩⟩;rw[Un b,U3,UJ,List.map_nil,e2,VM];exact S';show(zj v.keys).length-(Ud .i64 ((p:Int)+1)).toNat<(zj v.keys).length-(p:Int).toNat;rw[ja b (by omega)];omega;have b:p=(zj v.keys).length:=by have:=zI P;omega
  subst b;rw[UE]at S;exact S.fin (by rw[Um];omega) (U.mono Y) hS.symm
end
end Go.X
end
section
namespace Go.X
open Go Go.Lib
section
variable {xs ys:List Tr} {α:Type} {v:Tr}
theorem Hu(h:xs.Perm ys):jz xs=jz ys:=by
 induction h with
 |nil=>rfl
 |cons x _ c=>rw[jz,jz,c]
 |swap x y l=>simp only[jz];omega
 |trans _ _ a b=>rw[a,b]
theorem Pp(h:xs.Perm ys):fR xs=fR ys:=by
 induction h with
 |nil=>rfl
 |cons x _ c=>rw[fR,fR,c]
 |swap x y l=>simp only[fR];omega
 |trans _ _ a b=>rw[a,b]
theorem H0{xs ys:List Nat}(h:xs.Perm ys):xs.sum=ys.sum:=by
 induction h with
 |nil=>rfl
 |cons x _ c=>rw[List.sum_cons,List.sum_cons,c]
 |swap x y l=>simp only[List.sum_cons];omega
 |trans _ _ a b=>rw[a,b]
theorem vx{p:α->Bool}{xs ys:List α}(h:xs.Perm ys):xs.all p=ys.all p:=by rw[UR,UI,UI];exact⟨λa x b=>a x (h.mem_iff.2 b),λa x b=>a x (h.mem_iff.1 b)⟩
theorem y3:∀(ks:List Bt) (ys:List Tr),ks.Nodup->ks.length=ys.length->(ks.map λq=>(q,jC (ks.zip ys) q))=ks.zip ys
 |[],ys,_,_=>by simp
 |k::ks,[],_,h=>by simp at h
 |k::ks,y::ys,hn,h=>by rw[Vf]at hn;rw[UJ,VR];congr 1;rw[jC,zA rfl];rw[<-y3 ks ys hn.2 (by simpa using h)];refine VN λq b=>?_;have:k≠q:=λe=>hn.1 (e ▸ b);rw[jC,zv this];congr 2;exact y3 ks ys hn.2 (by simpa using h)
structure SrtF (v w:Tr):Prop where
 k:w.kind=v.kind
 t:w.text=v.text
 kp:w.keys.Perm v.keys
 ip:w.items.Perm (v.items.map zo)
 zp:(w.keys.zip w.items).Perm (v.keys.zip (v.items.map zo))
theorem QH(b:zm v=Ta)(j:v.kind≠6):v.keys=[]:=by unfold zm at b;simp only[j,if_false]at b;by_cases h1:v.kind=1;simp[h1]at b;exact b.1.2;by_cases c:v.kind=2;simp[c]at b;exact b.1.2;by_cases i:v.kind=3;simp[i]at b;exact b.1.2;by_cases e:v.kind=4;simp[e]at b;exact b.1.2;by_cases h:v.kind=5;simp[h]at b;exact b.2;by_cases f:v.kind=7;simp[f]at b;exact b.1.2;simp[h1,c,i,e,h,f]at b
theorem Sk(b:zm v=Ta)(c:v.kind=6):v.keys.Nodup/\v.keys.length=v.items.length:=by unfold zm j9 at b;simp[c]at b;exact⟨b.1.1.2,b.1.2⟩
theorem KQ(h:zm v=Ta):SrtF v (zo v):=by
 rw[yW];by_cases b:v.kind=6;rw[zA b];obtain⟨k,j⟩:=Sk h b;have hz:=y3 v.keys (v.items.map zo) k (by rw[Um];exact j);have c:=(qe v.keys).map λq=>(q,jC (v.keys.zip (v.items.map zo)) q);rw[hz]at c;have e:∀l:List Bt,l.zip (l.map λq=>jC (v.keys.zip (v.items.map zo)) q)=l.map λq=>(q,jC (v.keys.zip (v.items.map zo)) q):=by
  intro l;induction l with
  |nil=>rfl
  |cons x l i=>rw[UJ,VR,i,UJ]
 refine⟨rfl,rfl,qe _,?_,?_⟩;have:=c.map (·.2);rw[UZ,List.map_snd_zip (by rw[Um];omega)]at this;exact this;show((zj v.keys).zip _).Perm _;rw[e];exact c;rw[zv b];have f:=QH h b;exact⟨rfl,rfl,by rw[f],.refl _,by rw[f]⟩
theorem Jn{a:List α}:a.isEmpty=decide (a.length=0):=by cases a <;> simp
theorem On{a b:List Bt}(h:a.Perm b):j9 a=j9 b:=by unfold j9;rw[vx h];congr 1;rw[UR,zG,zG];exact h.nodup_iff
theorem ID{v w:Tr}(h1:w.kind=v.kind)(b:w.text=v.text)(e:w.keys.length=v.keys.length)(f:w.items.length=v.items.length)(c:j9 w.keys=j9 v.keys):zm w=zm v:=by unfold zm;rw[h1,b,c,Jn,Jn,Jn,Jn,e,f]
theorem Dr(ln:Bool)(nd lv:Nat)(ps:List Bs):(Zx ln nd lv ps).length+(if ps=[]then 0 else 1)=(ps.map λp=>p.length+(1+(Zb ln nd lv).length)).sum:=by
 cases ps with
 |nil=>rfl
 |cons p ps=>
  have:∀b:List Bs,(b.flatMap λq=>44::(Zb ln nd lv++q)).length=(b.map λp=>p.length+(1+(Zb ln nd lv).length)).sum:=by
   intro b;induction b with
   |nil=>rfl
   |cons q b c=>rw[Vq,Uk,c,UJ,List.sum_cons];simp;omega
  rw[Zx,Uk,Uk,this,UJ,List.sum_cons,zv (by simp)];omega
theorem CC{ln:Bool}{nd lv:Nat}{ps b:List Bs}(h:(ps.map Vi).Perm (b.map Vi)):(jA ln nd lv ps).length=(jA ln nd lv b).length:=by
 have e:(ps=[])↔(b=[]):=by have:=h.length_eq;rw[Um,Um]at this;rw[<-V6,<-V6,this]
 have h1:=Dr ln nd (lv+1) ps;have i:=Dr ln nd (lv+1) b;have f:=H0 (h.map λn=>n+(1+(Zb ln nd (lv+1)).length));rw[UZ,UZ]at f;have f:(ps.map λp=>p.length+(1+(Zb ln nd (lv+1)).length)).sum=(b.map λp=>p.length+(1+(Zb ln nd (lv+1)).length)).sum:=f;unfold jA;rw[Uk,Uk];by_cases c:ps=[];rw[zA c]at h1 ⊢;rw[zA (e.1 c)]at i ⊢;omega;rw[zv c]at h1 ⊢;rw[zv (λq=>c (e.2 q))]at i ⊢;omega
theorem BD{α β γ:Type}(f:α->β->γ):∀(a:List α) (b:List β),List.zipWith f a b=(a.zip b).map λp=>f p.1 p.2
 |[],_=>by simp
 |_::_,[]=>by simp
 |x::a,y::b=>by rw[List.zipWith_cons_cons,VR,UJ,BD f a b]
structure SrtG (v:Tr):Prop where
 sz:bR (zo v)=bR v
 dp:gK (zo v)=gK v
 okv:xp ir (zo v)=xp ir v
 nok:xp zm (zo v)=Ta
 tx:∀m,iI m v->iI m (zo v)
 len:∀(ln:Bool) (N lv:Nat),(Yu ln N (zo v) lv).length=(Yu ln N v lv).length
theorem Ec{f:Tr->Tr}:∀{l:List Tr},(∀x∈l,bR (f x)=bR x)->jz (l.map f)=jz l
 |[],_=>rfl
 |x::l,h=>by rw[UJ,jz,jz,h x UF,Ec λy b=>h y (UG _ b)]
theorem GQ{f:Tr->Tr}:∀{l:List Tr},(∀x∈l,gK (f x)=gK x)->fR (l.map f)=fR l
 |[],_=>rfl
 |x::l,h=>by rw[UJ,fR,fR,h x UF,GQ λy b=>h y (UG _ b)]
theorem uz:∀(n:Nat) (v:Tr),bR v<=n->xp zm v=Ta->SrtG v
 |0,v,h,_=>by have:=Qg v;omega
 |n+1,v,hz,hok=>by
  rw[x9,Uq,ju,UI]at hok;obtain⟨j,e⟩:=hok;have S:=KQ j;have c:∀x∈v.items,SrtG x:=λx b=>uz n x (by have:=qn b;omega) (e x b);have i:zm (zo v)=zm v:=ID S.k S.t S.kp.length_eq (by rw[S.ip.length_eq,Um]) (On S.kp);refine⟨?_,?_,?_,?_,λm h=>?_,λln N lv=>?_⟩;rw[wq,wq v,Hu S.ip,Ec λx b=>(c x b).sz];rw[Qf,Qf v,Pp S.ip,GQ λx b=>(c x b).dp];rw[x9,x9 _ v,ju,ju,vx S.ip,List.all_map];have r:ir (zo v)=ir v:=by unfold ir;rw[i,S.k]
  rw[r];congr 1;rw[UR,UI,UI];exact⟨λa x b=>by rw[<-(c x b).okv];exact a x b,λa x b=>by show xp ir (zo x)=Ta;rw[(c x b).okv];exact a x b⟩;rw[x9,i,j,Vz,ju,vx S.ip,List.all_map,UI];exact λx b=>(c x b).nok;rw[nH]at h ⊢;obtain⟨⟨h1,o,q⟩,u⟩:=h;refine⟨⟨by rw[S.t];exact h1,by rw[S.kp.length_eq];exact o,λk e=>q k (S.kp.mem_iff.1 e)⟩,Xs.2 λx b=>?_⟩;obtain⟨y,f,rfl⟩:=UD.1 (S.ip.mem_iff.1 b);exact(c y f).tx m (Xs.1 u y f);rw[mS,mS (v:=v),S.k,S.t];split;rfl;split;rfl;split;simp only[Uk,Uz];congr 2;refine CC ?_;rw[UZ,UZ];have h1:=S.ip.map λx=>(Yu ln N x (lv+1)).length;rw[UZ]at h1;refine h1.trans ?_;have:v.items.map ((λx=>(Yu ln N x (lv+1)).length) ∘ zo)=v.items.map (Vi ∘ λx=>Yu ln N x (lv+1)):=VN λx b=>(c x b).len ln N (lv+1);rw[this];split;simp only[Uk,Uz];congr 2;refine CC ?_;have conv:∀(ks:List Bt) (xs:List Tr),(List.zipWith (i5 ln) ks (xs.map λx=>Yu ln N x (lv+1))).map Vi=(ks.zip xs).map λp=>(i5 ln p.1 (Yu ln N p.2 (lv+1))).length:=by intro ks xs;rw[BD,List.zip_map_right,UZ,UZ];rfl
  rw[conv,conv];have h1:=S.zp.map λp=>(i5 ln p.1 (Yu ln N p.2 (lv+1))).length;refine h1.trans ?_;rw[List.zip_map_right,UZ];have:(v.keys.zip v.items).map ((λp=>(i5 ln p.1 (Yu ln N p.2 (lv+1))).length) ∘ Prod.map id zo)=(v.keys.zip v.items).map λp=>(i5 ln p.1 (Yu ln N p.2 (lv+1))).length:=VN λp l=>by have:=(c p.2 (List.of_mem_zip l).2).len ln N (lv+1);show(i5 ln p.1 (Yu ln N (zo p.2) (lv+1))).length=_;unfold i5;simp only[Uk,Uz,this]
  rw[this];rfl
theorem Ho(h:j3 v=Ta):zi (zo v)=zi v:=by unfold j3 at h;rw[Uq]at h;have S:=uz (bR v) v (Uf _) h.2;have e:∀w:Tr,zi w=(xq w&&xp ir w):=λw=>rfl;rw[e,e,S.okv];unfold xq;rw[S.sz,S.dp]
theorem Ev(h:zi v=Ta):j3 v=Ta:=by have e:zi v=(xq v&&xp ir v):=rfl;rw[e,Uq]at h;unfold j3;rw[h.1,Vz];exact xZ (λx b=>by unfold ir at b;rw[Uq]at b;exact b.2) v h.2
theorem Na(h:Sm v):Sm (Zc v):=by unfold Zc;by_cases b:j3 v=Ta;rw[zA b];unfold j3 at b;rw[Uq]at b;have S:=uz (bR v) v (Uf _) b.2;exact⟨by rw[S.sz];exact h.sz,S.tx _ h.tx⟩;rw[zv b];exact⟨by decide,by rw[nH];exact⟨⟨by decide,by decide,by decide⟩,trivial⟩⟩
theorem T7:zi (Zc v)=zi v:=by
 unfold Zc;by_cases b:j3 v=Ta;rw[zA b];exact Ho b;rw[zv b];cases hr:zi v with
 |true=>exact absurd (Ev hr) b
 |false=>rfl
end
end Go.X
end
section
namespace Go.X
open Go Go.X Go.Proofs Go.RowKit
set_option maxRecDepth 100000 in
section
theorem NO{gl:Fr}(U:GL gl){v:Tr}(P:Sm v){R:Tr->Prop}(o:R (Zc v)):PC Tp gl 56 [Arg.mk .tree v] [.tree] R:=by
 intro h M vs S ag ha
 match vs,ha with
 |[u],⟨D,_⟩=>
  have D:RdV M .tree v u:=D;have A:=D;obtain⟨sk,si,rfl,rk,ri⟩:=qj D;apply PX.of;apply Og v.kind v.text sk si;intro h1;have Q:Keep h.size h h1:=Keep.push _ _ (Uf _);have z1:h1.size=h.size+1:=Uh _;have B1:Blk h1 h.size #[.int .i64 v.kind,.string v.text,aK sk,aK si]:=Blk.new _ _ _;clear_value h1;intro n;have k2:Keep h1.size h1 n:=Keep.push _ _ (Uf _);have z2:n.size=h1.size+1:=Uh _;have V:Blk n h1.size #[.int .i64 0,.string ⟨#[]⟩,.slice Te 0 0,.slice Te 0 0]:=Blk.new _ _ _;clear_value n;have J:=B1.ofKeep k2;have G:Keep h.size h n:=Q.trans k2 (by omega);have O:Later h M n M:=Later.same ag G;refine⟨v.kind,v.text,sk,si,J.ld (cs:=[_,_,aK sk,aK si]),?_⟩;refine(p6 U P (R:=λr=>r=j3 v) rfl).go (vs:=[.agg #[.int .i64 v.kind,.string v.text,aK sk,aK si]]) S O.ag (zn A qg) λw h8 E r m p hr=>?_;subst hr;have z8:=m.keep.size;have N:=V.keep (m.keep.get h1.size (by omega));have B8:=J.keep (m.keep.get h.size (by omega));have I:E h1.size=Te:=by rw[m.old _ (by omega)];exact ag.none (by omega)
  have C:=O.trans m;have stay:∀{g g':zc} {M':Fr},Later h M g M'->M' h1.size=Te->(∀j,j≠h1.size->g'[j]?=g[j]?)->g'.size=g.size->Later h M g' M':=λ {g g' M'} L hn f z=>⟨⟨by have:=L.keep.size;omega,λj hj=>by rw[f j (by omega)];exact L.keep.get j hj⟩,L.le,L.old,λc cs e=>by rw[f c (λh=>by subst h;rw[hn]at e;cases e)];exact L.ag c cs e⟩;refine⟨_,Ju p,λb=>?_,λb=>?_⟩;have b:j3 v=Tc:=by simpa using b
  unfold Zc at o;rw[zv (by rw[b];simp)]at o;refine W0 (k:=0) (s:=⟨#[]⟩) (sk:=⟨Te,0,0⟩) (si:=⟨Te,0,0⟩) N λg f z B=>⟨_,_,_,_,B.ld (cs:=[.int .i64 0,.string ⟨#[]⟩,aK ⟨Te,0,0⟩,aK ⟨Te,0,0⟩]),?_⟩;exact⟨E,_,stay C I f z,Z2.2 (zr (v:=.mk 0 (bl []) [] []) kI kI),o⟩;have b:j3 v=Ta:=by simpa using b
  unfold Zc at o;rw[zA b]at o;unfold j3 xq at b;simp only[Uq,zG]at b;refine⟨v.kind,v.text,sk,si,B8.ld (cs:=[_,_,aK sk,aK si]),?_⟩;refine(Ed (bR v) v (by omega) (Uf _) b.2 P h8 E _ m.ag (RdV.mono m.le A)).go λw Z t q i l Y=>?_;subst Y;obtain⟨H,F,rfl,T,y2⟩:=qj (Z2.1 l);have aa:=i.keep.size;refine⟨_,_,H,F,rfl,?_⟩;refine W0 (N.keep (i.keep.get h1.size (by omega))) λg f z B=>⟨_,_,H,F,B.ld (cs:=[_,_,aK H,aK F]),?_⟩;have y:t h1.size=Te:=by rw[i.old _ (by omega)];exact I
  exact⟨t,_,stay (C.trans i) y f z,Z2.2 (zr T y2),o⟩
end
end Go.X
end
section
namespace Go.X
open Go Go.Lib
section
variable {l:List Tr} {m:Nat}
def mZ(k:Bt):Bt:=bl (107::(iz (lb k)).1)
def mF(v:Tr):Bt:=if v.kind=5 then bl [91]else if v.kind=6 then bl [123]else bl (Yu Tc 0 v 0)
mutual
def hX:Tr->Nat->List (Bt×Int)
 |.mk k s ks xs,n=>(if k=6 then Xv xs ks n else if k=5 then ic xs n else [])++[(mF (.mk k s ks xs),(n:Int))]
def ic:List Tr->Nat->List (Bt×Int)
 |[],_=>[]
 |x::l,n=>hX x n++ic l (n+(hX x n).length)
def Xv:List Tr->List Bt->Nat->List (Bt×Int)
 |[],_,_=>[]
 |x::l,ks,n=>hX x n++((mZ ks.head!,(n:Int))::Xv l ks.tail (n+(hX x n).length+1))
end
theorem SX(v:Tr)(n:Nat):hX v n=(if v.kind=6 then Xv v.items v.keys n else if v.kind=5 then ic v.items n else [])++[(mF v,(n:Int))]:=by cases v;rw[hX]
mutual
def nD:Tr->Nat
 |.mk k _ _ xs=>(if k=6 then lZ 1 xs else if k=5 then lZ 0 xs else 0)+1
def lZ(d:Nat):List Tr->Nat
 |[]=>0
 |x::l=>nD x+d+lZ d l
end
mutual
theorem qE:∀(v:Tr) (n:Nat),(hX v n).length=nD v
 |.mk k s ks xs,n=>by rw[hX,nD,Uk,Vs];congr 1;split;exact Gc xs ks n;split;exact GF xs n;rfl
theorem GF:∀(l:List Tr) (n:Nat),(ic l n).length=lZ 0 l
 |[],_=>by rw[ic,lZ];rfl
 |x::l,n=>by rw[ic,lZ,Uk,qE x n,GF l];omega
theorem Gc:∀(l:List Tr) (ks:List Bt) (n:Nat),(Xv l ks n).length=lZ 1 l
 |[],_,_=>by rw[Xv,lZ];rfl
 |x::l,ks,n=>by rw[Xv,lZ,Uk,Uz,qE x n,Gc l];omega
end
theorem Fh:∀(l:List Tr) (m:List Tr) (n:Nat),ic (l++m) n=ic l n++ic m (n+(ic l n).length)
 |[],m,n=>by rw[ic];rfl
 |x::l,m,n=>by rw[U8,ic,ic,Fh l m,UK,Uk];congr 3;omega
theorem PE(h:m<l.length)(n:Nat):ic (l.take (m+1)) n=ic (l.take m) n++hX l[m] (n+(ic (l.take m) n).length):=by rw[Un h,Fh,ic,ic,Vg]
theorem Cr:∀(l:List Tr) (m:List Tr) (ks:List Bt) (n:Nat),Xv (l++m) ks n=Xv l ks n++Xv m (ks.drop l.length) (n+(Xv l ks n).length)
 |[],m,ks,n=>by rw[Xv];rfl
 |x::l,m,ks,n=>by rw[U8,Xv,Xv,Cr l m,UK,U8,Uk,Uz,Uz,<-List.drop_tail];congr 4;omega
theorem Ot{ks:List Bt}(h:m<l.length)(b:m<ks.length)(n:Nat):
  Xv (l.take (m+1)) ks n=Xv (l.take m) ks n++(hX l[m] (n+(Xv (l.take m) ks n).length)++[(mZ ks[m],((n+(Xv (l.take m) ks n).length:Nat):Int))]):=by
 rw[Un h,Cr,Xv,Xv,Ve,XO (by omega)];congr 4;rw[U6 b];rfl
def ib(X:List (Bt×Int)):List (Bt×Int):=X.take 513
theorem tW(X:List (Bt×Int)):(ib X).length<=513:=by unfold ib;rw[Ve];omega
theorem oG{X:List (Bt×Int)}(h:X.length<=513):ib X=X:=Vv h
theorem tM(X:List (Bt×Int))(f:Nat->List (Bt×Int)):ib (ib X++f (ib X).length)=ib (X++f X.length):=by
 by_cases h:X.length<=513;rw[oG h];have b:(ib X).length=513:=by unfold ib;rw[Ve];omega
 unfold ib at b ⊢;rw[V4 (Nat.le_of_eq b.symm),V4 (by omega:513<=X.length),List.take_take];rfl
theorem Ef{X:List (Bt×Int)}(h:X.length<=513)(p:Bt×Int):(if X.length<=512 then X++[p]else X)=ib (X++[p]):=by
 split;rename_i b;rw[oG (by simp;omega)];rename_i b;have:X.length=513:=by omega
 unfold ib;rw[V4 (by omega),Vv h]
end
end Go.X
end
section
namespace Go.X
open Go Go.X Go.Proofs Go.RowKit
section
variable {h h' h'':zc} {M M' M'':Fr} {bs bs' b1 b2:List Nat} {b lo bv:Nat} {K:Value -> zc -> Prop}
theorem Later.own{h g:zc}(L:Later h M g M')(e:∀c∈bs,h.size<=c):Later h M g (MxL M' g bs):=by
 refine⟨L.keep,L.le.trans (oI L.ag bs),λc f=>?_,MxL.ag L.ag bs⟩;have i:c∉bs:=λb=>by have:=e c b;omega
 rw[<-L.old c f];unfold MxL;rw[zv i]
structure Grw (h:zc) (M:Fr) (b:Nat) (bs:List Nat) (h':zc) (M':Fr) (bs':List Nat):Prop where
 grow:h.size<=h'.size
 le:Fr.le M M'
 old:∀c,c<h.size->M' c=M c
 ag:AgM M' h'
 fr:∀j,j<h.size->j≠b->j∉bs->h'[j]?=h[j]?
 nw:∀c∈bs',c∈bs\/h.size<=c
theorem Grw.refl(ag:AgM M h):Grw h M b bs h M bs:=⟨Uf _,Fr.le.refl _,λ_ _=>rfl,ag,λ_ _ _ _=>rfl,λ_ c=>.inl c⟩
theorem Grw.trans{bs bs' e:List Nat}(A:Grw h M b bs h' M' bs')(B:Grw h' M' b bs' h'' M'' e):Grw h M b bs h'' M'' e:=by have m:=A.grow;refine⟨Vj A.grow B.grow,A.le.trans B.le,λc f=>(B.old c (by omega)).trans (A.old c f),B.ag,λj l h0 i=>(B.fr j (by omega) h0 λk=>?_).trans (A.fr j l h0 i),λc f=>?_⟩;rcases A.nw j k with h|h;exact i h;omega;rcases B.nw c f with h|h;exact A.nw c h;exact .inr (by omega)
theorem Grw.ofCall(L:Later h M h' M')(A:Grw h' M' b bs h'' M'' bs')(l:∀c∈bs,c<h.size):Grw h M b bs h'' M'' bs':=by have f:=L.keep.size;refine⟨Vj f A.grow,L.le.trans A.le,λc e=>(A.old c (by omega)).trans (L.old c e),A.ag,λj k h0 i=>(A.fr j (by omega) h0 i).trans (L.keep.get j k),λc e=>?_⟩;rcases A.nw c e with h|h;exact .inl h;exact .inr (by omega)
structure TbS (lo:Nat) (h:zc) (M:Fr) (b:Nat) (S:List (Bt×Int)) (sl sf:Sl) (b1 b2:List Nat):Prop where
 box:Blk h b #[aK sl,aK sf]
 r1:ORow lo h M .str (S.map (·.1)) sl b1
 r2:ORow lo h M (.int .i64) (S.map (·.2)) sf b2
 dj:∀c∈b1,c∉b2
 n1:b∉b1
 n2:b∉b2
 nM:M b=Te
 lb:lo<=b
def Tb(lo:Nat)(h:zc)(M:Fr)(b:Nat)(S:List (Bt×Int))(bs:List Nat):Prop:=∃sl sf b1 b2,bs=b1++b2/\TbS lo h M b S sl sf b1 b2
theorem TbS.call{S:List (Bt×Int)}{sl sf:Sl}(B:TbS lo h M b S sl sf b1 b2)(L:Later h M h' M'):TbS lo h' M' b S sl sf b1 b2:= ⟨B.box.keep (L.keep.get b B.box.lt),B.r1.call L,B.r2.call L,B.dj,B.n1,B.n2,(L.old b B.box.lt).trans B.nM,B.lb⟩
theorem Tb.call{S:List (Bt×Int)}(B:Tb lo h M b S bs)(L:Later h M h' M'):Tb lo h' M' b S bs:=by obtain⟨sl,sf,b1,b2,e,B⟩:=B;exact⟨sl,sf,b1,b2,e,B.call L⟩
theorem Tb.lt{S:List (Bt×Int)}(B:Tb lo h M b S bs):∀c∈bs,c<h.size:=by obtain⟨sl,sf,b1,b2,rfl,B⟩:=B;intro c e;rcases Uo.1 e with h|h;exact(B.r1.own c h).2.1;exact(B.r2.own c h).2.1
theorem Tb.ltb{S:List (Bt×Int)}(B:Tb lo h M b S bs):b<h.size:=by obtain⟨sl,sf,b1,b2,rfl,B⟩:=B;exact B.box.lt
structure AdM (lo:Nat) (h:zc) (M:Fr) (b:Nat) (sl sf:Sl) (b0:List Nat) (g:zc) (X:List Bt) (s1:Sl) (c1:List Nat) (Y:List Int) (s2:Sl) (c2:List Nat):Prop where
 box:Blk g b #[aK sl,aK sf]
 r1:ORow lo g M .str X s1 c1
 r2:ORow lo g M (.int .i64) Y s2 c2
 dj:∀c∈c1,c∉c2
 n1:b∉c1
 n2:b∉c2
 gr:h.size<=g.size
 bh:b<h.size
 fr:∀j,j<h.size->j≠b->j∉b0->g[j]?=h[j]?
 w1:∀c∈c1,c∈b0\/h.size<=c
 w2:∀c∈c2,c∈b0\/h.size<=c
 ag:AgM M g
 nM:M b=Te
 lb:lo<=b
section
variable {lo : Nat} {h g : zc} {M : Fr} {b : Nat} {sl sf : Sl} {b0 : List Nat} {X : List Bt} {s1 : Sl} {c1 : List Nat} {Y : List Int} {s2 : Sl} {c2 : List Nat}
theorem AdM.start{S:List (Bt×Int)}(B:TbS lo h M b S sl sf b1 b2)(ag:AgM M h):AdM lo h M b sl sf (b1++b2) h (S.map (·.1)) sl b1 (S.map (·.2)) sf b2:= ⟨B.box,B.r1,B.r2,B.dj,B.n1,B.n2,Uf _,B.box.lt,λ_ _ _ _=>rfl,λc e=>.inl (Uv _ e),λc e=>.inl (UH _ e),ag,B.nM,B.lb⟩
theorem AdM.push(D:AdM lo h M b sl sf b0 g X s1 c1 Y s2 c2)(o:Obj):AdM lo h M b sl sf b0 (g.push o) X s1 c1 Y s2 c2:=by have k:Keep g.size g (g.push o):=Keep.push _ _ (Uf _);have l:=D.gr;have hz:(g.push o).size=g.size+1:=Uh _;refine⟨D.box.ofKeep k,D.r1.frame (λc e=>k.get c (D.r1.own c e).2.1) (Fr.le.refl _) λc e=>(D.r1.own c e).2.2,D.r2.frame (λc e=>k.get c (D.r2.own c e).2.1) (Fr.le.refl _) λc e=>(D.r2.own c e).2.2,D.dj,D.n1,D.n2,by omega,D.bh,λj i h0 f=>(k.get j (by omega)).trans (D.fr j i h0 f),D.w1,D.w2,D.ag.keep k,D.nM,D.lb⟩
theorem AdM.lab(D:AdM lo h M b sl sf b0 g X s1 c1 Y s2 c2)(p:lo<=h.size)(m:X.length<=1000000){x:Bt}(q:Blk g bv #[.string x]) (t:∀(l:Sl) (g':zc) (n:List Nat),AdM lo h M b sl sf b0 g' (X++[x]) l n Y s2 c2->g.size<=g'.size->(∀j,j<g.size->j∉c1->g'[j]?=g[j]?)->K (aK l) g'):
  qt Tp (Us #[22,22] 22 #[aK s1,.slice (Td ⟨bv,0,Te⟩) 1 1]) g K:=by
 have u:=D.gr;refine ORow.app JI (by omega) D.ag D.r1 (by omega) (vs:=[.string x]) q rfl m λl g' n r z w f=>t l g' n ⟨D.box.keep (f b D.box.lt D.n1),r,D.r2.frame (λc k=>f c (D.r2.own c k).2.1 λi=>D.dj c i k) (Fr.le.refl _) λc k=>(D.r2.own c k).2.2,λc k i=>?_,λi=>?_,D.n2,by omega,D.bh,λj o h0 m=>(f j (by omega) λi=>?_).trans (D.fr j o h0 m),λc k=>?_,D.w2,λc cs e=>?_,D.nM,D.lb⟩ z f;rcases w c k with h|h;exact D.dj c h i;have:=(D.r2.own c i).2.1;omega;rcases w b i with h|h;exact D.n1 h;have:=D.bh;omega;rcases D.w1 j i with h|h;exact m h;omega;rcases w c k with h|h;exact D.w1 c h;exact .inr (by omega);have k:=D.ag.lt e;rw[f c k λi=>by have:=(D.r1.own c i).2.2;rw[this]at e;cases e];exact D.ag c cs e
theorem AdM.lef(D:AdM lo h M b sl sf b0 g X s1 c1 Y s2 c2)(p:lo<=h.size)(m:Y.length<=1000000){x:Int}(q:Blk g bv #[.int .i64 x]) (t:∀(l:Sl) (g':zc) (n:List Nat),AdM lo h M b sl sf b0 g' X s1 c1 (Y++[x]) l n->g.size<=g'.size->(∀j,j<g.size->j∉c2->g'[j]?=g[j]?)->K (aK l) g'):
  qt Tp (Us #[29,29] 29 #[aK s2,.slice (Td ⟨bv,0,Te⟩) 1 1]) g K:=by
 have u:=D.gr;refine ORow.app nn (by omega) D.ag D.r2 (by omega) (vs:=[.int .i64 x]) q rfl m λl g' n r z w f=>t l g' n ⟨D.box.keep (f b D.box.lt D.n2),D.r1.frame (λc i=>f c (D.r1.own c i).2.1 λk=>D.dj c i k) (Fr.le.refl _) λc i=>(D.r1.own c i).2.2,r,λc i k=>?_,D.n1,λk=>?_,by omega,D.bh,λj o h0 m=>(f j (by omega) λk=>?_).trans (D.fr j o h0 m),D.w1,λc i=>?_,λc cs e=>?_,D.nM,D.lb⟩ z f;rcases w c k with h|h;exact D.dj c i h;have:=(D.r1.own c i).2.1;omega;rcases w b k with h|h;exact D.n2 h;have:=D.bh;omega;rcases D.w2 j k with h|h;exact m h;omega;rcases w c i with h|h;exact D.w2 c h;exact .inr (by omega);have i:=D.ag.lt e;rw[f c i λk=>by have:=(D.r2.own c k).2.2;rw[this]at e;cases e];exact D.ag c cs e
theorem Kn:qo Tp 29=Ta:=by kernel_rfl
theorem Ik:je Tp 29=1:=by kernel_rfl
theorem AdM.fin(D:AdM lo h M b sl sf b0 g X s1 c1 Y s2 c2){S:List (Bt×Int)}(m:X=S.map (·.1))(t:Y=S.map (·.2)){K:zc->Prop}(q:∀g' bs',Grw h M b b0 g' M bs'->Tb lo g' M b S bs'->K g'):
  XRunU Tp (Uj 22 (.pointer (Td (Ue (Ue ⟨b,0,Te⟩ 0) 0))) (aK s1)) g λg1=>XRunU Tp (Uj 29 (.pointer (Td (Ue (Ue ⟨b,0,Te⟩ 0) 1))) (aK s2)) g1 K:=by
 subst m;subst t;have u:=D.gr;rw[add0,add0,zh];refine jo ET Az D.box (by show 0<2;omega) rfl λg1 l y p=>?_;refine jo Kn Ik l (by show 1<2;omega) rfl λg2 r w o=>?_;have f:∀j,j≠b->g2[j]?=g[j]?:=λj k=>(o j k).trans (p j k);refine q g2 (c1++c2) ⟨by omega,Fr.le.refl _,λ_ _=>rfl,λc cs e=>?_,λj k h0 n=>(f j h0).trans (D.fr j k h0 n),λc i=>?_⟩ ⟨s1,s2,c1,c2,rfl,r,D.r1.frame (λc i=>f c λe=>D.n1 (e ▸ i)) (Fr.le.refl _) λc i=>(D.r1.own c i).2.2,D.r2.frame (λc i=>f c λe=>D.n2 (e ▸ i)) (Fr.le.refl _) λc i=>(D.r2.own c i).2.2,D.dj,D.n1,D.n2,D.nM,D.lb⟩;rw[f c λh=>by subst h;rw[D.nM]at e;cases e];exact D.ag c cs e;rcases Uo.1 i with h|h;exact D.w1 c h;exact D.w2 c h
end
end
section
variable {v:Tr} {k:Bt}
set_option maxRecDepth 100000 in
theorem A3{lo:Nat}{h:zc}{M:Fr}{b:Nat}{S u:List (Bt×Int)}{bs:List Nat}{lab:Bt}{F:FuncId}{A C:Array Value}(hF:zk Tp F=Ta)(H:Tb lo h M b S bs)(au:lo<=h.size)(Y:u.length<=513) (hk:XC Tp F (A++#[]++C) h λv h1=>v=.tuple #[]/\∃m E,Grw h M b bs h1 m E/\Tb lo h1 m b u E) {K:Value->zc->Prop} (hK:∀h' M' bs',Grw h M b bs h' M' bs'->Tb lo h' M' b (ib (u++[(lab,(S.length:Int))])) bs'->K (.tuple #[]) h'):
  XC Tp 94 #[.pointer (Td ⟨b,0,Te⟩),.string lab,.func (.func F) A C] h K:=by
 obtain⟨sl,sf,b1,b2,rfl,B⟩:=H;have l0:=B.r1.len;rw[Um]at l0;apply Rx (Td ⟨b,0,Te⟩) lab F A C;refine⟨⟨b,0,Te⟩,rfl,sl,by rw[add0];exact B.box.cellAdd (o:=0) (k:=0) rfl,hF,XC.mono hk ?_⟩;rintro v h4 ⟨rfl,m,E,T,f,i,d1,d2,rfl,p⟩;have l1:=p.r1.len;have l2:=p.r2.len;rw[Um]at l1 l2;have ax:=T.grow;refine⟨rfl,⟨b,0,Te⟩,rfl,f,by rw[add0];exact p.box.cellAdd (o:=0) (k:=0) rfl,λI=>?_,λI=>?_⟩
 ·have I:u.length<=512:=by have:=zH I;omega
  have D:=AdM.start p T.ag;have aa:=p.box.lt;have fin:∀{g:zc} {s1:Sl} {c1:List Nat} {s2:Sl} {c2:List Nat},AdM lo h4 m b f i (d1++d2) g (u.map (·.1)++[lab]) s1 c1 (u.map (·.2)++[(sl.len:Int)]) s2 c2->∃w:Addr,Td (⟨b,0,Te⟩:Addr)=Td w /\
    XRunU Tp (Uj 22 (.pointer (Td (Ue (Ue w 0) 0))) (aK s1)) g (λg1=>∃y:Addr,Td (⟨b,0,Te⟩:Addr)=Td y/\XRunU Tp (Uj 29 (.pointer (Td (Ue (Ue y 0) 1))) (aK s2)) g1 (λg2=>K (.tuple #[]) g2)):=by
   intro g s1 c1 s2 c2 z;refine⟨_,rfl,?_⟩;have:=z.fin (S:=u++[(lab,(sl.len:Int))]) (by simp) (by simp) (K:=λg2=>K (.tuple #[]) g2) λg' bs' T' B'=>hK g' m bs' (T.trans T') (by rw[<-Ef Y,zA I,<-l0];exact B');exact XRunU.mono this λg1 h1=>⟨_,rfl,h1⟩
  refine⟨⟨b,0,Te⟩,rfl,f,by rw[add0];exact p.box.cellAdd (o:=0) (k:=0) rfl,⟨b,0,Te⟩,rfl,i,by rw[add0];exact p.box.cellAdd (o:=0) (k:=1) rfl,?_,?_⟩;intro c;have ah:Keep h4.size h4 c:=Keep.push _ _ (Uf _);have az:c.size=h4.size+1:=Uh _;have Z:Blk c h4.size #[.string lab]:=Blk.new _ _ _;have r:AdM lo h4 m b f i (d1++d2) c _ _ _ _ _ _:=D.push _;clear_value c;have n:c[b]?=h4[b]?:=ah.get b aa;refine⟨n,n,?_,?_⟩;refine r.lab (by omega) (by rw[Um];omega) Z λU g' c' z z' t=>⟨U,rfl,?_,?_⟩;exact(t b (by omega) r.n1).trans n;intro q;have ac:Keep g'.size g' q:=Keep.push _ _ (Uf _);have al:Blk q g'.size #[.int .i64 (sl.len:Int)]:=Blk.new _ _ _;have am:AdM lo h4 m b f i (d1++d2) q _ _ _ _ _ _:=z.push _;clear_value q;refine⟨(ac.get b z.box.lt).trans ((t b (by omega) r.n1).trans n),?_⟩;exact am.lef (by omega) (by rw[Um];omega) al λs2 g2 c2 O _ _=>⟨s2,rfl,fin O⟩;intro j;have P:Keep c.size c j:=Keep.push _ _ (Uf _);have ai:Blk j c.size #[.int .i64 (sl.len:Int)]:=Blk.new _ _ _;have Q:AdM lo h4 m b f i (d1++d2) j _ _ _ _ _ _:=r.push _;have ar:j.size=c.size+1:=Uh _;clear_value j;have L:j[b]?=h4[b]?:=(P.get b (by omega)).trans n;refine⟨L,L,?_⟩;refine Q.lab (by omega) (by rw[Um];omega) (Z.ofKeep P) λU g' c' z z' t=>⟨U,rfl,(t b (by omega) Q.n1).trans L,?_⟩;have hn:c.size∉d1:=λhm=>by have:=(p.r1.own _ hm).2.1;omega
  exact z.lef (by omega) (by rw[Um];omega) (ai.keep (t _ (by omega) hn)) λs2 g2 c2 O _ _=>⟨s2,rfl,fin O⟩;intro e;have aj:Keep h4.size h4 e:=Keep.push _ _ (Uf _);have an:e.size=h4.size+1:=Uh _;have ak:Blk e h4.size #[.int .i64 (sl.len:Int)]:=Blk.new _ _ _;have af:AdM lo h4 m b f i (d1++d2) e _ _ _ _ _ _:=D.push _;clear_value e;have G:e[b]?=h4[b]?:=aj.get b aa;refine⟨G,G,?_⟩;intro l;have V:Keep e.size e l:=Keep.push _ _ (Uf _);have ay:l.size=e.size+1:=Uh _;have ae:Blk l e.size #[.string lab]:=Blk.new _ _ _;have N:AdM lo h4 m b f i (d1++d2) l _ _ _ _ _ _:=af.push _;clear_value l;have J:l[b]?=h4[b]?:=(V.get b (by omega)).trans G;refine⟨J,J,?_⟩;refine N.lab (by omega) (by rw[Um];omega) ae λU g' c' z z' t=>⟨U,rfl,(t b (by omega) N.n1).trans J,?_⟩;have hn:h4.size∉d1:=λhm=>by have:=(p.r1.own _ hm).2.1;omega
  exact z.lef (by omega) (by rw[Um];omega) ((ak.ofKeep V).keep (t _ (by omega) hn)) λs2 g2 c2 O _ _=>⟨s2,rfl,fin O⟩
 have I:¬u.length<=512:=by have:=zI I;omega
 refine hK h4 m _ T ?_;rw[<-Ef Y,zv I];exact⟨f,i,d1,d2,rfl,p⟩
theorem GD{gl:Fr}(c:GL gl)(b:Brn gl)(e:Sm v){R:Bt->Prop}(f:R (W5 v).1):PC Tp gl 97 [Arg.mk .tree v] [.str] R:=by apply N6;simp only[Zu];exact F0 c b e f
theorem AH(h:ir v=Ta)(j:v.kind≠5)(i:v.kind≠6):v.items=[]/\zi v=Ta:=by
 have hi:v.items=[]:=by unfold ir zm at h;simp only[j,i,if_false]at h;by_cases h1:v.kind=1;simp[h1]at h;exact h.2;by_cases b:v.kind=2;simp[b]at h;exact h.2;by_cases f:v.kind=3;simp[f]at h;exact h.2;by_cases c:v.kind=4;simp[c]at h;exact h.2;by_cases e:v.kind=7;simp[e]at h;simp[h1,b,f,c,e]at h
 refine⟨hi,?_⟩;unfold zi xq;rw[wq,Qf,x9,hi];simp only[Uq,zG];refine⟨⟨by rw[jz];omega,by rw[fR];omega⟩,?_,by rfl⟩;unfold ir at h;simpa using h
theorem H9(h:Qd (lb k)=Ta):ir (.mk 4 k [] [])=Ta:=by unfold ir zm;simpa[Tr.kind,Tr.text,Tr.keys,Tr.items]using h
theorem GN(h:Qd (lb k)=Ta):zi (.mk 4 k [] [])=Ta:= (AH (H9 h) (show¬(4:Int)=5 by decide) (show¬(4:Int)=6 by decide)).2
theorem P0(h:ir v=Ta)(b:v.kind≠5)(c:v.kind≠6):(W5 v).1=mF v:=by unfold W5 mF;rw[zA (AH h b c).2,zv b,zv c]
theorem Ih(h:Qd (lb k)=Ta):(⟨#[107]⟩:Bt)++(W5 (.mk 4 k [] [])).1=mZ k:=by unfold W5 mZ;rw[zA (GN h),mS];show bl [107]++bl (iz (lb k)).1=_;rw[jr];rfl
end
section
theorem AI{g:zc}{M:Fr}(ag:AgM M g){k:Int}{s:Bt}{sk si:Sl}{K:zc->Prop}(h:∀g',Later g M g' M->g'.size=g.size+1->Blk g' g.size #[.int .i64 k,.string s,aK sk,aK si]->K g'):
  XRunU Tp (Uj 25 (.pointer (Td ⟨g.size,0,Te⟩)) (.agg #[.int .i64 k,.string s,aK sk,aK si])) (VS g (.cells #[.int .i64 0,.string ⟨#[]⟩,.slice Te 0 0,.slice Te 0 0] 25)) K:=by
 have b:Keep g.size g (VS g (.cells #[.int .i64 0,.string ⟨#[]⟩,.slice Te 0 0,.slice Te 0 0] 25)):=Keep.push _ _ (Uf _);have i:(VS g (.cells #[.int .i64 0,.string ⟨#[]⟩,.slice Te 0 0,.slice Te 0 0] 25)).size=g.size+1:=Uh _;have c:Blk (VS g (.cells #[.int .i64 0,.string ⟨#[]⟩,.slice Te 0 0,.slice Te 0 0] 25)) g.size #[.int .i64 0,.string ⟨#[]⟩,.slice Te 0 0,.slice Te 0 0]:=Blk.new _ _ _;refine W0 c λg' f z B=>h g' (Later.same ag ⟨by omega,λj e=>by rw[f j (by omega)];exact b.get j e⟩) (by omega) B
set_option maxRecDepth 100000 in
set_option maxHeartbeats 2000000 in
theorem Gg{gl:Fr}(hg:GL gl)(hb:Brn gl){lo:Nat}:∀(n:Nat) (v:Tr),n<=1000000->bR v<=n->xp ir v=Ta->Sm v->∀(h:zc) (M:Fr) (b:Nat) (S:List (Bt×Int)) (bs:List Nat) (u:Value),AgM M h->Fr.le gl M->Tb lo h M b S bs->lo<=h.size->S.length<=513->RdV M .tree v u ->
  XC Tp 55 #[.pointer (Td ⟨b,0,Te⟩),u] h λr h'=>r=.tuple #[]/\∃M' bs',Grw h M b bs h' M' bs'/\Tb lo h' M' b (ib (S++hX v S.length)) bs'
 |0,v,_,hz,_,_=>by have:=Qg v;omega
 |n+1,v,hn,hz,hok,hsm=>by
  intro h M b S bs u ag hM HB aN hS hu;obtain⟨sk,si,rfl,rk,ri⟩:=qj hu;have E:=hok;rw[x9,Uq]at E;have aT:v.items.length<=1000000:=by have:=Zg v.items;rw[wq]at hz;omega
  have ih:∀(i:Nat) (hi:i<v.items.length) (h:zc) (M:Fr) (S:List (Bt×Int)) (bs:List Nat) (u:Value),AgM M h->Fr.le gl M->Tb lo h M b S bs->lo<=h.size->S.length<=513->RdV M .tree v.items[i] u ->
    XC Tp 55 #[.pointer (Td ⟨b,0,Te⟩),u] h λr h'=>r=.tuple #[]/\∃M' bs',Grw h M b bs h' M' bs'/\Tb lo h' M' b (ib (S++hX v.items[i] S.length)) bs':=λi hi h M S bs u=>by
   have hm:=Ur hi;have hs:=qn hm;have ay:xp ir v.items[i]=Ta:=by rw[ju,UI]at E;exact E.2 _ hm
   exact Gg hg hb n v.items[i] (by omega) (by omega) ay (hsm.item hm) h M b S bs u
  obtain⟨li,_,_⟩:=rowLen ri;obtain⟨lk,_,_⟩:=rowLen rk;have aS:=HB.ltb;have af:=HB.lt;apply Wy (Td ⟨b,0,Te⟩) v.kind v.text sk si;intro h1;have k1:Keep h.size h h1:=Keep.push _ _ (Uf _);have z1:h1.size=h.size+1:=Uh _;have P1:Blk h1 h.size #[.pointer (Td ⟨b,0,Te⟩)]:=Blk.new _ _ _;clear_value h1;intro h2;have k2:Keep h1.size h1 h2:=Keep.push _ _ (Uf _);have z2:h2.size=h1.size+1:=Uh _;have T2:Blk h2 h1.size #[.int .i64 v.kind,.string v.text,aK sk,aK si]:=Blk.new _ _ _;clear_value h2;have P2:=P1.ofKeep k2;have aG:Keep h.size h h2:=k1.trans k2 (by omega);have L2:Later h M h2 M:=Later.same ag aG;have ah:=HB.call L2;have row:hX v S.length=(if v.kind=6 then Xv v.items v.keys S.length else if v.kind=5 then ic v.items S.length else [])++[(mF v,(S.length:Int))]:=SX v _;have fin:∀(A:List (Bt×Int)) (lab:Bt) (F:FuncId) (C:Array Value),hX v S.length=A++[(lab,(S.length:Int))]->zk Tp F=Ta -> (∀(h':zc) (M':Fr),Later h2 M h' M'->XC Tp F (#[]++#[]++C) h' λw h1=>w=.tuple #[]/\∃J p,Grw h' M' b bs h1 J p/\Tb lo h1 J b (ib (S++A)) p) ->
    ∀(h':zc) (M':Fr),Later h2 M h' M'->XC Tp 94 #[.pointer (Td ⟨b,0,Te⟩),.string lab,.func (.func F) #[] C] h' λr h3=>r=.tuple #[]/\Value.tuple #[]=Value.tuple #[]/\∃M' bs',Grw h M b bs h3 M' bs'/\Tb lo h3 M' b (ib (S++hX v S.length)) bs':=by
   intro A lab F C ax hF hk h' M' L';have aP:=L'.keep.size;refine A3 hF (ah.call L') (by omega) (tW (S++A)) (hk h' M' L') λh3 M3 aj T3 B3=>⟨rfl,rfl,M3,aj,Grw.ofCall (L2.trans L') T3 af,?_⟩;have:=tM (S++A) λ_=>[(lab,(S.length:Int))];rw[this,UK,<-ax]at B3;exact B3
  refine⟨v.kind,T2.cellAdd (o:=0) (k:=0) rfl,λh5=>?_,λh5=>⟨λh6=>?_,λh6=>?_⟩⟩;have h5:v.kind=5:=by simpa using h5
  refine⟨Td ⟨b,0,Te⟩,P2.cell (o:=0) rfl,?_⟩;refine fin (ic v.items S.length) ⟨#[91]⟩ _ _ (by rw[row,zv (by omega),zA h5];unfold mF;rw[zA h5]) (by kernel_rfl) (λh' M' L'=>?_) h2 M (Later.refl L2.ag);show XC _ _ #[.pointer (Td ⟨h1.size,0,Te⟩),.pointer (Td ⟨h.size,0,Te⟩)] _ _;have z':=L'.keep.size;have T':Blk h' h1.size #[.int .i64 v.kind,.string v.text,aK sk,aK si]:=T2.keep (L'.keep.get _ (by omega));have P':Blk h' h.size #[.pointer (Td ⟨b,0,Te⟩)]:=P2.keep (L'.keep.get _ (by omega));have al:=ah.call L';apply Jk ⟨h1.size,0,Te⟩ ⟨h.size,0,Te⟩;refine⟨si,T'.cellAdd (o:=0) (k:=3) rfl,λi g=>∃(m:Nat) (J:Fr) (p:List Nat),i=(m:Int)/\m<=v.items.length/\Grw h' M' b bs g J p/\Tb lo g J b (ib (S++ic (v.items.take m) S.length)) p,λi _=>v.items.length-i.toNat,⟨0,M',bs,rfl,UB _,Grw.refl L'.ag,by rw[List.take_zero,ic,Vg,oG hS];exact al⟩,?_⟩;rintro i g ⟨m,J,p,rfl,hm,T,B⟩;have gz:=T.grow;refine⟨λhc=>?_,λhc=>?_⟩;have z:m<v.items.length:=by have:=zH hc;omega
  obtain⟨a,ck,ci,ea,ai,t1,t2⟩:=Yo T.ag (ri.mono (L'.le.trans T.le)) z;refine⟨a,⟨ea,by omega,by omega⟩,v.items[m].kind,v.items[m].text,ck,ci,by rw[Ui];exact ai,?_⟩;intro aH;refine AI T.ag λG I aL ak=>?_;have Pg:Blk G h.size #[.pointer (Td ⟨b,0,Te⟩)]:=P'.keep ((I.keep.get h.size (by omega)).trans (T.fr h.size (by omega) (by omega) λhm=>by have:=af _ hm;omega));refine⟨Td ⟨b,0,Te⟩,Pg.cell (o:=0) rfl,v.items[m].kind,v.items[m].text,ck,ci,ak.ld (cs:=[_,_,aK ck,aK ci]),?_⟩;refine XC.mono (ih m z G J _ p _ I.ag (hM.trans (L'.le.trans T.le)) (B.call I) (by omega) (tW _) (zr t1 t2)) ?_;rintro r h19 ⟨rfl,M2,az,aC,am⟩;refine⟨rfl,⟨m+1,M2,az,by rw[ja z (by omega)],z,T.trans (Grw.ofCall I aC λc hc=>B.lt c hc),?_⟩,?_⟩;have:=tM (S++ic (v.items.take m) S.length) λk=>hX v.items[m] k;rw[this,UK,Uk,<-PE z]at am;exact am;show v.items.length-(Ud .i64 ((m:Int)+1)).toNat<v.items.length-(m:Int).toNat;rw[ja z (by omega)];omega;have z:m=v.items.length:=by have:=zI hc;omega
  subst z;rw[UE]at B;exact⟨rfl,J,p,T,B⟩
  ·have h6:v.kind=6:=by simpa using h6
   have aQ:v.keys.length=v.items.length:=by have:=E.1;unfold ir zm at this;simp[h6]at this;exact this.1.2
   have aF:∀k∈v.keys,Qd (lb k)=Ta:=by have:=E.1;unfold ir zm j9 at this;simp[h6]at this;exact this.1.1.1
   refine⟨Td ⟨b,0,Te⟩,P2.cell (o:=0) rfl,?_⟩;refine fin (Xv v.items v.keys S.length) ⟨#[123]⟩ _ _ (by rw[row,zA h6];unfold mF;rw[zv (by omega),zA h6]) (by kernel_rfl) (λh' M' L'=>?_) h2 M (Later.refl L2.ag);show XC _ _ #[.pointer (Td ⟨h1.size,0,Te⟩),.pointer (Td ⟨h.size,0,Te⟩)] _ _;have z':=L'.keep.size;have T':Blk h' h1.size #[.int .i64 v.kind,.string v.text,aK sk,aK si]:=T2.keep (L'.keep.get _ (by omega));have P':Blk h' h.size #[.pointer (Td ⟨b,0,Te⟩)]:=P2.keep (L'.keep.get _ (by omega));have al:=ah.call L';apply Jl ⟨h1.size,0,Te⟩ ⟨h.size,0,Te⟩;refine⟨si,T'.cellAdd (o:=0) (k:=3) rfl,λi g=>∃(m:Nat) (J:Fr) (p:List Nat),i=(m:Int)/\m<=v.items.length/\Grw h' M' b bs g J p/\Tb lo g J b (ib (S++Xv (v.items.take m) v.keys S.length)) p,λi _=>v.items.length-i.toNat,⟨0,M',bs,rfl,UB _,Grw.refl L'.ag,by rw[List.take_zero,Xv,Vg,oG hS];exact al⟩,?_⟩;rintro i g ⟨m,J,p,rfl,hm,T,B⟩;have gz:=T.grow;refine⟨λhc=>?_,λhc=>?_⟩
   ·have z:m<v.items.length:=by have:=zH hc;omega
    have aa:m<v.keys.length:=by omega
    have Z:=L'.le.trans T.le;obtain⟨a,ck,ci,ea,ai,t1,t2⟩:=Yo T.ag (ri.mono Z) z;refine⟨a,⟨ea,by omega,by omega⟩,v.items[m].kind,v.items[m].text,ck,ci,by rw[Ui];exact ai,?_⟩;intro aH;refine AI T.ag λG I aL ak=>?_;have Pg:Blk G h.size #[.pointer (Td ⟨b,0,Te⟩)]:=P'.keep ((I.keep.get h.size (by omega)).trans (T.fr h.size (by omega) (by omega) λhm=>by have:=af _ hm;omega));have Tg:Blk G h1.size #[.int .i64 v.kind,.string v.text,aK sk,aK si]:=T'.keep ((I.keep.get h1.size (by omega)).trans (T.fr h1.size (by omega) (by omega) λhm=>by have:=af _ hm;omega));obtain⟨a2,aI,x,aB,aE⟩:=kZ I.ag (rk.mono Z) aa (i:=(m:Int)) rfl (L:=sk.len) rfl (Q:=λx=>x=v.keys[m]) rfl;subst aE;refine⟨Td ⟨b,0,Te⟩,Pg.cell (o:=0) rfl,sk,Tg.cellAdd (o:=0) (k:=2) rfl,a2,aI,v.keys[m],aB,?_⟩;have au:=aF _ (Ur aa);have aA:Sm (.mk 4 v.keys[m] [] []):=⟨by rw[wq];simp[jz],by rw[iI];refine⟨⟨?_,UB _,λk hk=>by cases hk⟩,trivial⟩;have:=hsm.key (Ur aa);rw[mr]at this;exact this⟩;have BB:=B.call I;have Y:∀(f:zc) (j:Fr) (kt:Bt),Later G J f j->kt=(W5 (.mk 4 v.keys[m] [] [])).1->XC Tp 94 #[.pointer (Td ⟨b,0,Te⟩),.string ((⟨#[107]⟩:Bt)++kt),.func (.func 99) #[] #[.pointer (Td ⟨h.size,0,Te⟩),.pointer (Td ⟨g.size,0,Te⟩)]] f λw an=>w=.tuple #[] /\
      (∃(q:Nat) (J:Fr) (p:List Nat),Ud .i64 ((m:Int)+1)=(q:Int)/\q<=v.items.length/\Grw h' M' b bs an J p/\Tb lo an J b (ib (S++Xv (v.items.take q) v.keys S.length)) p)/\v.items.length-(Ud .i64 ((m:Int)+1)).toNat<v.items.length-(m:Int).toNat:=by
     rintro f j kt l rfl;rw[Ih au];have aO:=l.keep.size;have V:=I.trans l;refine A3 (by kernel_rfl) (B.call V) (by omega) (tW (ib (S++Xv (v.items.take m) v.keys S.length)++hX v.items[m] (ib (S++Xv (v.items.take m) v.keys S.length)).length)) ?_ λh3 M3 aj T3 B3=>⟨rfl,⟨m+1,M3,aj,by rw[ja z (by omega)],z,T.trans (Grw.ofCall V T3 λc hc=>B.lt c hc),?_⟩,?_⟩;show XC _ _ #[.pointer (Td ⟨h.size,0,Te⟩),.pointer (Td ⟨g.size,0,Te⟩)] _ _;apply Q3 ⟨h.size,0,Te⟩ ⟨g.size,0,Te⟩;refine⟨Td ⟨b,0,Te⟩,(Pg.keep (l.keep.get _ (by omega))).cell (o:=0) rfl,v.items[m].kind,v.items[m].text,ck,ci,(ak.keep (l.keep.get _ (by omega))).ld (cs:=[_,_,aK ck,aK ci]),?_⟩;exact XC.mono (ih m z f j _ p _ l.ag (hM.trans (Z.trans l.le)) (B.call V) (by omega) (tW _) (zr (t1.mono l.le) (t2.mono l.le))) λr h' N=>⟨N.1,rfl,N.2⟩;have e1:=tM (S++Xv (v.items.take m) v.keys S.length) λk=>hX v.items[m] k++[(mZ v.keys[m],(k:Int))];have e2:=tM (ib (S++Xv (v.items.take m) v.keys S.length)++hX v.items[m] (ib (S++Xv (v.items.take m) v.keys S.length)).length) λ_=>[(mZ v.keys[m],((ib (S++Xv (v.items.take m) v.keys S.length)).length:Int))];rw[e2,UK,e1,UK,Uk,<-Ot z aa]at B3;exact B3;rw[ja z (by omega)];omega
    have ae:∀(t:zc) (y:Fr) (U P:Sl),Later G J t y->RdV y .tree (.mk 4 v.keys[m] [] []) (.agg #[.int .i64 4,.string v.keys[m],aK U,aK P])->∀{K:Value->zc->Prop},(∀f j,Later G J f j->Later t y f j->K (.string (W5 (.mk 4 v.keys[m] [] [])).1) f) ->
      XC Tp 97 #[.agg #[.int .i64 4,.string v.keys[m],aK U,aK P]] t K:=λt y U P D N K hK=>by
     refine(GD hg hb aA (R:=λr=>r=(W5 (.mk 4 v.keys[m] [] [])).1) rfl).go (vs:=[.agg #[.int .i64 4,.string v.keys[m],aK U,aK P]]) (hM.trans (Z.trans D.le)) D.ag (zn N qg) λw f j r l O N=>?_;subst N;rw[kL O];exact hK f j (D.trans l) l
    have off:∀{K:Value->zc->Prop},(∀t y U P,Later G J t y->RdV y .tree (.mk 4 v.keys[m] [] []) (.agg #[.int .i64 4,.string v.keys[m],aK U,aK P])->K (.agg #[.int .i64 4,.string v.keys[m],aK U,aK P]) t)->XC Tp 98 #[.string v.keys[m]] G K:=λ {K} hK=>by refine(show PC Tp gl 98 [Arg.mk .str v.keys[m]] [.tree] (λr=>r=.mk 4 v.keys[m] [] [])from by apply Ew;rfl).go (hM.trans Z) I.ag (zn (a:=Arg.mk .str _) (rdStr _) qg) λw t y r D O N=>?_;subst N;have N:=Z2.1 O;obtain⟨U,P,e,_,_⟩:=qj N;subst e;exact hK t y U P D N
    have ac:jh ((⟨#[107]⟩:Bt).size+(W5 (.mk 4 v.keys[m] [] [])).1.size):=by have h1:=hsm.key (Ur aa);unfold W5;rw[zA (GN au),mS];show jh ((bl [107]).size+(bl (iz (lb v.keys[m])).1).size);have:=o8 (lb v.keys[m]);exact mY (by simp only[Vs];omega)
    have aM:b<G.size:=by have:=B.ltb;omega
    have H:∀(f:zc) (j:Fr),Later G J f j->f[h.size]?=G[h.size]?:=λf j L=>L.keep.get _ (by omega);refine⟨off λt y U P D N=>⟨_,_,U,P,rfl,H t y D,?_,H t y D,?_⟩,rfl,rfl,rfl,off λt y U P D N=>⟨_,_,U,P,rfl,H t y D,?_⟩⟩;exact ae t y U P D N λf j l _=>⟨_,rfl,ac,H f j l,H f j l,Y f j _ l rfl⟩;exact ae t y U P D N λf j l _=>⟨_,rfl,ac,H f j l,Y f j _ l rfl⟩;exact ae t y U P D N λf j l _=>⟨_,rfl,ac,H f j l,Y f j _ l rfl⟩
   have z:m=v.items.length:=by have:=zI hc;omega
   subst z;rw[UE]at B;exact⟨rfl,J,p,T,B⟩
  have h5:v.kind≠5:=by simpa using h5
  have h6:v.kind≠6:=by simpa using h6
  refine⟨Td ⟨b,0,Te⟩,P2.cell (o:=0) rfl,v.kind,v.text,sk,si,T2.ld (cs:=[_,_,aK sk,aK si]),?_⟩;refine(GD hg hb hsm (R:=λr=>r=(W5 v).1) rfl).go (vs:=[.agg #[.int .i64 v.kind,.string v.text,aK sk,aK si]]) hM L2.ag (zn hu qg) λw aD aJ r ar O N=>?_;subst N;rw[kL O,P0 E.1 h5 h6];refine⟨_,rfl,ar.keep.get h.size (by omega),?_⟩;refine fin [] (mF v) _ _ (by rw[row,zv h6,zv h5]) (by kernel_rfl) (λh' M' L'=>?_) aD aJ ar;show XC _ _ #[] _ _;apply Jm;exact⟨rfl,M',bs,Grw.refl L'.ag,by rw[Vg,oG hS];exact ah.call L'⟩
end
end Go.X
end
section
namespace Go.X
open Go Go.Lib
section
variable {n i:Nat}
def cK(L:List Int)(i:Nat):Int:=L.getD i 0
def kP(L:List Int)(j:Nat):Bool:=decide (0<=cK L j)&&decide (cK L j<=j)&&(UO j).all λi=>!(decide (cK L j<=(i:Int))&&decide (cK L i<cK L j))
def kn(L:List Int)(j:Nat):Bool:=(UO j).all (kP L)
def zx(t:List Bt×List Int):Bool:=decide (t.1.length=t.2.length)&&decide (t.1.length<=512)&&kn t.2 t.2.length
def iH(L:List Int)(n i:Nat):Int:=match (UO n).find? λj=>decide (i<j)&&decide (cK L j<=(i:Int))with
 |some j=>(j:Int)
 |none=>-1
def oP(L:List Int):List Int:=(UO L.length).map (iH L L.length)
def Jx(L:List Int)(j:Nat):List Nat:=(UO j).filter λi=>decide (iH L j i<0)
theorem Jo{L:List Int}{j:Nat}:kP L j=Ta↔0<=cK L j/\cK L j<=j/\∀i,i<j->cK L j<=(i:Int)->cK L j<=cK L i:=by unfold kP;simp only[Uq,zG,UI,UT,WX,Bool.and_eq_false_iff,decide_eq_false_iff_not];constructor;rintro⟨⟨h1,c⟩,e⟩;exact⟨h1,c,λi hi b=>by rcases e i hi with h|h <;> omega⟩;rintro⟨h1,c,e⟩;refine⟨⟨h1,c⟩,λi hi=>?_⟩;by_cases b:cK L j<=(i:Int);exact .inr (by have:=e i hi b;omega);exact .inl b
theorem Xw{L:List Int}{j:Nat}:kn L j=Ta↔∀i,i<j->kP L i=Ta:=by unfold kn;simp only[UI,UT]
theorem QA{L:List Int}{j:Nat}(h:kn L j=Ta)(c:kP L j=Ta):kn L (j+1)=Ta:=by rw[Xw]at h ⊢;intro i hi;rcases Va i j with b|b;exact h i b;rw[show i=j from by omega];exact c
theorem MF{p:Nat->Bool}:∀{n j:Nat},(UO n).find? p=Td j->j<n/\p j=Ta/\∀i,i<j->p i=Tc:=by
 intro n;induction n with
 |zero=>intro j h;simp at h
 |succ n c=>
  intro j h;rw[List.range_succ,List.find?_append]at h;cases e:(UO n).find? p with
  |some k=>rw[e]at h;simp at h;subst h;obtain⟨h1,f,l⟩:=c e;exact⟨by omega,f,l⟩
  |none=>rw[e]at h;rw[List.find?_eq_none]at e;simp[List.find?]at h;split at h;rename_i b;simp at h;subst h;exact⟨by omega,b,λi hi=>by simpa using e i (UT.2 hi)⟩;simp at h
theorem Z4(L:List Int)(n i:Nat):(iH L n i=-1/\∀j,i<j->j<n->(i:Int)<cK L j)\/∃p:Nat,iH L n i=(p:Int)/\i<p/\p<n/\cK L p<=(i:Int)/\∀j,i<j->j<p->(i:Int)<cK L j:=by
 unfold iH;cases e:(UO n).find? λj=>decide (i<j)&&decide (cK L j<=(i:Int))with
 |none=>refine .inl ⟨rfl,λj h1 c=>?_⟩;rw[List.find?_eq_none]at e;have:=e j (UT.2 c);simp[h1]at this;omega
 |some p=>obtain⟨h1,c,f⟩:=MF e;simp only[Uq,zG]at c;refine .inr ⟨p,rfl,c.1,h1,c.2,λj a b=>?_⟩;have:=f j b;simp[a]at this;omega
theorem BM{L:List Int}{n i p:Nat}(h1:i<p)(f:p<n)(l:cK L p<=(i:Int))(k:∀j,i<j->j<p->(i:Int)<cK L j):iH L n i=(p:Int):=by rcases Z4 L n i with⟨_,e⟩|⟨q,e,a,b,c,d⟩;have:=e p h1 f;omega;rw[e];rcases Nat.lt_trichotomy p q with h|h|h;have:=d p h1 h;omega;rw[h];have:=k q a h;omega
theorem F6{L:List Int}(h:∀j,i<j->j<n->(i:Int)<cK L j):iH L n i=-1:=by rcases Z4 L n i with⟨e,_⟩|⟨q,e,a,b,c,d⟩;exact e;have:=h q a b;omega
theorem EQ(L:List Int)(n i:Nat)(hi:i<n):iH L (n+1) i=if iH L n i<0/\cK L n<=(i:Int)then(n:Int)else iH L n i:=by
 rcases Z4 L n i with⟨e,h⟩|⟨p,e,a,b,c,d⟩;by_cases f:cK L n<=(i:Int);rw[zA ⟨by omega,f⟩];exact BM hi (by omega) f λj h1 k=>h j h1 k
 rw[zv (λq=>f q.2),e];refine F6 λj h1 k=>?_;rcases Va j n with l|l;exact h j h1 l;rw[show j=n from by omega];omega;rw[zv (λq=>by omega),e];exact BM a (by omega) c d
theorem Gk(L:List Int)(n:Nat):iH L (n+1) n=-1:=F6 λj h1 b=>by omega
theorem Gj{L:List Int}{j:Nat}(h:kn L j=Ta):∀(k i:Nat),j-i<=k->i<j->∃r,r<j/\iH L j r=-1/\i<=r/\cK L r<=cK L i
 |0,i,hk,hi=>by omega
 |k+1,i,hk,hi=>by rcases Z4 L j i with⟨e,_⟩|⟨p,e,a,b,c,_⟩;exact⟨i,hi,e,Uf _,Int.le_refl _⟩;obtain⟨r,f,l,m,n⟩:=Gj h k p (by omega) b;rw[Xw]at h;have:=(Jo.1 (h p b)).2.2 i a c;exact⟨r,f,l,by omega,by omega⟩
theorem Ab{L:List Int}{j i:Nat}:i∈Jx L j↔i<j/\iH L j i=-1:=by unfold Jx;rw[U0,UT,zG];constructor;rintro⟨a,b⟩;rcases Z4 L j i with⟨e,_⟩|⟨p,e,_⟩;exact⟨a,e⟩;omega;rintro⟨a,b⟩;exact⟨a,by omega⟩
theorem K1{L:List Int}{j:Nat}(h:kn L j=Ta)(h0:0<=cK L j)(h1:cK L j<=j)(c:∀r∈Jx L j,cK L j<=(r:Int)->cK L j<=cK L r):kP L j=Ta:=by refine Jo.2 ⟨h0,h1,λi hi l=>?_⟩;obtain⟨r,e,b,k,f⟩:=Gj h (j-i) i (Uf _) hi;have:=c r (Ab.2 ⟨e,b⟩) (by omega);omega
theorem Nz(L:List Int)(j:Nat):Jx L (j+1)=(Jx L j).filter (λi:Nat=>decide ((i:Int)<cK L j))++[j]:=by unfold Jx;rw[List.range_succ,List.filter_append,List.filter_filter];congr 1;refine List.filter_congr λi hi=>?_;rw[UT]at hi;rw[EQ L j i hi,UR,Uq,zG,zG,zG];by_cases b:iH L j i<0;by_cases c:cK L j<=(i:Int);rw[zA ⟨b,c⟩];omega;rw[zv (λq=>c q.2)];omega;rw[zv (λq=>b q.1)];omega;rw[WP,zA (by rw[Gk];decide)];rfl
theorem Ts(L:List Int)(j:Nat):(Jx L j).Pairwise (· < ·):=by unfold Jx;exact List.Pairwise.sublist List.filter_sublist List.pairwise_lt_range
theorem BL:∀{l:List Nat},l.Pairwise (· < ·)->∀{x:Int} {m:Nat},m<=l.length->(∀i (h:i<l.length),i<m->(l[i]:Int)<x)->(∀i (h:i<l.length),m<=i->x<=(l[i]:Int))->l.filter (λi:Nat=>decide ((i:Int)<x))=l.take m
 |[],_,x,m,_,_,_=>by simp
 |a::l,hp,x,m,hm,h1,h2=>by
  cases m with
  |zero=>rw[List.take_zero,List.filter_eq_nil_iff];intro b c;obtain⟨i,hi,rfl⟩:=XE.1 c;have:=h2 i hi (UB _);simp;exact this
  |succ m=>rw[WP,zA (by have:=h1 0 (by simp) (by omega);simpa using this),WO];congr 1;exact BL (VB.1 hp).2 (by simpa using hm) (λi h hi=>by have:=h1 (i+1) (by simpa using h) (by omega);simpa using this) (λi h hi=>by have:=h2 (i+1) (by simpa using h) (by omega);simpa using this)
theorem RX{L:List Int}(h:i<L.length):(oP L)[i]?=Td (iH L L.length i):=by unfold oP;rw[Vk,List.getElem?_range h];rfl
theorem IS(L:List Int):(oP L).length=L.length:=by unfold oP;rw[Um,List.length_range]
end
end Go.X
end
section
namespace Go.X
open Go Go.X Go.Proofs Go.RowKit
section
variable {M:Fr} {a b:Ty} {h g:zc} {n bo bt i:Nat} {ts:Sl} {ct:Array Value}
theorem pG{x:El (.row a)×El (.row b)}{u:Value}(h:RdV M (.pair (.row a) (.row b)) x u):∃s1 s2:Sl,u=.agg #[aK s1,aK s2]/\Rd M (.row a) x.1 [aK s1]/\Rd M (.row b) x.2 [aK s2]:=by unfold RdV at h;simp only[Wo,if_true]at h;obtain⟨cs,rfl,c1,c2,rfl,h1,c⟩:=h;obtain⟨f,rfl,g1⟩:=h1;obtain⟨e,rfl,g2⟩:=c;obtain⟨s1,rfl,j⟩:=i0 (M:=M) (t:=a) (xs:=x.1) ((Jd rfl).2 ⟨f,rfl,g1⟩);obtain⟨s2,rfl,i⟩:=i0 (M:=M) (t:=b) (xs:=x.2) ((Jd rfl).2 ⟨e,rfl,g2⟩);grind
theorem W6{x:El (.row a)×El (.row b)}{s1 s2:Sl}(h1:Rd M (.row a) x.1 [aK s1])(c:Rd M (.row b) x.2 [aK s2]):RdV M (.pair (.row a) (.row b)) x (.agg #[aK s1,aK s2]):=by unfold RdV;simp only[Wo,if_true];exact⟨[_,_],rfl,[_],[_],rfl,h1,c⟩
theorem Hx(z:Value)(n:Nat):madeCells #[z] n=(Vx n z).toArray:=by apply Array.ext;simp[madeCells];intro i h1 b;simp[madeCells,Nat.mod_one]
theorem rJ{t e:TypeId}{z:Value}{bytes:Nat}(E:ElemT Tp t e z 1 bytes)(hz:z.cells=#[z])(f:bytes<=1000)(m:n<=1000000){K:Value->zc->Prop}(l:K (aK ⟨Td ⟨h.size,0,Te⟩,n,n⟩) (h.push (.cells (Vx n z).toArray e))):
  qt Tp (UW t (.int .i64 (n:Int)) (.int .i64 (n:Int))) h K:=by
 intro B d;obtain⟨i,hi,b,k,j⟩:=E.info;have o:(bytes:Int)*(n:Int)<=1000*1000000:=Int.mul_le_mul (by omega) (by omega) (by omega) (by omega);have c:=run_make (P:=Tp) (mk B d h) t e i z E.slice hi b .i64 .i64 (n:Int) (n:Int) (by omega) (Int.le_refl _) (by rw[j];omega) (by omega);rw[Ui,k,U4,hz,Hx]at c;exact⟨_,_,_,c,l⟩
theorem CR.pop{els:List (List Value)}{sl:Sl}{b:Nat}{cs:Array Value}(H:CR g 1 els sl b cs){q:Nat}(f:q<=els.length):CR g 1 (els.take q) ⟨sl.a,q,sl.cap⟩ b cs:=by have h:=H.ln;have c:=H.ro.le;refine⟨⟨by grind,?_⟩,by simp_all,λi e hi=>?_⟩;rcases H.ro.at_ with⟨h1,j⟩|h1;grind;grind;rw[UU]at hi;split at hi;exact H.el i e hi;cases hi
structure ParI (h:zc) (n bo:Nat) (T:List Nat) (outs:List Int) (ts:Sl) (bt:Nat) (ct:Array Value) (g:zc):Prop where
 k:Keep bo h g
 out:Blk g bo (outs.map (Vo .i64)).toArray
 ln:outs.length=n
 top:CR g 1 (T.map λi:Nat=>[Vo .i64 (i:Int)]) ts bt ct
 hb:bo<bt
theorem ParI.len{T:List Nat}{outs:List Int}(S:ParI h n bo T outs ts bt ct g):ts.len=T.length:=by rw[S.top.ln,Um]
theorem ParI.cell{T:List Nat}{outs:List Int}(S:ParI h n bo T outs ts bt ct g)(hi:i<T.length):ts.a=Td ⟨bt,0,Te⟩/\zd g ⟨bt,0+i,Te⟩=Td (.int .i64 ((T[i]:Nat):Int)):=by
 have b:(T.map λi:Nat=>[Vo .i64 (i:Int)])≠[]:=λe=>by simp_all
 obtain⟨c,B⟩:=S.top.blk b;obtain⟨_,f⟩:=S.top.el i [.int .i64 ((T[i]:Nat):Int)] (by simp_all);refine⟨c,B.cell ?_⟩;have:=uj f (q:=0) (by omega);simp_all
theorem ParI.set{T:List Nat}{outs:List Int}(S:ParI h n bo T outs ts bt ct g)(hi:i<n){x:Int}{K:zc->Prop}(m:∀g',ParI h n bo T (outs.set i x) ts bt ct g'->g'.size=g.size->K g'):
  XRunU Tp (Uj 3 (.pointer (Td ((⟨bo,0,Te⟩:Addr).add (i*1)))) (.int .i64 x)) g K:=by
 have c:=S.ln;have e:=S.hb;rw[zh,Uy,U4];refine jo CU (by kernel_rfl) S.out (by simp;omega) rfl λg' o f b=>m g' ⟨⟨by have:=S.k.size;omega,λj l=>(b j (by omega)).trans (S.k.get j l)⟩,?_,by simp_all,S.top.frame λ_=>b bt (by omega),e⟩ f;simp_all
theorem Pa{s:Sl}{q:Nat}{i:Int}(h1:i=(q:Int)):(⟨im s.a 1 (0:Int).toNat ((s.cap:Nat):Int).toNat,i.toNat-(0:Int).toNat,((s.cap:Nat):Int).toNat-(0:Int).toNat⟩:Sl)=⟨s.a,q,s.cap⟩:=by simp_all[BS]
set_option maxRecDepth 100000 in
set_option maxHeartbeats 2000000 in
theorem HX{gl:Fr}{t:List Bt×List Int}{R:List Int×Bool->Prop}(hR:R (if zx t=Ta then(oP t.2,Ta)else([],Tc))):PC Tp gl 60 [Arg.mk (.pair (.row .str) (.row (.int .i64))) t] [.row (.int .i64),.bool] R:=by
 intro h M vs hM ag ha
 match vs,ha with
 |[u],⟨hu,_⟩=>
  obtain⟨s1,s2,rfl,r1,r2⟩:=pG (show RdV M (.pair (.row .str) (.row (.int .i64))) t u from hu);apply PX.of;obtain⟨l1,_,_⟩:=rowLen r1;obtain⟨l2,b2,_⟩:=rowLen r2;apply Hp s1 s2;intro h1;have k1:Keep h.size h h1:=Keep.push _ _ (Uf _);have z1:h1.size=h.size+1:=Uh _;have G:Blk h1 h.size #[aK s1,aK s2]:=Blk.new _ _ _;clear_value h1;have C:∀g:zc,zx t=Tc->Keep h.size h g->∃M' r,Later h M g M'/\Q5 M' [.row (.int .i64),.bool] r (.tuple #[.slice Te 0 0,.bool Tc])/\R r:=λg e k=>⟨M,([],Tc),Later.same ag k,⟨[_,_],⟨_,_,rfl,(Jd rfl).2 kI,_,rfl,rdBool _⟩,rfl⟩,by simp_all⟩;refine⟨s1,G.cellAdd (o:=0) (k:=0) rfl,s2,G.cellAdd (o:=0) (k:=1) rfl,s1,λ_=>G.cellAdd (o:=0) (k:=0) rfl,λf=>?_,λf=>?_⟩;refine C _ ?_ k1;cases l:zx t with
  |false=>rfl
  |true=>unfold zx at l;grind
  have w:s1.len=s2.len:=by by_cases e:s1.len=s2.len;exact e;grind
  have aA:s1.len<=512:=by
   have:((s1.len:Int) != (s2.len:Int))=Tc:=by simp;omega
   rw[this]at f;have:=zI f;omega
  refine⟨s2,G.cellAdd (o:=0) (k:=1) rfl,?_⟩;refine rJ (E:=(nn:ElemT _ _ _ _ 1 8)) rfl (by omega) (by omega) ⟨⟨Td ⟨h1.size,0,Te⟩,s2.len,s2.len⟩,rfl,s2,?_,?_⟩;exact(G.keepN (n:=h1.size) (Keep.push _ _ (Uf _)) (by omega)).cellAdd (o:=0) (k:=1) rfl;obtain⟨L,hL⟩:∃L,L=t.2:=⟨_,rfl⟩;have hn:L.length=s2.len:=by rw[hL,l2]
  have nr:∀m,m<L.length->kP L m=Tc->zx t=Tc:=λm hm e=>by
   cases l:zx t with
   |false=>rfl
   |true=>unfold zx at l;simp only[Uq,zG]at l;rw[hL]at hm e;have:=Xw.1 l.2 m hm;simp_all
  refine⟨λts j g=>∃(m:Nat) (outs:List Int) (bt:Nat) (ct:Array Value),j=(m:Int)/\m<=L.length/\kn L m=Ta/\ParI h1 L.length h1.size (Jx L m) outs ts bt ct g/\∀i,i<m->outs[i]?=Td (iH L m i),λ_ j _=>L.length-j.toNat,?_,?_⟩;refine⟨0,Vx L.length 0,h1.size+1,#[],rfl,UB _,rfl,⟨Keep.push _ _ (Uf _),?_,V2,⟨⟨UB _,.inl ⟨rfl,rfl⟩⟩,rfl,λi e hi=>by simp[Jx]at hi⟩,by omega⟩,λi hi=>by omega⟩;rw[List.map_replicate,hn];exact Blk.new _ _ _;rintro ts j g ⟨m,outs,bt,ct,rfl,hm,P,S,hv⟩;refine⟨λf=>?_,λf=>?_⟩;have w:m<L.length:=by have:=zH f;omega
  have I:Keep h.size h g:=k1.trans S.k (by omega);have Y:AgM M g:=ag.keep I;obtain⟨b,o,e1,N⟩:=tS Y r2 (k:=m) (by omega);have hx:t.2[m]'(by omega)=cK L m:=by subst hL;unfold cK;rw[Ux,Ul w];rfl
  rw[hx]at N;refine⟨⟨b,o,Te⟩,⟨e1,by omega,by omega⟩,cK L m,by rw[Xp,Ui];exact N,λh3=>?_,λh3=>?_⟩;refine C _ (nr m w ?_) I;cases e:kP L m with
  |false=>rfl
  |true=>obtain⟨a1,a2,_⟩:=Jo.1 e;grind
  have a0:0<=cK L m:=by by_cases e:cK L m<0;simp_all;omega
  have a1:cK L m<=m:=by rw[decide_eq_false (show¬cK L m<0 by omega)]at h3;have:=zI h3;omega
  generalize F:cK L m=lf at *;have hT:∀k,(V:k<(Jx L m).length)->(Jx L m)[k]<m:=λk V=>(Ab.1 (Ur V)).1;refine⟨λts g=>∃(q:Nat) (outs:List Int) (ct:Array Value),q<=(Jx L m).length/\ParI h1 L.length h1.size ((Jx L m).take q) outs ts bt ct g/\(∀i,i<m->outs[i]?=Td (if i∈(Jx L m).drop q then(m:Int)else iH L m i))/\∀r∈(Jx L m).drop q,lf<=(r:Int)/\lf<=cK L r,λts _=>ts.len,?_,?_⟩;exact⟨(Jx L m).length,outs,ct,Uf _,by simp_all,λi hi=>by simp_all,λr l=>by simp_all⟩;rintro ts' g' ⟨q,D,B,hq,z,U,hp⟩;have aB:ts'.len=q:=by rw[z.len,Ve,XO hq]
  have O:Keep h.size h g':=k1.trans z.k (by omega);have am:=z.top.ro.le;have aC:m<=512:=by omega
  have ar:q<=512:=by
   have:(Jx L m).length<=m:=by unfold Jx;exact Vj (List.length_filter_le _ _) (by simp)
   omega
  obtain⟨k,V⟩:∃k,k=(Jx L m).getD (q-1) 0:=⟨_,rfl⟩;obtain⟨a,p1⟩:∃a:Addr,0<q->ts'.a=Td a/\zd g' (a.add ((q-1)*1))=Td (.int .i64 (k:Int)):=by by_cases h0:0<q;obtain⟨e3,e4⟩:=z.cell (i:=q-1) (by grind);refine⟨_,λ_=>⟨e3,?_⟩⟩;rw[zh,U4,e4,List.getElem_take,V,Ux,Ul (by omega)];rfl;exact⟨⟨0,0,Te⟩,λh=>absurd h h0⟩
  have y:0<q->Ud .i64 (((ts'.len:Nat):Int)-1)=((q-1:Nat):Int):=λh0=>by rw[wrap64 (by omega) (by omega)];omega
  have ae:0<q->k<m/\k∈Jx L m/\(Jx L m).drop (q-1)=k::(Jx L m).drop q:=λh0=>by grind [U6]
  refine⟨a,λf=>?_,(k:Int),λf=>?_,λf=>?_,λf=>?_⟩;grind;have h0:0<q:=by have:=zH f;omega
  rw[y h0,Ui];exact(p1 h0).2;have h0:0<q:=by by_cases e:0<q;exact e;rw[decide_eq_false (show¬((ts'.len:Nat):Int)>0 by omega)]at f;cases f
  rw[zJ (show((ts'.len:Nat):Int)>0 by omega)]at f;have au:lf<=(k:Int):=by have:=zH f;omega
  obtain⟨al,ax,J⟩:=ae h0;have y:=y h0;obtain⟨b3,o3,e3,e4⟩:=tS (ag.keep O) r2 (k:=k) (by omega);have ak:t.2[k]'(by omega)=cK L k:=by subst hL;unfold cK;rw[Ux,Ul (by omega)];rfl
  rw[ak]at e4;refine⟨a,⟨(p1 h0).1,by rw[y];omega,by rw[y];omega⟩,(k:Int),by rw[y,Ui];exact(p1 h0).2,s2,(G.keepN z.k (by omega)).cellAdd (o:=0) (k:=1) rfl,⟨b3,o3,Te⟩,⟨e3,by omega,by omega⟩,cK L k,by rw[Xp,Ui];exact e4,λh4=>?_,λh4=>?_⟩;refine C _ (nr m w ?_) O;cases e:kP L m with
  |false=>rfl
  |true=>have:=(Jo.1 e).2.2 k al (by omega);grind
  have h5:lf<=cK L k:=by have:=zI h4;omega
  have ai:q<=ts'.cap:=by omega
  have Q:(0:Int)<=0/\0<=Ud .i64 (((ts'.len:Nat):Int)-1)/\Ud .i64 (((ts'.len:Nat):Int)-1)<=((ts'.cap:Nat):Int)/\((ts'.cap:Nat):Int)<=((ts'.cap:Nat):Int):=by rw[y];omega
  have T:∀g2,ParI h1 L.length h1.size ((Jx L m).take q) (D.set k (m:Int)) ts' bt B g2->(∃(q2:Nat) (outs:List Int) (ct:Array Value),q2<=(Jx L m).length/\ParI h1 L.length h1.size ((Jx L m).take q2) outs ⟨im ts'.a 1 (0:Int).toNat ((ts'.cap:Nat):Int).toNat,(Ud .i64 (((ts'.len:Nat):Int)-1)).toNat-(0:Int).toNat,((ts'.cap:Nat):Int).toNat-(0:Int).toNat⟩ bt ct g2/\(∀i,i<m->outs[i]?=Td (if i∈(Jx L m).drop q2 then(m:Int)else iH L m i))/\∀r∈(Jx L m).drop q2,lf<=(r:Int)/\lf<=cK L r)/\(Ud .i64 (((ts'.len:Nat):Int)-1)).toNat-(0:Int).toNat<ts'.len:=λg2 c=>by rw[Pa y];refine⟨⟨q-1,_,B,by omega,⟨c.k,c.out,c.ln,?_,c.hb⟩,λi hi=>?_,λr l=>?_⟩,by rw[y];omega⟩;have:=c.top.pop (q:=q-1) (by grind);grind [List.map_take];rw[List.getElem?_set,J];by_cases e:k=i;grind;rw[zv e,U i hi];congr 1;by_cases N:i∈(Jx L m).drop q;grind;grind;rw[J]at l;rcases Up.1 l with rfl|l;omega;grind
  refine⟨⟨h1.size,0,Te⟩,⟨rfl,by omega,by grind⟩,⟨.inl rfl,Q,?_⟩,?_⟩;rw[Ui];exact z.set (by omega) λg2 c _=>T g2 c;rw[Ui];exact z.set (by omega) λg2 c _=>⟨.inl rfl,Q,T g2 c⟩;have H:0<q->(k:Int)<lf:=λh0=>by grind
  have A:=Ts L m;have Z:(Jx L m).filter (λi:Nat=>decide ((i:Int)<cK L m))=(Jx L m).take q:=by
   rw[F];refine BL A hq (λi hi af=>?_) λi hi af=>?_;have h0:0<q:=by omega
   have h1:=H h0;have e:k=(Jx L m)[q-1]'(by omega):=by rw[V,Ux,Ul (by omega)];rfl
   rcases Va i (q-1)with h2|h2;have:=List.pairwise_iff_getElem.1 A i (q-1) hi (by omega) h2;omega;grind;exact(hp _ (by rw[List.mem_drop_iff_getElem];exact⟨i-q,by omega,by congr 1;omega⟩)).1
  have ac:kP L m=Ta:=K1 P (by omega) (by omega) λr l aj=>by
   rw[F]at aj ⊢;have az:r∉(Jx L m).take q:=λh=>by grind
   rw[<-Vr q (Jx L m)]at l;grind
  refine⟨⟨h1.size,0,Te⟩,⟨rfl,by omega,by grind⟩,?_⟩;rw[Ui];refine z.set (by omega) λg2 c z2=>?_;intro g3;have k3:Keep g2.size g2 g3:=Keep.push _ _ (Uf _);have B3:Blk g3 g2.size [Vo .i64 (m:Int)].toArray:=Blk.new _ _ _;have z3:g3.size=g2.size+1:=Uh _;clear_value g3;have aD:=c.k.size;have ay:=c.out.lt;have an:=c.hb;have T3:CR g3 1 (((Jx L m).take q).map λi:Nat=>[Vo .i64 (i:Int)]) ts' bt B:=c.top.frame λhx=>k3.get bt (by rcases c.top.ro.at_ with⟨e5,e6⟩|⟨_,e6,_⟩;grind;exact e6.lt);refine CR.app (E:=(nn:ElemT _ _ _ _ 1 8)) (by omega) T3 B3 rfl (by intro u hu;simp at hu;rw[hu];rfl) (by grind) λs' g4 b' c4 T4 z4 w4 l4 f4=>⟨s',rfl,⟨m+1,_,b',c4,by rw[wrap64 (by omega) (by omega)];omega,w,QA P ac,⟨⟨by omega,λj hj=>?_⟩,?_,c.ln,?_,?_⟩,λi hi=>?_⟩,?_⟩;rw[f4 j (by omega) (by omega),k3.get j (by omega)];exact c.k.get j hj;refine c.out.keep ?_;rw[f4 h1.size (by omega) (by omega),k3.get _ (by omega)];rw[Nz,Z,U3];exact T4;omega;rw[List.getElem?_set];by_cases e:m=i;subst e;rw[zA rfl,zA (by rw[z.ln];exact w),Gk];rw[zv e,U i (by omega),EQ L m i (by omega),F];congr 1;have aa:i∈Jx L m↔iH L m i<0:=by rw[Ab];rcases Z4 L m i with⟨e7,_⟩|⟨p,e7,_⟩;omega;omega
  by_cases N:i∈(Jx L m).drop q;grind;rw[zv N,zv];rintro⟨h6,h7⟩;have h8:=aa.2 h6;rw[<-Vr q (Jx L m)]at h8;grind;grind [ja,Ui];have ah:m=L.length:=by have:=zI f;omega
  subst ah;have l:zx t=Ta:=by unfold zx;simp only[Uq,zG];exact⟨⟨by omega,by omega⟩,by simp_all⟩
  rw[l]at hR;have I:Keep h.size h g:=k1.trans S.k (by omega);have Y:AgM M g:=ag.keep I;have ho:outs=oP t.2:=by rw[<-hL];apply U1;intro i;by_cases hi:i<L.length;rw[hv i hi,RX hi];rw[U5 (by rw[S.ln];omega),U5 (by rw[IS];omega)]
  refine⟨MxL M g [h1.size],(outs,Ta),MxL.later ag I (by simp_all),⟨[_,_],⟨_,_,rfl,(Jd rfl).2 ⟨_,rfl,Td ⟨h1.size,0,Te⟩,s2.len,?_,⟨?_,?_⟩,.inr ⟨h1.size,0,_,rfl,MxL.at (by simp) S.out,λi hi=>?_⟩⟩,_,rfl,rdBool _⟩,rfl⟩,by grind⟩;show YC _ _ _=YC _ _ _;rw[S.ln,hn];show outs.length<=_;rw[S.ln];omega;show outs.length<=_;rw[S.ln];omega;show cut (outs.map (Vo .i64)).toArray (0+i*1) 1=[Vo .i64 outs[i]];refine sh rfl λq hq=>?_;simp_all
end
end Go.X
end
section
namespace Go.X
open Go Go.ChangeMaps
section
variable {P:Program} {kt:TypeId}
def mf(l:List (Int×Value))(k:Int):Option Value:=match l with
 |[]=>Te
 |p::l=>if p.1=k then Td p.2 else mf l k
def l8(l:List (Int×Value))(k:Int)(v:Value):List (Int×Value):=match l with
 |[]=>[(k,v)]
 |p::l=>if p.1=k then(k,v)::l else p::l8 l k v
def kG(l:List (Int×Value)):List (Value×Value):=l.map λp=>(Vo .i64 p.1,p.2)
structure MapTI (P:Program) (t kt et:TypeId):Prop where
 map:P.underlying t=Td (.map kt et)
 key:P.underlying kt=Td (.int .i64)
theorem Cw(k:Int):∀(f:List MapEntry) (l:List (Int×Value)) (i:Nat),f.map (λe=>(e.key,e.val))=l.map (λp=>(Vo .i64 p.1,p.2)) ->
  (mf l k=Te/\VO (.int .i64) (.int .i64 k) f i=Td Te)\/(∃j v e,mf l k=Td v/\f[j]?=Td e/\e.key=.int .i64 k/\e.val=v/\VO (.int .i64) (.int .i64 k) f i=Td (Td (i+j,v)) /\ ∀w,(f.modify j λe=>{ e with key:=.int .i64 k,val:=w }).map (λe=>(e.key,e.val))=(l8 l k w).map λp=>(Vo .i64 p.1,p.2))
 |[],l,i,h=>by
  have:l=[]:=by cases l <;> simp_all
  subst this;exact .inl ⟨rfl,rfl⟩
 |e::f,l,i,h=>by
  cases l with
  |nil=>simp at h
  |cons p l=>
   simp only[UJ,VY,Vl]at h;obtain⟨⟨h1,m⟩,n⟩:=h;by_cases c:p.1=k;refine .inr ⟨0,p.2,e,by simp[mf,c],rfl,by rw[h1,c],m,?_,λw=>?_⟩;have b:(k==p.1)=Ta:=by simpa using c.symm
   simp[VO,XN,h1,m,b];simp[l8,c,n];have b:(k==p.1)=Tc:=by simpa using λe=>c e.symm
   rcases Cw k f l (i+1) n with⟨g1,g2⟩|⟨j,v,t,g1,g2,u,o,r,q⟩;refine .inl ⟨by simp[mf,c,g1],?_⟩;simp[VO,XN,h1,b,g2];refine .inr ⟨j+1,v,t,by simp[mf,c,g1],by simpa using g2,u,o,?_,λw=>?_⟩;simp[VO,XN,h1,b,r];omega;simp[l8,c,h1,m,q w]
theorem QK(c:P.underlying kt=Td (.int .i64))(b:Bool)(k:Int)(h:zc):QExec P (Instr.checkKey b 10000 kt (.int .i64 k)) h ():=by intro B d;have e:=QExec.underlying (h:=h) c B d;unfold Instr.checkKey;simp_all
theorem D1(c:P.underlying kt=Td (.int .i64))(k:Int)(b:List MapEntry)(r:Option (Nat×Value))(h:zc)(e:VO (.int .i64) (.int .i64 k) b 0=Td r):
  QExec P (Instr.findKey kt (.int .i64 k) b) h r:=by
 intro B d;have f:=QExec.underlying (h:=h) c B d;unfold Instr.findKey;simp_all
theorem Ti{l:List (Int×Value)}{k:Int}{v:Value}(g:mf l k=Te):l8 l k v=l++[(k,v)]:=by
 induction l with
 |nil=>rfl
 |cons p l c=>simp only[mf]at g;split at g;cases g;rename_i b;simp[l8,b,c g]
theorem JV{t kt et:TypeId}(T:MapTI P t kt et){h:zc}{m:Nat}{l:List (Int×Value)}(H:MapW h m (kG l))(k:Int)(v:Value){K:zc->Prop}
  (y:∀h':zc,MapW h' m (kG (l8 l k v))->h'.size=h.size->(∀i,i≠m->h'[i]?=h[i]?)->K h'):XRunU P (VC t (.map (Td m)) (.int .i64 k) v) h K:=by
 have f:=H.lt;obtain⟨b,c,h1,q,M,J⟩:=H;intro B d;have C:=QExec.underlying (h:=h) T.map B d;have w:=Z0 (P:=P) h1 B d;have D:=QK T.key Tc k h B d;have n:∀o:Obj,(setObj m o).run P (mk B d h)=.ok () (mk B d (h.setIfInBounds m o)):=by intro o;have:(mk B d h).heap[m]?=Td (.map b c):=h1;simp[setObj,Sem.run,this];rfl
 unfold VC;rcases Cw k b.toList l 0 q with⟨g1,g2⟩|⟨j,O,e,g1,g2,I,L,G,E⟩;refine⟨d,h.setIfInBounds m (.map (b.push { key:=.int .i64 k,val:=v,born:=c }) (c+1)),?_,y _ ⟨b.push { key:=.int .i64 k,val:=v,born:=c },c+1,by simp[f],?_,?_,?_⟩ (by simp) (λi hi=>by grind)⟩;rw[Sem.run_bind,C];simp only[Result.andThen_ok,Sem.run_bind,w,D];rw[D1 T.key k b.toList Te h g2 B d];simp_all;rw[Ti g1];unfold kG at q ⊢;simp[q];grind;grind;have A:j<b.size:=by have:=(UV.1 g2).1;simpa using this
 have u:((b.modify j λe=>{ e with key:=.int .i64 k,val:=v }).toList.map (·.born))=b.toList.map (·.born):=by apply U1;intro i;simp only[Array.toList_modify,Vk,List.getElem?_modify];by_cases F:j=i;simp_all;simp_all
 refine⟨d,_,?_,y (h.setIfInBounds m (.map (b.modify j λe=>{ e with key:=.int .i64 k,val:=v }) c)) ⟨b.modify j λe=>{ e with key:=.int .i64 k,val:=v },c,by simp[f],?_,?_,?_⟩ (by simp) (λi hi=>by grind)⟩;rw[Sem.run_bind,C];simp only[Result.andThen_ok,Sem.run_bind,w,D];rw[D1 T.key k b.toList _ h G B d];simp only[Result.andThen_ok,Uy];have p:((b[j]?).map (·.key)).getD (.int .i64 k)=.int .i64 k:=by
  have:b[j]?=Td e:=by simpa using g2
  rw[this];exact I
 rw[p];have N:WF (.int .i64 k) (.int .i64 k)=pure (.int .i64 k):=by unfold WF;rw[zA (by show((IntKind.i64==IntKind.i64)&&(k==k))=Ta;simp)]
 simp_all;have:=E v;unfold kG;grind;intro z r;have:z.born∈((b.modify j λe=>{ e with key:=.int .i64 k,val:=v }).toList.map (·.born)):=UD.2 ⟨z,r,rfl⟩;grind;simp_all
end
end Go.X
end
section
namespace Go.X
open Go Go.Lib
section
def Jp(L:List Int):List Nat:=(UO L.length).filter λi=>(UO L.length).all λj=>decide (j<=i)||decide (cK L j≠cK L i)
theorem E3{L:List Int}{i:Nat}:i∈Jp L↔i<L.length/\∀j,i<j->j<L.length->cK L j≠cK L i:=by unfold Jp;rw[U0,UT,UI];refine and_congr_right λ_=>⟨λh j h1 c=>?_,λh j b=>?_⟩;have:=h j (UT.2 c);simp only[WU,zG]at this;rcases this with h|h;omega;exact h;simp only[WU,zG];by_cases e:j<=i;exact .inl e;exact .inr (h j (by omega) (UT.1 b))
theorem EF(L:List Int):(Jp L).Pairwise (· < ·):=by unfold Jp;exact List.Pairwise.sublist List.filter_sublist List.pairwise_lt_range
def kR(L:List Int)(m:Nat):List Nat->List Nat
 |[]=>[m]
 |p::P=>if cK L p=cK L m then m::P else p::kR L m P
def jO(L:List Int):Nat->List Nat
 |0=>[]
 |m+1=>kR L m (jO L m)
def mG(L:List Int)(i:Nat):Int×Value:=(cK L i,.int .i64 (i:Int))
theorem Dj(L:List Int)(m:Nat):∀P:List Nat,l8 (P.map (mG L)) (cK L m) (.int .i64 (m:Int))=(kR L m P).map (mG L)
 |[]=>rfl
 |p::P=>by rw[UJ,l8,kR];by_cases h:cK L p=cK L m;rw[zA h,zA (show(mG L p).1=cK L m from h),UJ];rfl;rw[zv h,zv (show¬(mG L p).1=cK L m from h),UJ,Dj L m P]
theorem uQ{L:List Int}{m:Nat}:∀{P:List Nat},(P.map (cK L)).Nodup->∀i,i∈kR L m P↔i=m\/(i∈P/\cK L i≠cK L m)
 |[],_,i=>by simp[kR]
 |p::P,hn,i=>by rw[UJ,Vf]at hn;rw[kR];by_cases h:cK L p=cK L m;rw[zA h,Up,Up];refine or_congr_right ⟨λhi=>⟨.inr hi,λe=>hn.1 ?_⟩,λhi=>?_⟩;rw[h,<-e];exact List.mem_map_of_mem hi;rcases hi.1 with rfl|b;exact absurd h hi.2;exact b;rw[zv h,Up,Up,uQ hn.2 i];constructor;rintro(rfl|rfl|b);exact .inr ⟨.inl rfl,h⟩;exact .inl rfl;exact .inr ⟨.inr b.1,b.2⟩;rintro(rfl|⟨rfl|b,c⟩);exact .inr (.inl rfl);exact .inl rfl;exact .inr (.inr ⟨b,c⟩)
theorem DX{L:List Int}{m:Nat}:∀{P:List Nat},(P.map (cK L)).Nodup->((kR L m P).map (cK L)).Nodup
 |[],_=>by simp[kR]
 |p::P,hn=>by have i:=hn;rw[UJ,Vf]at hn;rw[kR];by_cases h:cK L p=cK L m;rw[zA h,UJ,Vf,<-h];exact hn;rw[zv h,UJ,Vf];refine⟨λb=>?_,DX hn.2⟩;obtain⟨q,c,e⟩:=UD.1 b;rcases(uQ hn.2 q).1 c with rfl|⟨f,_⟩;exact h e.symm;exact hn.1 (e ▸ List.mem_map_of_mem f)
theorem yS(L:List Int):∀m,((jO L m).map (cK L)).Nodup/\∀i,i∈jO L m↔i<m/\∀j,i<j->j<m->cK L j≠cK L i
 |0=>⟨V5,λi=>by simp[jO]⟩
 |m+1=>by
  obtain⟨h1,k⟩:=yS L m;refine⟨DX h1,λi=>?_⟩;rw[jO,uQ h1,k];constructor;rintro(rfl|⟨⟨a,b⟩,c⟩);exact⟨by omega,λj _ _=>by omega⟩;refine⟨by omega,λj h l=>?_⟩;rcases Va j m with f|f;exact b j h f;rw[show j=m from by omega];exact λe=>c e.symm
  rintro⟨a,b⟩;rcases Va i m with f|f;exact .inr ⟨⟨f,λj h l=>b j h (by omega)⟩,λe=>b m f (by omega) e.symm⟩;exact .inl (by omega)
theorem D8{α β:Type}{f:α->β}{l:List α}(h:(l.map f).Nodup):l.Nodup:=by
 induction l with
 |nil=>exact V5
 |cons x l c=>rw[UJ,Vf]at h;exact Vf.2 ⟨λb=>h.1 (List.mem_map_of_mem b),c h.2⟩
theorem QT(L:List Int):(jO L L.length).Perm (Jp L):=by obtain⟨h1,b⟩:=yS L L.length;refine(List.perm_ext_iff_of_nodup (D8 h1) ((EF L).imp λh=>Nat.ne_of_lt h)).2 λi=>?_;rw[b,E3]
end
section
variable {n:Nat}
def OkX(n:Nat)(X:List (Bt×Int)):Prop:=∀j (h:j<X.length),(n:Int)<=X[j].2/\X[j].2<=((n+j:Nat):Int)/\∀i (hi:i<X.length),i<j->X[j].2<=((n+i:Nat):Int)->X[j].2<=X[i].2
theorem OkX.nil(n:Nat):OkX n []:=λj h=>absurd h (VJ j)
theorem OkX.app{X Y:List (Bt×Int)}(k:OkX n X)(l:OkX (n+X.length) Y):OkX n (X++Y):=by intro j h;rw[Uk]at h;by_cases h1:j<X.length;rw[VD h1];obtain⟨a,b,c⟩:=k j h1;refine⟨a,b,λi hi e f=>?_⟩;rw[VD (by omega)];exact c i (by omega) e f;rw[V1 (by omega)];obtain⟨a,b,c⟩:=l (j-X.length) (by omega);refine⟨by omega,by omega,λi hi e f=>?_⟩;by_cases m:i<X.length;omega;rw[V1 (by omega)];exact c (i-X.length) (by omega) (by omega) (by omega)
theorem OkX.root{X:List (Bt×Int)}(h:OkX n X)(s:Bt):OkX n (X++[(s,(n:Int))]):=by
 intro j k;rw[Uk,Vs]at k;by_cases h1:j<X.length;rw[VD h1];obtain⟨a,b,c⟩:=h j h1;refine⟨a,b,λi hi e f=>?_⟩;rw[VD (by omega)];exact c i (by omega) e f;have:j=X.length:=by omega
 subst this;rw[V1 (Uf _)];refine⟨by simp,by simp;omega,λi hi e f=>?_⟩;rw[VD (by omega)];have:=(h i (by omega)).1;simp;exact this
mutual
theorem yQ:∀(v:Tr) (n:Nat),OkX n (hX v n)
 |.mk k s ks xs,n=>by rw[hX];refine OkX.root ?_ _;split;exact F8 xs ks n;split;exact A7 xs n;exact OkX.nil n
theorem A7:∀(l:List Tr) (n:Nat),OkX n (ic l n)
 |[],n=>by rw[ic];exact OkX.nil n
 |x::l,n=>by rw[ic];exact(yQ x n).app (A7 l _)
theorem F8:∀(l:List Tr) (ks:List Bt) (n:Nat),OkX n (Xv l ks n)
 |[],_,n=>by rw[Xv];exact OkX.nil n
 |x::l,ks,n=>by rw[Xv];have h1:=(yQ x n).root (mZ ks.head!);have b:=h1.app (Y:=Xv l ks.tail (n+(hX x n).length+1)) (by rw[Uk,Vs,<-Nat.add_assoc];exact F8 l _ _);rw[UK]at b;exact b
end
def qK(X:List (Bt×Int)):List Bt×List Int:=(X.map (·.1),X.map (·.2))
theorem Oo{w:Tr}(h:nD w<=512):zx (qK (hX w 0))=Ta:=by
 have l:=qE w 0;unfold zx qK;simp only[Uq,zG,Um];refine⟨⟨by simp,by omega⟩,Xw.2 λj f=>Jo.2 ?_⟩;have e:∀i (hi:i<(hX w 0).length),cK ((hX w 0).map (·.2)) i=(hX w 0)[i].2:=λi hi=>by unfold cK;rw[Ux,Vk,Ul hi];rfl
 obtain⟨a,b,c⟩:=yQ w 0 j f;rw[e j f];refine⟨by omega,by omega,λi hi k=>?_⟩;rw[e i (by omega)];exact c i (by omega) hi (by omega)
end
end Go.X
end
section
namespace Go.X
open Go Go.X Go.Proofs Go.RowKit
section
variable {g:zc} {b:Nat} {v:Tr}
theorem Ps:qo Tp 31=Ta:=by kernel_rfl
theorem Sw:je Tp 31=2:=by kernel_rfl
theorem QL{x y:Value}(B:Blk g b #[x,y]){s1 s2:Sl}{K:zc->Prop}(f:∀g',(∀j,j≠b->g'[j]?=g[j]?)->g'.size=g.size->Blk g' b #[aK s1,aK s2]->K g'):
  XRunU Tp (Uj 31 (.pointer (Td ⟨b,0,Te⟩)) (.agg #[aK s1,aK s2])) g K:=by
 refine Wu (vs:=[aK s1,aK s2]) Ps B rfl Sw (Uf _) (λu c=>?_) λg' e i h=>f g' h i e;simp at c;rcases c with rfl|rfl <;> rfl
theorem Later.stay{h g g':zc}{M M':Fr}(L:Later h M g M')(l:h.size<=b)(k:M' b=Te)(f:∀j,j≠b->g'[j]?=g[j]?)(z:g'.size=g.size):Later h M g' M':= ⟨⟨by have:=L.keep.size;omega,λj i=>by rw[f j (by omega)];exact L.keep.get j i⟩,L.le,L.old,λc cs e=>by rw[f c (λh=>by subst h;rw[k]at e;cases e)];exact L.ag c cs e⟩
def Zt(v:Tr):(List Bt×List Int)×Int:=if zi v=Ta then(if 512<nD (zo v)then(([],[]),6)else(qK (hX (zo v) 0),0))else(([],[]),1)
theorem Kx(h:zi v=Ta):Zc v=zo v:=by unfold Zc;rw[zA (Ev h)]
set_option maxRecDepth 100000 in
set_option maxHeartbeats 1000000 in
theorem RZ{gl:Fr}(Y:GL gl)(hb:Brn gl)(hv:Sm v){R:(List Bt×List Int)×Int->Prop}(D:R (Zt v)):PC Tp gl 14 [Arg.mk .tree v] [.pair (.row .str) (.row (.int .i64)),.int .i64] R:=by
 intro h M vs hM ag ha
 match vs,ha with
 |[u],⟨Q,_⟩=>
  have Q:RdV M .tree v u:=Q;have I:=Q;obtain⟨sk,si,rfl,rk,ri⟩:=qj Q;apply PX.of;apply T6 v.kind v.text sk si;intro h1;have k1:Keep h.size h h1:=Keep.push _ _ (Uf _);have z1:h1.size=h.size+1:=Uh _;have B1:Blk h1 h.size #[.int .i64 v.kind,.string v.text,aK sk,aK si]:=Blk.new _ _ _;clear_value h1;intro y;have k2:Keep h1.size h1 y:=Keep.push _ _ (Uf _);have z2:y.size=h1.size+1:=Uh _;have R2:Blk y h1.size #[.slice Te 0 0,.slice Te 0 0]:=Blk.new _ _ _;clear_value y;have B2:=B1.ofKeep k2;have aa:Keep h.size h y:=k1.trans k2 (by omega);have L2:Later h M y M:=Later.same ag aa;have done:∀(g:zc) (M':Fr) (t:List Bt×List Int) (e:Int) (s1 s2:Sl),Later y M g M'->Rd M' (.row .str) t.1 [aK s1]->Rd M' (.row (.int .i64)) t.2 [aK s2]->R (t,e) ->
    XRunU Tp (Uj 31 (.pointer (Td ⟨h1.size,0,Te⟩)) (.agg #[aK s1,aK s2])) g λg'=>∃S U:Sl,ze g' ⟨h1.size,0,Te⟩ 0 [aK S,aK U]/\∃M2 q,Later h M g' M2/\Q5 M2 [.pair (.row .str) (.row (.int .i64)),.int .i64] q (.tuple #[.agg #[aK S,aK U],.int .i64 e])/\R q:=by
   intro g M' t e s1 s2 L S U P;have nR:M' h1.size=Te:=by rw[L.old _ (by omega)];exact ag.none (by omega)
   refine QL (R2.keep (L.keep.get _ (by omega))) λg' f z B=>⟨s1,s2,B.ld (cs:=[aK s1,aK s2]),M',(t,e),Later.stay (L2.trans L) (by omega) nR f z,⟨[_,_],⟨_,_,rfl,W6 S U,_,rfl,Yn _ _⟩,rfl⟩,P⟩
  refine⟨v.kind,v.text,sk,si,B2.ld (cs:=[_,_,aK sk,aK si]),?_⟩;refine(Ql Y hv (R:=λr=>r=zi v) rfl).go (vs:=[.agg #[.int .i64 v.kind,.string v.text,aK sk,aK si]]) hM L2.ag (zn I qg) λw C M8 r J p P=>?_;subst P;refine⟨_,Ju p,λA=>?_,λA=>?_⟩
  ·have A:zi v=Tc:=by simpa using A
   unfold Zt at D;rw[zv (by rw[A];simp)]at D;exact done C M8 ([],[]) 1 ⟨Te,0,0⟩ ⟨Te,0,0⟩ J kI kI D
  have A:zi v=Ta:=by simpa using A
  unfold Zt at D;rw[zA A]at D;have z8:=J.keep.size;intro m;have ac:Keep C.size C m:=Keep.push _ _ (Uf _);have af:m.size=C.size+1:=Uh _;have V:Blk m C.size #[.slice Te 0 0,.slice Te 0 0]:=Blk.new _ _ _;clear_value m;have l:Later y M m M8:=J.trans (Later.same J.ag ac);refine⟨v.kind,v.text,sk,si,(B2.keep (l.keep.get _ (by omega))).ld (cs:=[_,_,aK sk,aK si]),?_⟩;refine(NO Y hv (R:=λr=>r=Zc v) rfl).go (vs:=[.agg #[.int .i64 v.kind,.string v.text,aK sk,aK si]]) (hM.trans l.le) l.ag (zn (I.mono l.le) qg) λw N E r i p P=>?_;subst P;have H:=Z2.1 p;obtain⟨xk,xi,rfl,y1,y2⟩:=qj H;refine⟨_,_,xk,xi,rfl,?_⟩;have hs:=Kx A;have ae:zi (Zc v)=Ta:=by rw[T7];exact A
  obtain⟨q1,q2,q3,q4⟩:=Qm ae;have ah:=i.keep.size;have nB:E C.size=Te:=by rw[i.old _ (by omega)];exact J.ag.none (by omega)
  have HB:Tb C.size N E C.size [] []:=⟨⟨Te,0,0⟩,⟨Te,0,0⟩,[],[],rfl,V.keep (i.keep.get _ (by omega)),ORow.nil,ORow.nil,λc b=>(by cases b),λb=>(by cases b),λb=>(by cases b),nB,Uf _⟩;refine XC.mono (Gg Y hb (bR (Zc v)) (Zc v) (by omega) (Uf _) q3 (Na hv) N E C.size [] [] _ i.ag (hM.trans (l.le.trans i.le)) HB (by omega) (UB _) H) ?_;rintro w h25 ⟨rfl,F,bs,T,s1,s2,b1,b2,rfl,B⟩;rw[Vw,Vb,hs]at B;have ai:=T.grow;have O:Later y M h25 F:=by have hk:=l.keep;refine⟨⟨by omega,λj hj=>?_⟩,l.le.trans (i.le.trans T.le),λc b=>?_,T.ag⟩;rw[T.fr j (by omega) (by omega) (by simp),i.keep.get j (by omega)];exact hk.get j hj;rw[T.old c (by omega),i.old c (by omega)];exact l.old c b
  have n:=B.r1.len;rw[Um]at n;have aj:=qE (zo v) 0;refine⟨rfl,s1,by rw[add0];exact B.box.cellAdd (o:=0) (k:=0) rfl,λb=>?_,λb=>?_⟩
  ·have b:=zH b;have:512<nD (zo v):=by unfold ib at n;rw[Ve]at n;omega
   rw[zA this]at D;exact done h25 F ([],[]) 6 ⟨Te,0,0⟩ ⟨Te,0,0⟩ O kI kI D
  ·have b:=zI b;have:¬512<nD (zo v):=by unfold ib at n;rw[Ve]at n;omega
   rw[zv this]at D;have G:=oG (X:=hX (zo v) 0) (by omega);rw[G]at B;refine⟨s1,s2,by rw[add0];exact B.box.ld (cs:=[aK s1,aK s2]),?_⟩;have own:∀c∈b1++b2,y.size<=c:=λc b=>by rcases Uo.1 b with h|h;have:=(B.r1.own c h).1;omega;have:=(B.r2.own c h).1;omega
   have Z:Later y M h25 (MxL F h25 (b1++b2)):=Later.own O own;exact done h25 _ (qK (hX (zo v) 0)) 0 s1 s2 Z (B.r1.rd T.ag (λc b=>Uv _ b) (by rw[Um];omega)) (B.r2.rd T.ag (λc b=>UH _ b) (by rw[Um];omega)) D
end
section
variable {y:Bool} {a b:Int}
theorem I6(a b:Bt):(a.toList==b.toList)=decide (a=b):=by rw[Zl,Zl,UR,beq_iff_eq,zG,nS]
theorem Sr{x y:Bool}:(bif x then Ta else y)=Ta↔x=Ta\/y=Ta:=by simp
theorem JL{x y:Bool}:(bif x then Ta else y)=Tc↔x=Tc/\y=Tc:=by simp
theorem MC{x y:Bool}:(bif x then y else Tc)=Ta↔x=Ta/\y=Ta:=by simp
theorem RI{x y:Bool}:(bif x then y else Tc)=Tc↔x=Tc\/y=Tc:=by grind
theorem mw(h:decide (a<b)=Ta):a<b:=zH h
theorem me(h:decide (a<b)=Tc):¬a<b:=zI h
theorem jd{t:List Bt×List Int}(h:zx t=Ta):t.1.length=t.2.length/\t.2.length<=512/\kn t.2 t.2.length=Ta:=by unfold zx at h;grind
abbrev jc:Ty:=.pair (.row .str) (.row (.int .i64))
theorem vl{gl:Fr}{t:List Bt×List Int}{R:Bool->Prop}(b:R (zx t)):PC Tp gl 21 [Arg.mk (.pair (.row .str) (.row (.int .i64))) t] [.bool] R:=by apply IV;refine HX (t:=t) (R:=λr=>R r.2) ?_;grind
end
end Go.X
end
section
namespace Go.X
open Go Go.Proofs Go.Shelf Go.RowKit
section
def PZ:Go.Shelf.Ren:=⟨fun|189=>64|125=>114|257=>113|128=>177|129=>178|294=>168|295=>169|296=>170|297=>171|298=>172|299=>173|216=>174|300=>175|301=>176|328=>235|329=>236|330=>237|331=>238|332=>239|215=>240|343=>294|n=>n,fun|28=>29|3=>3|46=>123|0=>0|51=>176|53=>178|4=>4|183=>168|182=>167|131=>173|5=>5|9=>9|218=>245|222=>249|228=>299|229=>300|n=>n,fun|n=>n⟩
theorem Dp:Go.Proofs.Lays.n189 Tp PZ:=by constructor <;> intros <;> kernel_rfl
open Go.Sort Go.RowKit in
theorem OH(blk off cap:Nat)(c:List Int)(w:World)(h:Holds (Vo .i64) w blk off c.toArray)(b:blk<w.heap.size)(f:c.length<4611686018427387904):
  Calls Tp 64 #[.slice (Td ⟨blk,off,Te⟩) c.length cap] w λe w'=>
   e=.returned (.tuple #[])/\∃n os,w'=grow (putRow (Vo .i64) (Sort.ahead w n) blk off (c.mergeSort λx y=>decide (x<=y)).toArray) os:=Any.slices_Sort_int Dp blk off cap c w h b f
open Go.RowKit Go.Sort in
theorem J7(p:Option Addr)(cap:Nat)(w:World): Calls Tp 64 #[.slice p 0 cap] w λe w'=>e=.returned (.tuple #[])/\w'=w:=Any.slices_Sort_int_none Dp p cap w
end
end Go.X
end
section
namespace Go.X
open Go Go.Lib
section
def rh(b:List Bt)(i:Nat):Bt:=b.getD i ⟨#[]⟩
end
section
theorem GK{α:Type}[DecidableEq α]:∀{xs ys:List α},xs.Nodup->(∀x∈xs,x∈ys)->xs.length<=ys.length
 |[],ys,_,_=>UB _
 |x::xs,ys,hn,h=>by
  rw[Vf]at hn;have f:=h x UF;have:=GK (ys:=ys.erase x) hn.2 λy c=>by have b:y≠x:=λe=>hn.1 (e ▸ c);exact(List.mem_erase_of_ne b).2 (h y (UG _ c))
  have i:=List.length_pos_of_mem f;rw[List.length_erase_of_mem f]at this;rw[Uz];omega
end
end Go.X
end
section
namespace Go.X
open Go Go.X Go.Proofs Go.RowKit Go.Sort Go.Shelf
section
variable {h:zc}
theorem OV{x:Int}{K:Value->zc->Prop}:zM Tp 29 1 (.int .i64 x) h K=K (.slice (Td ⟨h.size,0,Te⟩) 1 1) (h.push (.cells #[.int .i64 x] 3)):=by kernel_rfl
theorem mapII:MapTI Tp 79 3 3:=⟨by kernel_rfl,by kernel_rfl⟩
theorem w0{base:Nat}{s:Sl}{xs:List Int}(H:Owns h base 3 1 s (xs.map (Vo .i64))):s.len=xs.length:=by have:=H.length;simp at this;omega
theorem HJ{base:Nat}{s:Sl}{xs:List Int}(H:Owns h base 3 1 s (xs.map (Vo .i64)))(q:xs.length<=1000000):
  XC Tp 64 #[.slice s.a s.len s.cap] h λv h'=>v=.tuple #[]/\Owns h' base 3 1 s ((xs.mergeSort λx y=>decide (x<=y)).map (Vo .i64))/\h.size<=h'.size/\∀i,i<h.size->(∀p,s.a=Td p->i≠p.block)->h'[i]?=h[i]?:=by
 refine XC.of_below λB d=>?_;have f:s.len=xs.length:=w0 H;rcases H.2 with⟨m,h0⟩|⟨g,cap,k,m,l,C,A,G,z,D⟩;have F:xs=[]:=UN (by omega);subst F;rw[h0];refine(J7 s.a s.cap (mk B d h)).mono ?_;rintro e w' ⟨rfl,rfl⟩;exact⟨_,rfl,rfl,rfl,rfl,rfl,by rw[List.mergeSort_nil];exact H,Uf _,λ_ _ _=>rfl⟩;simp only[UY]at m;obtain⟨t,_,rfl⟩:=m;have c:(mk B d h).heap[g]?=Td (.cells k 3 (0,0)):=C;have o:g<(mk B d h).heap.size:=(Uu.1 c).1;have E:Holds (Vo .i64) (mk B d h) g 0 xs.toArray:=holds_of_blockI c (by rw[<-f];simpa using D);have u:=OH g 0 s.cap xs (mk B d h) E o (by omega);rw[<-f]at u;rw[t];refine u.mono ?_;rintro e w' ⟨rfl,n,os,rfl⟩;have b:=grownBy_sortedI (w:=mk B d h) (g:=g) (n:=n) (os:=os) (xs.mergeSort λx y=>decide (x<=y)).toArray;refine⟨_,rfl,b.os,b.tape,b.output,rfl,?_,b.size,λi hi j=>b.block i hi λe=>j _ rfl (by simpa using e)⟩;have r:=ownsRow_sortedI (w:=mk B d h) (base:=base) (n:=n) (os:=os) (ss:=xs) (ts:=xs.mergeSort λx y=>decide (x<=y)) (by simp) l c (by rw[<-f];exact A) G (by simpa using z);rw[<-f]at r;show World.ownsRow _ base _ 1 (.slice s.a s.len s.cap) s.len _;rw[t];exact r
theorem Owns.frzI{h g:zc}{M M':Fr}(L:Later h M g M'){s:Sl}{ks:List Int}{base:Nat}(o:Owns g base 3 1 s (ks.map (Vo .i64)))(B:h.size<=base)(D:ks.length<=1000000):
  ∃l,Later h M g l/\Rd l (.row (.int .i64)) ks [aK s]:=by
 have p:=w0 o;rcases o.2 with⟨j,h0⟩|⟨b,cap,f,j,n,r,A,C,z,u⟩;have t:ks=[]:=UN (by omega);subst t;simp only[UY]at j;refine⟨M',L,⟨_,rfl,s.a,s.cap,?_,⟨by simp,by simp⟩,.inl rfl⟩⟩;show aK s=_;unfold aK;rw[h0];rfl;simp only[UY]at j;obtain⟨w,_,m⟩:=j;have y:Blk g b f:=⟨_,r⟩;refine⟨MxL M' g [b],Later.own L (λc m=>by rw[Ut.1 m];omega),⟨_,rfl,s.a,s.cap,?_,⟨by omega,by omega⟩,.inr ⟨b,0,f,w,MxL.at (by simp) y,λi hi=>?_⟩⟩⟩;show aK s=_;unfold aK;rw[p];show cut f (0+i*1) 1=[.int .i64 ks[i]];refine sh rfl λq E=>?_
 have k:q=0:=by omega
 subst k;have e:(f.toList.take (s.len*1))[i]?=(ks.map (Vo .i64))[i]?:=by rw[u]
 rw[UU,zA (by omega)]at e;rw[show 0+i*1+0=i from by omega,e];simp[hi]
theorem To{L:List Int}{xs:List Nat}(h:xs.Perm (Jp L)):((xs.map λi:Nat=>(i:Int)).mergeSort λx y=>decide (x<=y))=(Jp L).map λi:Nat=>(i:Int):=by refine List.Perm.eq_of_pairwise (le:=λa b:Int=>decide (a<=b)=Ta) (λa b _ _ h1 e=>?_) (List.pairwise_mergeSort (λa b c h1 e=>?_) (λa b=>?_) _) (List.pairwise_map.2 ((EF L).imp λh=>zJ (by omega))) ((List.mergeSort_perm _ _).trans (h.map _));have:=zH h1;have:=zH e;omega;have:=zH h1;have:=zH e;exact zJ (by omega);rw[WU,zG,zG];omega
set_option maxRecDepth 100000 in
set_option maxHeartbeats 2000000 in
theorem F5{gl:Fr}{t:List Bt×List Int}{R:List Int->Prop}(hR:R (if zx t=Ta then(Jp t.2).map (λi:Nat=>(i:Int))else [])):PC Tp gl 28 [Arg.mk (.pair (.row .str) (.row (.int .i64))) t] [.row (.int .i64)] R:=by
 intro h M vs hM ag ha
 match vs,ha with
 |[u],⟨hu,_⟩=>
  obtain⟨s1,s2,rfl,r1,r2⟩:=pG (show RdV M (.pair (.row .str) (.row (.int .i64))) t u from hu);apply PX.of;obtain⟨l2,_,_⟩:=rowLen r2;apply RF s1 s2;intro h1;have L1:Later h M h1 M:=Later.push ag _;have z1:h1.size=h.size+1:=Uh _;have B1:Blk h1 h.size #[aK s1,aK s2]:=Blk.new _ _ _;clear_value h1;refine⟨s1,s2,B1.ld (cs:=[aK s1,aK s2]),?_⟩;refine(vl (gl:=gl) (t:=t) (R:=λr=>r=zx t) rfl).go (vs:=[.agg #[aK s1,aK s2]]) hM L1.ag (zn (a:=Arg.mk (.pair (.row .str) (.row (.int .i64))) t) (W6 r1 r2) qg) λw l P r Q Z hr=>?_;subst hr;have E:=L1.trans Q;have z5:=Q.keep.size;refine⟨_,Ju Z,λc=>?_,λc=>?_⟩;have c:zx t=Tc:=by simpa using c
  rw[c]at hR;exact⟨P,[],E,Z2.2 ((Jd rfl).2 (kI (T:=.int .i64))),hR⟩;have c:zx t=Ta:=by simpa using c
  rw[c,zA rfl]at hR;obtain⟨q1,q2,q3⟩:=jd c;obtain⟨L,hL⟩:∃L,L=t.2:=⟨_,rfl⟩;rw[<-hL]at hR q2 q3 r2 l2;intro G;have k7:Keep l.size l G:=Keep.push _ _ (Uf _);have z7:G.size=l.size+1:=Uh _;have W7:MapW G l.size []:=MapW.new _;clear_value G;have B7:Blk G h.size #[aK s1,aK s2]:=(B1.keep (Q.keep.get _ (by omega))).ofKeep k7;refine⟨s2,B7.cellAdd (o:=0) (k:=1) rfl,λi g=>∃m:Nat,i=(m:Int)/\m<=L.length/\g.size=G.size/\(∀j,j≠l.size->g[j]?=G[j]?)/\MapW g l.size (kG ((jO L m).map (mG L))),λi _=>L.length-i.toNat,⟨0,rfl,UB _,rfl,λ_ _=>rfl,W7⟩,?_⟩;rintro i g ⟨m,rfl,hm,zg,fg,W⟩;have kg:Keep l.size l g:=⟨by omega,λj B=>by rw[fg j (by omega)];exact k7.get j B⟩;have Lg:Later l P g P:=Later.same Q.ag kg;refine⟨λD=>?_,λD=>?_⟩;have y:m<L.length:=by have:=mw D;omega
  obtain⟨b,o,e1,e2⟩:=tS Lg.ag (r2.mono E.le) (k:=m) y;have V:L[m]=cK L m:=by unfold cK;rw[Ux,Ul y];rfl
  rw[V]at e2;refine⟨⟨b,o,Te⟩,⟨e1,by omega,by omega⟩,cK L m,by rw[Xp,Ui];exact e2,?_⟩;refine JV mapII W (cK L m) (.int .i64 (m:Int)) λg' W' z' f'=>⟨⟨m+1,by rw[ja y (by omega)],y,by omega,λj B=>(f' j B).trans (fg j B),?_⟩,by rw[ja y (by omega)];simp only[Ui];omega⟩;rw[Dj]at W';exact W';have ae:m=L.length:=by have:=me D;omega
  subst ae;obtain⟨ac,z⟩:=yS L L.length;have C:((kG ((jO L L.length).map (mG L))).map (·.1))=((jO L L.length).map (cK L)).map (Vo .i64):=by unfold kG;rw[UZ,UZ,UZ];rfl
  have ah:((kG ((jO L L.length).map (mG L))).map (·.1)).Nodup:=by rw[C];exact List.Pairwise.map _ (λa b aj e=>aj (by injection e)) ac
  refine wd mapII.map W λaf au al U=>⟨Td ⟨g.size,0,Te⟩,rfl,?_⟩;have am:Keep l.size l af:=kg.trans al (by omega);refine⟨λout g2=>∃xs:List Nat,xs.Nodup/\(∀x∈xs,x∈jO L L.length)/\MapIt g2 g.size l.size (kG ((jO L L.length).map (mG L))) (xs.reverse.map λi=>Vo .i64 (cK L i))/\Owns g2 (g.size+1) 3 1 out ((xs.map λi:Nat=>(i:Int)).map (Vo .i64))/\g.size+1<=g2.size/\Keep l.size l g2,λ_ g2=>leftN g2 g.size l.size,⟨[],V5,λx c=>(by cases c),U,Owns.nil _ _ _ _,by omega,am⟩,?_⟩;rintro out g2 ⟨xs,I,A,it,o,ax,S⟩;have ar:xs.length<=L.length:=by have:=GK (xs:=xs) (ys:=UO L.length) I λx c=>UT.2 ((z x).1 (A x c)).1;rwa[List.length_range]at this
  refine wX it ah (by omega) (λO=>.inl ⟨rfl,(λD=>(by cases D)),λ_=>?_⟩) λk v H hk q an Y z3 f3 aa=>.inr ⟨k,v,rfl,λ_=>wU Y ⟨k,v,rfl,?_⟩,λD=>(by cases D)⟩;have f:xs.Perm (Jp L):=by refine((List.perm_ext_iff_of_nodup I (D8 ac)).2 λp=>⟨A p,λf=>?_⟩).trans (QT L);have ak:=O (.int .i64 (cK L p),.int .i64 (p:Int)) (by unfold kG;rw[UZ];exact UD.2 ⟨p,f,rfl⟩);obtain⟨x,c,e⟩:=UD.1 ak;injection e with _ e;have c:=List.mem_reverse.1 c;obtain⟨a1,a2⟩:=(z x).1 (A x c);obtain⟨b1,b2⟩:=(z p).1 f;rcases Nat.lt_trichotomy x p with h|h|h;exact absurd e.symm (a2 p h b1);rw[<-h];exact c;exact absurd e (b2 x h a1)
  refine XC.mono (HJ o (by rw[Um];omega)) ?_;rintro v g4 ⟨rfl,o4,z4,f4⟩;rw[To f]at o4;have Lf:Later l P g4 P:=Later.same Q.ag ⟨by have:=S.size;omega,λj B=>by rw[f4 j (by have:=S.size;omega) λp f=>by have:=o.base_le p f;omega];exact S.get j B⟩;obtain⟨M6,L6,rd⟩:=Owns.frzI Lf o4 (by omega) (by rw[Um,f.symm.length_eq];omega);exact⟨rfl,M6,_,E.trans L6,Z2.2 ((Jd rfl).2 rd),hR⟩;obtain⟨i,hi,rfl,rfl⟩:∃i,i∈jO L L.length/\k=.int .i64 (cK L i)/\v=.int .i64 (i:Int):=by unfold kG at H;rw[UZ]at H;obtain⟨i,hi,e⟩:=UD.1 H;injection e with e1 e2;exact⟨i,hi,e1.symm,e2.symm⟩
  have ai:i∉xs:=λhm=>hk (UD.2 ⟨i,List.mem_reverse.2 hm,rfl⟩);rw[OV];have F:Keep q.size q (q.push (.cells #[.int .i64 (i:Int)] 3)):=Keep.push _ _ (Uf _);have z8:(q.push (.cells #[.int .i64 (i:Int)] 3)).size=q.size+1:=Uh _;have V8:Blk (q.push (.cells #[.int .i64 (i:Int)] 3)) q.size #[.int .i64 (i:Int)]:=Blk.new _ _ _;generalize (q.push (.cells #[.int .i64 (i:Int)] 3))=h8 at F z8 V8 ⊢;have o3:Owns q (g.size+1) 3 1 out ((xs.map λi:Nat=>(i:Int)).map (Vo .i64)):=o.keep λp f=>f3 _ (by have:=o.base_le p f;omega);have J:=o3.keepN F;have hl:=w0 o;rw[Um]at hl;refine xw (nn:ElemT _ _ _ _ 1 8) J (src:=⟨Td ⟨q.size,0,Te⟩,1,1⟩) (news:=[.int .i64 (i:Int)]) (n:=h8.size) ?_ rfl (by simp[Value.oneCell']) (by simp only;omega) (by simp only;omega) (by omega) λs' h4 p1 p2 N p4 p5=>⟨s',rfl,⟨xs++[i],?_,?_,?_,?_,by omega,?_⟩,?_⟩;refine .inr ⟨q.size,0,rfl,by omega,λi v V=>?_⟩
  match i,V with
  |0,V=>cases V;exact V8.cell rfl
  rw[VX];exact⟨I,by simp,λa ha b hb e=>by rw[Ut]at hb;subst hb;subst e;exact ai ha⟩;intro x c;rcases Uo.1 c with h|h;exact A x h;rw[Ut.1 h];exact hi;rw[List.reverse_append];refine an.keep ?_ ?_;rw[N _ (by omega) λp f=>by have:=J.base_le p f;omega];exact F.get _ (by omega);rw[N _ (by omega) λp f=>by have:=J.base_le p f;omega];exact F.get _ (by omega);rw[U3,U3];exact p2;refine⟨by have:=S.size;omega,λj B=>?_⟩;rw[N j (by omega) λp f=>by have:=J.base_le p f;omega,F.get j (by omega),f3 j (by omega)];exact S.get j B;show leftN h4 g.size l.size<leftN g2 g.size l.size;rw[leftN.keep (h:=q) ?_ ?_];exact aa;rw[N _ (by omega) λp f=>by have:=J.base_le p f;omega];exact F.get _ (by omega);rw[N _ (by omega) λp f=>by have:=J.base_le p f;omega];exact F.get _ (by omega)
end
end Go.X
end
section
namespace Go.X
open Go Go.X Go.Proofs Go.Lib
section
variable {gl:Fr}
theorem FW:zk Tp 84=Ta:=by kernel_rfl
theorem GW(a b:Bt):(a.toList==b.toList)=decide (a=b):=by rw[UR];simp only[ByteArray.toList_eq,beq_iff_eq,zG];constructor;intro h;cases a;cases b;simpa using h;intro h;rw[h]
theorem Bw{v:Tr}(h:zm v=Ta)(b:v.kind=6):v.keys.Nodup/\v.keys.length=v.items.length:=by refine⟨?_,Ba h b⟩;unfold zm at h;simp[b]at h;have:=h.1.1;unfold j9 at this;rw[Uq]at this;simpa using this.2
set_option maxHeartbeats 1000000 in
theorem OP:∀(n:Nat) (a b:Tr),bR a<=n->Sm a->Sm b->xp zm a=Ta->xp zm b=Ta->∀{R:Bool->Prop},R (y5 a b)->PC Tp gl 84 [Arg.mk .tree a,Arg.mk .tree b] [.bool] R:=by
 intro n;induction n with
 |zero=>intro a _ h;have:=Qg a;omega
 |succ n ih=>
  intro a b hn O J P ob R C h M vs hM ag t
  match vs,t with
  |[u1,u2],⟨u,o,_⟩=>
  have u:RdV M .tree a u1:=u;have o:RdV M .tree b u2:=o;obtain⟨sk,si,rfl,rk,ri⟩:=qj u;obtain⟨tk,E,rfl,V,p⟩:=qj o;obtain⟨li,_,_⟩:=rowLen ri;obtain⟨I,_,_⟩:=rowLen p;apply PX.of;apply TC a.kind a.text sk si b.kind b.text tk E;intro h1 l;have k1:Keep h.size h h1:=Keep.push _ _ (Uf _);have k2:Keep h1.size h1 l:=Keep.push _ _ (Uf _);have b1:Blk h1 h.size (zf a.kind a.text sk si).toArray:=Blk.new _ _ _;have b2:Blk l h1.size (zf b.kind b.text tk E).toArray:=Blk.new _ _ _;have z1:h1.size=h.size+1:=Uh _;have z2:l.size=h1.size+1:=Uh _;clear_value h1 l;have c:=b1.ofKeep k2;have kk:Keep h.size h l:=k1.trans k2 (by omega);have B:Later h M l M:=Later.same ag kk;intro K5 Z;have k:∀x:Bool,(x=Ta->y5 a b=Tc)->(x=Tc->a.kind=b.kind/\a.text=b.text/\a.items.length=b.items.length)->K5 x l:=by
   intro x ah S;refine Z x l ⟨λf=>⟨M,_,B,Z2.2 (rdBool _),?_⟩,λf=>?_⟩;rw[ah f]at C;exact C;obtain⟨e1,e2,Q⟩:=S f;have Y:y5 a b=(if a.kind=6 then ke a.keys a.items b else kC a.items b.items):=by rw[Xu];simp[e1,e2,Q]
   rw[Y]at C;refine⟨a.kind,c.cellAdd (by rfl),λh6=>?_,λh6=>?_⟩;have e:¬a.kind=6:=by simpa using h6
   rw[zv e,AM _ _ Q]at C;refine⟨si,c.cellAdd (by rfl),E,b2.cellAdd (by rfl),?_⟩;refine(MB (gl:=gl) FW (q:=y5) (xs:=a.items) (ys:=b.items) (λx f y G=>ih x y (by have:=qn f;omega) (O.item f) (J.item G) (yd P f) (yd ob G) rfl) hM B.ag ri p).go λw aj ae r L j z=>?_;have z:r=_:=z;subst z;refine⟨_,Ju j,ae,_,B.trans L,Z2.2 (rdBool _),?_⟩;rw[Q];simpa using C;have e:a.kind=6:=by simpa using h6
   rw[zA e,Fl _ _ _ (Ba (Qi P) e)]at C;obtain⟨na,la⟩:=Bw (Qi P) e;obtain⟨nb,lb⟩:=Bw (Qi ob) (by rw[<-e1];exact e);refine⟨a.kind,a.text,sk,si,c.ld (cs:=zf a.kind a.text sk si),b.kind,b.text,tk,E,b2.ld (cs:=zf b.kind b.text tk E),?_⟩;refine vr na la O.items B.ag (zr rk ri) λal m1 ua A am af ra w1=>⟨Td m1,rfl,A.get h1.size (by omega),?_⟩;have m:=B.ag.keep A;refine vr nb lb J.items m (zr V p) λac m2 ub F ak aa rb w2=>⟨Td m2,rfl,?_⟩;have H:Later h M ac M:=(B.trans (Later.same B.ag A)).trans (Later.same m F);refine(Hv (gl:=gl) FW (q:=y5) na la lb af aa ⟨O.items,J.items⟩ (λx f y G=>ih x y (by have:=qn f;omega) (O.item f) (J.item G) (yd P f) (yd ob G) rfl) hM H.ag (w1.keep (F.get _ w1.lt)) w2 ra rb).go λw ai U r L j z=>?_;have z:r=_:=z;subst z;refine⟨_,Ju j,U,_,H.trans L,Z2.2 (rdBool _),?_⟩;rw[Q];simpa using C
  refine⟨a.kind,c.cellAdd (by rfl),b.kind,b2.cellAdd (by rfl),λN=>k _ (λ_=>?_) (λi=>?_),λN=>?_⟩;rw[Xu];have:¬a.kind=b.kind:=by simpa using N
  simp[this];rw[N]at i;cases i;have T:a.kind=b.kind:=by simpa using N
  refine⟨a.text,c.cellAdd (by rfl),b.text,b2.cellAdd (by rfl),λD=>k _ (λ_=>?_) (λi=>?_),λD=>⟨si,c.cellAdd (by rfl),E,b2.cellAdd (by rfl),k _ (λi=>?_) (λi=>?_)⟩⟩;rw[Xu];have:¬a.text=b.text:=by rw[GW]at D;simpa using D
  simp[this];rw[D]at i;cases i;rw[Xu];have:¬a.items.length=b.items.length:=by rw[li,I]at i;simp at i;omega
  simp[this];have:a.text=b.text:=by rw[GW]at D;simpa using D
  exact⟨T,this,by rw[li,I]at i;simp at i;omega⟩
theorem BK(l:GL gl){a b:Tr}(i:Sm a)(k:Sm b){R:Bool->Prop}(h:R (j3 a&&(j3 b&&y5 a b))):PC Tp gl 46 [Arg.mk .tree a,Arg.mk .tree b] [.bool] R:=by
 apply HW;simp only[Zu];refine p6 l i ⟨λr=>r=j3 b,λ_=>p6 l k rfl,λr j=>⟨λx=>x=y5 a b,λe=>?_,λx f=>?_⟩⟩;cases h1:j3 a with
 |false=>rw[h1]at e;cases e
 |true=>rw[h1,zK]at e;have c:=j h1;rw[e]at c;exact OP _ a b (Uf _) i k (yM h1) (yM c.symm) rfl
 cases h1:j3 a with
 |false=>rw[h1]at h;exact h
 |true=>
  rw[h1]at h f;have c:=j h1;subst c;simp only[zK,Vz]at h f ⊢;cases h3:j3 b with
  |false=>rw[h3]at h;exact h
  |true=>rw[h3]at h f;rw[zK,f rfl];exact h
end
section
variable {M gl:Fr} {o:cR} {R:Bool -> Prop}
abbrev W8:Ty:=.pair .str (.pair (.row .str) (.pair (.row .str) .tree))
def zw(s:Bt)(sp sf:Sl)(v:Tr)(sk si:Sl):List Value:=[.string s,aK sp,aK sf,.int .i64 v.kind,.string v.text,aK sk,aK si]
theorem yR{u:Value}(h:RdV M W8 o u):∃sp sf sk si:Sl,u=.agg (zw o.1 sp sf o.2.2.2 sk si).toArray/\RdV M (.row .str) o.2.1 (aK sp)/\RdV M (.row .str) o.2.2.1 (aK sf)/\RdV M .tree o.2.2.2 (.agg (yb o.2.2.2 sk si).toArray):=by
 unfold RdV at h;simp only[Wo,if_true]at h;obtain⟨cs,rfl,c1,c2,rfl,h1,z,C,rfl,m,B,i,rfl,n,q⟩:=h;have h1:c1=[.string o.1]:=h1;subst h1;obtain⟨A,t,a2,e,r,g2⟩:=m;obtain⟨y,p,j,c,k,w⟩:=n;subst t;subst p;subst r;subst k;have b:RdV M .tree o.2.2.2 (.agg i.toArray):=by unfold RdV;simp only[Wo,if_true];exact⟨_,rfl,q⟩
 obtain⟨sk,si,f,_⟩:=qj b;have l:i=yb o.2.2.2 sk si:=by injection f with f;exact congrArg VW f
 subst l;refine⟨⟨a2,o.2.1.length,e⟩,⟨j,o.2.2.1.length,c⟩,sk,si,rfl,?_,?_,b⟩;rw[Jd rfl];exact⟨_,rfl,a2,e,rfl,g2⟩;rw[Jd rfl];exact⟨_,rfl,j,c,rfl,w⟩
theorem K8{v:Tr}(i:v.keys.length<=1000000000)(hi:v.items.length<=1000000000000)(h:R (mJ v)):PC Tp gl 79 [Arg.mk .tree v] [.bool] R:=by
 apply P5;have e:(bif (bif ((v.kind:Int)==0)then((v.text:Bt).toList==((⟨#[]⟩:Bt):Bt).toList)else Tc)then((Ud .i64 (((Vi v.keys:Nat):Int)+((Vi v.items:Nat):Int)):Int)==0)else Tc)=mJ v:=by rw[hH (by omega),UR];unfold mJ;simp only[Bool.cond_false_right,Uq,beq_iff_eq,zG,ByteArray.toList_eq,lb];constructor;rintro⟨⟨h1,b⟩,c⟩;exact⟨h1,b,UN (by omega),UN (by omega)⟩;rintro⟨h1,b,c,f⟩;exact⟨⟨h1,b⟩,by rw[c,f];rfl⟩
 rw[e];exact h
theorem uh(s:Bt)(a:Array UInt8):(s.toList==(⟨a⟩:Bt).toList)=decide (lb s=a.toList):=by rw[UR];simp[ByteArray.toList_eq,lb]
structure OpS (o:cR):Prop where
 p:SL o.2.1
 f:SL o.2.2.1
 v:Sm o.2.2.2
theorem AR{s:Bt}{R:Bool×Bool×Bool->Prop}(h:R (ye (lb s))):PC Tp gl 77 [Arg.mk .str s] [.bool,.bool,.bool] R:=by
 apply JD;simp only[uh];unfold ye nz Qk zY tg vp pA at h;intro K i;have c:(lb s=[97,100,100]\/lb s=[114,101,112,108,97,99,101]\/lb s=[116,101,115,116])->K Ta:=λe=>i Ta ⟨λ_=>by rw[zA e]at h;exact h,(λe=>by cases e)⟩;have j:¬(lb s=[97,100,100]\/lb s=[114,101,112,108,97,99,101]\/lb s=[116,101,115,116])->K Tc:=λe=>i Tc ⟨(λe=>by cases e),λ_=>by rw[zv e]at h;refine⟨λh1=>⟨λ_=>?_,λb=>?_⟩,λh1=>⟨λb=>?_,λb=>?_⟩⟩;rw[zA (.inl (by simpa using h1))]at h;exact h;rw[h1]at b;cases b;rw[zA (.inr (by simpa using b))]at h;exact h;rw[zv (λf=>by rcases f with f|f <;> simp_all)]at h;exact h⟩;refine⟨λh1=>?_,λh1=>⟨λb=>?_,λb=>?_⟩⟩;rw[h1];exact c (.inl (by simpa using h1));rw[b];exact c (.inr (.inl (by simpa using b)));cases h3:decide (lb s=#[116,101,115,116].toList)with
 |true=>exact c (.inr (.inr (by simpa using h3)))
 |false=>exact j (by rintro(f|f|f) <;> simp_all)
theorem yB(m:GL gl)(b:OpS o)(h:R (qc o)):PC Tp gl 44 [Arg.mk W8 o] [.bool] R:=by
 apply QZ;refine AR ?_;simp only[Zu];intro K t;have j:qc o=Tc->K Ta:=λu=>t Ta ⟨λ_=>by rw[u]at h;exact h,(λr=>by cases r)⟩;refine⟨λh1=>?_,λh1=>?_⟩;rw[h1];exact j (by unfold qc;simp at h1;simp[h1]);have n:(ye (lb o.1)).2.2=Ta:=by simpa using h1
 refine xY m b.p ⟨λc=>?_,λc=>?_⟩;rw[c];exact j (by unfold qc;simp at c;simp[c]);have k:yv o.2.1=Ta:=by simpa using c
 refine xY m b.f ⟨λi=>?_,λi=>?_⟩;rw[i];exact j (by unfold qc;simp at i;simp[i]);have q:yv o.2.2.1=Ta:=by simpa using i
 have e:(bif (!(ye (lb o.1)).2.1)then(decide (((Vi o.2.2.1:Nat):Int)>0))else Tc)=!((ye (lb o.1)).2.1||decide (o.2.2.1=[])):=by
  rw[UR];cases(ye (lb o.1)).2.1 with
  |true=>simp
  |false=>simp[Vt]
 rw[e];cases h4:((ye (lb o.1)).2.1||decide (o.2.2.1=[]))with
 |false=>exact j (by unfold qc;rw[h4];simp)
 |true=>
  have w:qc o=(bif (ye (lb o.1)).1 then zi o.2.2.2 else mJ o.2.2.2):=by unfold qc;rw[n,k,q,h4];rfl
  rw[w]at h;refine t Tc ⟨(λr=>by cases r),λ_=>⟨λl=>?_,λl=>?_⟩⟩;rw[l]at h;exact Ql m b.v h;rw[l]at h;exact K8 (by have:=b.v.keys;omega) b.v.items h
theorem Cb{sp sf sk si:Sl}(f:RdV M (.row .str) o.2.1 (aK sp))(c:RdV M (.row .str) o.2.2.1 (aK sf))(b:RdV M .tree o.2.2.2 (.agg (yb o.2.2.2 sk si).toArray)):RdV M W8 o (.agg (zw o.1 sp sf o.2.2.2 sk si).toArray):=by
 rw[Jd rfl]at f c;unfold RdV at b ⊢;simp only[Wo,if_true]at b ⊢;obtain⟨cs,e,b⟩:=b;have e:yb o.2.2.2 sk si=cs:=by injection e with e;simpa using congrArg VW e
 subst e;exact⟨zw o.1 sp sf o.2.2.2 sk si,rfl,[.string o.1],_,rfl,rfl,[aK sp],_,rfl,f,[aK sf],_,rfl,c,b⟩
end
end Go.X
end
section
namespace Go.X
open Go Go.X Go.Proofs Go.RowKit
section
variable {g:zc} {ks:List Bt} {bs:List Nat} {c:Nat}
def OPath(g:zc)(ks:List Bt)(bs:List Nat)(s:Sl):Prop:=
 s.len=ks.length/\ks.length<=s.cap/\ks.length<=140737488355328/\((ks=[]/\bs=[])\/∃b cs,bs=[b]/\s.a=Td ⟨b,0,Te⟩/\Blk g b cs/\cut cs 0 ks.length=ks.map UA)
theorem OPath.frame{g g':zc}{s:Sl}(H:OPath g ks bs s)(f:∀b∈bs,g'[b]?=g[b]?):OPath g' ks bs s:=by obtain⟨h1,h,j,i⟩:=H;refine⟨h1,h,j,i.imp id ?_⟩;rintro⟨b,cs,rfl,c,k,e⟩;exact⟨b,cs,rfl,c,k.keep (f b (by simp)),e⟩
theorem OPath.nil:OPath g [] [] ⟨Te,0,0⟩:=⟨rfl,Uf _,by simp,.inl ⟨rfl,rfl⟩⟩
theorem OPath.rd{M:Fr}{s:Sl}(H:OPath g ks bs s)(h:∀b∈bs,∀cs,Blk g b cs->M b=Td cs):Rd M (.row .str) ks [aK s]:=by
 obtain⟨h1,f,j,m⟩:=H;refine⟨_,rfl,s.a,s.cap,by rw[aK,h1],⟨j,f⟩,?_⟩;rcases m with⟨h0,_⟩|⟨b,cs,rfl,k,n,l⟩;exact .inl h0;refine .inr ⟨b,0,cs,k,h b (by simp) cs n,λi hi=>?_⟩;have e:(cut cs 0 ks.length)[i]?=Td (UA ks[i]):=by rw[l,Vk,Ul hi];rfl
 rw[qi,zA hi,Uy]at e;show cut cs (0+i*1) 1=[.string ks[i]];apply U1;intro q;rw[qi];by_cases c:q<1;have:q=0:=by omega
 subst this;rw[zA c,show 0+i*1+0=i by omega,e];rfl;rw[zv c,U5 (by simp;omega)]
structure DAx where
 sp:Sl
 bp:List Nat
 sk:Sl
 si:Sl
 bv:List Nat
abbrev DA:=List (cR×DAx)
def dC(p:cR×DAx):List Value:=zw p.1.1 p.2.sp ⟨Te,0,0⟩ p.1.2.2.2 p.2.sk p.2.si
def dO(p:cR×DAx)(c:Nat):Prop:=c∈p.2.bp\/c∈p.2.bv
def gR(na:DA)(sl:Sl)(b c:Nat):Prop:=(sl.cap≠0/\c=b)\/∃p∈na,dO p c
structure DI (lo:Nat) (g:zc) (M:Fr) (p:cR×DAx):Prop where
 path:OPath g p.1.2.1 p.2.bp p.2.sp
 frm:p.1.2.2.1=[]
 val:OT g p.1.2.2.2 p.2.bv (yb p.1.2.2.2 p.2.sk p.2.si)
 own:∀c,dO p c->lo<=c/\c<g.size/\M c=Te
 dj:∀c∈p.2.bp,c∉p.2.bv
structure DStp (lo:Nat) (g:zc) (M:Fr) (na:DA) (sl:Sl) (b:Nat) (cs:Array Value):Prop where
 cr:CR g 7 (na.map dC) sl b cs
 lb:sl.cap≠0->lo<=b/\b<g.size/\M b=Te
 nd:∀p∈na,DI lo g M p
 dj:∀(i j:Nat) (p p':cR×DAx) (c:Nat),na[i]?=Td p->na[j]?=Td p'->dO p c->dO p' c->i=j
 nb:∀p∈na,¬dO p b
section
variable {lo : Nat} {g g' : zc} {M M' : Fr} {na : DA} {sl : Sl} {b : Nat} {cs : Array Value} {p : cR × DAx}
theorem DI.frame(H:DI lo g M p)(hz:g.size<=g'.size)(f:∀c,dO p c->g'[c]?=g[c]?)(e:∀c,dO p c->M' c=Te):DI lo g' M' p:= ⟨H.path.frame λc b=>f c (.inl b),H.frm,H.val.frame λc b=>f c (.inr b),λc b=>⟨(H.own c b).1,by have:=(H.own c b).2.1;omega,e c b⟩,H.dj⟩
theorem DStp.len(H:DStp lo g M na sl b cs):sl.len=na.length:=by rw[H.cr.ln,Um]
theorem DStp.own(H:DStp lo g M na sl b cs)(h:gR na sl b c):lo<=c/\c<g.size/\M c=Te:=by rcases h with⟨h1,rfl⟩|⟨p,e,h⟩;exact H.lb h1;exact(H.nd p e).own c h
theorem DStp.frame(H:DStp lo g M na sl b cs)(hz:g.size<=g'.size)(f:∀c,gR na sl b c->g'[c]?=g[c]?)(j:∀c,gR na sl b c->M' c=Te):DStp lo g' M' na sl b cs:=by refine⟨H.cr.frame λh=>f b (.inl ⟨?_,rfl⟩),λh=>by have:=H.lb h;exact⟨this.1,by omega,j b (.inl ⟨h,rfl⟩)⟩,λp e=>(H.nd p e).frame hz (λc i=>f c (.inr ⟨p,e,i⟩)) λc i=>j c (.inr ⟨p,e,i⟩),H.dj,H.nb⟩;rcases h with h|h;have:=H.cr.ln;have k:=H.cr.ro.le;have:=Vt.2 h;omega;exact h
theorem DStp.nil:DStp lo g M [] ⟨Te,0,0⟩ b cs:= ⟨⟨⟨Uf _,.inl ⟨rfl,rfl⟩⟩,rfl,λi e h=>(by cases h)⟩,λh=>absurd rfl h,λp f=>(by cases f),λi j p k c h=>(by cases h),λp f=>(by cases f)⟩
theorem TQ(p:cR×DAx):∀u∈dC p,u.oneCell'=Ta:=by intro u b;unfold dC zw aK at b;simp at b;rcases b with rfl|rfl|rfl|rfl|rfl|rfl|rfl <;> rfl
theorem DStp.push{t e:TypeId}{P:Value}{bytes:Nat}(E:ElemT Tp t e P 7 bytes)(B:bytes<=1000){ty:TypeId}(ag:AgM M g)(H:DStp lo g M na sl b cs)(L:DI lo g M p)(ap:∀c,dO p c->¬gR na sl b c)(Q:lo<=g.size){bv N:Nat}(S:Blk g bv (dC p).toArray)(D:na.length<=1000000){K:Value->zc->Prop} (O:∀(n:Sl) (g':zc) (b':Nat) (cs':Array Value),DStp lo g' M (na++[p]) n b' cs'->g.size<=g'.size->(∀c,gR (na++[p]) n b' c->gR na sl b c\/dO p c\/g.size<=c)->(∀j,j<g.size->¬gR na sl b j->g'[j]?=g[j]?)->K (.slice n.a n.len n.cap) g'):
  qt Tp (Us #[t,t] ty #[.slice sl.a sl.len sl.cap,.slice (Td ⟨bv,0,Te⟩) 1 N]) g K:=by
 have A:∀c,g.size<=c->M c=Te:=by
  intro c k;cases e:M c with
  |none=>rfl
  |some cs=>have:=ag.lt e;omega
 refine CR.app E B H.cr S rfl (TQ _) (by rw[Um];exact D) λn g' b' cs' C I y w J=>?_;have l:gR na sl b b'\/g.size<=b':=by rcases y with⟨u,T⟩|u;exact .inl (.inl ⟨by have:=H.cr.ro.le;omega,u⟩);exact .inr u
 have z:∀q∈na++[p],¬dO q b':=λq f k=>by rcases Uo.1 f with f|f;rcases y with⟨u,_⟩|u;rw[u]at k;exact H.nb q f k;have:=((H.nd q f).own b' k).2.1;omega;rw[Ut.1 f]at k;rcases l with h|h;exact ap b' k h;have:=(L.own b' k).2.1;omega
 have r:∀q∈na++[p],DI lo g M q:=λq f=>by rcases Uo.1 f with f|f;exact H.nd q f;rw[Ut.1 f];exact L
 refine O n g' b' cs' ⟨by rw[U3];exact C,λ_=>?_,λq f=>?_,?_,z⟩ I (λc k=>?_) (λj F D=>J j F λe=>?_);rcases l with h|h;have:=H.own h;exact⟨this.1,w,this.2.2⟩;exact⟨by omega,w,A b' h⟩;exact(r q f).frame I (λc k=>J c ((r q f).own c k).2.1 λe=>z q f (e ▸ k)) λc k=>((r q f).own c k).2.2
 intro i j q G c hi F k o;have key:∀(i:Nat) (q:cR×DAx),(na++[p])[i]?=Td q->na[i]?=Td q\/(i=na.length/\q=p):=λi q hi=>by
  rw[List.getElem?_append]at hi;split at hi;exact .inl hi;rename_i h;cases h0:i-na.length with
  |zero=>rw[h0]at hi;exact .inr ⟨by omega,by simpa using hi.symm⟩
  |succ m=>rw[h0]at hi;simp at hi
 rcases key i q hi with h1|⟨h1,rfl⟩ <;> rcases key j G F with h2|⟨h2,rfl⟩;exact H.dj i j q G c h1 h2 k o;exact absurd (.inr ⟨q,VA h1,k⟩) (ap c o);exact absurd (.inr ⟨G,VA h2,o⟩) (ap c k);omega;rcases k with⟨_,rfl⟩|⟨q,f,k⟩;rcases l with h|h;exact .inl h;exact .inr (.inr h);rcases Uo.1 f with f|f;exact .inl (.inr ⟨q,f,k⟩);rw[Ut.1 f]at k;exact .inr (.inl k);subst e;rcases l with h|h;exact D h;omega
def mj(na:DA)(sl:Sl)(b:Nat):List Nat:=(if sl.cap=0 then []else [b])++na.flatMap λp=>p.2.bp++p.2.bv
theorem sM:c∈mj na sl b↔gR na sl b c:=by unfold mj gR dO;rw[Uo,Vy];simp only[Uo];by_cases h:sl.cap=0;simp[h];simp[h]
theorem DStp.rd(H:DStp lo g M na sl b cs)(ag:AgM M g)(A:na.length<=1000000):Rd (MxL M g (mj na sl b)) (.row W8) (na.map (·.1)) [aK sl]:=by
 have u:=H.len;have z:=H.cr.ro.le;refine⟨_,rfl,sl.a,sl.cap,by rw[aK,u,Um],⟨by rw[Um];omega,by rw[Um];omega⟩,?_⟩;by_cases h0:na=[];subst h0;exact .inl rfl;obtain⟨y,j⟩:=H.cr.blk (by simpa using h0);have n:=Vt.2 h0;refine .inr ⟨b,0,cs,y,MxL.at (sM.2 (.inl ⟨by omega,rfl⟩)) j,λi hi=>?_⟩;have f:i<na.length:=by simpa using hi
 have t:na[i]?=Td na[i]:=Ul f;have k:na[i]∈na:=Ur f;have e:=(H.cr.el i (dC na[i]) (by rw[Vk,t];rfl)).2;have l:sz W8=7:=rfl;rw[l,Uy,e,VM];have D:=H.nd _ k;have q:Rd (MxL M g (mj na sl b)) (.row .str) na[i].1.2.1 [aK na[i].2.sp]:=D.path.rd λc m cs' j=>MxL.at (sM.2 (.inr ⟨_,k,.inl m⟩)) j;have w:Rd (MxL M g (mj na sl b)) (.row .str) na[i].1.2.2.1 [aK ⟨Te,0,0⟩]:=by rw[D.frm];exact⟨_,rfl,Te,0,rfl,⟨by simp,by simp⟩,.inl rfl⟩
 have p:RdV (MxL M g (mj na sl b)) .tree na[i].1.2.2.2 (.agg (yb na[i].1.2.2.2 na[i].2.sk na[i].2.si).toArray):=by unfold RdV;simp only[Wo,if_true];exact⟨_,rfl,D.val.rd λc m cs' j=>MxL.at (sM.2 (.inr ⟨_,k,.inr m⟩)) j⟩
 have:=Cb (M:=MxL M g (mj na sl b)) (o:=na[i].1) (sf:=⟨Te,0,0⟩) ((Jd rfl).2 q) ((Jd rfl).2 w) p;unfold RdV at this;simp only[Wo,if_true]at this;obtain⟨cs',h,r⟩:=this;have h:zw na[i].1.1 na[i].2.sp ⟨Te,0,0⟩ na[i].1.2.2.2 na[i].2.sk na[i].2.si=cs':=by injection h with h;simpa using congrArg VW h
 subst h;exact r
end
end
end Go.X
end
section
namespace Go.X
open Go Go.X Go.Proofs Go.Sort Go.Lib
section
theorem E2{P:Program}{t e:TypeId}{z:Value}{sz bytes:Nat}(T:ElemT P t e z sz bytes){ty:TypeId}{h:zc}{p:Addr}{n N:Nat}{olds:List Value}(F:olds.length=n*sz)(k:∀j v,olds[j]?=Td v->zd h (p.add j)=Td v) {src:Sl} {news:List Value} (J:Arr N h src.a news) (G:news.length=src.len*sz) (f:(n+src.len)*bytes<=140737488355328) (D:n+src.len<=4611686018427387904) {K:Value->zc->Prop} (h0:src.len=0->K (.slice (Td p) n n) h) (E:∀(c:Nat) (h':zc) (l:Array Value),0<src.len->n+src.len<=c->Blk h' h.size l->l.toList.take (olds++news).length=olds++news->Keep h.size h h'->K (.slice (Td ⟨h.size,0,Te⟩) (n+src.len) c) h'):
  qt P (Us #[t,t] ty #[.slice (Td p) n n,.slice src.a src.len src.cap]) h K:=by
 intro B d;obtain⟨i,hi,hz,r,y⟩:=T.info;have C:=T.slice;subst r y;by_cases A:src.len=0;refine⟨_,d,h,?_,h0 A⟩;rw[A];generalize src.a=q;cases q <;> simp[Us,run_underlying C,sizeOf,typeInfo,hi,Builtin.lenOf,VQ,loadCells,loadCellsFrom,storeCells];rcases J with m|⟨b,o,m,O,M⟩;subst m;have:=Nat.mul_pos (Nat.pos_of_ne_zero A) T.pos;grind;rw[m];have H:=run_append_grow (P:=P) (ty:=ty) (w:=mk B d h) t e i z C hi hz p n n olds F (λj v L=>k j v L) ⟨b,o,Te⟩ src.len src.cap news G (λj u I=>by rw[zh];exact M j u I) (by omega) (by omega) (growslice_fits (by omega) f);refine⟨_,_,_,H,E _ _ (olds.toArray++news.toArray++Builtin.zeroCells z.cells (grownCap (mk B d h) (n+src.len) n e-(n+src.len))) (by omega) (grownCap_ge _ _ _ _) (Blk.new h _ e) ?_ (Keep.push _ _ (Uf _))⟩;grind
end
end Go.X
end
section
namespace Go.X
section
section
variable (n m : Nat) (sa sb : Nat -> Nat) (c : Nat -> Nat -> Nat)
def jB:Nat->Nat->Nat->Nat
 |0,_,_=>0
 |f+1,i,j=>
  if n<=i then(if m<=j then 0 else sb j+jB f i (j+1))
  else if m<=j then sa i+jB f (i+1) j
  else min (min (c i j+jB f (i+1) (j+1)) (sa i+jB f (i+1) j)) (sb j+jB f i (j+1))
def iR(i j:Nat):Nat:=jB n m sa sb c (n-i+(m-j)) i j
def jZ:Nat->Nat->Nat->List (Nat×Nat)
 |0,_,_=>[]
 |f+1,i,j=>
  if i<n/\j<m then
   if iR n m sa sb c i j=c i j+iR n m sa sb c (i+1) (j+1)then(i,j)::jZ f (i+1) (j+1)
   else if iR n m sa sb c i j=sa i+iR n m sa sb c (i+1) j then jZ f (i+1) j
   else jZ f i (j+1)
  else []
def mX(i j:Nat):List (Nat×Nat):=jZ n m sa sb c (n-i+(m-j)) i j
end
variable {n m : Nat} {sa sb : Nat -> Nat} {c : Nat -> Nat -> Nat}
theorem xf:∀(f e i j:Nat),n-i+(m-j)<=f->n-i+(m-j)<=e->jB n m sa sb c f i j=jB n m sa sb c e i j
 |0,0,i,j,_,_=>rfl
 |0,e+1,i,j,h,_=>by unfold jB;rw[zA (by omega),zA (by omega)]
 |f+1,0,i,j,_,h=>by unfold jB;rw[zA (by omega),zA (by omega)]
 |f+1,e+1,i,j,h,h'=>by unfold jB;by_cases h1:n<=i;rw[zA h1,zA h1];by_cases b:m<=j;rw[zA b,zA b];rw[zv b,zv b,xf f e i (j+1) (by omega) (by omega)];rw[zv h1,zv h1];by_cases b:m<=j;rw[zA b,zA b,xf f e (i+1) j (by omega) (by omega)];rw[zv b,zv b,xf f e (i+1) j (by omega) (by omega),xf f e i (j+1) (by omega) (by omega),xf f e (i+1) (j+1) (by omega) (by omega)]
theorem MA(i j:Nat):iR n m sa sb c i j=
  if n<=i then(if m<=j then 0 else sb j+iR n m sa sb c i (j+1))
  else if m<=j then sa i+iR n m sa sb c (i+1) j
  else min (min (c i j+iR n m sa sb c (i+1) (j+1)) (sa i+iR n m sa sb c (i+1) j)) (sb j+iR n m sa sb c i (j+1)):=by
 unfold iR;rw[xf _ (n-i+(m-j)+1) i j (Uf _) (by omega)];conv=>lhs;unfold jB
 by_cases h1:n<=i;rw[zA h1,zA h1];by_cases b:m<=j;rw[zA b,zA b];rw[zv b,zv b,xf (n-i+(m-j)) _ i (j+1) (by omega) (Uf _)];rw[zv h1,zv h1];by_cases b:m<=j;rw[zA b,zA b,xf (n-i+(m-j)) _ (i+1) j (by omega) (Uf _)];rw[zv b,zv b,xf (n-i+(m-j)) _ (i+1) j (by omega) (Uf _),xf (n-i+(m-j)) _ i (j+1) (by omega) (Uf _),xf (n-i+(m-j)) _ (i+1) (j+1) (by omega) (Uf _)]
theorem Jq:∀(f b i j:Nat),n-i+(m-j)<=f->n-i+(m-j)<=b->jZ n m sa sb c f i j=jZ n m sa sb c b i j
 |0,0,i,j,_,_=>rfl
 |0,b+1,i,j,h,_=>by unfold jZ;rw[zv (by omega)]
 |f+1,0,i,j,_,h=>by unfold jZ;rw[zv (by omega)]
 |f+1,b+1,i,j,h,h'=>by unfold jZ;by_cases h1:i<n/\j<m;rw[zA h1,zA h1,Jq f b (i+1) j (by omega) (by omega),Jq f b i (j+1) (by omega) (by omega),Jq f b (i+1) (j+1) (by omega) (by omega)];rw[zv h1,zv h1]
theorem TJ(i j:Nat):mX n m sa sb c i j=
  if i<n/\j<m then
   if iR n m sa sb c i j=c i j+iR n m sa sb c (i+1) (j+1)then(i,j)::mX n m sa sb c (i+1) (j+1)
   else if iR n m sa sb c i j=sa i+iR n m sa sb c (i+1) j then mX n m sa sb c (i+1) j
   else mX n m sa sb c i (j+1)
  else []:=by
 unfold mX;rw[Jq _ (n-i+(m-j)+1) i j (Uf _) (by omega)];conv=>lhs;unfold jZ
 by_cases h1:i<n/\j<m;rw[zA h1,zA h1,Jq (n-i+(m-j)) _ (i+1) j (by omega) (Uf _),Jq (n-i+(m-j)) _ i (j+1) (by omega) (Uf _),Jq (n-i+(m-j)) _ (i+1) (j+1) (by omega) (Uf _)];rw[zv h1,zv h1]
def Rising(i j n m:Nat):List (Nat×Nat)->Prop
 |[]=>True
 |p::M=>i<=p.1/\j<=p.2/\p.1<n/\p.2<m/\Rising (p.1+1) (p.2+1) n m M
theorem Rising.less{i j h f n m:Nat}(hi:h<=i)(k:f<=j):∀{M:List (Nat×Nat)},Rising i j n m M->Rising h f n m M
 |[],_=>trivial
 |_::_,⟨a,b,c,d,e⟩=>⟨by omega,by omega,c,d,e⟩
theorem rz:∀(f i j:Nat),Rising i j n m (jZ n m sa sb c f i j)
 |0,i,j=>trivial
 |f+1,i,j=>by unfold jZ;split;rename_i h;split;exact⟨Uf _,Uf _,h.1,h.2,rz f _ _⟩;split;exact(rz f _ _).less (Nat.le_succ _) (Uf _);exact(rz f _ _).less (Uf _) (Nat.le_succ _);trivial
end
end Go.X
end
section
namespace Go.X
open Go Go.Lib
section
def Yv(v:Tr)(k:Bt):Tr:=v.items.getD (idxOfS v.keys k).toNat zT
def ij(v:Tr)(i:Nat):Tr:=v.items.getD i zT
def ig(i:Nat):Bt:=bl (Lib.itoa (i:Int))
def mC(p:List Bt):cR:=(bl pA,p,[],zT)
def mu(p:List Bt)(w:Tr):cR:=(bl nz,p,[],w)
def W9(p:List Bt)(w:Tr):cR:=(bl Qk,p,[],w)
def iO(D:List Bt->Tr->Tr->List cR)(p:List Bt)(a b:Tr):List cR:=
 ((zj a.keys).filter λk=>!b.keys.contains k).map (λk=>mC (p++[k])) ++
  (((zj a.keys).filter λk=>b.keys.contains k).flatMap (λk=>D (p++[k]) (Yv a k) (Yv b k)) ++
   ((zj b.keys).filter λk=>!a.keys.contains k).map (λk=>mu (p++[k]) (Yv b k)))
def iN(D:List Bt->Tr->Tr->List cR)(p:List Bt)(a b:Tr)(m:List (Nat×Nat)):List cR:=
 m.flatMap (λq=>D (p++[ig q.1]) (ij a q.1) (ij b q.2)) ++
  (((UO a.items.length).filter λi=>!(m.map (·.1)).contains i).reverse.map (λi=>mC (p++[ig i])) ++
   ((UO b.items.length).filter λi=>!(m.map (·.2)).contains i).map (λi=>mu (p++[ig i]) (ij b i)))
section
variable (rw : List Tr -> List Tr -> Option (List (Nat × Nat)))
def il:Nat->List Bt->Tr->Tr->List cR
 |0,_,_,_=>[]
 |f+1,p,a,b=>
  if y5 a b then []
  else if a.kind=6/\b.kind=6 then iO (il f) p a b
  else if a.kind=5/\b.kind=5 then(match rw a.items b.items with
   |some m=>iN (il f) p a b m
   |none=>[W9 p b])
  else [W9 p b]
end
def m7(o:cR):Prop:=o.2.2.1=[]/\(o.1=bl pA/\o.2.2.2=zT\/o.1=bl nz\/o.1=bl Qk)
theorem LI{D:List Bt->Tr->Tr->List cR}(e:∀p a b,∀o∈D p a b,m7 o)(p:List Bt)(a b:Tr):∀o∈iO D p a b,m7 o:=by intro o c;unfold iO at c;rcases Uo.1 c with h|h;obtain⟨k,_,rfl⟩:=UD.1 h;exact⟨rfl,Or.inl ⟨rfl,rfl⟩⟩;rcases Uo.1 h with h|h;obtain⟨k,_,h⟩:=Vy.1 h;exact e _ _ _ _ h;obtain⟨k,_,rfl⟩:=UD.1 h;exact⟨rfl,Or.inr (Or.inl rfl)⟩
theorem JY{D:List Bt->Tr->Tr->List cR}(e:∀p a b,∀o∈D p a b,m7 o)(p:List Bt)(a b:Tr)(m:List (Nat×Nat)):∀o∈iN D p a b m,m7 o:=by intro o c;unfold iN at c;rcases Uo.1 c with h|h;obtain⟨k,_,h⟩:=Vy.1 h;exact e _ _ _ _ h;rcases Uo.1 h with h|h;obtain⟨k,_,rfl⟩:=UD.1 h;exact⟨rfl,Or.inl ⟨rfl,rfl⟩⟩;obtain⟨k,_,rfl⟩:=UD.1 h;exact⟨rfl,Or.inr (Or.inl rfl)⟩
theorem vG{rw:List Tr->List Tr->Option (List (Nat×Nat))}:∀(f:Nat) (p:List Bt) (a b:Tr),∀o∈il rw f p a b,m7 o
 |0,p,a,b=>λo c=>nomatch c
 |f+1,p,a,b=>by
  unfold il;have one:∀o∈[W9 p b],m7 o:=λo c=>by rw[Ut.1 c];exact⟨rfl,Or.inr (Or.inr rfl)⟩
  split;exact λo c=>nomatch c;split;exact LI (λp a b=>vG f p a b) p a b;split;split;exact JY (λp a b=>vG f p a b) p a b _;exact one;exact one
end
section
variable {α:Type} {i:Nat} {v a b:Tr}
theorem uY{α:Type}(g:α->Nat)(p:α->Bool):∀l:List α,(l.map g).sum=((l.filter p).map g).sum+((l.filter λx=>!p x).map g).sum
 |[]=>rfl
 |x::l=>by have:=uY g p l;cases h:p x;rw[List.filter_cons_of_neg (by simp[h]),List.filter_cons_of_pos (by simp[h])];simp only[UJ,List.sum_cons];omega;rw[List.filter_cons_of_pos h,List.filter_cons_of_neg (by simp[h])];simp only[UJ,List.sum_cons];omega
theorem xA{α:Type}(g:α->Nat)(b:∀x,1<=g x):∀l:List α,l.length<=(l.map g).sum
 |[]=>Uf _
 |x::l=>by have:=xA g b l;have:=b x;simp only[UJ,List.sum_cons,Uz];omega
theorem G3{α:Type}(g g':α->Nat):∀l:List α,(l.map λx=>g x+g' x).sum=(l.map g).sum+(l.map g').sum
 |[]=>rfl
 |x::l=>by have:=G3 g g' l;simp only[UJ,List.sum_cons]at this ⊢;omega
theorem Hc{α:Type}{g g':α->Nat}:∀{l:List α},(∀x∈l,g x<=g' x)->(l.map g).sum<=(l.map g').sum
 |[],_=>Uf _
 |x::l,h=>by have:=Hc (l:=l) λy b=>h y (UG _ b);have:=h x (UF ..);simp only[UJ,List.sum_cons];omega
theorem tw{g:α->Nat}{l b:List α}(h:l.Perm b):(l.map g).sum=(b.map g).sum:=(h.map g).sum_nat
theorem rP{A B:List α}(c:A.Nodup)(b:B.Nodup)(h:∀x,x∈A↔x∈B):A.Perm B:=(List.perm_ext_iff_of_nodup c b).2 h
theorem pe:∀l:List Tr,jz l=(l.map bR).sum
 |[]=>rfl
 |x::l=>by rw[UJ,List.sum_cons,<-pe l];rfl
theorem tQ(v:Tr):1<=bR v:=by cases v;unfold bR;omega
theorem Hf{α β:Type}{A:List α}{B:List β}{M:List (α×β)}{ga:α->Nat}{gb:β->Nat}{D:α×β->Nat}(b:α->Bool)(pb:β->Bool) (h1:(A.filter b).Perm (M.map (·.1))) (c:(B.filter pb).Perm (M.map (·.2))) (h:∀x,1<=ga x) (e:∀x,1<=gb x) (f:∀q∈M,D q<=ga q.1+gb q.2):
  (A.filter λx=>!b x).length+(M.map D).sum+(B.filter λx=>!pb x).length<=(A.map ga).sum+(B.map gb).sum:=by
 have s1:=uY ga b A;have s2:=uY gb pb B;rw[tw h1,UZ]at s1;rw[tw c,UZ]at s2;have j:=xA ga h (A.filter λx=>!b x);have k:=xA gb e (B.filter λx=>!pb x);have t:=Hc f;have i:=G3 (λq:α×β=>ga q.1) (λq=>gb q.2) M;simp only[Function.comp_def]at s1 s2;omega
theorem j4{i j n m:Nat}:∀{M:List (Nat×Nat)},Rising i j n m M->(∀q∈M,i<=q.1/\q.1<n/\j<=q.2/\q.2<m)/\(M.map (·.1)).Nodup/\(M.map (·.2)).Nodup
 |[],_=>⟨λq f=>(nomatch f),V5,V5⟩
 |p::M,⟨a,b,c,d,e⟩=>by obtain⟨h,u,v⟩:=j4 e;refine⟨λq f=>?_,?_,?_⟩;rcases Up.1 f with rfl|f;exact⟨a,c,b,d⟩;have:=h q f;omega;rw[UJ,Vf];refine⟨λk=>?_,u⟩;obtain⟨q,f,e⟩:=UD.1 k;have:=h q f;omega;rw[UJ,Vf];refine⟨λk=>?_,v⟩;obtain⟨q,f,e⟩:=UD.1 k;have:=h q f;omega
theorem Gy(v:Tr):(UO v.items.length).map (ij v)=v.items:=by refine List.ext_getElem (by simp) λi h1 b=>?_;rw[VM,List.getElem_range];unfold ij;rw[Ux,Ul b];rfl
theorem Cz{l:List Bt}(h:l.Nodup)(hi:i<l.length):idxOfS l l[i]=(i:Int):=by rcases tY l[i] l 0 with⟨_,b⟩|⟨k,h1,b,c⟩;exact absurd (Ur hi) b;unfold idxOfS;rw[h1,Uy];rw[Ul b]at c;rw[(List.getElem_inj h).1 (UQ c)]
theorem vh(e:v.keys.Nodup)(b:v.keys.length=v.items.length):v.keys.map (Yv v)=v.items:=by refine List.ext_getElem (by simp[b]) λi h1 c=>?_;rw[VM];unfold Yv;rw[Cz e (by omega),Ui,Ux,Ul c];rfl
theorem nE(h:xp zm v=Ta)(b:v.kind=6):v.keys.Nodup/\v.keys.length=v.items.length:=by cases v;rename_i k s ks xs;unfold xp at h;rw[Uq]at h;have h:=h.1;have b:k=6:=b;subst b;simp[zm,j9,Tr.kind,Tr.keys,Tr.items]at h;exact⟨h.1.1.2,h.1.2⟩
theorem ma(e:v.keys.Nodup)(b:v.keys.length=v.items.length){k:Bt}(c:k∈v.keys):Yv v k∈v.items:=by rw[<-vh e b];exact UD.2 ⟨k,c,rfl⟩
theorem l7(h:i<v.items.length):ij v i∈v.items:=by unfold ij;rw[Ux,Ul h];exact Ur h
theorem Pt{D:List Bt->Tr->Tr->List cR}{p:List Bt}(na:a.keys.Nodup)(c:b.keys.Nodup)(la:a.keys.length=a.items.length)(lb:b.keys.length=b.items.length)
  (i:∀p x y,x∈a.items->y∈b.items->(D p x y).length<=bR x+bR y):(iO D p a b).length<=jz a.items+jz b.items:=by
 have f:=qe a.keys;have pb:=qe b.keys;have h:∀k,k∈zj a.keys↔k∈a.keys:=λk=>f.mem_iff;have l:∀k,k∈zj b.keys↔k∈b.keys:=λk=>pb.mem_iff;have H:=Hf (A:=zj a.keys) (B:=zj b.keys) (M:=((zj a.keys).filter λk=>b.keys.contains k).map λk=>(k,k)) (ga:=λk=>bR (Yv a k)) (gb:=λk=>bR (Yv b k)) (D:=λq=>(D (p++[q.1]) (Yv a q.1) (Yv b q.2)).length) (λk=>b.keys.contains k) (λk=>a.keys.contains k) (by rw[UZ];simp only[Function.comp_def,List.map_id'];exact List.Perm.refl _) (by rw[UZ];simp only[Function.comp_def,List.map_id'];refine rP ((pb.nodup_iff.2 c).filter _) ((f.nodup_iff.2 na).filter _) λx=>?_;rw[U0,U0,h,l,List.contains_iff_mem,List.contains_iff_mem];exact And.comm) (λ_=>tQ _) (λ_=>tQ _) (by intro q j;obtain⟨k,e,rfl⟩:=UD.1 j;rw[U0,h,List.contains_iff_mem]at e;exact i _ _ _ (ma na la e.1) (ma c lb e.2));rw[tw f,tw pb]at H;have m:(a.keys.map λk=>bR (Yv a k)).sum=jz a.items:=by rw[pe,<-vh na la,UZ];rfl
 have n:(b.keys.map λk=>bR (Yv b k)).sum=jz b.items:=by rw[pe,<-vh c lb,UZ];rfl
 rw[m,n,UZ]at H;unfold iO;rw[Uk,Uk,Um,Um,List.length_flatMap];simp only[Function.comp_def]at H;omega
theorem IZ{D:List Bt->Tr->Tr->List cR}{p:List Bt}{m:List (Nat×Nat)}(j:Rising 0 0 a.items.length b.items.length m)
  (f:∀p x y,x∈a.items->y∈b.items->(D p x y).length<=bR x+bR y):(iN D p a b m).length<=jz a.items+jz b.items:=by
 obtain⟨e,k,n⟩:=j4 j;have H:=Hf (A:=UO a.items.length) (B:=UO b.items.length) (M:=m) (ga:=λi=>bR (ij a i)) (gb:=λi=>bR (ij b i)) (D:=λq=>(D (p++[ig q.1]) (ij a q.1) (ij b q.2)).length) (λi=>(m.map (·.1)).contains i) (λi=>(m.map (·.2)).contains i) (rP (List.nodup_range.filter _) k λx=>by rw[U0,UT,List.contains_iff_mem];refine⟨λh=>h.2,λh=>⟨?_,h⟩⟩;obtain⟨q,c,rfl⟩:=UD.1 h;exact(e q c).2.1) (rP (List.nodup_range.filter _) n λx=>by rw[U0,UT,List.contains_iff_mem];refine⟨λh=>h.2,λh=>⟨?_,h⟩⟩;obtain⟨q,c,rfl⟩:=UD.1 h;exact(e q c).2.2.2) (λ_=>tQ _) (λ_=>tQ _) (λq c=>f _ _ _ (l7 (e q c).2.1) (l7 (e q c).2.2.2));have l:((UO a.items.length).map λi=>bR (ij a i)).sum=jz a.items:=by
  conv=>rhs;rw[<-Gy a]
  rw[pe,UZ];rfl
 have o:((UO b.items.length).map λi=>bR (ij b i)).sum=jz b.items:=by
  conv=>rhs;rw[<-Gy b]
  rw[pe,UZ];rfl
 rw[l,o]at H;unfold iN;rw[Uk,Uk,Um,Um,List.length_flatMap,List.length_reverse];omega
theorem Ad{rw:List Tr->List Tr->Option (List (Nat×Nat))}(c:∀us ws m,rw us ws=Td m->Rising 0 0 us.length ws.length m):
  ∀(f:Nat) (p:List Bt) (a b:Tr),xp zm a=Ta->xp zm b=Ta->(il rw f p a b).length<=bR a+bR b
 |0,p,a,b,_,_=>UB _
 |f+1,p,a,b,ha,hb=>by have n:=wq a;have tb:=wq b;have e:∀p x y,x∈a.items->y∈b.items->(il rw f p x y).length<=bR x+bR y:=λp x y j i=>Ad c f p x y (yd ha j) (yd hb i);unfold il;split;exact UB _;split;rename_i h;obtain⟨na,la⟩:=nE ha h.1;obtain⟨k,lb⟩:=nE hb h.2;have:=Pt (p:=p) na k la lb e;omega;split;split;rename_i m l;have:=IZ (p:=p) (c _ _ _ l) e;omega;show 1<=_;omega;show 1<=_;omega
end
section
variable {α:Type} {a b:Tr}
theorem BR:∀{xs ys:List Tr},xs.length=ys.length->(∀(i:Nat) (h1:i<xs.length) (b:i<ys.length),y5 xs[i] ys[i]=Ta)->kC xs ys=Ta
 |[],[],_,_=>by unfold kC;rfl
 |x::xs,y::ys,hl,h=>by unfold kC;have h0:y5 x y=Ta:=h 0 (Nat.succ_pos _) (Nat.succ_pos _);rw[h0,BR (Nat.succ.inj hl) λi h1 b=>h (i+1) (Nat.succ_lt_succ h1) (Nat.succ_lt_succ b)];rfl
 |[],_::_,hl,_=>nomatch hl
 |_::_,[],hl,_=>nomatch hl
theorem G7{b:Tr}(l:b.keys.length=b.items.length):∀{ks:List Bt} {xs:List Tr},ks.length=xs.length->(∀(i:Nat) (h1:i<ks.length) (c:i<xs.length),ks[i]∈b.keys/\y5 xs[i] (Yv b ks[i])=Ta)->ke ks xs b=Ta
 |[],[],_,_=>by unfold ke;rfl
 |k::ks,x::xs,hl,h=>by
  unfold ke;rw[G7 l (Nat.succ.inj hl) λi h1 c=>h (i+1) (Nat.succ_lt_succ h1) (Nat.succ_lt_succ c)];obtain⟨h1,c⟩:=h 0 (Nat.succ_pos _) (Nat.succ_pos _);have h1:k∈b.keys:=h1;have c:y5 x (Yv b k)=Ta:=c;rcases tY k b.keys 0 with⟨_,f⟩|⟨j,f,m,_⟩;exact absurd h1 f;have e:idxOfS b.keys k=(j:Int):=by unfold idxOfS;rw[f,Uy]
  unfold Yv at c;rw[e,Ui,Ux,Ul (by omega:j<b.items.length)]at c;rw[e,Ui,Ul (by omega:j<b.items.length)];have c:y5 x b.items[j]=Ta:=c;simp[c]
 |[],_::_,hl,_=>nomatch hl
 |_::_,[],hl,_=>nomatch hl
theorem Fj{n m:Nat}:∀{M:List (Nat×Nat)} {i j:Nat},i<=n->j<=m->Rising i j n m M->(∀k,i<=k->k<n->k∈M.map (·.1))->(∀k,j<=k->k<m->k∈M.map (·.2))->n-i=m-j/\∀k,k<n-i->(i+k,j+k)∈M
 |[],i,j,hi,hj,_,h1,h2=>by have a:n<=i:=Nat.le_of_not_lt λh=>nomatch h1 i (Uf _) h;have b:m<=j:=Nat.le_of_not_lt λh=>nomatch h2 j (Uf _) h;exact⟨by omega,λk l=>by omega⟩
 |p::M,i,j,hi,hj,⟨a,b,c,d,e⟩,h1,h2=>by
  have r:=(j4 e).1;have t:p.1=i:=by rcases Up.1 (h1 i (Uf _) (by omega))with h|h;exact h.symm;obtain⟨q,o,e⟩:=UD.1 h;have:=r q o;omega
  have w:p.2=j:=by rcases Up.1 (h2 j (Uf _) (by omega))with h|h;exact h.symm;obtain⟨q,o,e⟩:=UD.1 h;have:=r q o;omega
  have A:Rising (i+1) (j+1) n m M:=by rw[<-t,<-w];exact e
  have y:i+1<=n:=by omega
  have z:j+1<=m:=by omega
  obtain⟨u,v⟩:=Fj y z A (λk l f=>by
    rcases Up.1 (h1 k (by omega) f)with h|h;have h:k=p.1:=h;omega
    ·exact h) (λk l f=>by
    rcases Up.1 (h2 k (by omega) f)with h|h;have h:k=p.2:=h;omega;exact h)
  refine⟨by omega,λk l=>?_⟩;cases k with
  |zero=>rw[show(i+0,j+0)=p from Prod.ext t.symm w.symm];exact UF ..
  |succ k=>have:=v k (by omega);rw[show i+(k+1)=i+1+k by omega,show j+(k+1)=j+1+k by omega];exact UG _ this
theorem sC{p:α->Bool}{l:List α}(h:l.filter (λx=>!p x)=[]):∀x∈l,p x=Ta:=λx b=>by cases e:p x;have:x∈l.filter λx=>!p x:=U0.2 ⟨b,by simp[e]⟩;rw[h]at this;exact nomatch this;rfl
theorem FO{α β:Type}{g:α->List β}{l:List α}(h:l.flatMap g=[]):∀x∈l,g x=[]:=λx b=>by have:=List.flatMap_eq_nil_iff.1 h;exact this x b
theorem It{D:List Bt->Tr->Tr->List cR}{p:List Bt}(na:a.keys.Nodup)(l:b.keys.Nodup)(la:a.keys.length=a.items.length)(lb:b.keys.length=b.items.length)(c:a.kind=6)(f:b.kind=6)(q:a.text=b.text)
  (r:∀p x y,x∈a.items->y∈b.items->D p x y=[]->y5 x y=Ta) (h:iO D p a b=[]):y5 a b=Ta:=by
 unfold iO at h;obtain⟨h1,h⟩:=WB.1 h;obtain⟨n,w⟩:=WB.1 h;have m:=qe a.keys;have pb:=qe b.keys;have e:∀k∈a.keys,k∈b.keys:=λk c=>List.contains_iff_mem.1 (sC (List.map_eq_nil_iff.1 h1) k (m.mem_iff.2 c));have t:∀k∈b.keys,k∈a.keys:=λk c=>List.contains_iff_mem.1 (sC (List.map_eq_nil_iff.1 w) k (pb.mem_iff.2 c));have k2:∀k∈a.keys,y5 (Yv a k) (Yv b k)=Ta:=λk c=>r _ _ _ (ma na la c) (ma l lb (e k c)) (FO n k (U0.2 ⟨m.mem_iff.2 c,List.contains_iff_mem.2 (e k c)⟩));have u:a.keys.length=b.keys.length:=(rP na l λx=>⟨e x,t x⟩).length_eq;have z:ke a.keys a.items b=Ta:=G7 lb la λi j o=>by refine⟨e _ (Ur j),?_⟩;have:=k2 _ (Ur j);unfold Yv at this;rw[Cz na j,Ui,Ux,Ul o]at this;exact this
 rw[Xu];simp[c,f,q,z,<-la,<-lb,u]
theorem Is{D:List Bt->Tr->Tr->List cR}{p:List Bt}{m:List (Nat×Nat)}(B:Rising 0 0 a.items.length b.items.length m)(c:a.kind=5)(f:b.kind=5)(t:a.text=b.text)
  (u:∀p x y,x∈a.items->y∈b.items->D p x y=[]->y5 x y=Ta) (h:iN D p a b m=[]):y5 a b=Ta:=by
 unfold iN at h;obtain⟨r,h⟩:=WB.1 h;obtain⟨h1,z⟩:=WB.1 h;have q:∀k,0<=k->k<a.items.length->k∈m.map (·.1):=λk _ c=>List.contains_iff_mem.1 (sC (p:=λi=>(m.map (·.1)).contains i) (List.reverse_eq_nil_iff.1 (List.map_eq_nil_iff.1 h1)) k (UT.2 c));have w:∀k,0<=k->k<b.items.length->k∈m.map (·.2):=λk _ c=>List.contains_iff_mem.1 (sC (p:=λi=>(m.map (·.2)).contains i) (List.map_eq_nil_iff.1 z) k (UT.2 c));obtain⟨n,e⟩:=Fj (UB _) (UB _) B q w;have A:kC a.items b.items=Ta:=BR (by omega) λi o j=>by have l:=e i (by omega);rw[Uy]at l;have:=u _ _ _ (l7 o) (l7 j) (FO r _ l);unfold ij at this;rw[Ux,Ul o,Ux,Ul j]at this;exact this
 rw[Xu];have n:a.items.length=b.items.length:=by omega
 simp[c,f,t,A,n]
theorem pF:∀{l:List Tr} {x:Tr},x∈l->gK x<=fR l
 |y::l,x,h=>by unfold fR;rcases Up.1 h with rfl|h;omega;have:=pF h;omega
theorem tF{v:Tr}(h:xp zm v=Ta)(b:v.kind=5\/v.kind=6):lb v.text=[]:=by have h:=Qi h;unfold zm at h;rcases b with e|e <;> simp[e]at h <;> simp[h]
theorem D9{rw:List Tr->List Tr->Option (List (Nat×Nat))}(j:∀us ws m,rw us ws=Td m->Rising 0 0 us.length ws.length m):
  ∀(f:Nat) (p:List Bt) (a b:Tr),gK a<=f->xp zm a=Ta->xp zm b=Ta->il rw f p a b=[]->y5 a b=Ta
 |0,p,a,b,hf,_,_,_=>by have:=Qf a;omega
 |f+1,p,a,b,hf,ha,hb,h=>by have l:∀p x y,x∈a.items->y∈b.items->il rw f p x y=[]->y5 x y=Ta:=λp x y k n=>D9 j f p x y (by have:=pF k;have:=Qf a;omega) (yd ha k) (yd hb n);unfold il at h;split at h;assumption;split at h;rename_i c;obtain⟨na,la⟩:=nE ha c.1;obtain⟨o,i⟩:=nE hb c.2;exact It na o la i c.1 c.2 (nS.1 (by rw[tF ha (Or.inr c.1),tF hb (Or.inr c.2)])) l h;split at h;rename_i e;split at h;rename_i m q;exact Is (j _ _ _ q) e.1 e.2 (nS.1 (by rw[tF ha (Or.inl e.1),tF hb (Or.inl e.2)])) l h;exact nomatch h;exact nomatch h
theorem TR{rw:List Tr->List Tr->Option (List (Nat×Nat))}{f:Nat}{p:List Bt}(h:y5 a b=Ta):il rw f p a b=[]:=by
 cases f with
 |zero=>rfl
 |succ f=>unfold il;rw[zA h]
end
end Go.X
end
section
namespace Go.X
open Go Go.X Go.Proofs Go.Lib
section
variable {v:Tr} {l:List Tr} {k:Nat}
structure GV (v:Tr):Prop where
 r:zi v=Ta
 s:Sm v
theorem JU{v x:Tr}(h:zi v=Ta)(c:x∈v.items):zi x=Ta:=by unfold zi xq at h ⊢;rw[Uq,Uq]at h ⊢;have h1:=qn c;have e:=pF c;have f:=Qf v;have a:=zH h.1.1;have b:=zH h.1.2;exact⟨⟨zJ (by omega),zJ (by omega)⟩,yd h.2 c⟩
theorem GV.item{v x:Tr}(H:GV v)(b:x∈v.items):GV x:=⟨JU H.r b,H.s.item b⟩
theorem GV.open(H:GV v):j3 v=Ta:=vt H.r
theorem GV.ok(H:GV v):xp zm v=Ta:=yM H.open
theorem GV.dp(H:GV v):gK v<=32:=by have h:=H.r;unfold zi xq at h;rw[Uq,Uq]at h;exact zH h.1.2
theorem GV.sz(H:GV v):bR v<=4096:=GA H.open
theorem GV.len(H:GV v):v.items.length<=4096:=by have:=H.sz;have:=Zg v.items;have:=wq v;omega
theorem GV.keys(H:GV v)(b:v.kind=6):v.keys.Nodup/\v.keys.length=v.items.length:=nE H.ok b
theorem MX(v:Tr):(Zt v).1.1.length<=512/\(Zt v).1.2.length<=512:=by unfold Zt;split;split;exact⟨UB _,UB _⟩;rename_i h;have:=qE (zo v) 0;unfold qK;simp only[Um];omega;exact⟨UB _,UB _⟩
def jD(l:List Tr):Nat:=(l.map λv=>(Zt v).1.1.length).sum
def wb(l:List Tr):Option (List (List Bt×List Int)):=if 64<l.length\/(l.any λv=>decide ((Zt v).2≠0))=Ta\/512<jD l then Te else Td (l.map λv=>(Zt v).1)
def lL:Option (List (List Bt×List Int))->List (List Bt×List Int)×Int
 |some x=>(x,0)
 |none=>([],6)
theorem Sj(b:k<l.length):jD (l.take (k+1))=jD (l.take k)+(Zt l[k]).1.1.length:=by unfold jD;rw[Un b,U3,List.sum_append];simp
theorem Np:jD (l.take k)<=jD l:=by
 unfold jD;conv=>rhs;rw[<-Vr k l]
 rw[U3,List.sum_append];omega
theorem Ox{q:Tr->Bool}(b:k<l.length):(l.take (k+1)).any q=((l.take k).any q||q l[k]):=by rw[Un b,List.any_append];simp
theorem Rw(b:k<l.length)(h:(Zt l[k]).2≠0\/512<jD (l.take (k+1))):wb l=Te:=by unfold wb;rw[zA];rcases h with h|h;exact .inr (.inl (XJ.2 ⟨l[k],Ur b,by simpa using h⟩));exact .inr (.inr (VP h Np))
theorem JQ(h1:l.length<=64)(b:(l.any λv=>decide ((Zt v).2≠0))=Tc)(c:jD l<=512):wb l=Td (l.map λv=>(Zt v).1):=by unfold wb;rw[zv];rintro(h|h|h);omega;rw[b]at h;exact nomatch h;omega
section
variable {gl : Fr}
theorem BE(q:GL gl)(w:Brn gl)(t:∀v∈l,GV v)(A:l.length<=1000000){R:List (List Bt×List Int)×Int->Prop}(h:R (lL (wb l))):PC Tp gl 182 [Arg.mk (.row .tree) l] [.row jc,.int .i64] R:=by
 apply N8;refine⟨λi=>∃k:Nat,i=k/\k<=l.length,λi=>l.length-i.toNat,⟨0,rfl,UB _⟩,?_⟩;rintro i ⟨k,rfl,y⟩;refine⟨λj=>?_,λj=>?_⟩;have b:k<l.length:=by simp at j;omega
 have m:=t _ (Ur b);refine⟨l[k],⟨by omega,by rw[Ui];exact Ul b⟩,?_⟩;rw[Zu];refine Ql q m.s ?_;rw[m.r];refine⟨λe=>(by cases e),λ_=>?_⟩;rw[ja b (by omega)];exact⟨⟨k+1,rfl,b⟩,by simp only[Ui];omega⟩;refine⟨λc=>?_,λc=>?_⟩;have:wb l=Te:=by unfold wb;rw[zA (.inl (by simp at c;omega))]
 rw[this]at h;exact h;have c:l.length<=64:=by simp at c;omega
 refine⟨λout left i=>∃k:Nat,i=k/\k<=l.length/\out=(l.take k).map (λv=>(Zt v).1)/\left=512-(jD (l.take k):Int)/\jD (l.take k)<=512/\((l.take k).any λv=>decide ((Zt v).2≠0))=Tc,λ_ _ i=>l.length-i.toNat,⟨0,rfl,UB _,rfl,rfl,UB _,rfl⟩,?_⟩;rintro out left i ⟨k,rfl,y,rfl,rfl,u,p⟩;refine⟨λj=>?_,λj=>?_⟩;have b:k<l.length:=by simp at j;omega
 have m:=t _ (Ur b);refine⟨l[k],⟨by omega,by rw[Ui];exact Ul b⟩,?_⟩;rw[Zu];refine RZ q w m.s ?_;have z:=(MX l[k]).1;have hL:=Sj b;rw[hH (n:=512-(jD (l.take k):Int)-((Zt l[k]).1.1.length:Nat)) (by omega)];refine⟨λe=>?_,λe=>?_⟩;have:wb l=Te:=Rw b (by
  by_cases f:(Zt l[k]).2=0;right;rw[f]at e;have:512-(jD (l.take k):Int)-((Zt l[k]).1.1.length:Nat)<0:=by simpa using e
  omega;exact .inl f)
 rw[this]at h;exact h;have o:(Zt l[k]).2=0/\¬512-(jD (l.take k):Int)-((Zt l[k]).1.1.length:Nat)<0:=by cases f:((Zt l[k]).2 != 0);rw[f]at e;exact⟨by simpa using f,by simpa using e⟩;rw[f]at e;exact nomatch e
 rw[ja b (by omega)];refine⟨by simp;omega,⟨k+1,rfl,b,?_,by omega,by omega,?_⟩,by simp only[Ui];omega⟩;rw[Un b,U3];rfl;rw[Ox b,p];simpa using o.1;have:k=l.length:=by simp at j;omega
 subst this;rw[UE]at u p ⊢;rw[JQ c p u]at h;exact h
end
end
end Go.X
end
section
namespace Go.X
section
section
variable (la lb : Nat -> Nat) (tn : Nat -> Nat -> Nat)
def gF(P:Nat->Nat->Nat)(fa fb:Nat):Nat->Nat->Nat->Nat
 |0,x,y=>x+y
 |_+1,0,y=>y
 |_+1,x+1,0=>x+1
 |f+1,x+1,y+1=>min (1+min (gF P fa fb f x (y+1)) (gF P fa fb f (x+1) y))
   (if la (fa+x)=fa/\lb (fb+y)=fb then gF P fa fb f x y+tn (fa+x) (fb+y)else gF P fa fb f (la (fa+x)-fa) (lb (fb+y)-fb)+P (fa+x) (fb+y))
def gN(P:Nat->Nat->Nat)(fa fb x y:Nat):Nat:=gF la lb tn P fa fb (x+y) x y
end
def Frs(la:Nat->Nat)(fa x:Nat):Prop:=∀k,k<x->fa<=la (fa+k)/\la (fa+k)<=fa+k
theorem Frs.less{la:Nat->Nat}{fa x b:Nat}(h:Frs la fa x)(e:b<=x):Frs la fa b:=λk c=>h k (by omega)
variable {la lb : Nat -> Nat} {tn : Nat -> Nat -> Nat} {P P' : Nat -> Nat -> Nat} {fa fb : Nat}
theorem Xa:∀(f c x y:Nat),Frs la fa x->Frs lb fb y->x+y<=f->x+y<=c->gF la lb tn P fa fb f x y=gF la lb tn P fa fb c x y
 |f,c,0,y,_,_,_,_=>by cases f <;> cases c <;> simp[gF]
 |f,c,x+1,0,_,_,_,_=>by cases f <;> cases c <;> simp[gF]
 |0,c,x+1,y+1,_,_,h,_=>by omega
 |f+1,0,x+1,y+1,_,_,_,h=>by omega
 |f+1,c+1,x+1,y+1,ha,hb,h,h'=>by have a:=ha x (by omega);have b:=hb y (by omega);unfold gF;rw[Xa f c x (y+1) (ha.less (by omega)) hb (by omega) (by omega),Xa f c (x+1) y ha (hb.less (by omega)) (by omega) (by omega),Xa f c x y (ha.less (by omega)) (hb.less (by omega)) (by omega) (by omega),Xa f c (la (fa+x)-fa) (lb (fb+y)-fb) (ha.less (by omega)) (hb.less (by omega)) (by omega) (by omega)]
theorem yX(y:Nat):gN la lb tn P fa fb 0 y=y:=by unfold gN;cases y <;> simp[gF]
theorem EG(x:Nat):gN la lb tn P fa fb x 0=x:=by unfold gN;cases x <;> simp[gF]
theorem AL{x y:Nat}(h:Frs la fa (x+1))(f:Frs lb fb (y+1)):gN la lb tn P fa fb (x+1) (y+1)=min (1+min (gN la lb tn P fa fb x (y+1)) (gN la lb tn P fa fb (x+1) y))
  (if la (fa+x)=fa/\lb (fb+y)=fb then gN la lb tn P fa fb x y+tn (fa+x) (fb+y)else gN la lb tn P fa fb (la (fa+x)-fa) (lb (fb+y)-fb)+P (fa+x) (fb+y)):=by
 have a:=h x (by omega);have b:=f y (by omega);have e:=h.less (Nat.le_succ x);have c:=f.less (Nat.le_succ y);unfold gN;rw[show x+1+(y+1)=(x+y+1)+1 by omega,gF];rw[Xa (x+y+1) (x+(y+1)) x (y+1) e f (by omega) (by omega),Xa (x+y+1) (x+1+y) (x+1) y h c (by omega) (by omega),Xa (x+y+1) (x+y) x y e c (by omega) (by omega),Xa (x+y+1) (la (fa+x)-fa+(lb (fb+y)-fb)) _ _ (h.less (by omega)) (f.less (by omega)) (by omega) (by omega)]
theorem t8:∀(n x y:Nat),x+y<=n->Frs la fa x->Frs lb fb y->gN la lb tn P fa fb x y<=x+y
 |n,0,y,_,_,_=>by rw[yX];omega
 |n,x+1,0,_,_,_=>by rw[EG];omega
 |0,x+1,y+1,h,_,_=>by omega
 |n+1,x+1,y+1,h,ha,hb=>by have h1:=t8 n x (y+1) (by omega) (ha.less (by omega)) hb;rw[AL ha hb];omega
end
section
def Rt(la:Nat->Nat)(n:Nat):Prop:=∀i,i<n->la i<=i/\∀k,k<i->la i<=k->la i<=la k
theorem Rt.frs{la:Nat->Nat}{n i:Nat}(h:Rt la n)(hi:i<n):Frs la (la i) (i+1-la i):=λk c=>by obtain⟨a,b⟩:=h i hi;have:=(h (la i+k) (by omega)).1;by_cases e:la i+k=i;rw[e];omega;exact⟨b _ (by omega) (by omega),this⟩
section
variable (la lb : Nat -> Nat) (tn : Nat -> Nat -> Nat)
def og(P:Nat->Nat->Nat)(c b:Nat):Nat->Nat->Nat:=λi j=>if la i=la c/\lb j=lb b/\i<=c/\j<=b then gN la lb tn P (la c) (lb b) (i+1-la c) (j+1-lb b)else P i j
end
variable {la lb : Nat -> Nat} {tn : Nat -> Nat -> Nat} {n m : Nat}
def p8(la lb:Nat->Nat)(tn:Nat->Nat->Nat)(e:List Nat)(P:Nat->Nat->Nat)(f:List Nat):Nat->Nat->Nat:=f.foldl (λP c=>e.foldl (λP b=>og la lb tn P c b) P) P
end
end Go.X
end
section
namespace Go.X
open Go Go.Lib
section
def aR(t:List Bt×List Int)(i:Nat):Nat:=(cK t.2 i).toNat
def eK(s t:List Bt×List Int)(i j:Nat):Nat:=if rh s.1 i=rh t.1 j then 0 else 1
theorem oM{t:List Bt×List Int}(h:kn t.2 t.2.length=Ta):Rt (aR t) t.2.length:=λi hi=>by obtain⟨a,b,c⟩:=Jo.1 (Xw.1 h i hi);refine⟨by unfold aR;omega,λk e f=>?_⟩;have:=c k e (by unfold aR at f;omega);unfold aR;omega
def tc(s t:List Bt×List Int):Nat->Nat->Nat:=p8 (aR s) (aR t) (eK s t) (Jp t.2) (λ_ _=>0) (Jp s.2)
theorem CW{la:Nat->Nat}{n:Nat}(h:Rt la n):Frs la 0 n:=λk b=>⟨UB _,by rw[Uy];exact(h k b).1⟩
end
end Go.X
end
section
namespace Go.X
section
abbrev hY:=List Bt×List Int
abbrev oq:=Int×Int
def mV(p:Nat×Nat):oq:=((p.1:Int),(p.2:Int))
def tG(e:Int)(s t:hY):Int×Int:=if(zx s&&zx t)=Ta then((gN (aR s) (aR t) (eK s t) (tc s t) 0 0 s.2.length t.2.length:Nat),0)else(0,e)
theorem SI{t:hY}(h:zx t=Ta):t.1.length=t.2.length/\kn t.2 t.2.length=Ta:=by unfold zx at h;simp only[Uq,zG]at h;exact⟨h.1.1,h.2⟩
theorem r7{t:hY}(h:zx t=Ta){i:Nat}(hi:i<t.2.length):cK t.2 i=((aR t i:Nat):Int):=by have:=(Jo.1 (Xw.1 (SI h).2 i hi)).1;unfold aR;omega
end
end Go.X
end
section
namespace Go.X
open Go Go.X Go.Proofs Go.Lib
section
variable {us ws:List Tr}
abbrev jp:Ty:=.pair (.int .i64) (.int .i64)
def Qo(s t:hY):Nat:=gN (aR s) (aR t) (eK s t) (tc s t) 0 0 s.2.length t.2.length
def dK:hY:=([],[])
section
variable (x y : List hY)
def xW:List (Nat×Nat):=mX x.length y.length (λi=>(x.getD i dK).1.length) (λj=>(y.getD j dK).1.length) (λi j=>Qo (x.getD i dK) (y.getD j dK)) 0 0
def eR:Nat->Nat->Nat:=iR x.length y.length (λi=>(x.getD i dK).1.length) (λj=>(y.getD j dK).1.length) (λi j=>Qo (x.getD i dK) (y.getD j dK))
end
def jt(us ws:List Tr):Option (List (Nat×Nat)):=match wb us with
 |none=>Te
 |some x=>match wb ws with
  |none=>Te
  |some y=>Td (xW x y)
def mz(us ws:List Tr):List oq×Int×Int:=match wb us with
 |none=>([],0,6)
 |some x=>match wb ws with
  |none=>([],0,6)
  |some y=>((xW x y).map mV,((eR x y 0 0:Nat):Int),0)
theorem GY{l:List Tr}{x:List hY}(h:wb l=Td x):x.length=l.length:=by unfold wb at h;split at h;exact nomatch h;rw[<-UQ h,Um]
theorem Zd:∀us ws m,jt us ws=Td m->Rising 0 0 us.length ws.length m:=λus ws m h=>by unfold jt at h;split at h;exact nomatch h;rename_i x c;split at h;exact nomatch h;rename_i y b;rw[<-UQ h,<-GY c,<-GY b];exact rz _ _ _
theorem NL{m:List (Nat×Nat)}(h:jt us ws=Td m):∃c,mz us ws=(m.map mV,c,0):=by unfold jt at h;unfold mz;split at h;exact nomatch h;rename_i x e;split at h;exact nomatch h;rename_i y b;rw[<-UQ h];exact⟨_,rfl⟩
theorem Ma(h:jt us ws=Te):mz us ws=([],0,6):=by unfold jt at h;unfold mz;split at h;rfl;rename_i x b;split at h;rfl;exact nomatch h
abbrev dR:Nat->List Bt->Tr->Tr->List cR:=il jt
section
variable {gl : Fr}
section
variable {a b : Tr} {p : List Bt} {D : List Bt -> Tr -> Tr -> List cR}
end
end
end
end Go.X
end
section
namespace Go.X
open Go Go.X Go.Proofs Go.RowKit
section
variable {M:Fr} {h h':zc} {n i b pb m:Nat} {y:Int} {K:zc -> Prop} {Q:Int -> Prop}
theorem AgM.off{h g:zc}(ag:AgM M h)(f:∀b c,M b=Td c->g[b]?=h[b]?):AgM M g:=λb c e=>by rw[f b c e];exact ag b c e
theorem o5{x y:Int}(h:y=x+1)(h0:0<=x)(h1:x<(n:Int)):n-y.toNat<n-x.toNat:=by omega
def jP(n:Nat)(f:Nat->Nat):List Value:=(UO n).map λi=>Vo .i64 ((f i:Nat):Int)
theorem Xx(n:Nat)(f:Nat->Nat):(jP n f).length=n:=by simp[jP]
theorem tm{f:Nat->Nat}(h:i<n):(jP n f)[i]?=Td (.int .i64 ((f i:Nat):Int)):=by simp[jP,h]
theorem IT{f b:Nat->Nat}(e:∀i,i<n->f i=b i):jP n f=jP n b:=VN λi hi=>by rw[e i (UT.1 hi)]
theorem IL{f:Nat->Nat}{i x:Nat}:(jP n f).set i (.int .i64 ((x:Nat):Int))=jP n λj=>if j=i then x else f j:=by apply U1;intro j;rw[List.getElem?_set];by_cases c:j<n;rw[tm c,tm c,Xx];by_cases e:i=j;subst e;rw[zA rfl,zA c,zA rfl];rw[zv e,zv λh=>e h.symm];rw[U5 (by rw[Xx];omega),U5 (by rw[Xx];omega),Xx];split;split;rename_i a b;omega;rfl;rfl
def IntB(h:zc)(b n:Nat)(f:Nat->Nat):Prop:=Blk h b (jP n f).toArray
theorem IntB.keep{f:Nat->Nat}(H:IntB h b n f)(k:h'[b]?=h[b]?):IntB h' b n f:=Blk.keep H k
theorem IntB.ext{f c:Nat->Nat}(H:IntB h b n f)(e:∀i,i<n->f i=c i):IntB h b n c:=by unfold IntB;rw[<-IT e];exact H
theorem IntB.cell{f:Nat->Nat}(H:IntB h b n f)(hi:i<n):zd h ⟨b,i,Te⟩=Td (.int .i64 ((f i:Nat):Int)):= Blk.cell H (by rw[<-U2];exact tm hi)
theorem IntB.set{f:Nat->Nat}(H:IntB h b n f){i x:Nat}(hi:i<n)(k:∀h',IntB h' b n (λj=>if j=i then x else f j)->h'.size=h.size->(∀j,j≠b->h'[j]?=h[j]?)->K h'):
  XRunU Tp (Uj 3 (.pointer (Td ⟨b,i,Te⟩)) (.int .i64 ((x:Nat):Int))) h K:=by
 refine jo CU (by kernel_rfl) H (by rw[List.size_toArray,Xx];exact hi) rfl λg' c m l=>k g' ?_ m l;unfold IntB;rw[<-IL];have e:(jP n f).toArray.setIfInBounds i (.int .i64 ((x:Nat):Int))=((jP n f).set i (.int .i64 ((x:Nat):Int))).toArray:=by simp
 rw[e]at c;exact c
theorem MZ(n:Nat):Vx n (Vo .i64 0)=jP n λ_=>0:=by apply U1;intro i;rw[List.getElem?_replicate];by_cases hi:i<n;rw[zA hi,tm hi];rfl;rw[zv hi,U5 (by rw[Xx];omega)]
theorem ut{t:TypeId}(E:ElemT Tp t 3 (.int .i64 0) 1 8)(c:n<=1000000){K:Value->zc->Prop}(b:∀h',h'=h.push (.cells (jP n λ_=>0).toArray 3)->IntB h' h.size n (λ_=>0)->Keep h.size h h'->h'.size=h.size+1->K (aK ⟨Td ⟨h.size,0,Te⟩,n,n⟩) h'):
  qt Tp (UW t (.int .i64 (n:Int)) (.int .i64 (n:Int))) h K:=by
 refine rJ E rfl (by omega) c ?_;rw[MZ];exact b _ rfl (Blk.new _ _ _) (Keep.push _ _ (Uf _)) (Uh _)
def y7(n m:Nat)(B:Nat->Nat):List Value:=(UO n).map λi=>aK ⟨Td ⟨B i,0,Te⟩,m,m⟩
structure Mat (h:zc) (pb:Nat) (B:Nat->Nat) (n m:Nat) (P:Nat->Nat->Nat):Prop where
 top:Blk h pb (y7 n m B).toArray
 row:∀i,i<n->IntB h (B i) m (P i)
 inj:∀i j,i<n->j<n->B i=B j->i=j
 hb:∀i,i<n->pb<B i
theorem Mat.keep{B:Nat->Nat}{P:Nat->Nat->Nat}(H:Mat h pb B n m P)(b:h'[pb]?=h[pb]?)(k:∀i,i<n->h'[B i]?=h[B i]?):Mat h' pb B n m P:= ⟨H.top.keep b,λi hi=>(H.row i hi).keep (k i hi),H.inj,H.hb⟩
theorem Mat.ext{B:Nat->Nat}{P P':Nat->Nat->Nat}(H:Mat h pb B n m P)(e:∀i j,i<n->j<m->P i j=P' i j):Mat h pb B n m P':= ⟨H.top,λi hi=>(H.row i hi).ext λj b=>e i j hi b,H.inj,H.hb⟩
theorem Mat.at_{B:Nat->Nat}{P:Nat->Nat->Nat}(H:Mat h pb B n m P)(hi:i<n):zd h ⟨pb,i,Te⟩=Td (aK ⟨Td ⟨B i,0,Te⟩,m,m⟩):= H.top.cell (by rw[<-U2];simp[y7,hi])
theorem Mat.set{B:Nat->Nat}{P:Nat->Nat->Nat}(H:Mat h pb B n m P){i j x:Nat}(hi:i<n)(p:j<m)(q:∀h',Mat h' pb B n m (λa b=>if a=i/\b=j then x else P a b)->h'.size=h.size->(∀k,k≠B i->h'[k]?=h[k]?)->K h'):
  XRunU Tp (Uj 3 (.pointer (Td ⟨B i,j,Te⟩)) (.int .i64 ((x:Nat):Int))) h K:=by
 refine(H.row i hi).set p λh' h1 l c=>q h' ⟨H.top.keep (c _ (by have:=H.hb i hi;omega)),λa f=>?_,H.inj,H.hb⟩ l c;by_cases e:a=i;subst e;exact h1.ext λb o=>by by_cases e:b=j;rw[zA e,zA ⟨rfl,e⟩];rw[zv e,zv λh=>e h.2]
 refine((H.row a f).keep (c _ λh=>e (H.inj a i f hi h))).ext λb o=>?_;rw[zv λh=>e h.1]
def Cel(h:zc)(lo:Nat)(s:Sl)(x y v:Nat):Prop:=∃(a:Addr) (s2:Sl) (a2:Addr),s.a=Td a/\x<s.len/\zd h (a.add (x*1))=Td (aK s2)/\s2.a=Td a2/\y<s2.len/\zd h (a2.add (y*1))=Td (.int .i64 ((v:Nat):Int))/\a.block<lo/\a2.block<lo
theorem Cel.rd{lo:Nat}{s:Sl}{i j v:Nat}(C:Cel h lo s i j v){x y:Int}(e:x=(i:Int))(b:y=(j:Int))(c:Q ((v:Nat):Int)):
  ∃a:Addr,(s.a=Td a/\0<=x/\x<((s.len:Nat):Int))/\∃s2:Sl,zd h (a.add (x.toNat*1))=Td (aK s2)/\∃a2:Addr,(s2.a=Td a2/\0<=y/\y<((s2.len:Nat):Int))/\∃v:Int,zd h (a2.add (y.toNat*1))=Td (.int .i64 v)/\Q v:=by
 subst e;subst b;obtain⟨a,s2,a2,f,o,k,m,n,l,_,_⟩:=C;exact⟨a,⟨f,by omega,by omega⟩,s2,by rw[Ui];exact k,a2,⟨m,by omega,by omega⟩,_,by rw[Ui];exact l,c⟩
theorem nX(ag:AgM M h){xs:List Int}{s:Sl}(H:Rd M (.row (.int .i64)) xs [aK s]){x:Int}(f:x=(i:Int))(hi:i<xs.length)(e:Q (cK xs i)):
  ∃a:Addr,(s.a=Td a/\0<=x/\x<((s.len:Nat):Int))/\∃v:Int,zd h (a.add (x.toNat*1))=Td (.int .i64 v)/\Q v:=by
 subst f;obtain⟨b,o,j,c⟩:=tS ag H (k:=i) hi;have l:xs[i]=cK xs i:=by unfold cK;rw[Ux,Ul hi];rfl
 rw[l]at c;obtain⟨m,_,_⟩:=rowLen H;exact⟨_,⟨j,by omega,by omega⟩,_,by rw[Xp,Ui];exact c,e⟩
theorem Af(ag:AgM M h){xs:List Bt}{s:Sl}(H:Rd M (.row .str) xs [aK s]){x:Int}(e:x=(i:Int))(hi:i<xs.length){Q:Bt->Prop}(b:Q (rh xs i)):
  ∃a:Addr,(s.a=Td a/\0<=x/\x<((s.len:Nat):Int))/\∃v:Bt,zd h (a.add (x.toNat*1))=Td (.string v)/\Q v:=by
 have c:xs[i]=rh xs i:=by unfold rh;rw[Ux,Ul hi];rfl
 rw[<-c]at b;exact kZ ag H hi e rfl b
end
end Go.X
end
section
namespace Go.X
section
theorem KZ(i:Int)(f:Int)(h:zc)(R:Value->zc->Prop) (H:qt Tp (UW 29 (iV (Ud .i64 ((Ud .i64 (i+1))*(Ud .i64 (f+1))))) (iV (Ud .i64 ((Ud .i64 (i+1))*(Ud .i64 (f+1)))))) h (λb c=>∃d,b=aK d/\let e:=c.push (.cells #[iV (Ud .i64 (f+1)),aK d] 371);R (.pointer (Td ⟨c.size,0,Te⟩)) e)):
  XC Tp 381 #[.int .i64 i,.int .i64 f] h R:=
 XF ⟨[],[],[]⟩ [.tmp 4] 15 Tryz.func381 H
theorem Oc(g0:Option Addr)(i:Int)(j:Int)(h:zc)(R:Value->zc->Prop) (H:∃b,g0=Td b/\∃c,zd h (Ue b 1)=Td (aK c)/\∃d,g0=Td d/\∃e,zd h (Ue d 0)=Td (iV e)/\∃f,(c.a=Td f/\0<=(Ud .i64 ((Ud .i64 ((Ud .i64 ((Ud .i64 (i+1))*e))+j))+1):Int)/\(Ud .i64 ((Ud .i64 ((Ud .i64 ((Ud .i64 (i+1))*e))+j))+1):Int)<(c.len:Int))/\R (.pointer (Td (f.add ((Ud .i64 ((Ud .i64 ((Ud .i64 ((Ud .i64 (i+1))*e))+j))+1):Int).toNat*1)))) h):
  XC Tp 351 #[.pointer g0,.int .i64 i,.int .i64 j] h R:=
 XF ⟨[],[],[]⟩ [.tmp 6] 22 Tryz.func351 H
theorem X8(m:Option Addr)(k:Int)(l:Int)(h:zc)(R:Value->zc->Prop) (H:∃b,m=Td b/\∃c,zd h (Ue (Ue b 0) 0)=Td (aK c)/\∃d,(c.a=Td d/\0<=k/\k<c.len)/\∃e,zd h (d.add (k.toNat*1))=Td (.string e)/\∃f,m=Td f/\∃g,zd h (Ue (Ue f 2) 0)=Td (aK g)/\∃i,(g.a=Td i/\0<=l/\l<g.len)/\∃j,zd h (i.add (l.toNat*1))=Td (.string j)/\((e.toList==j.toList)=Ta->R (iV 0) h)/\((e.toList==j.toList)=Tc->R (iV 1) h)):
  XC Tp 382 #[.pointer m,.int .i64 k,.int .i64 l] h R:=
 XF ⟨[],[],[]⟩ [.tmp 6] 24 Tryz.func382 H
theorem J8(r0:Option Addr)(be:Int)(bm:Int)(bg:Int)(bj:Int)(h:zc)(R:Value->zc->Prop) (H:XC Tp 381 #[iV (Ud .i64 (bm-be)),iV (Ud .i64 (bj-bg))] h (λb c=>∃d:Option Addr,b=.pointer d/\∃(e:Int->zc->Prop) (f:Int->zc->Nat),e be c/\∀g:Int,∀i:zc,e g i->((decide (g<bm)=Ta->XC Tp 351 #[.pointer d,iV (Ud .i64 (g-be)),iV (-1)] i (λj k=>∃l:Option Addr,j=.pointer l/\∃m,l=Td m/\XRunU Tp (Uj 3 (.pointer (Td m)) (iV (Ud .i64 ((Ud .i64 (g-be))+1)))) k (λn=>(e (Ud .i64 (g+1)) n/\f (Ud .i64 (g+1)) n<f g i))))/\(decide (g<bm)=Tc->∃(o:Int->zc->Prop) (p:Int->zc->Nat),o bg i/\∀q:Int,∀r:zc,o q r->((decide (q<bj)=Ta->XC Tp 351 #[.pointer d,iV (-1),iV (Ud .i64 (q-bg))] r (λs t=>∃u:Option Addr,s=.pointer u/\∃v,u=Td v/\XRunU Tp (Uj 3 (.pointer (Td v)) (iV (Ud .i64 ((Ud .i64 (q-bg))+1)))) t (λw=>(o (Ud .i64 (q+1)) w/\p (Ud .i64 (q+1)) w<p q r))))/\(decide (q<bj)=Tc->∃(x:Int->zc->Prop) (y:Int->zc->Nat),x be r/\∀z:Int,∀A:zc,x z A->((decide (z<bm)=Ta->∃(B:Int->zc->Prop) (C:Int->zc->Nat),B bg A/\∀D:Int,∀E:zc,B D E->((decide (D<bj)=Ta->∀F:Int->zc->Prop,(∀G:Int,∀I:zc,(∃J,r0=Td J/\∃L,zd I (Ue (Ue J 0) 1)=Td (aK L)/\∃M,(L.a=Td M/\0<=z/\z<L.len)/\∃N,zd I (M.add (z.toNat*1))=Td (iV N)/\∃O,r0=Td O/\∃P,zd I (Ue (Ue O 2) 1)=Td (aK P)/\∃Q,(P.a=Td Q/\0<=D/\D<P.len)/\∃S,zd I (Q.add (D.toNat*1))=Td (iV S)/\∀T:Int->zc->Prop,(∀U:Int,∀V:zc,(XC Tp 351 #[.pointer d,iV (Ud .i64 (z-be)),iV (Ud .i64 (D-bg))] V (λW X=>∃Y:Option Addr,W=.pointer Y/\∃Z,Y=Td Z/\XRunU Tp (Uj 3 (.pointer (Td Z)) (iV U)) X (λaa=>(B (Ud .i64 (D+1)) aa/\C (Ud .i64 (D+1)) aa<C D E))))->T U V)->((bif (N==be)then(S==bg)else Tc)=Ta->∀ab:Int->zc->Prop,(∀ac:Int,∀ad:zc,(∃ae,r0=Td ae/\∃af,zd ad (Ue ae 4)=Td (aK af)/\∃ag,(af.a=Td ag/\0<=z/\z<af.len)/\∃ah,zd ad (ag.add (z.toNat*1))=Td (aK ah)/\∃ai,(ah.a=Td ai/\0<=D/\D<ah.len)/\XRunU Tp (Uj 3 (.pointer (Td (ai.add (D.toNat*1)))) (iV ac)) ad (λaj=>T ac aj))->ab ac ad)->let ak:Int->zc->Prop:=λal (am:zc)=>(ab (if al<G then al else G) am);XC Tp 351 #[.pointer d,iV (Ud .i64 ((Ud .i64 (z-be))-1)),iV (Ud .i64 ((Ud .i64 (D-bg))-1))] I (λan ao=>∃ap:Option Addr,an=.pointer ap/\∃aq,ap=Td aq/\(∃ar,zd ao aq=Td (iV ar)/\XC Tp 382 #[.pointer r0,iV z,iV D] ao (λau av=>∃aw,au=iV aw/\ak (Ud .i64 (ar+aw)) av))/\(XC Tp 382 #[.pointer r0,iV z,iV D] ao (λax ay=>∃az,ax=iV az/\∃aA,zd ay aq=Td (iV aA)/\ak (Ud .i64 (aA+az)) ay))))/\((bif (N==be)then(S==bg)else Tc)=Tc->∃aB,r0=Td aB/\∃aC,zd I (Ue aB 4)=Td (aK aC)/\∃aD,(aC.a=Td aD/\0<=z/\z<aC.len)/\∃aE,zd I (aD.add (z.toNat*1))=Td (aK aE)/\∃aF,(aE.a=Td aF/\0<=D/\D<aE.len)/\∃aG,zd I (aF.add (D.toNat*1))=Td (iV aG)/\XC Tp 351 #[.pointer d,iV (Ud .i64 ((Ud .i64 (N-be))-1)),iV (Ud .i64 ((Ud .i64 (S-bg))-1))] I (λaH aI=>∃aJ:Option Addr,aH=.pointer aJ/\∃aL,aJ=Td aL/\(aI)[((aF.add (D.toNat*1)):Addr).block]?=(I)[((aF.add (D.toNat*1)):Addr).block]?/\(aI)[((aD.add (z.toNat*1)):Addr).block]?=(I)[((aD.add (z.toNat*1)):Addr).block]?/\(aI)[((Ue aB 4):Addr).block]?=(I)[((Ue aB 4):Addr).block]?/\∃aM,zd aI aL=Td (iV aM)/\(aI)[((aF.add (D.toNat*1)):Addr).block]?=(I)[((aF.add (D.toNat*1)):Addr).block]?/\(aI)[((aD.add (z.toNat*1)):Addr).block]?=(I)[((aD.add (z.toNat*1)):Addr).block]?/\(aI)[((Ue aB 4):Addr).block]?=(I)[((Ue aB 4):Addr).block]?/\T (if(Ud .i64 (aM+aG))<G then Ud .i64 (aM+aG)else G) aI)))->F G I)->let aN:Int->Int->zc->Prop:=λaO aP (aQ:zc)=>(F (Ud .i64 (1+(if aO<aP then aO else aP))) aQ);let aS:Addr->Int->zc->Prop:=λ(aT:Addr) aU (aV:zc)=>(∃aW,zd aV aT=Td (iV aW)/\aN aW aU aV);XC Tp 351 #[.pointer d,iV (Ud .i64 ((Ud .i64 (z-be))-1)),iV (Ud .i64 (D-bg))] E (λaX aY=>∃aZ:Option Addr,aX=.pointer aZ/\∃a0,aZ=Td a0/\(∃a1,zd aY a0=Td (iV a1)/\XC Tp 351 #[.pointer d,iV (Ud .i64 (z-be)),iV (Ud .i64 ((Ud .i64 (D-bg))-1))] aY (λa2 a3=>∃a4:Option Addr,a2=.pointer a4/\∃a5,a4=Td a5/\aS a5 a1 a3))/\(XC Tp 351 #[.pointer d,iV (Ud .i64 (z-be)),iV (Ud .i64 ((Ud .i64 (D-bg))-1))] aY (λa6 a7=>∃a8:Option Addr,a6=.pointer a8/\∃a9,a8=Td a9/\(∃ba,zd a7 a0=Td (iV ba)/\aS a9 ba a7)/\(∃bb,zd a7 a9=Td (iV bb)/\∃bc,zd a7 a0=Td (iV bc)/\aN bb bc a7)))))/\(decide (D<bj)=Tc->(x (Ud .i64 (z+1)) E/\y (Ud .i64 (z+1)) E<y z A))))/\(decide (z<bm)=Tc->R (.pointer d) A)))))))):
  XC Tp 350 #[.pointer r0,.int .i64 be,.int .i64 bm,.int .i64 bg,.int .i64 bj] h R:=
 XF ⟨[(20,8000),(22,8000),(17,8000)],[(3,[(12,.one (.int .i64))]),(7,[(13,.one (.int .i64))]),(11,[(14,.one (.int .i64))]),(14,[(15,.one (.int .i64))])],[(18,[(18,.one (.int .i64))]),(23,[(18,.one (.int .i64))]),(21,[(18,.one (.int .i64))])]⟩ [.tmp 10] 175 Tryz.func350 H
theorem Ms(b:Sl)(c:Sl)(d:Sl)(e:Sl)(h:zc)(R:Value->zc->Prop) (H:let f:=h.push (.cells #[aK b,aK c] 31);let g:=f.push (.cells #[aK d,aK e] 31);∃i j,ze g ⟨h.size,0,Te⟩ 0 [aK i,aK j]/\XC Tp 21 #[.agg #[aK i,aK j]] g (λk l=>∃m,k=.bool m/\∃n o,((!(!m))=Ta->ze l ⟨f.size,0,Te⟩ 0 [aK n,aK o])/\∃p:Value->zc->Prop,((!(!m))=Ta->XC Tp 21 #[.agg #[aK n,aK o]] l (λq r=>∃s,q=.bool s/\p (.bool s) r))/\((!(!m))=Tc->∃t,p (.bool t) l)/\((!(!m))=Ta->∀u v,p u v->∃w,u=.bool w)/\∀x:Bool,∀y,p (.bool x) y->((bif (!m)then Ta else(!x))=Ta->R (.tuple #[.pointer Te,.bool Tc]) y)/\((bif (!m)then Ta else(!x))=Tc->∃z A,ze y ⟨h.size,0,Te⟩ 0 [aK z,aK A]/\∃B C,ze y ⟨f.size,0,Te⟩ 0 [aK B,aK C]/\∃D,zd y (Ue ⟨h.size,0,Te⟩ 0)=Td (aK D)/\(y)[(⟨f.size,0,Te⟩:Addr).block]?=(y)[(⟨f.size,0,Te⟩:Addr).block]?/\(y)[(⟨h.size,0,Te⟩:Addr).block]?=(y)[(⟨h.size,0,Te⟩:Addr).block]?/\qt Tp (UW 74 (iV (D.len:Int)) (iV (D.len:Int))) y (λE F=>∃G,E=aK G/\(F)[(⟨f.size,0,Te⟩:Addr).block]?=(y)[(⟨f.size,0,Te⟩:Addr).block]?/\(F)[(⟨h.size,0,Te⟩:Addr).block]?=(y)[(⟨h.size,0,Te⟩:Addr).block]?/\let I:=F.push (.cells #[aK z,aK A,aK B,aK C,aK G] 368);∃J:Addr,Td ⟨F.size,0,Te⟩=Td J/\∃L,zd I (Ue J 4)=Td (aK L)/\∃(M:Int->zc->Prop) (N:Int->zc->Nat),M 0 I/\∀O:Int,∀P:zc,M O P->((decide (O<L.len)=Ta->∃Q:Addr,Td ⟨F.size,0,Te⟩=Td Q/\∃S,zd P (Ue Q 4)=Td (aK S)/\∃T,zd P (Ue ⟨f.size,0,Te⟩ 0)=Td (aK T)/\(P)[((Ue Q 4):Addr).block]?=(P)[((Ue Q 4):Addr).block]?/\qt Tp (UW 29 (iV (T.len:Int)) (iV (T.len:Int))) P (λU V=>∃W,U=aK W/\∃X,(S.a=Td X/\0<=O/\O<S.len)/\(V)[((Ue Q 4):Addr).block]?=(P)[((Ue Q 4):Addr).block]?/\XRunU Tp (Uj 29 (.pointer (Td (X.add (O.toNat*1)))) (aK W)) V (λY=>(M (Ud .i64 (O+1)) Y/\N (Ud .i64 (O+1)) Y<N O P))))/\(decide (O<L.len)=Tc->∃Z aa,ze P ⟨h.size,0,Te⟩ 0 [aK Z,aK aa]/\XC Tp 28 #[.agg #[aK Z,aK aa]] P (λab ac=>∃ad,ab=aK ad/\∃(ae:Int->zc->Prop) (af:Int->zc->Nat),ae 0 ac/\∀ag:Int,∀ah:zc,ae ag ah->((decide (ag<ad.len)=Ta->∃ai,(ad.a=Td ai/\0<=ag/\ag<ad.len)/\∃aj,zd ah (ai.add (ag.toNat*1))=Td (iV aj)/\∃ak al,ze ah ⟨f.size,0,Te⟩ 0 [aK ak,aK al]/\XC Tp 28 #[.agg #[aK ak,aK al]] ah (λam an=>∃ao,am=aK ao/\∃(ap:Int->zc->Prop) (aq:Int->zc->Nat),ap 0 an/\∀ar:Int,∀au:zc,ap ar au->((decide (ar<ao.len)=Ta->∃av,(ao.a=Td av/\0<=ar/\ar<ao.len)/\∃aw,zd au (av.add (ar.toNat*1))=Td (iV aw)/\∃ax,zd au (Ue ⟨h.size,0,Te⟩ 1)=Td (aK ax)/\∃ay,(ax.a=Td ay/\0<=aj/\aj<ax.len)/\∃az,zd au (ay.add (aj.toNat*1))=Td (iV az)/\∃aA,zd au (Ue ⟨f.size,0,Te⟩ 1)=Td (aK aA)/\∃aB,(aA.a=Td aB/\0<=aw/\aw<aA.len)/\∃aC,zd au (aB.add (aw.toNat*1))=Td (iV aC)/\XC Tp 350 #[.pointer (Td ⟨F.size,0,Te⟩),iV az,iV (Ud .i64 (aj+1)),iV aC,iV (Ud .i64 (aw+1))] au (λaD aE=>∃aF:Option Addr,aD=.pointer aF/\(ap (Ud .i64 (ar+1)) aE/\aq (Ud .i64 (ar+1)) aE<aq ar au)))/\(decide (ar<ao.len)=Tc->(ae (Ud .i64 (ag+1)) au/\af (Ud .i64 (ag+1)) au<af ag ah)))))/\(decide (ag<ad.len)=Tc->R (.tuple #[.pointer (Td ⟨F.size,0,Te⟩),.bool Ta]) ah))))))))):
  XC Tp 349 #[.agg #[.slice b.a b.len b.cap,.slice c.a c.len c.cap],.agg #[.slice d.a d.len d.cap,.slice e.a e.len e.cap]] h R:=
 XF ⟨[(3,8000),(7,8000),(15,8000)],[(5,[(33,.one (.int .i64))]),(10,[(50,.one (.int .i64))]),(13,[(57,.one (.int .i64))])],[]⟩ [.tmp 4,.tmp 5] 80 Tryz.func349 H
theorem IU(b:Sl)(c:Sl)(d:Sl)(e:Sl)(h:zc)(R:Value->zc->Prop) (H:let f:=h.push (.cells #[aK b,aK c] 31);let g:=f.push (.cells #[aK d,aK e] 31);∃i j,ze g ⟨h.size,0,Te⟩ 0 [aK i,aK j]/\∃k l,ze g ⟨f.size,0,Te⟩ 0 [aK k,aK l]/\XC Tp 349 #[.agg #[aK i,aK j],.agg #[aK k,aK l]] g (λm n=>∃o:Option Addr,∃p,m=.tuple #[.pointer o,.bool p]/\((!p)=Ta->R (.tuple #[iV 0,iV 1]) n)/\((!p)=Tc->∃q,zd n (Ue ⟨h.size,0,Te⟩ 0)=Td (aK q)/\∃r,zd n (Ue ⟨f.size,0,Te⟩ 0)=Td (aK r)/\XC Tp 350 #[.pointer o,iV 0,iV (q.len:Int),iV 0,iV (r.len:Int)] n (λs t=>∃u:Option Addr,s=.pointer u/\XC Tp 351 #[.pointer u,iV (Ud .i64 ((q.len:Int)-1)),iV (Ud .i64 ((r.len:Int)-1))] t (λv w=>∃x:Option Addr,v=.pointer x/\∃y,x=Td y/\∃z,zd w y=Td (iV z)/\R (.tuple #[iV z,iV 0]) w))))):
  XC Tp 296 #[.agg #[.slice b.a b.len b.cap,.slice c.a c.len c.cap],.agg #[.slice d.a d.len d.cap,.slice e.a e.len e.cap]] h R:=
 XF ⟨[],[],[]⟩ [.tmp 4,.tmp 5] 35 Tryz.func296 H
end
end Go.X
end
section
namespace Go.X
open Go Go.X Go.Proofs Go.RowKit
section
variable {y A:Nat} {h:zc} {K:Value -> zc -> Prop}
theorem JF{W x y c f:Nat}(h1:y<W)(h:f<W)(e:x*W+y=c*W+f):x=c/\y=f:=by
 have a:(x*W+y) / W=x:=by rw[WS,Nat.mul_add_div (by omega),Nat.div_eq_of_lt h1,XH]
 have b:(c*W+f) / W=c:=by rw[WS,Nat.mul_add_div (by omega),Nat.div_eq_of_lt h,XH]
 have:x=c:=by rw[<-a,<-b,e]
 subst this;exact⟨rfl,by omega⟩
theorem Sy{W A x y:Nat}(b:x<A)(c:y<W):x*W+y<A*W:=by have:(x+1)*W<=A*W:=UM _ b;rw[WT]at this;omega
set_option maxRecDepth 100000 in
theorem Ph{A B:Nat}(hA:A<=900)(n:B<=900) (l:∀g,IntB g h.size ((A+1)*(B+1)) (λ_=>0)->Blk g (h.size+1) #[.int .i64 ((B+1:Nat):Int),aK ⟨Td ⟨h.size,0,Te⟩,(A+1)*(B+1),(A+1)*(B+1)⟩]->Keep h.size h g->g.size=h.size+2->K (.pointer (Td ⟨h.size+1,0,Te⟩)) g):
  XC Tp 381 #[.int .i64 (A:Int),.int .i64 (B:Int)] h K:=by
 apply KZ;have m:(A+1)*(B+1)<=901*901:=WJ (by omega) (by omega);have j:Ud .i64 ((Ud .i64 ((A:Int)+1))*(Ud .i64 ((B:Int)+1)))=(((A+1)*(B+1):Nat):Int):=by rw[zq (by omega),zq (by omega),<-Int.natCast_mul,wrap64 (by omega) (by omega)]
 rw[j,zq (by omega:B<9223372036854775807)];refine ut (nn:ElemT _ _ _ _ 1 8) (by omega) λh1 _ i f k=>⟨_,rfl,?_⟩;intro b;have k2:Keep h1.size h1 b:=Keep.push _ _ (Uf _);have e:Blk b h1.size #[.int .i64 ((B+1:Nat):Int),aK ⟨Td ⟨h.size,0,Te⟩,(A+1)*(B+1),(A+1)*(B+1)⟩]:=Blk.new _ _ _;have c:b.size=h1.size+1:=Uh _;clear_value b;rw[k]at e c ⊢;exact l b (i.keep (k2.get _ (by omega))) e (f.trans k2 (by omega)) c
set_option maxRecDepth 100000 in
theorem RO{gb cb W N:Nat}(B:Blk h gb #[.int .i64 (W:Int),aK ⟨Td ⟨cb,0,Te⟩,N,N⟩]){i j:Int}{x y:Nat}(hi:i=(x:Int)-1)(f:j=(y:Int)-1)(q:x*W+y<N)(p:N<=1000000)(b:x<=100000)(c:W<=100000)
  (l:K (.pointer (Td ⟨cb,x*W+y,Te⟩)) h):XC Tp 351 #[.pointer (Td ⟨gb,0,Te⟩),.int .i64 i,.int .i64 j] h K:=by
 apply Oc;have m:x*W<=100000*100000:=WJ b c;have e:Ud .i64 ((Ud .i64 ((Ud .i64 ((Ud .i64 (i+1))*(W:Int)))+j))+1)=((x*W+y:Nat):Int):=by rw[hi,f,wrap64 (n:=(x:Int)-1+1) (by omega) (by omega),show(x:Int)-1+1=(x:Int)by omega,<-Int.natCast_mul,wrap64 (n:=((x*W:Nat):Int)) (by omega) (by omega),wrap64 (n:=((x*W:Nat):Int)+((y:Int)-1)) (by omega) (by omega),wrap64 (by omega) (by omega)];omega
 refine⟨_,rfl,_,B.cellAdd (o:=0) (k:=1) rfl,_,rfl,_,B.cellAdd (o:=0) (k:=0) rfl,?_⟩;rw[e];refine⟨_,⟨rfl,by omega,by show((x*W+y:Nat):Int)<(N:Int);omega⟩,?_⟩;rw[Xp,Ui,Uy,U4];exact l
structure TwoT (M:Fr) (s t:hY) (a1 a2 b1 b2:Sl):Prop where
 sl:Rd M (.row .str) s.1 [aK a1]
 si:Rd M (.row (.int .i64)) s.2 [aK a2]
 tl:Rd M (.row .str) t.1 [aK b1]
 ti:Rd M (.row (.int .i64)) t.2 [aK b2]
 rs:zx s=Ta
 rt:zx t=Ta
set_option maxRecDepth 100000 in
theorem FD{M:Fr}{s t:hY}{a1 a2 b1 b2 ps:Sl}{e:Nat}(ag:AgM M h)(T:TwoT M s t a1 a2 b1 b2)(B:Blk h e #[aK a1,aK a2,aK b1,aK b2,aK ps]){i j:Nat}(hi:i<s.1.length)(f:j<t.1.length)
  (b:K (.int .i64 ((eK s t i j:Nat):Int)) h):XC Tp 382 #[.pointer (Td ⟨e,0,Te⟩),.int .i64 (i:Int),.int .i64 (j:Int)] h K:=by
 apply X8;refine⟨_,rfl,a1,B.cellAdd (o:=0) (k:=0) rfl,Af ag T.sl rfl hi ⟨_,rfl,b1,B.cellAdd (o:=0) (k:=2) rfl,Af ag T.tl rfl f ?_⟩⟩;unfold eK at b;rw[I6];refine⟨λc=>?_,λc=>?_⟩;rw[zA (zH c)]at b;exact b;rw[zv (zI c)]at b;exact b
end
end Go.X
end
