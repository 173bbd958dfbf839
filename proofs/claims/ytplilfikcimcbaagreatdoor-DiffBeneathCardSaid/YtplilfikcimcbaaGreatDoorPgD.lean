/- A part of the proof: nothing is stated here for its own sake. -/
import Derived.Test.YtplilfikcimcbaaGreatDoorPgC
import Derived.Sort.KeysCollected
import Derived.Sort.OwnSortedInts
open _root_.Go.Addr renaming add->Tl
open _root_.Array renaming getD_eq_getD_getElem?->Uv,getElem?_append_left->U9,getElem?_eq_some_iff->TD,getElem?_push->VP,getElem?_setIfInBounds_ne->Uo,getElem?_setIfInBounds_self_of_lt->UW,getElem?_toList->Uh,push->U8,replicate->Ve,size->TG,size_push->To,size_setIfInBounds->TW,toList->Vu
open _root_.Bool renaming and_eq_true->TC,eq_iff_iff->T8,not_eq_true'->VE,or_eq_true->VC,true_and->UQ
open _root_.Go.Builtin renaming append_->TB,firstCells->U6
open _root_.Go.Code renaming region->V7
open _root_.Go.Deferred renaming ofValue->VL
open _root_.Go.Instr renaming entry->VH,findNow->U3,keyThatStays->Vo,makeSlice->Uc,mapUpdate->UN,next->Vn,range->VX,sameNow->VR,storeAt->Tt
open _root_.Int renaming toNat_natCast->Tq
open _root_.Go.IntKind renaming wrap->Tj
open _root_.List renaming all_eq_true->T7,append_assoc->TR,append_nil->Uq,cons_append->Um,drop_eq_getElem_cons->Uk,eq_nil_of_length_eq_zero->TT,ext_getElem?->Uf,filter_cons->Vx,flatMap_cons->UE,getD_eq_getElem?_getD->TM,getElem?_eq_getElem->Tv,getElem?_eq_none->Un,getElem?_eq_some_iff->T5,getElem?_map->Us,getElem?_take->Ud,getElem_append_left->UR,getElem_append_right->Vf,getElem_map->US,getElem_mem->TA,length->Uw,length_append->Ts,length_cons->TI,length_eq_zero_iff->Vl,length_map->Tx,length_nil->Uu,length_pos_iff->UH,length_replicate->Vg,length_singleton->UG,length_take->UD,map_append->Ug,map_congr_left->UT,map_cons->TV,map_map->T9,mem_append->TE,mem_append_left->TF,mem_append_right->TU,mem_cons->Tz,mem_cons_of_mem->TS,mem_cons_self->TQ,mem_filter->UI,mem_flatMap->Vw,mem_iff_getElem->VK,mem_map->Ub,mem_of_getElem?->UY,mem_range->Ui,mem_singleton->TP,nil_append->UO,nodup_append->Vd,nodup_cons->Ut,nodup_nil->Vk,pairwise_cons->UM,range->TZ,replicate->UL,take_append_drop->UF,take_append_of_le_length->Vi,take_length->TN,take_of_length_le->UK,take_succ_cons->Vv,take_succ_eq_append_getElem->Tu,zip_cons_cons->U7
open _root_.List.cons renaming injEq->U4
open _root_.Nat renaming add_mul->UX,add_zero->VM,eq_of_beq_eq_true->TL,le_of_ble_eq_true->UU,le_of_lt->VO,le_refl->Tm,le_trans->Ux,lt_of_lt_of_le->U5,lt_or_ge->Up,min_eq_left->VS,mul_comm->VA,mul_le_mul->Vq,mul_le_mul_right->TX,mul_one->Uj,not_lt_zero->UZ,succ_mul->VB,zero_add->TJ,zero_le->TK
open _root_.Option renaming bind_some->U0,map_some->VU
open _root_.Option.some renaming inj->TY,injEq->Tn
open _root_.Prod.mk renaming injEq->Uy
open _root_.Go.Region renaming wanted->Ue
open _root_.Go.Proofs.Tryz renaming prog->T6
open _root_.Go.Value renaming int->UB,slice->VY,string->TH
open _root_.Go.Value.slice renaming injEq->Ua
set_option linter.unusedVariables false
set_option maxRecDepth 100000
namespace Go.X
end Go.X
namespace Go.Proofs
end Go.Proofs
open Go Go.X Go.Proofs
open _root_.Bool renaming true->Ta,false->Tc
open _root_.Option renaming some->Td,none->Te
section
namespace Go.X
section
variable {P:Program} {n m id:Nat} {ro:Option Nat} {e:bK} {h:za} {a:Act}
theorem zQ{P:Program}{ops:Array Oper}{D:List Deferred}{K:Act->World->Prop}:∀(l:List Oper) (a:Act) (w:World),wpList P ops (j0 K) l a w->wpList P ops (j0 λa1 w1=>∃b,a1=Qs D b/\K b w1) l (Qs D a) w
 |[],a,w,h=>⟨a,rfl,h⟩
 |o::l,a,w,h=>by
  unfold wpList at h ⊢;have j:yielded ops (Qs D a).tmps=yielded ops a.tmps:=rfl;rw[j];by_cases c:Ue o (yielded ops a.tmps)=Ta;rw[zA c]at h ⊢;rcases h with h|⟨_,h⟩;exact .inl (Oper.wp_mono (λa1 w1 ⟨b,e,i⟩=>by rw[e];exact zQ l b w1 i) (Ap h));exact(Qb h).elim;rw[zv c]at h ⊢;have f:(Qs D a).put o.dst undef=Qs D (a.put o.dst undef):=by cases o.dst <;> rfl
  rw[f];exact zQ l _ w h
def py(P:Program)(n:Nat)(ops:Array Oper)(b:Bool)(K:bK->za->Prop)(e:bK)(h:za):Prop:=
 bif ops.toList.all wu then(bif b then(bif mh Tc ops then wI P n h Ta ops (λc=>kY Tc P n ops h K (iO Tc ops).length [] (iO Tc ops) c h) (Q8 [] (Q7 Tc ops [] ops.size) ops.size) e else False)else wR P n ops K ops.toList e h)else False
theorem vA(w:P.follows .mixedOrders=Ta){D:List Deferred}{ops:Array Oper}{j:Bool}{K:bK->za->Prop}(H:py P n ops j K e h)(B:World)(d:Nat)(r:Sat n e a){Q:Exit->Act->World->Prop}
  (u:∀b k c h',Sat n b k->Same (wb ops.toList) a k->K b h'->Q .normal (Qs D k) (mk B c h')):(V7 id ops j).wpIn (rf ro) m P Q (Qs D a) (mk B d h):=by
 unfold py at H;cases hd:ops.toList.all wu with
 |false=>simp_all
 |true=>
  rw[hd,zK]at H;have fin:∀a1 w1,(∃f,a1=Qs D f/\∃b c h',w1=mk B c h'/\Sat n b f/\Same (wb ops.toList) a f/\K b h')->Q .normal a1 w1:=by rintro a1 w1 ⟨f,rfl,b,c,h',rfl,l,q,p⟩;exact u b f c h' l q p
  cases j with
  |false=>refine wpIn_region_list ?_;rw[<-Uq ops.toList];exact oV _ [] _ _ hd (zQ (K:=λf w1=>∃b c h',w1=mk B c h'/\Sat n b f/\Same (wb ops.toList) a f/\K b h') _ _ _ (pU B _ _ _ _ _ H r λb k c h' l q p=>⟨b,c,h',rfl,l,q,p⟩)) fin
  |true=>
   rw[zK]at H;cases hB:mh Tc ops with
   |false=>simp_all
   |true=>
    rw[hB]at H;have h0:wpAny P .any ops (j0 λf w1=>∃b c h',w1=mk B c h'/\Sat n b f/\Same (wb ops.toList) a f/\K b h') ops.size (Ve ops.size Tc) a (mk B (d+1) h):= DC B hB H r (λb k c h' l q p=>⟨b,c,h',rfl,l,q,p⟩) (d+1);refine wpIn_mono (wpIn_region_any (Q:=j0 λa1 w1=>∃f,a1=Qs D f/\∃b c h',w1=mk B c h'/\Sat n b f/\Same (wb ops.toList) a f/\K b h') w (rC (λi o y=>?_) _ _ _ _ (sM _ _ _ _ h0))) λx k w' t=>?_;grind;cases x with
    |normal=>exact fin _ _ t
    |_=>exact t.elim
def WG(P:Program)(n:Nat):Code->Q9->bK->za->Prop
 |.skip,Q,e,h=>Q .normal e h
 |.ret,Q,e,h=>Q .ret e h
 |.exit id,Q,e,h=>Q (.exit id) e h
 |.region _ ops draw,Q,e,h=>py P n ops draw (λe h=>Q .normal e h) e h
 |.seq x y,Q,e,h=>WG P n x (l5 (λe h=>WG P n y Q e h) Q) e h
 |.cond c x y,Q,e,h=>match Jq e [] c with
  |some (.bool b)=>(b=Ta->WG P n x Q e h)/\(b=Tc->WG P n y Q e h)
  |_=>False
 |.block id x,Q,e,h=>WG P n x (lP id Q) e h
 |_,_,_,_=>False
def wE(n:Nat)(B:World)(D:List Deferred)(Q:Q9):Exit->Act->World->Prop:=
 λx a w=>∃e d h b,a=Qs D b/\w=mk B d h/\Sat n e b/\Q x e h
theorem N0{B:World}{D:List Deferred}{Q:Q9}:∀c a w,wE n B D (lP id Q) c a w->Exit.inBlock id (wE n B D Q) c a w:=by
 rintro c a1 w1 ⟨h,d1,h1,f,rfl,rfl,s1,b⟩;cases c with
 |exit i=>simp only[lP]at b;simp only[Exit.inBlock];by_cases e:Nat.beq i id=Ta;rw[zA (TL e)];simp only[e,zK]at b;exact⟨h,d1,h1,f,rfl,rfl,s1,b⟩;rw[zv (λj=>e (by rw[j];simp))];simp only[e,zL]at b;exact⟨h,d1,h1,f,rfl,rfl,s1,b⟩
 |_=>exact⟨h,d1,h1,f,rfl,rfl,s1,b⟩
theorem BR(z:P.follows .mixedOrders=Ta){D:List Deferred}:∀(c:Code) (Q:Q9) (e:bK) (h:za),WG P n c Q e h ->
  ∀(B:World) (d:Nat) (a:Act),Sat n e a->c.wpIn (rf ro) m P (wE n B D Q) (Qs D a) (mk B d h):=by
 intro c;induction c with
 |skip=>exact λQ e h H B d a f=>wpIn_skip ⟨e,d,h,a,rfl,rfl,f,H⟩
 |ret=>exact λQ e h H B d a f=>wpIn_ret ⟨e,d,h,a,rfl,rfl,f,H⟩
 |exit id=>exact λQ e h H B d a f=>wpIn_exit ⟨e,d,h,a,rfl,rfl,f,H⟩
 |region id ops p=>exact λQ e h H B d a f=>vA z H B d f λu t w h' k _ F=>⟨u,w,h',t,rfl,rfl,k,F⟩
 |seq x y j i=>
  intro Q e h H B d a f;refine wpIn_seq (wpIn_mono (j _ _ _ H B d a f) ?_);rintro ex a1 w1 ⟨A,d1,h1,q,rfl,rfl,s1,k⟩;cases ex with
  |normal=>exact i _ _ _ k B d1 q s1
  |_=>exact⟨A,d1,h1,q,rfl,rfl,s1,k⟩
 |cond c x y j i=>intro Q e h H B d a f;simp only[WG]at H;split at H;rename_i b r;have E:(Qs D a).eval c=.bool b:=qg f (c:=[]) trivial r;exact wpIn_cond_split E (λo=>j _ _ _ (H.1 o) B d a f) (λl=>i _ _ _ (H.2 l) B d a f);exact H.elim
 |block id x C=>intro Q e h H B d a f;exact wpIn_block (wpIn_mono (C _ _ _ H B d a f) N0)
 |_=>exact λQ e h H=>H.elim
def WL(P:Program)(n:Nat)(pl:List (Nat×iB)):Code->Q9->bK->za->Prop
 |.skip,Q,e,h=>Q .normal e h
 |.ret,Q,e,h=>Q .ret e h
 |.exit id,Q,e,h=>Q (.exit id) e h
 |.region _ ops draw,Q,e,h=>py P n ops draw (λe h=>Q .normal e h) e h
 |.seq x y,Q,e,h=>WL P n pl x (l5 (λe h=>WL P n pl y Q e h) Q) e h
 |.cond c x y,Q,e,h=>match Jq e [] c with
  |some (.bool b)=>(b=Ta->WL P n pl x Q e h)/\(b=Tc->WL P n pl y Q e h)
  |_=>False
 |.block id x,Q,e,h=>WL P n pl x (lP id Q) e h
 |.loop x,Q,e,h=>match pG pl (yc x)with
  |some J=>wT J (λf e h=>WL P n pl x (l5 f Q) e h) (Yx (j3 x) e) e h
  |none=>False
 |_,_,_,_=>False
def Hv(n:Nat)(B:World)(D:List Deferred)(ms:List Nat)(a1:Act)(Q:Q9):Exit->Act->World->Prop:=
 λx a w=>∃e d h b,a=Qs D b/\w=mk B d h/\Sat n e b/\Same ms a1 b/\Q x e h
theorem Ny(hm:P.follows .mixedOrders=Ta){D:List Deferred}{pl:List (Nat×iB)}:∀(c:Code) (Q:Q9) (e:bK) (h:za),WL P n pl c Q e h ->
  ∀(B:World) (d:Nat) (a:Act),Sat n e a->c.wpIn (rf ro) m P (Hv n B D (j3 c) a Q) (Qs D a) (mk B d h):=by
 intro c;induction c with
 |skip=>exact λQ e h H B d a f=>wpIn_skip ⟨e,d,h,a,rfl,rfl,f,Same.refl _ _,H⟩
 |ret=>exact λQ e h H B d a f=>wpIn_ret ⟨e,d,h,a,rfl,rfl,f,Same.refl _ _,H⟩
 |exit id=>exact λQ e h H B d a f=>wpIn_exit ⟨e,d,h,a,rfl,rfl,f,Same.refl _ _,H⟩
 |region id ops ai=>exact λQ e h H B d a f=>vA hm H B d f λe' a' d' h' l o q3=>⟨e',d',h',a',rfl,rfl,l,o,q3⟩
 |seq x y E G=>
  intro Q e h H B d a f;have O:∀i∈j3 x,i∈j3 (.seq x y):=λi hi=>TE.2 (.inl hi);have hy:∀i∈j3 y,i∈j3 (.seq x y):=λi hi=>TE.2 (.inr hi);refine wpIn_seq (wpIn_mono (E _ _ _ H B d a f) ?_);rintro z a1 w1 ⟨C,d1,h1,j,rfl,rfl,s1,M,l⟩;cases z with
  |normal=>refine wpIn_mono (G _ _ _ l B d1 j s1) ?_;rintro z a2 w2 ⟨r,d2,u,t,rfl,rfl,s2,A,o⟩;exact⟨r,d2,u,t,rfl,rfl,s2,(M.mono O).trans (A.mono hy),o⟩
  |_=>exact⟨C,d1,h1,j,rfl,rfl,s1,M.mono O,l⟩
 |cond c x y E G=>intro Q e h H B d a f;have O:∀i∈j3 x,i∈j3 (.cond c x y):=λi hi=>TE.2 (.inl hi);have hy:∀i∈j3 y,i∈j3 (.cond c x y):=λi hi=>TE.2 (.inr hi);simp only[WL]at H;split at H;rename_i b w;have hc:(Qs D a).eval c=.bool b:=qg f (c:=[]) trivial w;exact wpIn_cond_split hc (λS=>wpIn_mono (E _ _ _ (H.1 S) B d a f) λz a2 w2 ⟨r,d2,u,t,r1,r2,s2,A,o⟩=>⟨r,d2,u,t,r1,r2,s2,A.mono O,o⟩) (λaa=>wpIn_mono (G _ _ _ (H.2 aa) B d a f) λz a2 w2 ⟨r,d2,u,t,r1,r2,s2,A,o⟩=>⟨r,d2,u,t,r1,r2,s2,A.mono hy,o⟩);exact H.elim
 |block id x Z=>
  intro Q e h H B d a f;refine wpIn_block (wpIn_mono (Z _ _ _ H B d a f) ?_);rintro z a1 w1 ⟨C,d1,h1,j,rfl,rfl,s1,M,l⟩;cases z with
  |exit i=>simp only[lP]at l;simp only[Exit.inBlock];by_cases w:Nat.beq i id=Ta;rw[zA (TL w)];simp only[w,zK]at l;exact⟨C,d1,h1,j,rfl,rfl,s1,M,l⟩;rw[zv (λhe=>w (by rw[he];simp))];simp only[w,zL]at l;exact⟨C,d1,h1,j,rfl,rfl,s1,M,l⟩
  |_=>exact⟨C,d1,h1,j,rfl,rfl,s1,M,l⟩
 |loop x Z=>
  intro Q e h H B d a f;simp only[WL]at H;split at H;rename_i J hJ;obtain⟨I,μ,h0,L⟩:=H;obtain⟨Y,p0,af,ah,ae⟩:=J9 h0;let F:=mU (yv J) I μ;let at_:Act->Option ((za->Prop)×(za->Nat)):=λa1=>(Js (λi=>Td (qc a1 i)) J).bind λvs=>iK (yv J) vs F;refine wpIn_loop (λa1 w1=>∃d1 h1 vs p j,a1=Qs D j/\w1=mk B d1 h1/\j.defers=[]/\j.tmps.size=n/\Same (j3 x) a j/\Js (λi=>Td (qc j i)) J=Td vs/\iK (yv J) vs F=Td p/\p.1 h1) (λa1 w1=>match at_ a1 with|some p=>p.2 w1.heap|none=>0) ⟨d,h,Y,p0,a,rfl,rfl,f.defers,f.size,Same.refl _ _,qn f af,ah,ae⟩ ?_;rintro a1 w1 ⟨d1,h1,vs,p,j,rfl,rfl,T,ac,k,hv,hp,hI⟩;have s1:Sat n (Zw J vs++Yx (j3 x) e) j:=J8 f T ac k hv;have w:=sd hp L h1 hI;refine wpIn_mono (Z _ _ _ w B d1 j s1) ?_;rintro z a2 w2 ⟨r,d2,u,t,rfl,rfl,s2,A,o⟩;have va:∀(a1:Act),(λi=>Td (qc (Qs D a1) i))=λi=>Td (qc a1 i):=λ_=>rfl;cases z with
  |normal=>
   obtain⟨V,q,N,hq,U,ab⟩:=J9 o;refine⟨⟨d2,u,V,q,t,rfl,rfl,s2.defers,s2.size,k.trans A,qn s2 N,hq,U⟩,?_⟩;have C:at_ (Qs D j)=Td p:=by simp only[at_,va,hv,U0];exact hp
   have r:at_ (Qs D t)=Td q:=by simp only[at_,va,qn s2 N,U0];exact hq
   rw[C,r];exact ab
  |_=>exact⟨r,d2,u,t,rfl,rfl,s2,k.trans A,o⟩
  exact H.elim
 |_=>exact λQ e h H=>H.elim
abbrev iQ:=LoopState->Option Code->Loop
def Rc(rec:iQ)(l:Nat)(K:Value->za->Prop):Q9
 |.normal,_,h=>h[l]?=Td (.loop (rec .busy Te))/\K (.bool Ta) (h.setIfInBounds l (.loop (rec .ready Te)))
 |.ret,_,h=>h[l]?=Td (.loop (rec .busy Te))/\K (.bool Tc) (h.setIfInBounds l (.loop (rec .done (Td .ret))))
 |_,_,_=>False
def X8(P:Program)(n:Nat)(b bd:Code)(rec:iQ)(l:Nat)(K:Value->za->Prop)(e:bK)(h:za):Prop:=
 WG P n b (λx c h1=>match x with
  |.normal=>h1[l]?=Td (.loop (rec .ready Te))/\WG P n bd (Rc rec l K) c (h1.setIfInBounds l (.loop (rec .busy Te)))
  |_=>False) e h
theorem Dw(a:Act):Qs [] a=a:=by unfold Qs;simp
def xL:bK->List Nat->List Value->bK
 |e,p::ps,v::vs=>xL (putO e (Td p) [] v) ps vs
 |e,_,_=>e
def pP:Array Value->List Nat->List Value->Array Value
 |t,p::ps,v::vs=>pP (t.setIfInBounds p v) ps vs
 |t,_,_=>t
theorem A2:∀(ps:List Nat) (vs:List Value) (t:Array Value),(ps.zip vs).foldl (λ(t:Array Value) (x:Tmp×Value)=>t.setIfInBounds x.1 x.2) t=pP t ps vs
 |[],_,_=>rfl
 |_::_,[],_=>rfl
 |p::ps,v::vs,t=>A2 ps vs (t.setIfInBounds p v)
theorem AL{n:Nat}:∀(ps:List Nat) (vs:List Value) (e:bK) (a:Act),(∀p∈ps,jy n [] (Td p)=Ta)->Sat n e a->Sat n (xL e ps vs) { tmps:=pP a.tmps ps vs,defers:=[] }
 |[],vs,e,a,_,hs=>by have:=hs.defers;cases a;simp only at this;subst this;exact hs
 |p::ps,[],e,a,_,hs=>by have:=hs.defers;cases a;simp only at this;subst this;exact hs
 |p::ps,v::vs,e,a,h,hs=>AL ps vs _ (a.put (Td p) v) (λq b=>h q (TS _ b)) (hs.putO (h p TQ) (λ_=>rfl) (λc=>absurd trivial c))
theorem Aq(C:P.follows .mixedOrders=Ta){n l:Nat}{ps:List Nat}{f bd:Code}{fn:FuncId}{D:Nat}(y:∀p∈ps,jy n [] (Td p)=Ta) {rec:iQ} (b:rec=λst N=>{ state:=st,pending:=N,fn:=fn,tmps:=a.tmps,params:=ps.toArray,assign:=f,body:=bd,defers:=D }) {vs:List Value} (V:ps.length=vs.length) (Q:Sat n e a) (I:h[l]?=Td (.loop (rec .ready Te))) {K:Value->za->Prop}
  (H:X8 P n f bd rec l K (xL e ps vs) h):YX P l vs.toArray h K:=by
 intro m B d;have x:(mk B d h).heap[l]?=Td (.loop (rec .ready Te)):=I;have A:=run_yield (P:=P) (w:=mk B d h) (args:=vs.toArray) x (by simp_all);refine⟨_,_,_,_,A,?_⟩;rw[b]at A ⊢;have s2:=AL ps vs e a y Q;have key:RoundIn (rf Te) m P l fn (pP a.tmps ps vs) f bd (mk B d h) (λe w'=>∃v J h',e=.returned v/\w'=mk B J h'/\K v h'):=by
  refine roundIn_of_wpIn (F:=rf Te) trivial ?_;have O:(rf Te).inRound l=rf (Td l):=rfl;rw[O,<-Dw { tmps:=pP a.tmps ps vs,defers:=[] }];refine wpIn_mono (BR C f _ _ _ H B d _ s2) ?_;rintro ex a1 w1 ⟨U,d1,h1,L,rfl,rfl,s1,z⟩;cases ex with
  |normal=>
   obtain⟨G,M⟩:=z;have q:(mk B d1 h1).heap[l]?=Td (.loop (rec .ready Te)):=G;have E:=run_beginRound (P:=P) q (by rw[b]);refine⟨_,E,?_⟩;have j:({ rec .ready Te with state:=.busy }:Loop)=rec .busy Te:=by rw[b]
   rw[j];refine wpIn_mono (BR C bd _ _ _ M B d1 L s1) ?_;rintro ex a2 w2 ⟨S,d2,o,Y,rfl,rfl,T,r⟩;cases ex with
   |normal=>
    obtain⟨u,t⟩:=r;have i:(mk B d2 o).heap[l]?=Td (.loop (rec .busy Te)):=u;have c:=run_endRound (P:=P) Te i;refine⟨_,_,c,.bool Ta,d2,o.setIfInBounds l (.loop (rec .ready Te)),rfl,?_,t⟩;have k:({ rec .busy Te with state:=if(Te:Option Code).isNone then .ready else .done,pending:=Te }:Loop)=rec .ready Te:=by rw[b];rfl
    rw[k];rfl
   |ret=>
    obtain⟨u,t⟩:=r;have i:(mk B d2 o).heap[l]?=Td (.loop (rec .busy Te)):=u;have c:=run_endRound (P:=P) (Td .ret) i;refine⟨_,_,c,.bool Tc,d2,o.setIfInBounds l (.loop (rec .done (Td .ret))),rfl,?_,t⟩;have k:({ rec .busy Te with state:=if(Td Code.ret:Option Code).isNone then .ready else .done,pending:=Td .ret }:Loop)=rec .done (Td .ret):=by rw[b];rfl
    rw[k];rfl
   |_=>exact r.elim
  |_=>exact z.elim
 simp_all[A2]
def lw:Code->Code
 |.rangeFunc _ _ x _=>x
 |.seq x y=>match lw x with
  |.skip=>lw y
  |c=>c
 |.block _ x=>lw x
 |_=>.skip
def kO:Code->Code
 |.rangeFunc _ _ _ y=>y
 |.seq x y=>match kO x with
  |.skip=>kO y
  |c=>c
 |.block _ x=>kO x
 |_=>.skip
def marks(c:List Nat):List Deferred:=c.map λb=>{ target:=.collected b,args:=#[] }
abbrev kI:=Exit->List Nat->bK->za->Prop
def RL(K:List Nat->bK->za->Prop)(Q:kI):kI
 |.normal,ds,e,h=>K ds e h
 |x,ds,e,h=>Q x ds e h
def FO(id:Nat)(Q:kI):kI
 |.exit i,ds,e,h=>bif Nat.beq i id then Q .normal ds e h else Q (.exit i) ds e h
 |x,ds,e,h=>Q x ds e h
def pM(rec:iQ)(l:Nat)(N R:za->Prop)(h:za):Prop:=
 (h[l]?=Td (.loop (rec .ready Te))/\N (h.setIfInBounds l (.loop (rec .exhausted Te))))\/(h[l]?=Td (.loop (rec .done (Td .ret)))/\R (h.setIfInBounds l (.loop (rec .exhausted (Td .ret)))))
def Da(P:Program)(n:Nat)(i j:Nat)(f bd:Code)(v:Value)(Q:kI)(m:List Nat)(e:bK)(h:za):Prop:=
 bif jy n [] (Td i)&&jy n [] (Td j)then(∃g lb,v=.func (.func g) #[] lb/\zj P g=Ta/\∀rec:iQ,
  (∀{l k:Value} {b:za} {K:Value->za->Prop},b[h.size+1]?=Td (.loop (rec .ready Te))->X8 P n f bd rec (h.size+1) K (putO (putO e (Td i) [] l) (Td j) [] k) b->YX P (h.size+1) #[l,k] b K) ->
  lH P g (#[.func (.yield (h.size+1)) #[] #[]]++lb) ((h.push (.deferred (Td []))).push (.loop (rec .ready Te))) λ_ o=>pM rec (h.size+1) (λc=>Q .normal (h.size::m) e c) (λc=>Q .ret (h.size::m) e c) o)else False
def EK(P:Program)(n:Nat)(i:Nat)(f bd:Code)(v:Value)(Q:kI)(k:List Nat)(e:bK)(h:za):Prop:=
 bif jy n [] (Td i)then(∃g lb,v=.func (.func g) #[] lb/\zj P g=Ta/\∀rec:iQ,
  (∀{j:Value} {b:za} {K:Value->za->Prop},b[h.size+1]?=Td (.loop (rec .ready Te))->X8 P n f bd rec (h.size+1) K (putO e (Td i) [] j) b->YX P (h.size+1) #[j] b K) ->
  lH P g (#[.func (.yield (h.size+1)) #[] #[]]++lb) ((h.push (.deferred (Td []))).push (.loop (rec .ready Te))) λ_ l=>pM rec (h.size+1) (λc=>Q .normal (h.size::k) e c) (λc=>Q .ret (h.size::k) e c) l)else False
def m9(e:bK):Nat->Nat->bK
 |0,_=>[]
 |f+1,i=>match lM e i with
  |some v=>(i,[],v)::m9 e f (i+1)
  |none=>m9 e f (i+1)
theorem xI{e:bK}:∀{f i:Nat} {x:Nat×qf×Value},x∈m9 e f i->x.2.1=[]/\lM e x.1=Td x.2.2
 |0,_,_,h=>nomatch h
 |f+1,i,x,h=>by unfold m9 at h;split at h;rename_i v b;rcases Tz.1 h with rfl|h;simp_all;exact xI h;exact xI h
theorem q8(h:Sat n e a)(f i:Nat):Sat n (m9 e f i) a:=⟨h.defers,h.size,λx j=>by obtain⟨k,c,v⟩:=x;obtain⟨h1,b⟩:=xI j;have h1:c=[]:=h1;subst h1;exact⟨λ_=>Zx h b,λl=>absurd trivial l⟩⟩
def WD(P:Program)(n:Nat)(pl:List (Nat×iB)):Code->kI->List Nat->bK->za->Prop
 |.skip,Q,f,e,h=>Q .normal f e h
 |.ret,Q,f,e,h=>Q .ret f e h
 |.exit id,Q,f,e,h=>Q (.exit id) f e h
 |.region _ ops draw,Q,f,e,h=>py P n ops draw (λe h=>Q .normal f e h) e h
 |.seq x y,Q,f,e,h=>WD P n pl x (RL (λf e h=>WD P n pl y Q f e h) Q) f e h
 |.cond c x y,Q,f,e,h=>match Jq e [] c with
  |some (.bool b)=>(b=Ta->WD P n pl x Q f e h)/\(b=Tc->WD P n pl y Q f e h)
  |_=>False
 |.block id x,Q,f,e,h=>WD P n pl x (FO id Q) f e h
 |.rangeFunc g ps asg bd,Q,f,e,h=>match Jq e [] g,ps.toList with
  |some v,[p1,p2]=>Da P n p1 p2 asg bd v Q f (m9 e n 0) h
  |some v,[p1]=>EK P n p1 asg bd v Q f (m9 e n 0) h
  |_,_=>False
 |.loop x,Q,f,e,h=>WL P n pl (.loop x) (λi e h=>Q i f e h) e h
 |_,_,_,_,_=>False
def ER(n:Nat)(B:World)(Q:kI):Exit->Act->World->Prop:=
 λx a w=>∃c e d h b,a=Qs (marks c) b/\w=mk B d h/\Sat n e b/\Q x c e h
theorem C8(w:1<=m){ps:Array Nat}{i bd:Code}{l:FuncId}{lb:Array Value}(C:zj P l=Ta){g:Operand}{Q:kI}{j:List Nat}(y:Sat n e a)(H:(Qs (marks j) a).eval g=.func (.func l) #[] lb) (D:∀fn (rec:iQ),rec=(λst t=>{ state:=st,pending:=t,fn:=fn,tmps:=a.tmps,params:=ps,assign:=i,body:=bd,defers:=h.size }) -> lH P l (#[.func (.yield (h.size+1)) #[] #[]]++lb) ((h.push (.deferred (Td []))).push (.loop (rec .ready Te))) λ_ q=>pM rec (h.size+1) (λz=>Q .normal (h.size::j) e z) (λz=>Q .ret (h.size::j) e z) q)
  (B:World) (d:Nat):(Code.rangeFunc g ps i bd).wpIn (rf Te) m P (ER n B Q) (Qs (marks j) a) (mk B d h):=by
 refine wpIn_rangeFunc λo _=>?_;obtain⟨rec,b⟩:∃rec:iQ,rec=λst t=>{ state:=st,pending:=t,fn:=o,tmps:=a.tmps,params:=ps,assign:=i,body:=bd,defers:=h.size }:=⟨_,rfl⟩;have u:=D o rec b;refine⟨h.size+1,[{ target:=.collected h.size,args:=#[] }],mk B d ((h.push (.deferred (Td []))).push (.loop (rec .ready Te))),{ target:=.fn (.func l) lb,args:=#[.func (.yield (h.size+1)) #[] #[]] },mk B d ((h.push (.deferred (Td []))).push (.loop (rec .ready Te))),l,#[.func (.yield (h.size+1)) #[] #[]]++lb,mk B d ((h.push (.deferred (Td []))).push (.loop (rec .ready Te))),?_,?_,λ_ _=>trivial,?_,λ_=>w,?_⟩;rw[b];exact run_enterLoop_outer _ _ _ _ _;simp only[resolve,H];simp[go_sem,VL];simp only[invoke];exact J4 C _ _;have F:({ Qs (marks j) a with defers:=[{ target:=.collected h.size,args:=#[] }]++(Qs (marks j) a).defers }:Act)=Qs (marks (h.size::j)) a:=by unfold Qs marks;simp only[y.defers];rfl
 rw[F];refine CallsIn.mono (u (m-1) B d) ?_;rintro e' w' ⟨v,r,q,rfl,rfl,k⟩;rcases k with⟨f,G⟩|⟨f,E⟩;have c:(mk B r q).heap[h.size+1]?=Td (.loop (rec .ready Te)):=f;have p:=run_endLoop (P:=P) c (by simp_all);have A:({ rec .ready Te with state:=.exhausted }:Loop)=rec .exhausted Te:=by rw[b]
 have x:(rec .ready Te).pending=Te:=by rw[b]
 rw[A,x]at p;exact⟨Te,_,p,_,e,r,_,a,rfl,rfl,y,G⟩;have c:(mk B r q).heap[h.size+1]?=Td (.loop (rec .done (Td .ret))):=f;have p:=run_endLoop (P:=P) c (by simp_all);have A:({ rec .done (Td .ret)with state:=.exhausted }:Loop)=rec .exhausted (Td .ret):=by rw[b]
 have x:(rec .done (Td .ret)).pending=Td .ret:=by rw[b]
 rw[A,x]at p;exact⟨Td .ret,_,p,wpIn_ret ⟨_,e,r,_,a,rfl,rfl,y,E⟩⟩
theorem MB(E:P.follows .mixedOrders=Ta)(D:1<=m){pl:List (Nat×iB)}:∀(c:Code) (Q:kI) (j:List Nat) (e:bK) (h:za),WD P n pl c Q j e h ->
  ∀(B:World) (d:Nat) (a:Act),Sat n e a->c.wpIn (rf Te) m P (ER n B Q) (Qs (marks j) a) (mk B d h):=by
 intro c;induction c with
 |skip=>exact λQ j e h H B d a f=>wpIn_skip ⟨j,e,d,h,a,rfl,rfl,f,H⟩
 |ret=>exact λQ j e h H B d a f=>wpIn_ret ⟨j,e,d,h,a,rfl,rfl,f,H⟩
 |exit id=>exact λQ j e h H B d a f=>wpIn_exit ⟨j,e,d,h,a,rfl,rfl,f,H⟩
 |region id ops S=>exact λQ j e h H B d a f=>vA E H B d f λZ V d' h' k _ q2=>⟨j,Z,d',h',V,rfl,rfl,k,q2⟩
 |seq x y A t=>
  intro Q j e h H B d a f;refine wpIn_seq (wpIn_mono (A _ _ _ _ H B d a f) ?_);rintro ex a1 w1 ⟨o,z,d1,h1,q,rfl,rfl,s1,k⟩;cases ex with
  |normal=>exact t _ _ _ _ k B d1 q s1
  |_=>exact⟨o,z,d1,h1,q,rfl,rfl,s1,k⟩
 |cond c x y A t=>intro Q j e h H B d a f;simp only[WD]at H;split at H;rename_i b C;have hc:(Qs (marks j) a).eval c=.bool b:=qg f (c:=[]) trivial C;exact wpIn_cond_split hc (λL=>A _ _ _ _ (H.1 L) B d a f) (λF=>t _ _ _ _ (H.2 F) B d a f);exact H.elim
 |block id x ih=>
  intro Q j e h H B d a f;refine wpIn_block (wpIn_mono (ih _ _ _ _ H B d a f) ?_);rintro ex a1 w1 ⟨o,z,d1,h1,q,rfl,rfl,s1,k⟩;cases ex with
  |exit i=>simp only[FO]at k;simp only[Exit.inBlock];by_cases C:Nat.beq i id=Ta;rw[zA (TL C)];simp only[C,zK]at k;exact⟨o,z,d1,h1,q,rfl,rfl,s1,k⟩;rw[zv (λhe=>C (by rw[he];simp))];simp only[C,zL]at k;exact⟨o,z,d1,h1,q,rfl,rfl,s1,k⟩
  |_=>exact⟨o,z,d1,h1,q,rfl,rfl,s1,k⟩
 |rangeFunc g ps U bd Y aa=>
  intro Q j e h H B d a f;simp only[WD]at H;split at H;rename_i v u G O w;have l:ps=#[u,G]:=by rw[<-Array.toList_inj];exact w
  subst l;unfold Da at H;cases hok:(jy n [] (Td u)&&jy n [] (Td G))with
  |false=>simp_all
  |true=>rw[hok]at H;rw[TC]at hok;obtain⟨gf,lb,rfl,I,M⟩:=H;exact C8 D I (q8 f n 0) (qg f (c:=[]) trivial O) (λfn rec p=>M rec (λ {J v2 T K} N r=>Aq E (ps:=[u,G]) (vs:=[J,v2]) (by simp_all) p rfl (q8 f n 0) N r)) B d
  rename_i v u O w;have l:ps=#[u]:=by rw[<-Array.toList_inj];exact w
  subst l;unfold EK at H;cases hok:jy n [] (Td u)with
  |false=>simp_all
  |true=>rw[hok]at H;obtain⟨gf,lb,rfl,I,M⟩:=H;exact C8 D I (q8 f n 0) (qg f (c:=[]) trivial O) (λfn rec p=>M rec (λ {J T K} N r=>Aq E (ps:=[u]) (vs:=[J]) (by simp_all) p rfl (q8 f n 0) N r)) B d
  exact H.elim
 |loop x _=>intro Q j e h H B d a f;refine wpIn_mono (Ny E (.loop x) _ _ _ H B d a f) ?_;rintro ex a1 w1 ⟨z,d1,h1,q,rfl,rfl,s1,_,k⟩;exact⟨j,z,d1,h1,q,rfl,rfl,s1,k⟩
 |_=>exact λQ j e h H=>H.elim
def takeD:List Nat->(za->Prop)->za->Prop
 |[],K,h=>K h
 |b::ds,K,h=>h[b]?=Td (.deferred (Td []))/\takeD ds K (h.setIfInBounds b (.deferred Te))
def LQ(P:Program)(rs:List ResultVar)(R:Value->za->Prop):kI
 |.normal,ds,e,h=>takeD ds (λh'=>kz P h' e rs λvs=>R (kj vs) h') h
 |.ret,ds,e,h=>takeD ds (λh'=>kz P h' e rs λvs=>R (kj vs) h') h
 |_,_,_,_=>False
theorem uz{P:Program}{fn:Func}{n:Nat}{rs:List ResultVar}(i:fn.results.toList=rs){e:bK}{a:Act}(j:Sat n e a){B:World}{R:Value->za->Prop}{D:Nat}:∀(c:List Nat) (d:Nat) (h:za),takeD c (λh'=>kz P h' e rs λvs=>R (kj vs) h') h ->
  LeavesInM Fence.wide D P fn a.tmps (λe w'=>∃v k h',e=.returned v/\w'=mk B k h'/\R v h') (marks c) .returning (mk B d h)
 |[],d,h,H=>by obtain⟨v,m,l⟩:=Zy j i H;exact⟨v,l B d,v,d,h,rfl,rfl,m⟩
 |b::c,d,h,⟨h1,H⟩=>by have f:(mk B d h).heap[b]?=Td (.deferred (Td [])):=h1;exact⟨by simp,.inl ⟨_,_,rfl,run_takeDeferred (P:=P) f,uz i j c d _ H⟩⟩
theorem BA(y:P.follows .mixedOrders=Ta)(vs:List Value){f:FuncId}{fn:Func}{rs:List ResultVar}(t:P.funcs[f]?=Td fn)(c:Zz fn=Ta)(q:fn.results.toList=rs)(x:fn.ntmps=n)(hz:Nat.ble vs.length n=Ta){R:Value->za->Prop}{F:Prop}(H:F)(pl:List (Nat×iB):=[])(r:F=WD P n pl (codeOf fn) (LQ P rs R) [] (kC 0 vs) h):XC P f vs.toArray h R:=by
 have l:fn.body=Td (codeOf fn):=by unfold Zz at c;unfold codeOf;split at c;omega;cases c
 intro B d;refine callsIn_wide.1 (callsIn_of_wp_marks (F:=Fence.wide) (n:=1) t l trivial ?_ rfl);subst x;have A:vs.length<=fn.ntmps:=UU hz;have u:Sat fn.ntmps (kC 0 vs) { tmps:=vs.toArray++Ve (fn.ntmps-vs.toArray.size) undef,defers:=[] }:=by
  refine⟨rfl,by simp;omega,?_⟩;refine Xa vs.toArray _ vs 0 λj v z=>?_;have i:j<vs.length:=by rcases Up j vs.length with h|h;exact h;simp_all
  simp only[TJ,Uv];rw[U9 (by simpa using i)];simp[z]
 have:=MB y (m:=1) (by omega) (codeOf fn) _ [] _ _ (r ▸ H) B d _ u;rw[show marks []=[]from rfl,Dw]at this;refine wpIn_mono this ?_;rintro ex a w ⟨b,C,d1,h1,k,rfl,rfl,s1,e⟩;have o:(Qs (marks b) k).defers=marks b:=by unfold Qs;rw[s1.defers];rfl
 have p:(Qs (marks b) k).tmps=k.tmps:=rfl;cases ex with
 |normal=>show LeavesInM _ _ _ _ _ _ _ _ _;rw[o,p];exact uz q s1 b d1 h1 e
 |ret=>show LeavesInM _ _ _ _ _ _ _ _ _;rw[o,p];exact uz q s1 b d1 h1 e
 |_=>exact e.elim
end
end Go.X
end
section
namespace Go.X
open Go Go.X Go.Proofs Go.RowKit
section
variable {g:za} {i:Nat}
theorem zi{i j:Nat}{o:Obj}(h:j≠i):(g.setIfInBounds i o)[j]?=g[j]?:=Uo (Ne.symm h)
theorem set_self{o:Obj}(h:i<g.size):(g.setIfInBounds i o)[i]?=Td o:=UW h
section
variable {h : za} {M : Fr} {b2 b3 b4 b5 bc D l : Nat} {rec : iQ} {s : Bs} {sl : Sl} {bs : List Nat} {g : za}
end
end
section
section
variable {lo : Nat} {g : za} {M : Fr} {bp : Nat} {s : Bs} {a e : Int} {O : Nat -> Prop} {K : Value -> za -> Prop}
theorem DW:qm Tp 3=Ta:=by kernel_rfl
end
end
section
variable {g:za}
theorem rP{M:Fr}(ag:AgM M g){xs:List Int}{s:Sl}(H:Rd M (.row (.int .i64)) xs [aK s]){k:Nat}(c:k<xs.length):∃b o,s.a=Td ⟨b,o,Te⟩/\zb g ⟨b,o+k*1,Te⟩=Td (.int .i64 xs[k]):=by obtain⟨b,o,cs,e,h,f⟩:=Go.X.rowAt H c;exact⟨b,o,e,oZ ag h f⟩
theorem JB:qm Tp 25=Ta:=by kernel_rfl
theorem La:y8 Tp 25=4:=by kernel_rfl
theorem Wt{b:Nat}{x y z w:Value}(B:Blk g b #[x,y,z,w]){k:Int}{s:Bt}{sk si:Sl}{K:za->Prop}(f:∀g',(∀j,j≠b->g'[j]?=g[j]?)->g'.size=g.size->Blk g' b #[.int .i64 k,.string s,aK sk,aK si]->K g'):
  XRunU Tp (Tt 25 (.pointer (Td ⟨b,0,Te⟩)) (.agg #[.int .i64 k,.string s,aK sk,aK si])) g K:=by
 refine X4 (vs:=[.int .i64 k,.string s,aK sk,aK si]) JB B rfl La (Tm _) (λu c=>?_) λg' e i h=>f g' h i e;simp at c;rcases c with rfl|rfl|rfl|rfl <;> rfl
section
variable {t : Bs} {lvs : List Nat} {gl : Fr}
end
end
section
theorem m3:ElemT Tp 29 3 (.int .i64 0) (sz (.int .i64)) 8:=⟨by kernel_rfl,⟨Tryz.t3,by kernel_rfl,by kernel_rfl,by kernel_rfl,by kernel_rfl⟩,rfl,by decide⟩
section
variable {lo : Nat} {g : za} {M : Fr} {bp : Nat} {s : Bs} {a e : Int} {O J D : Nat -> Prop} {K : Value -> za -> Prop} {HI : List Bs -> za -> Prop} {F : FuncId} {A C : Array Value}
end
end
section
theorem Ai:ElemT Tp 22 9 (.string ⟨#[]⟩) (sz .str) 16:=⟨by kernel_rfl,⟨Tryz.t9,by kernel_rfl,by kernel_rfl,by kernel_rfl,by kernel_rfl⟩,rfl,by decide⟩
section
variable {lo : Nat} {g : za} {M gl : Fr} {bp : Nat} {s : Bs} {a e : Int} {O : Nat -> Prop} {K : Value -> za -> Prop}
end
end
section
theorem kf{M:Fr}{T:Ty}:Rd M (.row T) [] [aK ⟨Te,0,0⟩]:=⟨_,rfl,Te,0,rfl,⟨by simp,by simp⟩,.inl rfl⟩
end
end Go.X
end
section
namespace Go.X.U
section
def ns(o:Oper):Option Bool:=match o.op with
 |.fieldAddr _ _ _=>Td Ta
 |.indexAddr _ _ _=>Td Ta
 |.move _=>Td Ta
 |.assign _=>Td Ta
 |.load _ _=>Td Tc
 |.binOp _ _ _ _ _=>Td Ta
 |.call c=>match c.callee with
  |.builtin .len=>Td Ta
  |_=>Te
 |_=>Te
def pI(o:Oper):Bool:=match ns o with
 |some _=>Ta
 |none=>Tc
def ye(o:Oper):Bool:=match ns o with
 |some b=>!b
 |none=>Tc
end
end Go.X.U
end
section
namespace Go.X
section
theorem yU{gl:Fr}(N:GL gl){v:Tr}(D:Sm v)(H:we v=Ta){h:za}{M:Fr}{u:Value}(F:Fr.le gl M)(ag:AgM M h)(C:RdV M .tree v u){K:Value->za->Prop}
  (P:∀(h':za) (bs:List Nat) (sk si:Sl),Keep h.size h h'->OT h' v bs (ze v.kind v.text sk si)->(∀b∈bs,h.size<=b)->K (.agg #[.int .i64 v.kind,.string v.text,aK sk,aK si]) h'):XC Tp 90 #[u] h K:=by
 have l:=C;obtain⟨sk,si,rfl,T,ri⟩:=qe C;apply Hs v.kind v.text sk si;intro h1 f;have S:h1.size=h.size+1:=To _;have Y:f.size=h1.size+1:=To _;have L:Keep h.size h h1:=Keep.push _ _ (Tm _);have k2:Keep h1.size h1 f:=Keep.push _ _ (Tm _);have b1:Blk h1 h.size (ze v.kind v.text sk si).toArray:=Blk.new _ _ _;have b2:Blk f h1.size (ze 0 ⟨#[]⟩ ⟨Te,0,0⟩ ⟨Te,0,0⟩).toArray:=Blk.new _ _ _;clear_value h1 f;have q:Keep h.size h f:=L.trans k2 (by omega);have y:=ag.keep q;refine⟨v.kind,v.text,sk,si,(b1.ofKeep k2).ld (cs:=ze v.kind v.text sk si),?_⟩;have c:PC Tp gl 83 [Arg.mk .tree v] [.bool] (λr=>r=we v):=tj N D rfl;refine c.go (vs:=[.agg #[.int .i64 v.kind,.string v.text,aK sk,aK si]]) F y (zh l zy) λw I V r m k z=>?_;have z:r=we v:=z;refine⟨r,Jk k,λt=>?_,λt=>?_⟩;rw[z,H]at t;cases t;refine⟨v.kind,v.text,sk,si,((b1.ofKeep k2).ofKeep m.keep).ld (cs:=ze v.kind v.text sk si),?_⟩;have j:Keep h.size h I:=q.trans m.keep (by have:=q.size;omega);refine(Tf (cK v) v (Tm _) D (ag.keep j) l).mono ?_;rintro w' h4 ⟨x,bs,o,n,rfl,J,e⟩;have Z:=m.keep.size;have Q:=x.size;refine⟨v.kind,v.text,o,n,rfl,?_⟩;refine jr (((b2.ofKeep m.keep).ofKeep x)) rfl _ _ _ _ λE b5 U B=>?_;have O:Keep h.size h E:=⟨by have:=j.size;omega,λi hi=>by rw[B i (by omega),x.get i (by have:=j.size;omega)];exact j.get i hi⟩;have A:=J.frame λb p=>B b (by have:=e b p;omega);have G:=j.size;exact⟨v.kind,v.text,o,n,b5.ld (cs:=ze v.kind v.text o n),P E bs o n O A λb p=>by have:=e b p;omega⟩
theorem OT.zero(h:za):OT h zT [] (ze 0 ⟨#[]⟩ ⟨Te,0,0⟩ ⟨Te,0,0⟩):= OT.mk (k:=0) (s:=⟨#[]⟩) (ks:=[]) (xs:=[]) (sk:=⟨Te,0,0⟩) (si:=⟨Te,0,0⟩) (bk:=[]) (bb:=[]) (b:=0) (cs:=#[]) (bf:=λ_=>[]) ⟨rfl,by simp,by simp,.inl ⟨rfl,rfl,rfl⟩⟩ ⟨rfl,by simp,by simp⟩ (.inl ⟨rfl,rfl,rfl⟩) (λi hi=>absurd hi (by simp)) (by simp)
end
section
theorem Le(gl:Fr)(b:Bt)(R:Tr->Prop) (H:R (Tr.mk 4 b [] [])):
  PC Tp gl 98 [Arg.mk .str b] [.tree] R:=
 PF ⟨[],[],[],[]⟩ [.cell 2 25] 5 Tryz.func98 H
end
end Go.X
end
section
namespace Go.X
open Go Go.X Go.Proofs Go.RowKit
section
variable {h:za} {g:Bool}
def lK(k:Int)(s:Bt)(a b:Sl):Value:=.agg #[.int .i64 k,.string s,aK a,aK b]
theorem PT{f:FuncId}{args:Array Value}(c:g=Ta){Kt:Bool->za->Prop}(E:XC Tp f args h λv h'=>∃r,v=.bool r/\Kt r h'):
  ∃J:Value->za->Prop,(g=Ta->XC Tp f args h λv h'=>∃r:Bool,v=.bool r/\J (.bool r) h')/\(g=Tc->∃r:Bool,J (.bool r) h)/\(g=Ta->∀v h',J v h'->∃r:Bool,v=.bool r)/\∀r:Bool,∀h',J (.bool r) h'->Kt r h':=by
 refine⟨λv h'=>∃r,v=.bool r/\Kt r h',λ_=>XC.mono E λv h' ⟨r,e,H⟩=>⟨r,e,r,rfl,H⟩,λb=>(by rw[c]at b;cases b),λ_ v h' ⟨r,e,_⟩=>⟨r,e⟩,λr h' ⟨i,e,H⟩=>?_⟩;injection e with e;subst e;exact H
theorem rU{h h1:za}{s:Sl}(f:g=Ta){Kt:Sl->za->Prop}(E:Kt s h1):
  ∃J:Value->za->Prop,(g=Ta->J (aK s) h1)/\(g=Tc->∃x:Sl,J (aK x) h)/\(g=Ta->∀v h',J v h'->∃x:Sl,v=aK x)/\∀x:Sl,∀h',J (aK x) h'->Kt x h':=by
 refine⟨λv h'=>∃x,v=aK x/\Kt x h',λ_=>⟨s,rfl,E⟩,λc=>(by rw[f]at c;cases c),λ_ v h' ⟨x,e,_⟩=>⟨x,e⟩,λx h' ⟨b,e,H⟩=>?_⟩;have:x=b:=by unfold aK at e;injection e with e1 e2 e3;cases x;cases b;simp_all
 subst this;exact H
section
variable {gl : Fr} {b2 b29 : Nat} {k2 k29 : Int} {s2 : Bt} {a2 c2 a29 c29 : Sl} {h : za} {M : Fr}
end
end
section
variable {v:Tr} {sk si:Sl} {lv i:Nat}
section
variable {gl M : Fr} {b N : Nat} {ln : Bool}
def mK(gl M:Fr)(b N:Nat)(ln:Bool)(F:FuncId)(args:Array Value)(p:Bs):Prop:=
 ∀(l:Bs) (g:za) (K:Value->za->Prop),Prn g b ln (N:Int) l->Low gl M b g->l.length+p.length<=140737488355328->(∀g',Prn g' b ln (N:Int) (l++p)->FrP b g g'->K (.tuple #[]) g')->XC Tp F args g K
set_option maxRecDepth 100000 in
set_option maxHeartbeats 4000000 in
theorem EP{F:FuncId}(hF:zj Tp F=Ta)(hi:Rd M (.row .tree) v.items [aK si])(hN:N<=8)(hv:lv<=90){o c:UInt8}{ps:List Bs}(P:ps.length=v.items.length)(T:v.items.length<=1000000) (hE:∀(i:Nat) (h:i<ps.length),mK gl M b N ln F (#[.pointer (Td ⟨b,0,Te⟩)]++#[lK v.kind v.text sk si,.int .i64 (i:Int),.int .i64 ((lv+1:Nat):Int)]++#[]) ps[i]):
  mK gl M b N ln 254 #[.pointer (Td ⟨b,0,Te⟩),lK v.kind v.text sk si,.int .i64 (lv:Int),.string (bl [o,c]),.func (.func F) #[.pointer (Td ⟨b,0,Te⟩)] #[]] (o::jx ln N lv ps++[c]):=by
 intro l g K H L U hK;have ab:=(rowLen hi).1;have I:=H.lt;have e1:(o::jx ln N lv ps++[c]).length=2+(Zn ln N (lv+1) ps).length+(if ps=[]then []else xh ln N lv:Bs).length:=by unfold jx;simp only[TI,Ts,Uu];omega
 rw[e1]at U;apply Jw;intro h1;have Y:Keep g.size g h1:=Keep.push _ _ (Tm _);have B1:h1[g.size]?=Td (.cells #[.int .i64 v.kind,.string v.text,aK sk,aK si] 25 (0,0)):=qj _ _;clear_value h1;have f1:=FrP.ofKeep Y (VO I);have H1:=H.keep Y;refine⟨_,rfl,⟨by decide,by rw[zt];simp⟩,?_⟩;rw[add0];have eo:yu (bl [o,c]) (0:Int).toNat=(o.toNat:Int):=by rw[Yl];rfl
 have ec:yu (bl [o,c]) (1:Int).toNat=(c.toNat:Int):=by rw[Yl];rfl
 rw[eo];refine Zs H1 (by omega) o λt H4 V Z=>⟨_,rfl,?_⟩;have J:FrP b g t:=f1.trans ⟨V,Z⟩;have box:∀g',FrP b t g'->Blk g' g.size #[.int .i64 v.kind,.string v.text,aK sk,aK si]:=λg' f=>⟨_,f.blk ((⟨V,Z⟩:FrP b h1 t).blk B1)⟩;refine⟨si,Blk.cellAdd (o:=0) (k:=3) (box t (FrP.refl _ _)) rfl,?_⟩;refine⟨λi g'=>∃n:Nat,i=(n:Int)/\n<=ps.length/\Prn g' b ln (N:Int) (l++[o]++Zn ln N (lv+1) (ps.take n))/\FrP b t g',λi _=>ps.length-i.toNat,⟨0,rfl,by omega,by simpa[Zn]using H4,FrP.refl _ _⟩,?_⟩;rintro i g' ⟨n,rfl,hn,A,y⟩;have O:=J.trans y;have L':=L.frp O;have aa:=Ed ln N (lv+1) hn;have q:(l++[o]++Zn ln N (lv+1) (ps.take n)).length=l.length+1+(Zn ln N (lv+1) (ps.take n)).length:=by rw[Ts,Ts];rfl
 refine⟨λp=>?_,λx=>?_⟩;have p:n<ps.length:=by have:=zH p;omega
 have r:=Ed ln N (lv+1) (ps:=ps) (n:=n+1) p;have B:=Bl ln N (lv+1) p;rw[B]at r;simp only[Ts]at r;intro D C;have m:∀g2,Prn g2 b ln (N:Int) (l++[o]++Zn ln N (lv+1) (ps.take n)++(if n=0 then []else [44]))->FrP b t g2->D g2:=λg2 w u=>C _ (by have L2:=L.frp (J.trans u);rw[hX (by omega),show(lv:Int)+1=((lv+1:Nat):Int)from by omega];refine Dc w L2 hN (by omega) (by rw[Ts,q];omega) λS E Q=>⟨rfl,v.kind,v.text,sk,si,(box S (u.trans Q)).ld (cs:=[_,_,aK sk,aK si]),hF,?_⟩;refine hE n p _ _ _ E (L2.frp Q) (by rw[Ts,Ts,q];omega) λg5 H5 f5=>⟨rfl,⟨n+1,by rw[hX (by omega)];omega,p,?_,u.trans (Q.trans f5)⟩,?_⟩;rw[B];simpa[TR]using H5;show ps.length-(Tj .i64 ((n:Int)+1)).toNat<ps.length-(n:Int).toNat;rw[hX (by omega)];omega);refine⟨λj=>?_,λj=>?_⟩;have h0:n≠0:=by have:=zH j;omega
 refine⟨_,rfl,?_⟩;rw[add0];refine Zs A (by rw[q];rw[zv h0]at r;simp only[TI,Uu]at r;omega) 44 λg2 w k2 o2=>⟨_,rfl,m g2 ?_ (y.trans ⟨k2,o2⟩)⟩;rw[zv h0];exact w;have h0:n=0:=by have:=zI j;omega
 refine m g' ?_ y;rw[zA h0,Uq];exact A;have x:n=ps.length:=by have:=zI x;omega
 subst x;rw[TN]at A q;intro G z;have m:∀g2,Prn g2 b ln (N:Int) (l++[o]++Zn ln N (lv+1) ps++(if ps=[]then []else xh ln N lv))->FrP b t g2->G g2:=λg2 w u=>z _ (by refine⟨_,rfl,⟨by decide,by rw[zt];simp⟩,?_⟩;rw[add0,ec];refine Zs w (by rw[Ts,q];omega) c λS E k3 o3=>⟨_,rfl,hK S ?_ (J.trans (u.trans ⟨k3,o3⟩))⟩;unfold jx;simpa[TR]using E);refine⟨si,Blk.cellAdd (o:=0) (k:=3) (box g' y) rfl,λj=>?_,λj=>?_⟩;have h0:ps≠[]:=λe=>by
  have:=zH j;have ac:v.items.length=0:=by rw[<-P,e];rfl
  omega
 rw[zv h0]at U;refine Dc A L' hN (by omega) (by rw[q];omega) λg2 w u=>⟨rfl,m g2 ?_ (y.trans u)⟩;rw[zv h0];exact w;have h0:ps=[]:=by have:=zI j;apply TT;omega
 refine m g' ?_ y;rw[zA h0,Uq];exact A
theorem PD:zj Tp 255=Ta:=by kernel_rfl
theorem LF:zj Tp 256=Ta:=by kernel_rfl
set_option maxRecDepth 100000 in
theorem HL(hi:Rd M (.row .tree) v.items [aK si])(h:i<v.items.length){p:Bs}(n:∀(c e:Sl),Rd M (.row .str) v.items[i].keys [aK c]->Rd M (.row .tree) v.items[i].items [aK e]->mK gl M b N ln 201 #[.pointer (Td ⟨b,0,Te⟩),lK v.items[i].kind v.items[i].text c e,.int .i64 (lv:Int)] p):
  mK gl M b N ln 255 #[.pointer (Td ⟨b,0,Te⟩),lK v.kind v.text sk si,.int .i64 (i:Int),.int .i64 (lv:Int)] p:=by
 intro l g K H L q z;have x:=(rowLen hi).1;apply Wp;intro h1;have f:Keep g.size g h1:=Keep.push _ _ (Tm _);have t:Blk h1 g.size #[.int .i64 v.kind,.string v.text,aK sk,aK si]:=Blk.new _ _ _;clear_value h1;have j:=FrP.ofKeep f (VO H.lt);have m:=L.frp j;obtain⟨a,c,e,u,B,w,y⟩:=Yj m.ag hi h;refine⟨si,Blk.cellAdd (o:=0) (k:=3) t rfl,a,⟨u,by omega,by omega⟩,_,_,c,e,by rw[Tq];exact B,?_⟩;exact n c e w y l h1 _ (H.keep f) m q λg' A r=>⟨rfl,z g' A (j.trans r)⟩
set_option maxRecDepth 100000 in
theorem SS(hg:GL gl)(Y:Brn gl)(F:Rd M (.row .str) v.keys [aK sk])(hi:Rd M (.row .tree) v.items [aK si])(h:i<v.items.length)(V:i<v.keys.length)(t:(lb v.keys[i]).length<=1048576){p:Bs}(hE:∀(c e:Sl),Rd M (.row .str) v.items[i].keys [aK c]->Rd M (.row .tree) v.items[i].items [aK e]->mK gl M b N ln 201 #[.pointer (Td ⟨b,0,Te⟩),lK v.items[i].kind v.items[i].text c e,.int .i64 (lv:Int)] p):
  mK gl M b N ln 256 #[.pointer (Td ⟨b,0,Te⟩),lK v.kind v.text sk si,.int .i64 (i:Int),.int .i64 (lv:Int)] (i3 ln v.keys[i] p):=by
 intro l g K H L y I;unfold i3 at y I;simp only[Ts,TI]at y;have aa:=(rowLen hi).1;have E:=(rowLen F).1;apply Jb;intro h1;have D:Keep g.size g h1:=Keep.push _ _ (Tm _);have J:h1[g.size]?=Td (.cells #[.int .i64 v.kind,.string v.text,aK sk,aK si] 25 (0,0)):=qj _ _;clear_value h1;have G:=FrP.ofKeep D (VO H.lt);have C:=L.frp G;obtain⟨a,w,x,q,n⟩:=kR C.ag F V (i:=(i:Int)) rfl (L:=sk.len) rfl (Q:=λx=>x=v.keys[i]) rfl;subst n;refine⟨sk,Blk.cellAdd (o:=0) (k:=2) ⟨_,J⟩ rfl,a,w,v.keys[i],q,?_⟩;refine Cy hg Y (H.keep D) C t (by omega) λh6 T f6=>⟨rfl,_,rfl,?_⟩;rw[add0];refine Zs T (by simp only[Ts];omega) 58 λO z k9 o9=>⟨_,rfl,?_⟩;have S:FrP b h1 O:=f6.trans ⟨k9,o9⟩;intro r m;have f:∀g2,Prn g2 b ln (N:Int) (l++(iz (lb v.keys[i])).1++[58]++(if ln then [32]else []))->FrP b h1 g2->r g2:=λg2 B A=>m _ (by have P:=C.frp A;obtain⟨a',c,e,e1,e2,e3,e4⟩:=Yj P.ag hi h;refine⟨si,Blk.cellAdd (o:=0) (k:=3) ⟨_,A.blk J⟩ rfl,a',⟨e1,by omega,by omega⟩,_,_,c,e,by rw[Tq];exact e2,?_⟩;refine hE c e e3 e4 _ g2 _ B P (by simp only[Ts,TI,Uu];omega) λg' H' f'=>⟨rfl,I g' ?_ (G.trans (A.trans f'))⟩;simpa[TR]using H');have u:=z;obtain⟨p9,Z,e9,ab,U⟩:=u;refine⟨_,rfl,ln,Blk.cellAdd (o:=0) (k:=2) (cs:=#[.pointer p9,aK Z,.bool ln,.int .i64 (N:Int)]) ⟨_,e9⟩ rfl,λj=>?_,λj=>?_⟩;subst j;refine⟨_,rfl,?_⟩;rw[add0];refine Zs z (by simp only[if_true,TI,Uu]at y;simp only[Ts,TI,Uu];omega) 32 λg2 B k2 o2=>⟨_,rfl,f g2 B (S.trans ⟨k2,o2⟩)⟩;subst j;refine f O ?_ S;simpa using z
end
end
section
section
variable {gl M : Fr} {b N : Nat} {ln : Bool}
theorem NE{g:za}{l:Bs}(H:Prn g b ln (N:Int) l)(s:Bt)(c:l.length+(lb s).length<=140737488355328){K:Value->za->Prop}(e:∀g',Prn g' b ln (N:Int) (l++lb s)->Keep b g g'->Otk g g'->K (.tuple #[.int .i64 ((lb s).length:Int),.nilIface]) g'):
  XC Tp 68 #[.pointer (Td ⟨b,0,Te⟩),.string s] g K:=by
 have:=Qr H (lb s) c e;rw[jA]at this;exact this
set_option maxRecDepth 100000 in
set_option maxHeartbeats 2000000 in
theorem FP(T:GL gl)(O:Brn gl)(V:N<=8):∀(n:Nat) (v:Tr) (lv:Nat) (sk si:Sl),n<=1000000->cK v<=n->Qp zo v=Ta->Sm v->lv+ie v<=90->Rd M (.row .str) v.keys [aK sk]->Rd M (.row .tree) v.items [aK si] ->
  mK gl M b N ln 201 #[.pointer (Td ⟨b,0,Te⟩),lK v.kind v.text sk si,.int .i64 (lv:Int)] (Yo ln N v lv)
 |0,v,lv,sk,si,_,h,_,_,_,_,_=>by have:=Qx v;omega
 |n+1,v,lv,sk,si,hn,hz,hok,hsm,hd,hk,hi=>by
  intro l g K H L q t;have f:=hok;rw[xg,TC]at f;have r:∀(i:Nat) (h:i<v.items.length) (j m:Sl),Rd M (.row .str) v.items[i].keys [aK j]->Rd M (.row .tree) v.items[i].items [aK m]->mK gl M b N ln 201 #[.pointer (Td ⟨b,0,Te⟩),lK v.items[i].kind v.items[i].text j m,.int .i64 ((lv+1:Nat):Int)] (Yo ln N v.items[i] (lv+1)):=λi h j m h1 Z=>by
   have J:=TA h;have hs:=qq J;have aa:=s7 J;have G:Qp zo v.items[i]=Ta:=by rw[je,T7]at f;exact f.2 _ J
   exact FP T O V n v.items[i] (lv+1) j m (by omega) (by omega) G (hsm.item J) (by omega) h1 Z
  have I:v.items.length<=1000000:=by have:=Zk v.items;rw[w7]at hz;omega
  rw[nA]at q t;apply Ju;intro h1;have Y:Keep g.size g h1:=Keep.push _ _ (Tm _);have E:Blk h1 g.size #[.int .i64 v.kind,.string v.text,aK sk,aK si]:=Blk.new _ _ _;clear_value h1;have B:=FrP.ofKeep Y (VO H.lt);have C:=H.keep Y;have Q:=L.frp B;refine⟨v.kind,Blk.cellAdd (o:=0) (k:=0) E rfl,λp=>?_,λp=>⟨λu=>?_,λu=>⟨λy=>?_,λy=>⟨λz=>?_,λz=>?_⟩⟩⟩⟩;have p:v.kind=1:=eq_of_beq p;rw[zA p]at q t;refine⟨_,rfl,?_⟩;rw[add0];exact Qr C [110,117,108,108] q λg' w P U=>⟨_,_,rfl,t g' w (B.trans ⟨P,U⟩)⟩;have A:v.kind≠1:=λe=>by rw[e]at p;cases p
  have u:v.kind=4:=eq_of_beq u;rw[zv A,zA u]at q t;exact⟨v.text,Blk.cellAdd (o:=0) (k:=1) E rfl,Cy T O C Q hsm.text q λg' w D=>⟨rfl,t g' w (B.trans D)⟩⟩;have A:v.kind≠1:=λe=>by rw[e]at p;cases p
  have F:v.kind≠4:=λe=>by rw[e]at u;cases u
  have y:v.kind=5:=eq_of_beq y;rw[zv A,zv F,zA y]at q t;refine⟨v.kind,v.text,sk,si,E.ld (cs:=[_,_,aK sk,aK si]),?_⟩;refine EP (o:=91) (c:=93) (ps:=v.items.map λx=>Yo ln N x (lv+1)) PD hi V (by omega) (Tx _) I (λi h=>?_) l h1 _ C Q q λg' w D=>⟨rfl,t g' w (B.trans D)⟩;rw[Tx]at h;rw[US];exact HL hi h λj m a1 a2=>r i h j m a1 a2;have A:v.kind≠1:=λe=>by rw[e]at p;cases p
  have F:v.kind≠4:=λe=>by rw[e]at u;cases u
  have S:v.kind≠5:=λe=>by rw[e]at y;cases y
  have z:v.kind=6:=eq_of_beq z;rw[zv A,zv F,zv S,zA z]at q t;have ab:v.keys.length=v.items.length:=by have:=f.1;unfold zo at this;simp[z]at this;exact this.1.2
  refine⟨v.kind,v.text,sk,si,E.ld (cs:=[_,_,aK sk,aK si]),?_⟩;refine EP (o:=123) (c:=125) (ps:=List.zipWith (i3 ln) v.keys (v.items.map λx=>Yo ln N x (lv+1))) LF hi V (by omega) (by rw[List.length_zipWith,Tx];omega) I (λi h=>?_) l h1 _ C Q q λg' w D=>⟨rfl,t g' w (B.trans D)⟩;rw[List.length_zipWith,Tx]at h;rw[List.getElem_zipWith,US];exact SS T O hk hi (by omega) (by omega) (hsm.key (TA _)) λj m a1 a2=>r i (by omega) j m a1 a2;have A:v.kind≠1:=λe=>by rw[e]at p;cases p
  have F:v.kind≠4:=λe=>by rw[e]at u;cases u
  have S:v.kind≠5:=λe=>by rw[e]at y;cases y
  have n6:v.kind≠6:=λe=>by rw[e]at z;cases z
  rw[zv A,zv F,zv S,zv n6]at q t;refine⟨_,rfl,v.text,Blk.cellAdd (o:=0) (k:=1) E rfl,?_⟩;rw[add0];exact NE C v.text q λg' w P U=>⟨_,_,rfl,t g' w (B.trans ⟨P,U⟩)⟩
end
end
end Go.X
end
section
namespace Go.X
open Go Go.Lib
section
variable {ln:Bool} {lv:Nat}
theorem MC(ln:Bool)(nd lv:Nat)(ps:List Bs):(Zn ln nd lv ps).length<=(ps.map λp=>p.length+(1+(xh ln nd lv).length)).sum:=by
 cases ps with
 |nil=>exact Tm _
 |cons p ps=>
  have:∀b:List Bs,(b.flatMap λq=>44::(xh ln nd lv++q)).length=(b.map λp=>p.length+(1+(xh ln nd lv).length)).sum:=by
   intro b;induction b with
   |nil=>rfl
   |cons q b c=>rw[UE,Ts,c,TV,List.sum_cons];simp;omega
  rw[Zn,Ts,Ts,this,TV,List.sum_cons];omega
theorem F5{nd lv:Nat}(h:nd<=8)(b:lv<=100):(xh ln nd lv).length<=801:=by unfold xh;have:nd*lv<=800:=Ux (Vq h b) (by omega);split;rw[TI,Vg];omega;simp
theorem qJ(t:Bs):(iz t).1.length<=6*t.length+2:=by unfold iz;have:=v9 t;split;simp;omega;simp
theorem wG{ln:Bool}{N:Nat}(r:N<=8):∀(n:Nat) (v:Tr) (lv:Nat),cK v<=n->Sm v->lv+ie v<=90->(Yo ln N v lv).length+10000000<=cK v*20000000
 |0,v,lv,h,_,_=>by have:=Qx v;omega
 |n+1,v,lv,hz,hsm,hd=>by
  have C:=hsm.text;have u:=Qx v;have e:∀x∈v.items,(Yo ln N x (lv+1)).length+10000000<=cK x*20000000:=λx q=>by have h1:=qq q;have t:=s7 q;exact wG r n x (lv+1) (by omega) (hsm.item q) (by omega)
  have B:=F5 (ln:=ln) (lv:=lv) r (by omega);have z:=F5 (ln:=ln) (lv:=lv+1) r (by omega);have f:∀l:List Tr,(∀x∈l,(Yo ln N x (lv+1)).length+10000000<=cK x*20000000)->(l.map λx=>(Yo ln N x (lv+1)).length+10000000).sum<=Zc l*20000000:=by
   intro l;induction l with
   |nil=>intro _;exact TK _
   |cons x l j=>intro h;have h1:=h x TQ;have t:=j λy m=>h y (TS _ m);rw[TV,List.sum_cons,Zc,UX];omega
  have w:=f v.items e;have b:∀ps:List Bs,(ps.map λp=>p.length+(1+(xh ln N (lv+1)).length)).sum<=Zc v.items*20000000->∀o c:UInt8,(o::jx ln N lv ps++[c]).length+10000000<=cK v*20000000:=λps A o c=>by
   have F:=MC ln N (lv+1) ps;have:(o::jx ln N lv ps++[c]).length<=2+(Zn ln N (lv+1) ps).length+(xh ln N lv).length:=by unfold jx;simp only[TI,Ts,Uu];split <;> simp <;> omega
   rw[w7,UX];omega
  rw[nA];split;simp only[TI,Uu];omega;split;have:=qJ (lb v.text);omega;split;refine b _ (Ux ?_ w) 91 93;rw[T9];have:∀l:List Tr,(l.map ((λp:Bs=>p.length+(1+(xh ln N (lv+1)).length)) ∘ λx=>Yo ln N x (lv+1))).sum<=(l.map λx=>(Yo ln N x (lv+1)).length+10000000).sum:=by
   intro l;induction l with
   |nil=>exact Tm _
   |cons x l j=>simp only[TV,List.sum_cons,Function.comp];omega
  exact this _;split;refine b _ (Ux ?_ w) 123 125;have:∀(ks:List Bt) (l:List Tr),(∀k∈ks,(lb k).length<=1048576)->((List.zipWith (i3 ln) ks (l.map λx=>Yo ln N x (lv+1))).map λp:Bs=>p.length+(1+(xh ln N (lv+1)).length)).sum<=(l.map λx=>(Yo ln N x (lv+1)).length+10000000).sum:=by
   intro ks;induction ks with
   |nil=>intro l _;simp
   |cons k ks j=>
    intro l i;cases l with
    |nil=>simp
    |cons x l=>
     have h1:=j l λy m=>i y (TS _ m);have t:=i k TQ;have E:=qJ (lb k);have D:(i3 ln k (Yo ln N x (lv+1))).length<=(iz (lb k)).1.length+2+(Yo ln N x (lv+1)).length:=by unfold i3;rw[Ts,TI,Ts];split <;> simp <;> omega
     simp only[TV,List.zipWith_cons_cons,List.sum_cons];omega
  exact this v.keys v.items λk i=>hsm.key i;omega
theorem Io{N:Nat}{v:Tr}(h:iu v=Ta):Yo ln N v lv≠[]:=by unfold iu at h;rw[TC]at h;obtain⟨k,h⟩:=h;unfold zo at h;rw[nA];by_cases h1:v.kind=1;rw[zA h1];simp;rw[zv h1]at h ⊢;by_cases b:v.kind=4;rw[zA b];rw[b]at h;simp at h;unfold iz;rw[zA h.1.1];simp;rw[zv b];by_cases f:v.kind=5;rw[zA f];simp;rw[zv f];by_cases c:v.kind=6;rw[zA c];simp;rw[zv c];by_cases i:v.kind=2;rw[zA i]at h;simp at h;rcases h.1.1 with e|e <;> (rw[e];simp);rw[zv i]at h;by_cases j:v.kind=3;rw[zA j]at h;simp only[TC]at h;have:=h.1.1;unfold kq at this;simp only[TC,beq_iff_eq]at this;intro e;rw[e]at this;exact absurd this.1 (by decide);rw[zv j,zv b,zv f,zv c]at h;split at h;rename_i e;simp[e]at k;cases h
end
end Go.X
end
section
namespace Go.X
open Go Go.X Go.Proofs Go.RowKit
section
variable {v:Tr} {ln:Bool} {N lv:Nat} {gl M:Fr}
def Wu(v:Tr):Bt×Int:=if zm v=Ta then(bl (Yo Tc 0 v 0),0)else(⟨#[]⟩,1)
theorem Qc(h:zm v=Ta):cK v<=4096/\ie v<=32/\Qp iu v=Ta/\Qp zo v=Ta:=by unfold zm Zj at h;simp only[TC,zG]at h;refine⟨h.1.1,h.1.2,h.2,?_⟩;exact un (λx b=>by rw[TC]at b;exact b.2) v h.2
theorem JF(h:zm v=Ta):Yo ln N v lv≠[]:=by have:=(Qc h).2.2.1;rw[xg,TC]at this;exact Io this.1
theorem Mw(o:GL gl)(n:Brn gl)(h:Sm v)(e:zm v=Ta)(f:N<=8)(x:lv<=32){g:za}{b:Nat}(m:Fr.le gl M)(ag:AgM M g)(low:∀c cs,M c=Td cs->c<b)(H:Prn g b ln (N:Int) []) {sk si:Sl} (u:Rd M (.row .str) v.keys [aK sk]) (q:Rd M (.row .tree) v.items [aK si]) {K:Value->za->Prop} (t:∀h',Keep b g h'->K (.string (bl (Yo ln N v lv))) h'):
  XC Tp 201 #[.pointer (Td ⟨b,0,Te⟩),lK v.kind v.text sk si,.int .i64 (lv:Int)] g λr h1=>r=.tuple #[]/\XC Tp 70 #[.pointer (Td (Tl ⟨b,0,Te⟩ 0))] h1 K:=by
 obtain⟨y,z,w,p⟩:=Qc e;have j:=wG (ln:=ln) f (cK v) v lv (Tm _) h (by omega);refine FP o n f 1000000 v lv sk si (Tm _) (by omega) p h (by omega) u q [] g _ H ⟨m,ag,low⟩ (by simp only[Uu];omega) λg' i l=>⟨rfl,?_⟩;rw[add0];rw[UO]at i;exact Hu i (JF e) λh' k=>t h' (l.keep.trans k (Tm _))
theorem AX(s:Bt)(e:Int):Yg M [.str,.int .i64] (s,e) (.tuple #[.string s,.int .i64 e]):=⟨[_,_],⟨_,_,rfl,rdStr _,_,rfl,Qv _ _⟩,rfl⟩
set_option maxRecDepth 100000 in
theorem Ax(z:GL gl)(B:Brn gl)(A:Sm v){R:Bt×Int->Prop}(l:R (Wu v)):PC Tp gl 126 [Arg.mk .tree v] [.str,.int .i64] R:=by
 intro h M vs y ag H
 match vs,H with
 |[u],⟨p,_⟩=>
  have p:RdV M .tree v u:=p;have x:=p;obtain⟨sk,si,rfl,E,G⟩:=qe p;apply PX.of;apply Rh v.kind v.text sk si;intro h1;have f:Later h M h1 M:=Later.push ag _;have s1:h1.size=h.size+1:=To _;have i:∀h':za,Keep h1.size h1 h'->zc h' ⟨h.size,0,Te⟩ 0 [.int .i64 v.kind,.string v.text,aK sk,aK si]:=λh' k=>pr (h':=h') (by rw[s1]at k;exact k);clear_value h1;refine⟨v.kind,v.text,sk,si,i h1 (Keep.refl _ _),?_⟩;refine(Yn z A (R:=λr=>r=zm v) rfl).go (vs:=[.agg #[.int .i64 v.kind,.string v.text,aK sk,aK si]]) (y.trans f.le) f.ag (zh (RdV.mono f.le x) zy) λw o t r b m F=>?_;subst F;refine⟨_,Jk m,λj=>?_,λj=>?_⟩;have j:zm v=Tc:=by simpa using j
  unfold Wu at l;rw[zv (by rw[j];simp)]at l;exact⟨t,_,f.trans b,AX _ _,l⟩;have j:zm v=Ta:=by simpa using j
  unfold Wu at l;rw[zA j]at l;intro n;have C:Prn n o.size Tc ((0:Nat):Int) []:=Prn.new o Tc 0;have q:Keep o.size o n:=Keep.push _ _ (Tm _);clear_value n;have D:Later h M n t:=(f.trans b).trans (Later.same b.ag q);refine⟨v.kind,v.text,sk,si,i n (b.keep.trans q b.keep.size),?_⟩;refine Mw z B A j (N:=0) (lv:=0) (by omega) (by omega) (y.trans (f.trans b).le) D.ag (λc cs e=>b.ag.lt e) C (E.mono (f.trans b).le) (G.mono (f.trans b).le) λJ I=>⟨_,rfl,t,_,?_,AX _ _,l⟩;exact(f.trans b).trans (Later.same b.ag (q.trans I (Tm _)))
end
end Go.X
end
section
namespace Go.X
section
theorem qo(b:Nat)(c1:Addr)(h:za)(R:Value->za->Prop) (H:∃r:Option Nat,zb h c1=Td (.map r)/\XRun Tp (VX 144 (.map r)) h (λG F=>∃j:Option Addr,G=.pointer j/\∃(m:za->Prop) (o:za->Nat),m F/\∀l:za,m l->(XRun Tp (Vn (.pointer j) Tc 0) l (λz k=>(z=.tuple #[.bool Tc]/\(Tc=Ta->XRun Tp (VH (.pointer j)) k (λy B=>∃q u:Value,y=.tuple #[q,u]/\YX Tp b #[q] B (λx f=>∃e:Bool,x=.bool e/\((!e)=Ta->R (.tuple #[]) f)/\((!e)=Tc->(m f/\o f<o l)))))/\(Tc=Tc->R (.tuple #[]) k))\/∃C A:Value,z=.tuple #[.bool Ta,C,A]/\(Ta=Ta->XRun Tp (VH (.pointer j)) k (λD E=>∃p w:Value,D=.tuple #[p,w]/\YX Tp b #[p] E (λt i=>∃c:Bool,t=.bool c/\((!c)=Ta->R (.tuple #[]) i)/\((!c)=Tc->(m i/\o i<o l)))))/\(Ta=Tc->R (.tuple #[]) k))))):
  lH Tp 222 #[.func (.yield b) #[] #[],.pointer (Td c1)] h R:=
 vX Tryz.mixed ⟨[],[(1,[])],[]⟩ [.func (.yield b) #[] #[],.pointer (Td c1)] (rs:=[]) (n:=14) Tryz.func222 (by kernel_rfl) (by kernel_rfl) (by kernel_rfl) (by kernel_rfl) (Eq.mp (by kernel_rfl) H)
theorem qw(j:Sl)(f:Value)(h:za)(R:Value->za->Prop) (H:let c:za:=U8 h (.cells #[.slice j.a j.len j.cap] 22);∃(m:FuncId) (k:Array Value),f=.func (.func m) #[] k/\zj Tp m=Ta/\∀e:iQ,(∀{p:Value} {l:za} {o:Value->za->Prop},l[(TG c+1)]?=Td (.loop (e .ready Te))->X8 Tp 13 (lw (codeOf Tryz.f277)) (kO (codeOf Tryz.f277)) e (TG c+1) o (putO [(0,[],.slice j.a j.len j.cap),(1,[],f),(2,[],.pointer (Td ⟨TG h,0,Te⟩)),(4,[],.slice Te 0 0),(6,[],f)] (Td 7) [] p) l->YX Tp (TG c+1) #[p] l o)->lH Tp m (#[.func (.yield (TG c+1)) #[] #[]]++k) (U8 (U8 c (.deferred (Td []))) (.loop (e .ready Te))) λ_ q=>pM e (TG c+1) (λi=>∃b:Sl,zb i ⟨TG h,0,Te⟩=Td (.slice b.a b.len b.cap)/\(i)[TG c]?=Td (.deferred (Td []))/\R (.slice b.a b.len b.cap) (Array.setIfInBounds i (TG c) (.deferred Te))) (λi=>(i)[TG c]?=Td (.deferred (Td []))/\R (.slice Te 0 0) (Array.setIfInBounds i (TG c) (.deferred Te))) q):
  XC Tp 277 #[.slice j.a j.len j.cap,f] h R:=
 BA Tryz.mixed [.slice j.a j.len j.cap,f] (rs:=[.tmp 4]) (n:=13) Tryz.func277 (by kernel_rfl) (by kernel_rfl) (by kernel_rfl) (by kernel_rfl) H (pl:=[]) (by kernel_rfl)
theorem qy(o:Value)(r:Value)(m:Addr)(p:Value)(q:Value)(n:Bt)(rec:iQ)(l:Nat)(K:Value->za->Prop)(h:za) (H:(h)[l]?=Td (.loop (rec .ready Te))/\let e:za:=Array.setIfInBounds h l (.loop (rec .busy Te));∃c:Sl,zb e m=Td (.slice c.a c.len c.cap)/\let i:za:=U8 e (.cells #[.string n] 9);XRun Tp (TB #[22,22] 22 #[.slice c.a c.len c.cap,.slice (Td ⟨TG e,0,Te⟩) 1 1]) i (λj k=>∃b:Sl,j=.slice b.a b.len b.cap/\XRunU Tp (Tt 22 (.pointer (Td m)) (.slice b.a b.len b.cap)) k (λf=>(f)[l]?=Td (.loop (rec .busy Te))/\K (.bool Ta) (Array.setIfInBounds f l (.loop (rec .ready Te)))))):
  X8 Tp 13 (lw (codeOf Tryz.f277)) (kO (codeOf Tryz.f277)) rec l K [(7,[],.string n),(0,[],o),(1,[],r),(2,[],.pointer (Td m)),(4,[],p),(6,[],q)] h:=
 Eq.mp (by kernel_rfl) H
end
section
theorem wv(j:FuncId)(i:Array Value)(k:Array Value)(h:za)(R:Value->za->Prop) (H:XC Tp 220 #[.func (.func j) i k] h (λb c=>∃d,b=aK d/\XC Tp 221 #[aK d] c (λe f=>e=.tuple #[]/\R (aK d) f))):
  XC Tp 161 #[.func (.func j) i k] h R:=
 XF ⟨[],[],[]⟩ [.tmp 2] 9 Tryz.func161 H
theorem qt(b:Option Nat)(h:za)(R:Value->za->Prop) (H:let a:=h.push (.cells #[.map b] 144);R (.func (.func 222) #[] #[.pointer (Td ⟨h.size,0,Te⟩)]) a):
  XC Tp 162 #[.map b] h R:=
 XF ⟨[],[],[]⟩ [.tmp 2] 4 Tryz.func162 H
theorem wa(f:FuncId)(e:Array Value)(i:Array Value)(h:za)(R:Value->za->Prop) (H:XC Tp 277 #[.slice Te 0 0,.func (.func f) e i] h (λb c=>∃d,b=aK d/\R (aK d) c)):
  XC Tp 220 #[.func (.func f) e i] h R:=
 XF ⟨[],[],[]⟩ [.tmp 2] 5 Tryz.func220 H
end
end Go.X
end
section
namespace Go.X
open Go Go.Proofs Go.Shelf Go.RowKit
section
def QN:Go.Shelf.Ren:=⟨fun|190=>221|125=>114|258=>278|128=>177|129=>178|302=>324|303=>325|304=>326|305=>327|306=>328|307=>329|308=>330|309=>331|310=>332|333=>371|329=>236|330=>237|334=>372|335=>373|336=>207|344=>395|n=>n,fun|31=>22|9=>9|3=>3|46=>123|0=>0|51=>176|53=>178|4=>4|183=>168|182=>167|131=>173|5=>5|218=>245|222=>249|228=>299|229=>300|n=>n,fun|n=>n⟩
theorem Dq:Go.Proofs.Lays.n190 Tp QN:=by constructor <;> intros <;> kernel_rfl
open Go.Sort Go.RowKit in
theorem Xu(blk off cap:Nat)(ss:List (List UInt8))(w:World)(f:Holds encStr w blk off ss.toArray)(b:blk<w.heap.size)(c:ss.length<4611686018427387904):
  Calls Tp 221 #[.slice (Td ⟨blk,off,Te⟩) ss.length cap] w λe w'=>
   e=.returned (.tuple #[])/\∃n os,w'=grow (putRow encStr (Sort.ahead w n) blk off (ss.mergeSort λx y=>decide (x<=y)).toArray) os:=Any.slices_Sort_string Dq blk off cap ss w f b c
open Go.RowKit Go.Sort in
theorem Qz(p:Option Addr)(cap:Nat)(w:World): Calls Tp 221 #[.slice p 0 cap] w λe w'=>e=.returned (.tuple #[])/\w'=w:=Any.slices_Sort_string_none Dq p cap w
end
end Go.X
end
section
namespace Go.X
open Go Go.Lib
section
def zf(xs:List Bt):List Bt:=((xs.map lb).mergeSort λx y=>decide (x<=y)).map bl
theorem Ig{xs ys:List Bt}(h:xs.Perm ys):zf xs=zf ys:=by unfold zf;rw[mergeSort_of_perm (h.map lb)]
theorem qi(xs:List Bt):(zf xs).Perm xs:=by
 have h:=(List.mergeSort_perm (xs.map lb) λx y=>decide (x<=y)).map bl;rw[T9]at h;have e:bl ∘ lb=id:=by funext x;exact jA x
 rw[e,List.map_id]at h;exact h
theorem He(xs:List Bt):(zf xs).length=xs.length:=(qi xs).length_eq
end
end Go.X
end
section
namespace Go.X
open Go Go.X Go.Proofs Go.RowKit Go.Sort Go.Shelf
section
variable {h:za} {xs:List Bt} {K:Value -> za -> Prop} {c m:Nat}
theorem XC.of_below{P:Program}{f:FuncId}{args:Array Value}{R:Value->za->Prop}(H:∀B d,Calls P f args (mk B d h) λe w'=>∃v,e=.returned v/\w'.os=B.os/\w'.tape=B.tape/\w'.output=B.output/\R v w'.heap):XC P f args h R:=by intro B d;refine(H B d).mono ?_;rintro e w' ⟨v,rfl,h1,b,i,c⟩;refine⟨v,w'.drawn,w'.heap,rfl,?_,c⟩;cases w';simp only[mk]at *;subst h1;subst b;subst i;rfl
theorem ni{base:Nat}{s:Sl}(H:Owns h base 9 1 s (xs.map TH)):s.len=xs.length:=by have:=H.length;simp at this;omega
theorem PR(xs:List Bt):(xs.map lb).map encStr=xs.map TH:=by rw[T9];refine UT λx _=>?_;show TH _=_;exact congrArg TH (jA x)
theorem A9{base:Nat}{s:Sl}(H:Owns h base 9 1 s (xs.map TH))(t:xs.length<=1000000):
  XC Tp 221 #[.slice s.a s.len s.cap] h λv h'=>v=.tuple #[]/\Owns h' base 9 1 s ((zf xs).map TH)/\h.size<=h'.size/\∀i,i<h.size->(∀p,s.a=Td p->i≠p.block)->h'[i]?=h[i]?:=by
 refine XC.of_below λB d=>?_;have k:s.len=xs.length:=ni H;have b:(xs.map lb).length=xs.length:=by simp
 have f:(zf xs).map TH=((xs.map lb).mergeSort λx y=>decide (x<=y)).map encStr:=by unfold zf;rw[T9];rfl
 rcases H.2 with⟨q,h0⟩|⟨g,cap,m,q,o,F,E,J,C,G⟩;have D:xs=[]:=TT (by omega);subst D;rw[h0];refine(Qz s.a s.cap (mk B d h)).mono ?_;rintro e w' ⟨rfl,rfl⟩;exact⟨_,rfl,rfl,rfl,rfl,rfl,by rw[show zf []=[]from List.Perm.eq_nil (qi [])];exact H,Tm _,λ_ _ _=>rfl⟩;simp only[Ua]at q;obtain⟨z,_,rfl⟩:=q;have j:(mk B d h).heap[g]?=Td (.cells m 9 (0,0)):=F;have r:g<(mk B d h).heap.size:=(TD.1 j).1;have I:Holds encStr (mk B d h) g 0 (xs.map lb).toArray:=holds_of_block j (by rw[b,PR,<-k];simpa using G);have A:=Xu g 0 s.cap (xs.map lb) (mk B d h) I r (by rw[b];omega);rw[b,<-k]at A;rw[z];refine A.mono ?_;rintro e w' ⟨rfl,n,os,rfl⟩;have c:=grownBy_sorted (w:=mk B d h) (g:=g) (n:=n) (os:=os) ((xs.map lb).mergeSort λx y=>decide (x<=y)).toArray;refine⟨_,rfl,c.os,c.tape,c.output,rfl,?_,c.size,λi hi l=>c.block i hi λe=>l _ rfl (by simpa using e)⟩;have u:=ownsRow_sorted (w:=mk B d h) (base:=base) (n:=n) (os:=os) (ss:=xs.map lb) (ts:=(xs.map lb).mergeSort λx y=>decide (x<=y)) (by simp) o j (by rw[b,<-k];exact E) J (by simpa using C);rw[<-f,b,<-k]at u;show World.ownsRow _ base _ 1 (.slice s.a s.len s.cap) s.len _;rw[z];exact u
theorem QX:T6.underlying 144=Td (.map 9 25):=by kernel_rfl
theorem NX:zj Tp 222=Ta:=by kernel_rfl
theorem DF:∀{xs ys:List Bt},xs.Nodup->(∀x∈xs,x∈ys)->xs.length<=ys.length
 |[],_,_,_=>TK _
 |x::xs,ys,hn,hs=>by
  rw[Ut]at hn;have e:=hs x TQ;obtain⟨a,b,rfl⟩:=List.append_of_mem e;have:=DF (ys:=a++b) hn.2 λy c=>by have:=hs y (TS _ c);rw[TE,Tz]at this;rw[TE];rcases this with h|rfl|h;exact .inl h;exact absurd c hn.1;exact .inr h
  simp only[Ts,TI]at this ⊢;omega
structure KyS (h:za) (m:Nat) (rec:iQ) (ps:List (Bt×Value)) (g:za) (xs:List Bt) (sl:Sl):Prop where
 keep:Keep h.size h g
 d:g[h.size+1]?=Td (.deferred (Td []))
 rc:g[h.size+2]?=Td (.loop (rec .ready Te))
 box:Blk g h.size #[aK sl]
 o:Owns g (h.size+4) 9 1 sl (xs.map TH)
 it:MapIt g (h.size+3) m (Qq ps) (xs.reverse.map TH)
 nd:xs.Nodup
 sub:∀x∈xs,x∈ps.map (·.1)
 gz:h.size+4<=g.size
theorem KC(ps:List (Bt×Value)):(Qq ps).map (·.1)=(ps.map (·.1)).map TH:=by unfold Qq;rw[T9,T9];rfl
theorem Sk{ks:List Bt}(h:ks.Nodup):(ks.map TH).Nodup:=by
 induction ks with
 |nil=>exact Vk
 |cons k ks b=>rw[Ut]at h;rw[TV,Ut];refine⟨λc=>?_,b h.2⟩;obtain⟨x,f,e⟩:=Ub.1 c;injection e with e;exact h.1 (e ▸ f)
section
variable {h : za} {m : Nat} {rec : iQ} {ps : List (Bt × Value)} {g : za} {xs : List Bt} {sl : Sl}
set_option maxRecDepth 100000 in
theorem KyS.round(S:KyS h m rec ps g xs sl)(hm:m<h.size)(u:xs.length<=1000000){g1:za}{k:Bt}(C:MapIt g1 (h.size+3) m (Qq ps) ((k::xs.reverse).map TH))(z1:g1.size=g.size)(H:∀j,j≠h.size+3->g1[j]?=g[j]?)(Z:k∉xs)(B:k∈ps.map (·.1)) {x6 V U T:Value} (hK:∀g' E,KyS h m rec ps g' (xs++[k]) E->g'[h.size+3]?=g1[h.size+3]?->g'[m]?=g1[m]?->K (.bool Ta) g'):
  X8 Tp 13 (lw (codeOf Tryz.f277)) (kO (codeOf Tryz.f277)) rec (h.size+2) K [(7,[],.string k),(0,[],U),(1,[],T),(2,[],.pointer (Td ⟨h.size,0,Te⟩)),(4,[],V),(6,[],x6)] g1:=by
 apply qy;have gz:=S.gz;have ky:=S.keep.size;refine⟨by rw[H _ (by omega)];exact S.rc,?_⟩;intro c;have r:∀j,j≠h.size+2->c[j]?=g1[j]?:=λj w=>zi w;have l2:c[h.size+2]?=Td (.loop (rec .busy Te)):=set_self (by omega);have z2:c.size=g1.size:=TW;clear_value c;have l:∀j,j≠h.size+2->j≠h.size+3->c[j]?=g[j]?:=λj a b=>(r j a).trans (H j b);have J:Blk c h.size #[aK sl]:=S.box.keep (l _ (by omega) (by omega));refine⟨sl,J.cell rfl,?_⟩;intro t;have G:Keep c.size c t:=Keep.push _ _ (Tm _);have z3:t.size=c.size+1:=To _;have S3:Blk t c.size #[.string k]:=Blk.new _ _ _;clear_value t;have o2:Owns c (h.size+4) 9 1 sl (xs.map TH):=S.o.keep λp q=>by have:=S.o.base_le p q;exact l _ (by omega) (by omega)
 have I:=o2.keepN G;have hl:=ni S.o;refine xb od I (src:=⟨Td ⟨c.size,0,Te⟩,1,1⟩) (news:=[.string k]) (n:=t.size) ?_ rfl (by simp[Value.oneCell']) (by simp only;omega) (by simp only;omega) (by omega) λA N q1 L O q4 q5=>⟨A,rfl,?_⟩;refine .inr ⟨c.size,0,rfl,by omega,λi v z=>?_⟩
 match i,z with
 |0,z=>cases z;exact S3.cell rfl
 have y:∀j,j<h.size+4->N[j]?=c[j]?:=λj w=>by rw[O j (by omega) λp q=>by have:=I.base_le p q;omega];exact G.get j (by omega)
 refine j6 vQ uZ (J.keep (y _ (by omega))) (by show 0<1;omega) rfl λD P u3 M=>?_;have f:∀j,j<h.size+4->j≠h.size->D[j]?=c[j]?:=λj w h0=>(M j h0).trans (y j w);have Y:D[h.size+2]?=Td (.loop (rec .busy Te)):=by rw[f _ (by omega) (by omega)];exact l2
 refine⟨Y,hK _ A ⟨?_,?_,set_self (by omega),?_,?_,?_,?_,?_,?_⟩ ?_ ?_⟩;refine S.keep.trans ⟨by rw[TW];omega,λj w=>?_⟩ (Tm _);rw[zi (by omega),f j (by omega) (by omega),l j (by omega) (by omega)];rw[zi (by omega),f _ (by omega) (by omega),l _ (by omega) (by omega)];exact S.d;exact Blk.keep P (zi (by omega));have:Owns D (h.size+4) 9 1 A ((xs++[k]).map TH):=by rw[Ug];exact L.keep λp q=>by have:=L.base_le p q;exact M _ (by omega)
 exact this.keep λp q=>by have:=this.base_le p q;exact zi (by omega)
 rw[List.reverse_append];refine C.keep ?_ ?_;rw[zi (by omega),f _ (by omega) (by omega),r _ (by omega)];rw[zi (by omega),f _ (by omega) (by omega),r _ (by omega)];rw[Vd];exact⟨S.nd,by simp,λa Q b F e=>by rw[TP]at F;subst F;subst e;exact Z Q⟩;intro x u;rw[TE,TP]at u;rcases u with u|rfl;exact S.sub x u;exact B;rw[TW];omega;rw[zi (by omega),f _ (by omega) (by omega),r _ (by omega)];rw[zi (by omega),f _ (by omega) (by omega),r _ (by omega)]
end
set_option maxRecDepth 100000 in
theorem Iy{ps:List (Bt×Value)}(C:Blk h c #[.map (Td m)])(W:MapW h m (Qq ps))(P:(ps.map (·.1)).Nodup)(hl:ps.length<=1000000) (hK:∀(h':za) (sl:Sl) (xs:List Bt),Keep h.size h h'->Owns h' h.size 9 1 sl (xs.map TH)->xs.Perm (ps.map (·.1))->K (.slice sl.a sl.len sl.cap) h'):
  XC Tp 277 #[.slice Te 0 0,.func (.func 222) #[] #[.pointer (Td ⟨c,0,Te⟩)]] h K:=by
 apply qw ⟨Te,0,0⟩;intro h1;have U:Keep h.size h h1:=Keep.push _ _ (Tm _);have Z:h1.size=h.size+1:=To _;have B1:Blk h1 h.size #[aK ⟨Te,0,0⟩]:=Blk.new _ _ _;clear_value h1;have Q:=W.lt;have hc:=C.lt;refine⟨_,_,rfl,NX,λrec M=>?_⟩;obtain⟨f,b⟩:∃f:za,f=((h1.push (.deferred (Td []))).push (.loop (rec .ready Te))):=⟨_,rfl⟩;have T:Keep h1.size h1 f:=by rw[b];exact(Keep.push _ _ (Tm _)).trans (Keep.push _ _ (by rw[To];omega)) (Tm _)
 have z4:f.size=h1.size+2:=by rw[b,To,To]
 have O:f[h1.size]?=Td (.deferred (Td [])):=by rw[b,VP,zv (by rw[To];omega)];exact qj _ _
 have N:f[h1.size+1]?=Td (.loop (rec .ready Te)):=by rw[b];have:=qj (h1.push (.deferred (Td []))) (.loop (rec .ready Te));rw[To]at this;exact this
 rw[<-b];clear b;have l:Keep h.size h f:=U.trans T (by omega);have G:h1.size=h.size+1:=Z;rw[G]at O N M ⊢;apply qo;refine⟨Td m,(C.keep (l.get c hc)).cell rfl,?_⟩;have W4:MapW f m (Qq ps):=W.keep (l.get m Q);refine wc QX W4 λh5 z5 w t=>⟨Td ⟨f.size,0,Te⟩,rfl,λg=>∃xs sl,KyS h m rec ps g xs sl,λg=>leftN g (h.size+3) m,⟨[],⟨Te,0,0⟩,?_⟩,?_⟩;have H:f.size=h.size+3:=by omega
 rw[H]at t;exact⟨l.trans w (by omega),(w.get _ (by omega)).trans O,(w.get _ (by omega)).trans N,(B1.ofKeep T).keep (w.get _ (by omega)),Owns.nil _ _ _ _,t,Vk,λx i=>(by cases i),by omega⟩;have H:f.size=h.size+3:=by omega
 rw[H];rintro g ⟨xs,sl,S⟩;have y:((Qq ps).map (·.1)).Nodup:=by rw[KC];exact Sk P
 have z:xs.length<=1000000:=by have h1:=DF S.nd S.sub;rw[Tx]at h1;omega
 refine vh S.it y (by omega) (λn=>.inl ⟨rfl,(λi=>by cases i),λ_=>.inl ⟨S.rc,?_⟩⟩) λk v F V g1 A u B J q=>.inr ⟨k,v,rfl,λ_=>?_,λi=>by cases i⟩;have aa:=S.gz;refine⟨sl,?_,?_,hK _ sl xs ?_ ?_ ?_⟩;exact(S.box.keep (zi (by omega))).cell rfl;rw[zi (by omega)];exact S.d;refine S.keep.trans ⟨by rw[TW,TW];exact Tm _,λj hj=>?_⟩ (Tm _);rw[zi (by omega),zi (by omega)];refine(S.o.keep λp E=>?_).base (by omega);have:=S.o.base_le p E;rw[zi (by omega),zi (by omega)];refine(List.perm_ext_iff_of_nodup S.nd P).2 λa=>⟨S.sub a,λha=>?_⟩;obtain⟨p,E,rfl⟩:=Ub.1 ha;have:=n (.string p.1,p.2) (Ub.2 ⟨p,E,rfl⟩);obtain⟨x,i,e⟩:=Ub.1 this;injection e with e;subst e;exact List.mem_reverse.1 i;obtain⟨⟨L,vv⟩,r,e⟩:=Ub.1 F;injection e with G e2;subst G;subst e2;have D:L∉xs:=λi=>V (Ub.2 ⟨L,List.mem_reverse.2 i,rfl⟩);refine vn u ⟨_,_,rfl,M ?_ ?_⟩;rw[J _ (by omega)];exact S.rc;refine S.round Q z A B J D (Ub.2 ⟨_,r,rfl⟩) λg' I S' Y q2=>⟨Ta,rfl,(λi=>by cases i),λ_=>⟨⟨_,I,S'⟩,?_⟩⟩;show leftN g' (h.size+3) m<_;rw[leftN.keep Y q2];exact q
theorem N7{ps:List (Bt×Value)}(C:Blk h c #[.map (Td m)])(W:MapW h m (Qq ps))(l:(ps.map (·.1)).Nodup)(j:ps.length<=1000000) (q:∀h' sl,Keep h.size h h'->Owns h' h.size 9 1 sl ((zf (ps.map (·.1))).map TH)->K (.slice sl.a sl.len sl.cap) h'):
  XC Tp 161 #[.func (.func 222) #[] #[.pointer (Td ⟨c,0,Te⟩)]] h K:=by
 apply wv;apply wa;refine Iy C W l j λh1 sl xs e k b=>⟨sl,rfl,sl,rfl,?_⟩;have f:xs.length<=1000000:=by rw[b.length_eq,Tx];exact j
 refine XC.mono (A9 k f) ?_;rintro v h2 ⟨rfl,r,o,n⟩;refine⟨rfl,q h2 sl ⟨Ux e.size o,λi hi=>?_⟩ (by rw[<-Ig b];exact r)⟩;refine(n i (U5 hi e.size) λp b=>?_).trans (e.get i hi);have:=(k.base_le p b).1;omega
end
end Go.X
end
section
namespace Go.X
open Go Go.Lib
section
def jD:List (Bt×Tr)->Bt->Tr
 |[],_=>.mk 0 (bl []) [] []
 |p::l,k=>if p.1=k then p.2 else jD l k
mutual
def zk:Tr->Tr
 |.mk k s ks xs=>if k=6 then .mk k s (zf ks) ((zf ks).map λq=>jD (ks.zip (oU xs)) q)else .mk k s [] (oU xs)
def oU:List Tr->List Tr
 |[]=>[]
 |x::l=>zk x::oU l
end
def xj(v:Tr):Tr:=if we v=Ta then zk v else .mk 0 (bl []) [] []
theorem Dx:∀l:List Tr,oU l=l.map zk
 |[]=>rfl
 |x::l=>by rw[oU,Dx l];rfl
theorem yZ(v:Tr):zk v=if v.kind=6 then .mk v.kind v.text (zf v.keys) ((zf v.keys).map λq=>jD (v.keys.zip (v.items.map zk)) q)else .mk v.kind v.text [] (v.items.map zk):=by
 cases v with
 |mk k s ks xs=>rw[zk,Dx]
theorem xo(k:Bt):∀(ks:List Bt) (ys:List Tr),ks.length=ys.length->k∈ks->∃(j:Nat) (h1:j<ks.length) (l:j<ys.length),ks[j]=k/\jD (ks.zip ys) k=ys[j]/\∀us:List Value,us.length=ks.length->Xp (ks.zip us) k=us[j]?
 |[],_,_,h=>by cases h
 |z::ks,[],h,_=>by simp at h
 |z::ks,y::ys,h,hk=>by
  by_cases hz:z=k;refine⟨0,by simp,by simp,hz,?_,λus b=>?_⟩;rw[U7,jD,zA hz];rfl
  match us,b with
  |u::us,_=>rw[U7,Xp,zA hz];rfl
  have c:k∈ks:=by rcases Tz.1 hk with e|e;exact absurd e.symm hz;exact e
  obtain⟨j,h1,l,f,m,i⟩:=xo k ks ys (by simpa using h) c;refine⟨j+1,by simp;omega,by simp;omega,by simpa using f,?_,λus b=>?_⟩;rw[U7,jD,zv hz,m];rfl
  match us,b with
  |u::us,b=>rw[U7,Xp,zv hz,i us (by simpa using b)];rfl
end
end Go.X
end
section
namespace Go.X
open Go Go.X Go.Proofs Go.RowKit
section
variable {ks:List Bt}
theorem Owns.frz{h g:za}{M M':Fr}(L:Later h M g M'){s:Sl}{base:Nat}(o:Owns g base 9 1 s (ks.map TH))(B:h.size<=base)(D:ks.length<=1000000):
  ∃k,Later h M g k/\(∀c,c<base->k c=M' c)/\Rd k (.row .str) ks [aK s]:=by
 have n:=ni o;rcases o.2 with⟨j,h0⟩|⟨b,cap,f,j,m,p,A,C,z,r⟩;have l:ks=[]:=TT (by omega);subst l;simp only[Ua]at j;refine⟨M',L,λ_ _=>rfl,⟨_,rfl,s.a,s.cap,?_,⟨by simp,by simp⟩,.inl rfl⟩⟩;show aK s=_;unfold aK;rw[h0];rfl;simp only[Ua]at j;obtain⟨u,_,y⟩:=j;have w:Blk g b f:=⟨_,p⟩;refine⟨MxL M' g [b],⟨L.keep,L.le.trans (qC L.ag _),λx l=>?_,MxL.ag L.ag _⟩,λc y=>?_,⟨_,rfl,s.a,s.cap,?_,⟨by omega,by omega⟩,.inr ⟨b,0,f,u,MxL.at (by simp) w,λi hi=>?_⟩⟩⟩;unfold MxL;rw[zv (by simp;omega)];exact L.old x l;unfold MxL;grind;show aK s=_;unfold aK;rw[n];show cut f (0+i*1) 1=[.string ks[i]];apply Uf;intro q;rw[qd];by_cases t:q<1;have:q=0:=by omega
 subst this;rw[zA t];have e:(f.toList.take (s.len*1))[i]?=(ks.map TH)[i]?:=by rw[r]
 grind;simp_all
structure SrS (h:za) (M:Fr) (r o lo:Nat) (k:Int) (s:Bt) (sk:Sl) (xs:List Tr) (g:za) (M':Fr) (so:Sl) (bs:List Nat):Prop where
 L:Later h M g M'
 res:Blk g r #[.int .i64 0,.string ⟨#[]⟩,.slice Te 0 0,.slice Te 0 0]
 out:Blk g o #[.int .i64 k,.string s,aK sk,aK so]
 row:ORow lo g M' .tree xs so bs
 nO:M' o=Te
 nR:M' r=Te
 hr:h.size<=r
 ro:r<o
 ol:o<lo
 lg:lo<=g.size
section
variable {h : za} {M : Fr} {r o lo : Nat} {k : Int} {s : Bt} {sk : Sl} {xs : List Tr} {g : za} {M' : Fr} {so : Sl} {bs : List Nat}
theorem SrS.add(S:SrS h M r o lo k s sk xs g M' so bs)(hn:xs.length<=1000000){g1:za}{u:Fr}(m:Later g M' g1 u){x:Tr}{E A:Sl}(Q:RdV u .tree x (.agg #[.int .i64 x.kind,.string x.text,aK E,aK A])){K:za->Prop}
  (hK:∀g' so' bs',SrS h M r o lo k s sk (xs++[x]) g' u so' bs'->(∀j,j<lo->j≠o->g'[j]?=g[j]?)->K g'):
  let f:=g1.push (.cells #[.int .i64 x.kind,.string x.text,aK E,aK A] 25)
  XRun Tp (TB #[23,23] 23 #[aK so,.slice (Td ⟨g1.size,0,Te⟩) 1 1]) f (λv n=>∃z:Sl,v=aK z/\XRunU Tp (Tt 23 (.pointer (Td (Tl ⟨o,0,Te⟩ 3))) (aK z)) n K):=by
 intro f;have C:Keep g1.size g1 f:=Keep.push _ _ (Tm _);have ac:f.size=g1.size+1:=To _;have T:Blk f g1.size [.int .i64 x.kind,.string x.text,aK E,aK A].toArray:=Blk.new _ _ _;clear_value f;have z1:=m.keep.size;have P:=S.hr;have N:=S.ro;have y:=S.ol;have ae:=S.lg;have p:Later g M' f u:=m.trans (Later.same m.ag C);have t:=S.row.call p;have rd:Rd u .tree x [.int .i64 x.kind,.string x.text,aK E,aK A]:=by
  unfold RdV at Q;simp only[fR,if_true]at Q;obtain⟨cs,e,P⟩:=Q;injection e with e;have:cs=[.int .i64 x.kind,.string x.text,aK E,aK A]:=by have:=congrArg Vu e;simpa using this.symm
  rw[<-this];exact P
 refine ORow.app CY (by omega) p.ag t (by omega) T rd hn λU n bs' l aa ab D=>⟨U,rfl,?_⟩;have H:∀c∈bs,lo<=c/\c<g.size/\M' c=Te:=S.row.own;have q:∀j,j<lo->n[j]?=g[j]?:=λj F=>by rw[D j (by omega) (λV=>by grind),C.get j (by omega)];exact m.keep.get j (by omega)
 rw[zd];refine j6 JL JX (S.out.keep (q o y)) (by simp) rfl λw u1 u3 O=>?_;have i:∀j,j<lo->j≠o->w[j]?=g[j]?:=λj F h0=>(O j h0).trans (q j F);have B:∀c∈bs',lo<=c/\c<n.size/\u c=Te:=l.own;have hg:=S.L.keep.size;refine hK w U bs' ⟨⟨⟨by omega,λj F=>?_⟩,S.L.le.trans m.le,λb Z=>?_,?_⟩,?_,u1,?_,?_,?_,P,N,y,by omega⟩ i;rw[i j (by omega) (by omega)];exact S.L.keep.get j F;rw[m.old b (by omega)];exact S.L.old b Z;intro c cs e;have G:=p.ag.lt e;have J:c∉bs:=λV=>by obtain⟨_,h1,Y⟩:=H c V;rw[m.old c h1,Y]at e;cases e
 have I:c≠o:=λh=>by subst h;rw[m.old c (by omega),S.nO]at e;cases e
 rw[O c I,D c G J];exact p.ag c cs e;exact S.res.keep (i r (by omega) (by omega));exact l.frame (λc G=>O c (by grind)) (Fr.le.refl _) λc G=>(B c G).2.2;rw[m.old o (by omega)];exact S.nO;rw[m.old r (by omega)];exact S.nR
theorem SrS.fin(S:SrS h M r o lo k s sk xs g M' so bs)(O:xs.length<=1000000)(I:Rd M' (.row .str) ks [aK sk]){w:Tr}(N:Tr.mk k s ks xs=w):
  ∃(D:Int) (A:Bt) (u t:Sl),zc g ⟨o,0,Te⟩ 0 [.int .i64 D,.string A,aK u,aK t]/\XRunU Tp (Tt 25 (.pointer (Td ⟨r,0,Te⟩)) (.agg #[.int .i64 D,.string A,aK u,aK t])) g λi=>
   ∃(x:Int) (E:Bt) (y B:Sl),zc i ⟨r,0,Te⟩ 0 [.int .i64 x,.string E,aK y,aK B]/\∃z q,Later h M i z/\Yg z [.tree] q (.agg #[.int .i64 x,.string E,aK y,aK B])/\q=w:=by
 refine⟨k,s,sk,so,S.out.ld (cs:=[_,_,aK sk,aK so]),?_⟩;refine Wt S.res λg2 p T Q=>⟨k,s,sk,so,Q.ld (cs:=[_,_,aK sk,aK so]),?_⟩;have U:=S.hr;have H:=S.ro;have F:=S.ol;have J:=S.lg;have n:∀c∈bs,lo<=c/\c<g.size/\M' c=Te:=S.row.own;have f:AgM M' g2:=λc cs e=>by rw[p c (λh=>by grind [nR])];exact S.L.ag c cs e
 have l:ORow lo g2 M' .tree xs so bs:=S.row.frame (λc m=>p c (by grind)) (Fr.le.refl _) λc m=>(n c m).2.2;have C:Later h M g2 M':=⟨⟨by omega,λj P=>by rw[p j (by omega)];exact S.L.keep.get j P⟩,S.L.le,S.L.old,f⟩;refine⟨MxL M' g2 bs,_,⟨C.keep,C.le.trans (qC f bs),λb G=>?_,MxL.ag f bs⟩,Qf.2 (zu (v:=.mk k s ks xs) (I.mono (qC f bs)) (l.rd f (λc m=>m) O)),N⟩;unfold MxL;rw[zv (λV=>by grind)];exact S.L.old b G
end
set_option maxRecDepth 100000 in
set_option maxHeartbeats 2000000 in
theorem Fw:∀(n:Nat) (v:Tr),n<=1000000->cK v<=n->Qp zo v=Ta->Sm v->∀(h:za) (M:Fr) (u:Value),AgM M h->RdV M .tree v u->PX Tp 101 #[u] h M [.tree] (λq=>q=zk v)
 |0,v,_,hz,_,_=>by have:=Qx v;omega
 |n+1,v,hn,hz,hok,hsm=>by
  intro h M u ag hu;have aN:=hu;obtain⟨sk,si,rfl,rk,ri⟩:=qe hu;have l:=hok;rw[xg,TC]at l;have a8:v.items.length<=1000000:=by have:=Zk v.items;rw[w7]at hz;omega
  have ih:∀(i:Nat) (hi:i<v.items.length) (h:za) (M:Fr) (u:Value),AgM M h->RdV M .tree v.items[i] u->PX Tp 101 #[u] h M [.tree] (λq=>q=zk v.items[i]):=λi hi=>by
   have hm:=TA hi;have hs:=qq hm;have aj:Qp zo v.items[i]=Ta:=by rw[je,T7]at l;exact l.2 _ hm
   exact Fw n v.items[i] (by omega) (by omega) aj (hsm.item hm)
  obtain⟨li,_,_⟩:=rowLen ri;apply PX.of;apply RS v.kind v.text sk si;intro h1;have k1:Keep h.size h h1:=Keep.push _ _ (Tm _);have z1:h1.size=h.size+1:=To _;have B1:Blk h1 h.size #[.int .i64 v.kind,.string v.text,aK sk,aK si]:=Blk.new _ _ _;clear_value h1;intro f;have k2:Keep h1.size h1 f:=Keep.push _ _ (Tm _);have z2:f.size=h1.size+1:=To _;have R2:Blk f h1.size #[.int .i64 0,.string ⟨#[]⟩,.slice Te 0 0,.slice Te 0 0]:=Blk.new _ _ _;clear_value f;have B2:=B1.ofKeep k2;refine⟨v.kind,B2.cellAdd (o:=0) (k:=0) rfl,v.text,B2.cellAdd (o:=0) (k:=1) rfl,?_⟩;intro h5;have k5:Keep f.size f h5:=Keep.push _ _ (Tm _);have z5:h5.size=f.size+1:=To _;have O5:Blk h5 f.size #[.int .i64 0,.string ⟨#[]⟩,.slice Te 0 0,.slice Te 0 0]:=Blk.new _ _ _;clear_value h5;refine Wt (sk:=⟨Te,0,0⟩) (si:=⟨Te,0,0⟩) O5 λh6 f6 z6 O6=>?_;have k6:Keep f.size f h6:=⟨by omega,λj G=>by rw[f6 j (by omega)];exact k5.get j G⟩;have N:Keep h.size h h6:=(k1.trans k2 (by omega)).trans k6 (by omega);have B6:=B2.ofKeep k6;have R6:=R2.ofKeep k6;have aA:=ag.keep N;refine⟨v.kind,B6.cellAdd (o:=0) (k:=0) rfl,λhx=>?_,λhx=>?_⟩;have h6:v.kind≠6:=by simpa using hx
  have hS:zk v=.mk v.kind v.text [] (v.items.map zk):=by rw[yZ,zv h6]
  refine⟨si,B6.cellAdd (o:=0) (k:=3) rfl,λi g=>∃(m:Nat) (M':Fr) (so:Sl) (bs:List Nat),i=(m:Int)/\m<=v.items.length/\SrS h M h1.size f.size (f.size+1) v.kind v.text ⟨Te,0,0⟩ ((v.items.take m).map zk) g M' so bs,λi _=>v.items.length-i.toNat,⟨0,M,⟨Te,0,0⟩,[],rfl,TK _,⟨Later.same ag N,R6,O6,ORow.nil,ag.none (by omega),ag.none (by omega),by omega,by omega,by omega,by omega⟩⟩,?_⟩;rintro i g ⟨m,M',so,bs,rfl,hm,S⟩;have t:=S.L.ag;refine⟨λP=>?_,λP=>?_⟩;have b:m<v.items.length:=by have:=zH P;omega
  obtain⟨a,ck,ci,ea,aL,t1,t2⟩:=Yj t (ri.mono S.L.le) b;refine⟨a,⟨ea,by omega,by omega⟩,v.items[m].kind,v.items[m].text,ck,ci,by rw[Tq];exact aL,?_⟩;intro D;have aF:Keep g.size g D:=Keep.push _ _ (Tm _);have aY:D.size=g.size+1:=To _;have aC:Blk D g.size #[.int .i64 0,.string ⟨#[]⟩,.slice Te 0 0,.slice Te 0 0]:=Blk.new _ _ _;clear_value D;refine Wt aC λZ aD aU aI=>?_;have ar:Keep g.size g Z:=⟨by omega,λj G=>by rw[aD j (by omega)];exact aF.get j G⟩;have a6:=S.out.lt;refine⟨so,(S.out.ofKeep ar).cellAdd (o:=0) (k:=3) rfl,v.items[m].kind,v.items[m].text,ck,ci,aI.ld (cs:=[_,_,aK ck,aK ci]),?_⟩;have an:Later g M' Z M':=Later.same t ar;refine(ih m b _ _ _ an.ag (zu t1 t2)).go λw aO O q H y hq=>?_;subst hq;obtain⟨xk,xi,rfl,y1,y2⟩:=qe (Qf.1 y);have aV:=H.keep.size;have ho:aO[f.size]?=Z[f.size]?:=H.keep.get _ (by omega);refine⟨_,_,xk,xi,rfl,by rw[zd];exact ho,?_⟩;intro ba;refine⟨by rw[zd];grind,S.add (by grind) (an.trans H) (zu y1 y2) λg' so' bs' S' _=>⟨⟨m+1,O,so',bs',by rw[yr b (by omega)],b,?_⟩,?_⟩⟩;rw[Tu b,Ug];exact S';grind [yr];have b:m=v.items.length:=by have:=zI P;omega
  subst b;rw[TN]at S;exact S.fin (by simp_all) kf hS.symm;have V:v.kind=6:=by simpa using hx
  have hS:zk v=.mk v.kind v.text (zf v.keys) ((zf v.keys).map λq=>jD (v.keys.zip (v.items.map zk)) q):=by rw[yZ,zA V]
  have r:=l.1;have aH:v.keys.Nodup:=by unfold zo j8 at r;simp[V]at r;exact r.1.1.2
  have aE:v.keys.length=v.items.length:=by unfold zo at r;simp[V]at r;exact r.1.2
  refine⟨v.kind,v.text,sk,si,B6.ld (cs:=[_,_,aK sk,aK si]),?_⟩;refine wA aH aE (by omega) aA aN λE m us ah aT br aS al=>⟨Td m,rfl,?_⟩;have bn:=ah.size;apply qt;intro B;have ab:Keep E.size E B:=Keep.push _ _ (Tm _);have a7:B.size=E.size+1:=To _;have ay:Blk B E.size #[.map (Td m)]:=Blk.new _ _ _;clear_value B;have T:MapW B m (Qq (v.keys.zip us)):=al.keep (ab.get m al.lt);have aB:(v.keys.zip us).map (·.1)=v.keys:=List.map_fst_zip (by omega);refine⟨_,rfl,N7 ay T (by grind) (by simp;omega) λI sl J am=>⟨sl,rfl,?_⟩⟩;rw[aB]at am;have bi:=J.size;have bj:(zf v.keys).length=v.keys.length:=He _;have A:Keep h6.size h6 I:=(ah.trans ab (by omega)).trans J (by omega);have af:Keep h.size h I:=N.trans A (by omega);obtain⟨O,H,F,U⟩:=Owns.frz (Later.same ag af) am (by omega) (by omega);have aQ:Blk I f.size #[.int .i64 v.kind,.string v.text,aK ⟨Te,0,0⟩,aK ⟨Te,0,0⟩]:=O6.keep (A.get _ (by omega));have au:O f.size=Te:=by rw[F _ (by omega)];exact ag.none (by omega)
  have aP:O h1.size=Te:=by rw[F _ (by omega)];exact ag.none (by omega)
  rw[zd];refine j6 EA Gi aQ (by simp) rfl λz ac bg C=>?_;have ax:Later h M z O:=⟨⟨by omega,λj G=>by rw[C j (by omega)];exact H.keep.get j G⟩,H.le,H.old,λc cs e=>by rw[C c (λh=>by simp_all)];exact H.ag c cs e⟩;have ae:MapW z m (Qq (v.keys.zip us)):=T.keep ((C m (by omega)).trans (J.get m T.lt));have ai:=ae.lt;refine⟨sl,Blk.cell (o:=2) ac rfl,λi g=>∃(p:Nat) (M':Fr) (so:Sl) (bs:List Nat),i=(p:Int)/\p<=(zf v.keys).length/\SrS h M h1.size f.size z.size v.kind v.text sl (((zf v.keys).take p).map λq=>jD (v.keys.zip (v.items.map zk)) q) g M' so bs/\Fr.le O M'/\(∀j,j<z.size->j≠f.size->g[j]?=z[j]?),λi _=>(zf v.keys).length-i.toNat,⟨0,O,⟨Te,0,0⟩,[],rfl,TK _,⟨ax,R6.keep ((C _ (by omega)).trans (A.get _ (by omega))),ac,ORow.nil,au,aP,by omega,by omega,by omega,Tm _⟩,Fr.le.refl _,λ_ _ _=>rfl⟩,?_⟩;obtain⟨be,_,_⟩:=rowLen U;rintro i g ⟨p,M',so,bs,rfl,hp,S,Y,fg⟩;have t:=S.L.ag;refine⟨λP=>?_,λP=>?_⟩;have b:p<(zf v.keys).length:=by have:=zH P;omega
  obtain⟨a,aG,x,aJ,az⟩:=kR t (U.mono Y) b (i:=(p:Int)) rfl (L:=sl.len) rfl (Q:=λx=>x=(zf v.keys)[p]) rfl;subst az;refine⟨a,aG,(zf v.keys)[p],aJ,so,S.out.cellAdd (o:=0) (k:=3) rfl,?_⟩;have aM:(zf v.keys)[p]∈v.keys:=(qi v.keys).mem_iff.1 (TA b);obtain⟨j,j1,j2,e1,e2,e3⟩:=xo (zf v.keys)[p] v.keys (v.items.map zk) (by simp_all) aM;rw[Tx]at j2;have ak:j<us.length:=by omega
  obtain⟨ck,ci,eu,t1,t2⟩:=qe (aS j j2 ak);have wg:MapW g m (Qq (v.keys.zip us)):=ae.keep (fg m ai (by omega));refine⟨v.items[j].kind,v.items[j].text,ck,ci,?_,rfl,?_⟩;have:=Z0 mapVal wg.at (zf v.keys)[p] Tc;have eg:iY (v.keys.zip us) (zf v.keys)[p] (.agg #[.int .i64 0,.string ⟨#[]⟩,.slice Te 0 0,.slice Te 0 0])=us[j]:=by unfold iY;rw[e3 us (by omega),Tv ak];rfl
  rw[zv (by simp),eg,eu]at this;exact this;refine(ih j j2 _ _ _ t (zu (t1.mono S.L.le) (t2.mono S.L.le))).go λw aa M3 q L3 y hq=>?_;subst hq;obtain⟨xk,xi,rfl,y1,y2⟩:=qe (Qf.1 y);have bq:=L3.keep.size;have aZ:=S.lg;have ho:aa[f.size]?=g[f.size]?:=L3.keep.get _ (by omega);refine⟨_,_,xk,xi,rfl,by rw[zd];exact ho,?_⟩;intro bm;refine⟨by rw[zd];exact((Keep.push aa _ (Tm _)).get f.size (by omega)).trans ho,S.add (by grind) L3 (zu y1 y2) λg' so' bs' S' f'=>⟨⟨p+1,M3,so',bs',by rw[yr b (by omega)],b,?_,Y.trans L3.le,λj G h0=>(f' j G h0).trans (fg j G h0)⟩,?_⟩⟩;rw[Tu b,Ug,TV,List.map_nil,e2,US];exact S';show(zf v.keys).length-(Tj .i64 ((p:Int)+1)).toNat<(zf v.keys).length-(p:Int).toNat;rw[yr b (by omega)];omega;have b:p=(zf v.keys).length:=by have:=zI P;omega
  subst b;rw[TN]at S;exact S.fin (by simp_all) (U.mono Y) hS.symm
end
end Go.X
end
section
namespace Go.X
open Go Go.Lib
section
variable {xs ys:List Tr} {α:Type} {v:Tr}
theorem Rv(h:xs.Perm ys):Zc xs=Zc ys:=by
 induction h with
 |nil=>rfl
 |cons x _ c=>rw[Zc,Zc,c]
 |swap x y l=>simp only[Zc];omega
 |trans _ _ a b=>rw[a,b]
theorem Pt(h:xs.Perm ys):X7 xs=X7 ys:=by
 induction h with
 |nil=>rfl
 |cons x _ c=>rw[X7,X7,c]
 |swap x y l=>simp only[X7];omega
 |trans _ _ a b=>rw[a,b]
theorem Hb{xs ys:List Nat}(h:xs.Perm ys):xs.sum=ys.sum:=by
 induction h with
 |nil=>rfl
 |cons x _ c=>rw[List.sum_cons,List.sum_cons,c]
 |swap x y l=>simp only[List.sum_cons];omega
 |trans _ _ a b=>rw[a,b]
theorem xP{p:α->Bool}{xs ys:List α}(h:xs.Perm ys):xs.all p=ys.all p:=by rw[T8,T7,T7];exact⟨λa x b=>a x (h.mem_iff.2 b),λa x b=>a x (h.mem_iff.1 b)⟩
theorem xQ:∀(ks:List Bt) (ys:List Tr),ks.Nodup->ks.length=ys.length->(ks.map λq=>(q,jD (ks.zip ys) q))=ks.zip ys
 |[],ys,_,_=>by simp
 |k::ks,[],_,h=>by simp at h
 |k::ks,y::ys,hn,h=>by rw[Ut]at hn;rw[TV,U7];congr 1;rw[jD,zA rfl];rw[<-xQ ks ys hn.2 (by simpa using h)];refine UT λq b=>?_;have:k≠q:=λe=>hn.1 (e ▸ b);rw[jD,zv this];congr 2;exact xQ ks ys hn.2 (by simpa using h)
structure SrtF (v w:Tr):Prop where
 k:w.kind=v.kind
 t:w.text=v.text
 kp:w.keys.Perm v.keys
 ip:w.items.Perm (v.items.map zk)
 zp:(w.keys.zip w.items).Perm (v.keys.zip (v.items.map zk))
theorem HD(b:zo v=Ta)(j:v.kind≠6):v.keys=[]:=by unfold zo at b;simp only[j,if_false]at b;by_cases h1:v.kind=1;simp[h1]at b;exact b.1.2;by_cases c:v.kind=2;simp[c]at b;exact b.1.2;by_cases i:v.kind=3;simp[i]at b;exact b.1.2;by_cases e:v.kind=4;simp[e]at b;exact b.1.2;by_cases h:v.kind=5;simp[h]at b;exact b.2;by_cases f:v.kind=7;simp[f]at b;exact b.1.2;simp[h1,c,i,e,h,f]at b
theorem Lo(b:zo v=Ta)(c:v.kind=6):v.keys.Nodup/\v.keys.length=v.items.length:=by unfold zo j8 at b;simp[c]at b;exact⟨b.1.1.2,b.1.2⟩
theorem SI(h:zo v=Ta):SrtF v (zk v):=by
 rw[yZ];by_cases b:v.kind=6;rw[zA b];obtain⟨k,j⟩:=Lo h b;have hz:=xQ v.keys (v.items.map zk) k (by rw[Tx];exact j);have c:=(qi v.keys).map λq=>(q,jD (v.keys.zip (v.items.map zk)) q);rw[hz]at c;have e:∀l:List Bt,l.zip (l.map λq=>jD (v.keys.zip (v.items.map zk)) q)=l.map λq=>(q,jD (v.keys.zip (v.items.map zk)) q):=by
  intro l;induction l with
  |nil=>rfl
  |cons x l i=>rw[TV,U7,i,TV]
 refine⟨rfl,rfl,qi _,?_,?_⟩;have:=c.map (·.2);rw[T9,List.map_snd_zip (by rw[Tx];omega)]at this;exact this;show((zf v.keys).zip _).Perm _;rw[e];exact c;rw[zv b];have f:=HD h b;exact⟨rfl,rfl,by rw[f],.refl _,by rw[f]⟩
theorem Jf{a:List α}:a.isEmpty=decide (a.length=0):=by cases a <;> simp
theorem Rz{a b:List Bt}(h:a.Perm b):j8 a=j8 b:=by unfold j8;rw[xP h];congr 1;rw[T8,zG,zG];exact h.nodup_iff
theorem N8{v w:Tr}(h1:w.kind=v.kind)(b:w.text=v.text)(e:w.keys.length=v.keys.length)(f:w.items.length=v.items.length)(c:j8 w.keys=j8 v.keys):zo w=zo v:=by unfold zo;rw[h1,b,c,Jf,Jf,Jf,Jf,e,f]
theorem Cx(ln:Bool)(nd lv:Nat)(ps:List Bs):(Zn ln nd lv ps).length+(if ps=[]then 0 else 1)=(ps.map λp=>p.length+(1+(xh ln nd lv).length)).sum:=by
 cases ps with
 |nil=>rfl
 |cons p ps=>
  have:∀b:List Bs,(b.flatMap λq=>44::(xh ln nd lv++q)).length=(b.map λp=>p.length+(1+(xh ln nd lv).length)).sum:=by
   intro b;induction b with
   |nil=>rfl
   |cons q b c=>rw[UE,Ts,c,TV,List.sum_cons];simp;omega
  rw[Zn,Ts,Ts,this,TV,List.sum_cons,zv (by simp)];omega
theorem Ay{ln:Bool}{nd lv:Nat}{ps b:List Bs}(h:(ps.map Uw).Perm (b.map Uw)):(jx ln nd lv ps).length=(jx ln nd lv b).length:=by
 have e:(ps=[])↔(b=[]):=by have:=h.length_eq;rw[Tx,Tx]at this;rw[<-Vl,<-Vl,this]
 have h1:=Cx ln nd (lv+1) ps;have i:=Cx ln nd (lv+1) b;have f:=Hb (h.map λn=>n+(1+(xh ln nd (lv+1)).length));rw[T9,T9]at f;have f:(ps.map λp=>p.length+(1+(xh ln nd (lv+1)).length)).sum=(b.map λp=>p.length+(1+(xh ln nd (lv+1)).length)).sum:=f;unfold jx;rw[Ts,Ts];by_cases c:ps=[];rw[zA c]at h1 ⊢;rw[zA (e.1 c)]at i ⊢;omega;rw[zv c]at h1 ⊢;rw[zv (λq=>c (e.2 q))]at i ⊢;omega
theorem Fc{α β γ:Type}(f:α->β->γ):∀(a:List α) (b:List β),List.zipWith f a b=(a.zip b).map λp=>f p.1 p.2
 |[],_=>by simp
 |_::_,[]=>by simp
 |x::a,y::b=>by rw[List.zipWith_cons_cons,U7,TV,Fc f a b]
structure SrtG (v:Tr):Prop where
 sz:cK (zk v)=cK v
 dp:ie (zk v)=ie v
 okv:Qp iu (zk v)=Qp iu v
 nok:Qp zo (zk v)=Ta
 tx:∀m,jM m v->jM m (zk v)
 len:∀(ln:Bool) (N lv:Nat),(Yo ln N (zk v) lv).length=(Yo ln N v lv).length
theorem Fx{f:Tr->Tr}:∀{l:List Tr},(∀x∈l,cK (f x)=cK x)->Zc (l.map f)=Zc l
 |[],_=>rfl
 |x::l,h=>by rw[TV,Zc,Zc,h x TQ,Fx λy b=>h y (TS _ b)]
theorem Au{f:Tr->Tr}:∀{l:List Tr},(∀x∈l,ie (f x)=ie x)->X7 (l.map f)=X7 l
 |[],_=>rfl
 |x::l,h=>by rw[TV,X7,X7,h x TQ,Au λy b=>h y (TS _ b)]
theorem uF:∀(n:Nat) (v:Tr),cK v<=n->Qp zo v=Ta->SrtG v
 |0,v,h,_=>by have:=Qx v;omega
 |n+1,v,hz,hok=>by
  rw[xg,TC,je,T7]at hok;obtain⟨j,e⟩:=hok;have S:=SI j;have c:∀x∈v.items,SrtG x:=λx b=>uF n x (by have:=qq b;omega) (e x b);have i:zo (zk v)=zo v:=N8 S.k S.t S.kp.length_eq (by rw[S.ip.length_eq,Tx]) (Rz S.kp);refine⟨?_,?_,?_,?_,λm h=>?_,λln N lv=>?_⟩;rw[w7,w7 v,Rv S.ip,Fx λx b=>(c x b).sz];rw[mJ,mJ v,Pt S.ip,Au λx b=>(c x b).dp];rw[xg,xg _ v,je,je,xP S.ip,List.all_map];have r:iu (zk v)=iu v:=by unfold iu;rw[i,S.k]
  rw[r];congr 1;rw[T8,T7,T7];exact⟨λa x b=>by rw[<-(c x b).okv];exact a x b,λa x b=>by show Qp iu (zk x)=Ta;rw[(c x b).okv];exact a x b⟩;rw[xg,i,j,UQ,je,xP S.ip,List.all_map,T7];exact λx b=>(c x b).nok;rw[mA]at h ⊢;obtain⟨⟨h1,o,q⟩,u⟩:=h;refine⟨⟨by rw[S.t];exact h1,by rw[S.kp.length_eq];exact o,λk e=>q k (S.kp.mem_iff.1 e)⟩,rF.2 λx b=>?_⟩;obtain⟨y,f,rfl⟩:=Ub.1 (S.ip.mem_iff.1 b);exact(c y f).tx m (rF.1 u y f);rw[nA,nA (v:=v),S.k,S.t];split;rfl;split;rfl;split;simp only[Ts,TI];congr 2;refine Ay ?_;rw[T9,T9];have h1:=S.ip.map λx=>(Yo ln N x (lv+1)).length;rw[T9]at h1;refine h1.trans ?_;have:v.items.map ((λx=>(Yo ln N x (lv+1)).length) ∘ zk)=v.items.map (Uw ∘ λx=>Yo ln N x (lv+1)):=UT λx b=>(c x b).len ln N (lv+1);rw[this];split;simp only[Ts,TI];congr 2;refine Ay ?_;have conv:∀(ks:List Bt) (xs:List Tr),(List.zipWith (i3 ln) ks (xs.map λx=>Yo ln N x (lv+1))).map Uw=(ks.zip xs).map λp=>(i3 ln p.1 (Yo ln N p.2 (lv+1))).length:=by intro ks xs;rw[Fc,List.zip_map_right,T9,T9];rfl
  rw[conv,conv];have h1:=S.zp.map λp=>(i3 ln p.1 (Yo ln N p.2 (lv+1))).length;refine h1.trans ?_;rw[List.zip_map_right,T9];have:(v.keys.zip v.items).map ((λp=>(i3 ln p.1 (Yo ln N p.2 (lv+1))).length) ∘ Prod.map id zk)=(v.keys.zip v.items).map λp=>(i3 ln p.1 (Yo ln N p.2 (lv+1))).length:=UT λp l=>by have:=(c p.2 (List.of_mem_zip l).2).len ln N (lv+1);show(i3 ln p.1 (Yo ln N (zk p.2) (lv+1))).length=_;unfold i3;simp only[Ts,TI,this]
  rw[this];rfl
theorem Rb(h:we v=Ta):zm (zk v)=zm v:=by unfold we at h;rw[TC]at h;have S:=uF (cK v) v (Tm _) h.2;have e:∀w:Tr,zm w=(Zj w&&Qp iu w):=λw=>rfl;rw[e,e,S.okv];unfold Zj;rw[S.sz,S.dp]
theorem Bi(h:zm v=Ta):we v=Ta:=by have e:zm v=(Zj v&&Qp iu v):=rfl;rw[e,TC]at h;unfold we;rw[h.1,UQ];exact un (λx b=>by unfold iu at b;rw[TC]at b;exact b.2) v h.2
theorem SJ(h:Sm v):Sm (xj v):=by unfold xj;by_cases b:we v=Ta;rw[zA b];unfold we at b;rw[TC]at b;have S:=uF (cK v) v (Tm _) b.2;exact⟨by rw[S.sz];exact h.sz,S.tx _ h.tx⟩;rw[zv b];exact⟨by decide,by rw[mA];exact⟨⟨by decide,by decide,by decide⟩,trivial⟩⟩
theorem Iw:zm (xj v)=zm v:=by
 unfold xj;by_cases b:we v=Ta;rw[zA b];exact Rb b;rw[zv b];cases hr:zm v with
 |true=>exact absurd (Bi hr) b
 |false=>rfl
end
end Go.X
end
section
namespace Go.X
open Go Go.X Go.Proofs Go.RowKit
set_option maxRecDepth 100000 in
section
theorem KL{gl:Fr}(T:GL gl){v:Tr}(O:Sm v){R:Tr->Prop}(o:R (xj v)):PC Tp gl 56 [Arg.mk .tree v] [.tree] R:=by
 intro h M vs Q ag ha
 match vs,ha with
 |[u],⟨C,_⟩=>
  have C:RdV M .tree v u:=C;have y:=C;obtain⟨sk,si,rfl,rk,ri⟩:=qe C;apply PX.of;apply N4 v.kind v.text sk si;intro h1;have P:Keep h.size h h1:=Keep.push _ _ (Tm _);have z1:h1.size=h.size+1:=To _;have B1:Blk h1 h.size #[.int .i64 v.kind,.string v.text,aK sk,aK si]:=Blk.new _ _ _;clear_value h1;intro n;have k2:Keep h1.size h1 n:=Keep.push _ _ (Tm _);have z2:n.size=h1.size+1:=To _;have U:Blk n h1.size #[.int .i64 0,.string ⟨#[]⟩,.slice Te 0 0,.slice Te 0 0]:=Blk.new _ _ _;clear_value n;have I:=B1.ofKeep k2;have F:Keep h.size h n:=P.trans k2 (by omega);have N:Later h M n M:=Later.same ag F;refine⟨v.kind,v.text,sk,si,I.ld (cs:=[_,_,aK sk,aK si]),?_⟩;refine(tj T O (R:=λr=>r=we v) rfl).go (vs:=[.agg #[.int .i64 v.kind,.string v.text,aK sk,aK si]]) Q N.ag (zh y zy) λw Z D r m p hr=>?_;subst hr;have z8:=m.keep.size;have J:=U.keep (m.keep.get h1.size (by omega));have B8:=I.keep (m.keep.get h.size (by omega));have H:D h1.size=Te:=by rw[m.old _ (by omega)];exact ag.none (by omega)
  have A:=N.trans m;have stay:∀{g g':za} {M':Fr},Later h M g M'->M' h1.size=Te->(∀j,j≠h1.size->g'[j]?=g[j]?)->g'.size=g.size->Later h M g' M':=λ {g g' M'} L hn f z=>⟨⟨by have:=L.keep.size;omega,λj hj=>by rw[f j (by omega)];exact L.keep.get j hj⟩,L.le,L.old,λc cs e=>by rw[f c (λh=>by subst h;rw[hn]at e;cases e)];exact L.ag c cs e⟩;refine⟨_,Jk p,λb=>?_,λb=>?_⟩;have b:we v=Tc:=by simpa using b
  unfold xj at o;rw[zv (by rw[b];simp)]at o;refine Wt (k:=0) (s:=⟨#[]⟩) (sk:=⟨Te,0,0⟩) (si:=⟨Te,0,0⟩) J λg f z B=>⟨_,_,_,_,B.ld (cs:=[.int .i64 0,.string ⟨#[]⟩,aK ⟨Te,0,0⟩,aK ⟨Te,0,0⟩]),?_⟩;exact⟨D,_,stay A H f z,Qf.2 (zu (v:=.mk 0 (bl []) [] []) kf kf),o⟩;have b:we v=Ta:=by simpa using b
  unfold xj at o;rw[zA b]at o;unfold we Zj at b;simp only[TC,zG]at b;refine⟨v.kind,v.text,sk,si,B8.ld (cs:=[_,_,aK sk,aK si]),?_⟩;refine(Fw (cK v) v (by omega) (Tm _) b.2 O Z D _ m.ag (RdV.mono m.le y)).go λw Y t q i l V=>?_;subst V;obtain⟨G,E,rfl,S,y2⟩:=qe (Qf.1 l);have aa:=i.keep.size;refine⟨_,_,G,E,rfl,?_⟩;refine Wt (J.keep (i.keep.get h1.size (by omega))) λg f z B=>⟨_,_,G,E,B.ld (cs:=[_,_,aK G,aK E]),?_⟩;have x:t h1.size=Te:=by rw[i.old _ (by omega)];exact H
  exact⟨t,_,stay (A.trans i) x f z,Qf.2 (zu S y2),o⟩
end
end Go.X
end
section
namespace Go.X
open Go Go.Lib
section
variable {l:List Tr} {m:Nat}
def mW(k:Bt):Bt:=bl (107::(iz (lb k)).1)
def mu(v:Tr):Bt:=if v.kind=5 then bl [91]else if v.kind=6 then bl [123]else bl (Yo Tc 0 v 0)
mutual
def hH:Tr->Nat->List (Bt×Int)
 |.mk k s ks xs,n=>(if k=6 then Xj xs ks n else if k=5 then ig xs n else [])++[(mu (.mk k s ks xs),(n:Int))]
def ig:List Tr->Nat->List (Bt×Int)
 |[],_=>[]
 |x::l,n=>hH x n++ig l (n+(hH x n).length)
def Xj:List Tr->List Bt->Nat->List (Bt×Int)
 |[],_,_=>[]
 |x::l,ks,n=>hH x n++((mW ks.head!,(n:Int))::Xj l ks.tail (n+(hH x n).length+1))
end
theorem Mo(v:Tr)(n:Nat):hH v n=(if v.kind=6 then Xj v.items v.keys n else if v.kind=5 then ig v.items n else [])++[(mu v,(n:Int))]:=by cases v;rw[hH]
mutual
def mT:Tr->Nat
 |.mk k _ _ xs=>(if k=6 then lX 1 xs else if k=5 then lX 0 xs else 0)+1
def lX(d:Nat):List Tr->Nat
 |[]=>0
 |x::l=>mT x+d+lX d l
end
mutual
theorem qU:∀(v:Tr) (n:Nat),(hH v n).length=mT v
 |.mk k s ks xs,n=>by rw[hH,mT,Ts,UG];congr 1;split;exact Er xs ks n;split;exact Ad xs n;rfl
theorem Ad:∀(l:List Tr) (n:Nat),(ig l n).length=lX 0 l
 |[],_=>by rw[ig,lX];rfl
 |x::l,n=>by rw[ig,lX,Ts,qU x n,Ad l];omega
theorem Er:∀(l:List Tr) (ks:List Bt) (n:Nat),(Xj l ks n).length=lX 1 l
 |[],_,_=>by rw[Xj,lX];rfl
 |x::l,ks,n=>by rw[Xj,lX,Ts,TI,qU x n,Er l];omega
end
theorem Gj:∀(l:List Tr) (m:List Tr) (n:Nat),ig (l++m) n=ig l n++ig m (n+(ig l n).length)
 |[],m,n=>by rw[ig];rfl
 |x::l,m,n=>by rw[Um,ig,ig,Gj l m,TR,Ts];congr 3;omega
theorem SB(h:m<l.length)(n:Nat):ig (l.take (m+1)) n=ig (l.take m) n++hH l[m] (n+(ig (l.take m) n).length):=by rw[Tu h,Gj,ig,ig,Uq]
theorem CW:∀(l:List Tr) (m:List Tr) (ks:List Bt) (n:Nat),Xj (l++m) ks n=Xj l ks n++Xj m (ks.drop l.length) (n+(Xj l ks n).length)
 |[],m,ks,n=>by rw[Xj];rfl
 |x::l,m,ks,n=>by rw[Um,Xj,Xj,CW l m,TR,Um,Ts,TI,TI,<-List.drop_tail];congr 4;omega
theorem Nk{ks:List Bt}(h:m<l.length)(b:m<ks.length)(n:Nat):
  Xj (l.take (m+1)) ks n=Xj (l.take m) ks n++(hH l[m] (n+(Xj (l.take m) ks n).length)++[(mW ks[m],((n+(Xj (l.take m) ks n).length:Nat):Int))]):=by
 rw[Tu h,CW,Xj,Xj,UD,VS (by omega)];congr 4;rw[Uk b];rfl
def ic(X:List (Bt×Int)):List (Bt×Int):=X.take 513
theorem rD(X:List (Bt×Int)):(ic X).length<=513:=by unfold ic;rw[UD];omega
theorem nY{X:List (Bt×Int)}(h:X.length<=513):ic X=X:=UK h
theorem tv(X:List (Bt×Int))(f:Nat->List (Bt×Int)):ic (ic X++f (ic X).length)=ic (X++f X.length):=by
 by_cases h:X.length<=513;rw[nY h];have b:(ic X).length=513:=by unfold ic;rw[UD];omega
 unfold ic at b ⊢;rw[Vi (Nat.le_of_eq b.symm),Vi (by omega:513<=X.length),List.take_take];rfl
theorem BX{X:List (Bt×Int)}(h:X.length<=513)(p:Bt×Int):(if X.length<=512 then X++[p]else X)=ic (X++[p]):=by
 split;rename_i b;rw[nY (by simp;omega)];rename_i b;have:X.length=513:=by omega
 unfold ic;rw[Vi (by omega),UK h]
end
end Go.X
end
section
namespace Go.X
open Go Go.X Go.Proofs Go.RowKit
section
variable {h h' h'':za} {M M' M'':Fr} {bs bs' b1 b2:List Nat} {b lo bv:Nat} {K:Value -> za -> Prop}
theorem Later.own{h g:za}(L:Later h M g M')(e:∀c∈bs,h.size<=c):Later h M g (MxL M' g bs):=by
 refine⟨L.keep,L.le.trans (qC L.ag bs),λc f=>?_,MxL.ag L.ag bs⟩;have i:c∉bs:=λb=>by have:=e c b;omega
 rw[<-L.old c f];unfold MxL;rw[zv i]
structure Grw (h:za) (M:Fr) (b:Nat) (bs:List Nat) (h':za) (M':Fr) (bs':List Nat):Prop where
 grow:h.size<=h'.size
 le:Fr.le M M'
 old:∀c,c<h.size->M' c=M c
 ag:AgM M' h'
 fr:∀j,j<h.size->j≠b->j∉bs->h'[j]?=h[j]?
 nw:∀c∈bs',c∈bs\/h.size<=c
theorem Grw.refl(ag:AgM M h):Grw h M b bs h M bs:=⟨Tm _,Fr.le.refl _,λ_ _=>rfl,ag,λ_ _ _ _=>rfl,λ_ c=>.inl c⟩
theorem Grw.trans{bs bs' e:List Nat}(A:Grw h M b bs h' M' bs')(B:Grw h' M' b bs' h'' M'' e):Grw h M b bs h'' M'' e:=by have m:=A.grow;refine⟨Ux A.grow B.grow,A.le.trans B.le,λc f=>(B.old c (by omega)).trans (A.old c f),B.ag,λj l h0 i=>(B.fr j (by omega) h0 λk=>?_).trans (A.fr j l h0 i),λc f=>?_⟩;rcases A.nw j k with h|h;exact i h;omega;rcases B.nw c f with h|h;exact A.nw c h;exact .inr (by omega)
theorem Grw.ofCall(L:Later h M h' M')(A:Grw h' M' b bs h'' M'' bs')(l:∀c∈bs,c<h.size):Grw h M b bs h'' M'' bs':=by have f:=L.keep.size;refine⟨Ux f A.grow,L.le.trans A.le,λc e=>(A.old c (by omega)).trans (L.old c e),A.ag,λj k h0 i=>(A.fr j (by omega) h0 i).trans (L.keep.get j k),λc e=>?_⟩;rcases A.nw c e with h|h;exact .inl h;exact .inr (by omega)
structure TbS (lo:Nat) (h:za) (M:Fr) (b:Nat) (S:List (Bt×Int)) (sl sf:Sl) (b1 b2:List Nat):Prop where
 box:Blk h b #[aK sl,aK sf]
 r1:ORow lo h M .str (S.map (·.1)) sl b1
 r2:ORow lo h M (.int .i64) (S.map (·.2)) sf b2
 dj:∀c∈b1,c∉b2
 n1:b∉b1
 n2:b∉b2
 nM:M b=Te
 lb:lo<=b
def Tb(lo:Nat)(h:za)(M:Fr)(b:Nat)(S:List (Bt×Int))(bs:List Nat):Prop:=∃sl sf b1 b2,bs=b1++b2/\TbS lo h M b S sl sf b1 b2
theorem TbS.call{S:List (Bt×Int)}{sl sf:Sl}(B:TbS lo h M b S sl sf b1 b2)(L:Later h M h' M'):TbS lo h' M' b S sl sf b1 b2:= ⟨B.box.keep (L.keep.get b B.box.lt),B.r1.call L,B.r2.call L,B.dj,B.n1,B.n2,(L.old b B.box.lt).trans B.nM,B.lb⟩
theorem Tb.call{S:List (Bt×Int)}(B:Tb lo h M b S bs)(L:Later h M h' M'):Tb lo h' M' b S bs:=by obtain⟨sl,sf,b1,b2,e,B⟩:=B;exact⟨sl,sf,b1,b2,e,B.call L⟩
theorem Tb.lt{S:List (Bt×Int)}(B:Tb lo h M b S bs):∀c∈bs,c<h.size:=by obtain⟨sl,sf,b1,b2,rfl,B⟩:=B;intro c e;rcases TE.1 e with h|h;exact(B.r1.own c h).2.1;exact(B.r2.own c h).2.1
theorem Tb.ltb{S:List (Bt×Int)}(B:Tb lo h M b S bs):b<h.size:=by obtain⟨sl,sf,b1,b2,rfl,B⟩:=B;exact B.box.lt
structure AdM (lo:Nat) (h:za) (M:Fr) (b:Nat) (sl sf:Sl) (b0:List Nat) (g:za) (X:List Bt) (s1:Sl) (c1:List Nat) (Y:List Int) (s2:Sl) (c2:List Nat):Prop where
 box:Blk g b #[aK sl,aK sf]
 r1:ORow lo g M .str X s1 c1
 r2:ORow lo g M (.int .i64) Y s2 c2
 dj:∀c∈c1,c∉c2
 n1:b∉c1
 n2:b∉c2
 gr:h.size<=g.size
 bh:b<h.size
 fr:∀j,j<h.size->j≠b->j∉b0->g[j]?=h[j]?
 w1:∀c∈c1,c∈b0\/h.size<=c
 w2:∀c∈c2,c∈b0\/h.size<=c
 ag:AgM M g
 nM:M b=Te
 lb:lo<=b
section
variable {lo : Nat} {h g : za} {M : Fr} {b : Nat} {sl sf : Sl} {b0 : List Nat} {X : List Bt} {s1 : Sl} {c1 : List Nat} {Y : List Int} {s2 : Sl} {c2 : List Nat}
theorem AdM.start{S:List (Bt×Int)}(B:TbS lo h M b S sl sf b1 b2)(ag:AgM M h):AdM lo h M b sl sf (b1++b2) h (S.map (·.1)) sl b1 (S.map (·.2)) sf b2:= ⟨B.box,B.r1,B.r2,B.dj,B.n1,B.n2,Tm _,B.box.lt,λ_ _ _ _=>rfl,λc e=>.inl (TF _ e),λc e=>.inl (TU _ e),ag,B.nM,B.lb⟩
theorem AdM.push(D:AdM lo h M b sl sf b0 g X s1 c1 Y s2 c2)(o:Obj):AdM lo h M b sl sf b0 (g.push o) X s1 c1 Y s2 c2:=by have k:Keep g.size g (g.push o):=Keep.push _ _ (Tm _);have l:=D.gr;have hz:(g.push o).size=g.size+1:=To _;refine⟨D.box.ofKeep k,D.r1.frame (λc e=>k.get c (D.r1.own c e).2.1) (Fr.le.refl _) λc e=>(D.r1.own c e).2.2,D.r2.frame (λc e=>k.get c (D.r2.own c e).2.1) (Fr.le.refl _) λc e=>(D.r2.own c e).2.2,D.dj,D.n1,D.n2,by omega,D.bh,λj i h0 f=>(k.get j (by omega)).trans (D.fr j i h0 f),D.w1,D.w2,D.ag.keep k,D.nM,D.lb⟩
theorem AdM.lab(D:AdM lo h M b sl sf b0 g X s1 c1 Y s2 c2)(p:lo<=h.size)(m:X.length<=1000000){x:Bt}(q:Blk g bv #[.string x]) (t:∀(l:Sl) (g':za) (n:List Nat),AdM lo h M b sl sf b0 g' (X++[x]) l n Y s2 c2->g.size<=g'.size->(∀j,j<g.size->j∉c1->g'[j]?=g[j]?)->K (aK l) g'):
  XRun Tp (TB #[22,22] 22 #[aK s1,.slice (Td ⟨bv,0,Te⟩) 1 1]) g K:=by
 have u:=D.gr;refine ORow.app Ai (by omega) D.ag D.r1 (by omega) (vs:=[.string x]) q rfl m λl g' n r z w f=>t l g' n ⟨D.box.keep (f b D.box.lt D.n1),r,D.r2.frame (λc k=>f c (D.r2.own c k).2.1 λi=>D.dj c i k) (Fr.le.refl _) λc k=>(D.r2.own c k).2.2,λc k i=>?_,λi=>?_,D.n2,by omega,D.bh,λj o h0 m=>(f j (by omega) λi=>?_).trans (D.fr j o h0 m),λc k=>?_,D.w2,λc cs e=>?_,D.nM,D.lb⟩ z f;rcases w c k with h|h;exact D.dj c h i;have:=(D.r2.own c i).2.1;omega;rcases w b i with h|h;exact D.n1 h;have:=D.bh;omega;rcases D.w1 j i with h|h;exact m h;omega;rcases w c k with h|h;exact D.w1 c h;exact .inr (by omega);have k:=D.ag.lt e;rw[f c k λi=>by have:=(D.r1.own c i).2.2;rw[this]at e;cases e];exact D.ag c cs e
theorem AdM.lef(D:AdM lo h M b sl sf b0 g X s1 c1 Y s2 c2)(p:lo<=h.size)(m:Y.length<=1000000){x:Int}(q:Blk g bv #[.int .i64 x]) (t:∀(l:Sl) (g':za) (n:List Nat),AdM lo h M b sl sf b0 g' X s1 c1 (Y++[x]) l n->g.size<=g'.size->(∀j,j<g.size->j∉c2->g'[j]?=g[j]?)->K (aK l) g'):
  XRun Tp (TB #[29,29] 29 #[aK s2,.slice (Td ⟨bv,0,Te⟩) 1 1]) g K:=by
 have u:=D.gr;refine ORow.app m3 (by omega) D.ag D.r2 (by omega) (vs:=[.int .i64 x]) q rfl m λl g' n r z w f=>t l g' n ⟨D.box.keep (f b D.box.lt D.n2),D.r1.frame (λc i=>f c (D.r1.own c i).2.1 λk=>D.dj c i k) (Fr.le.refl _) λc i=>(D.r1.own c i).2.2,r,λc i k=>?_,D.n1,λk=>?_,by omega,D.bh,λj o h0 m=>(f j (by omega) λk=>?_).trans (D.fr j o h0 m),D.w1,λc i=>?_,λc cs e=>?_,D.nM,D.lb⟩ z f;rcases w c k with h|h;exact D.dj c i h;have:=(D.r1.own c i).2.1;omega;rcases w b k with h|h;exact D.n2 h;have:=D.bh;omega;rcases D.w2 j k with h|h;exact m h;omega;rcases w c i with h|h;exact D.w2 c h;exact .inr (by omega);have i:=D.ag.lt e;rw[f c i λk=>by have:=(D.r2.own c k).2.2;rw[this]at e;cases e];exact D.ag c cs e
theorem JJ:qm Tp 29=Ta:=by kernel_rfl
theorem HJ:y8 Tp 29=1:=by kernel_rfl
theorem AdM.fin(D:AdM lo h M b sl sf b0 g X s1 c1 Y s2 c2){S:List (Bt×Int)}(m:X=S.map (·.1))(t:Y=S.map (·.2)){K:za->Prop}(q:∀g' bs',Grw h M b b0 g' M bs'->Tb lo g' M b S bs'->K g'):
  XRunU Tp (Tt 22 (.pointer (Td (Tl (Tl ⟨b,0,Te⟩ 0) 0))) (aK s1)) g λg1=>XRunU Tp (Tt 29 (.pointer (Td (Tl (Tl ⟨b,0,Te⟩ 0) 1))) (aK s2)) g1 K:=by
 subst m;subst t;have u:=D.gr;rw[add0,add0,zd];refine j6 EA Gi D.box (by show 0<2;omega) rfl λg1 l x p=>?_;refine j6 JJ HJ l (by show 1<2;omega) rfl λg2 r w o=>?_;have f:∀j,j≠b->g2[j]?=g[j]?:=λj k=>(o j k).trans (p j k);refine q g2 (c1++c2) ⟨by omega,Fr.le.refl _,λ_ _=>rfl,λc cs e=>?_,λj k h0 n=>(f j h0).trans (D.fr j k h0 n),λc i=>?_⟩ ⟨s1,s2,c1,c2,rfl,r,D.r1.frame (λc i=>f c λe=>D.n1 (e ▸ i)) (Fr.le.refl _) λc i=>(D.r1.own c i).2.2,D.r2.frame (λc i=>f c λe=>D.n2 (e ▸ i)) (Fr.le.refl _) λc i=>(D.r2.own c i).2.2,D.dj,D.n1,D.n2,D.nM,D.lb⟩;rw[f c λh=>by subst h;rw[D.nM]at e;cases e];exact D.ag c cs e;rcases TE.1 i with h|h;exact D.w1 c h;exact D.w2 c h
end
end
section
variable {v:Tr} {k:Bt}
set_option maxRecDepth 100000 in
theorem D3{lo:Nat}{h:za}{M:Fr}{b:Nat}{S u:List (Bt×Int)}{bs:List Nat}{lab:Bt}{F:FuncId}{A C:Array Value}(hF:zj Tp F=Ta)(H:Tb lo h M b S bs)(an:lo<=h.size)(V:u.length<=513) (hk:XC Tp F (A++#[]++C) h λv h1=>v=.tuple #[]/\∃m z,Grw h M b bs h1 m z/\Tb lo h1 m b u z) {K:Value->za->Prop} (hK:∀h' M' bs',Grw h M b bs h' M' bs'->Tb lo h' M' b (ic (u++[(lab,(S.length:Int))])) bs'->K (.tuple #[]) h'):
  XC Tp 94 #[.pointer (Td ⟨b,0,Te⟩),.string lab,.func (.func F) A C] h K:=by
 obtain⟨sl,sf,b1,b2,rfl,B⟩:=H;have l0:=B.r1.len;rw[Tx]at l0;apply R3 (Td ⟨b,0,Te⟩) lab F A C;refine⟨⟨b,0,Te⟩,rfl,sl,by rw[add0];exact B.box.cellAdd (o:=0) (k:=0) rfl,hF,XC.mono hk ?_⟩;rintro v h4 ⟨rfl,m,z,T,f,i,d1,d2,rfl,p⟩;have l1:=p.r1.len;have l2:=p.r2.len;rw[Tx]at l1 l2;have ar:=T.grow;refine⟨rfl,⟨b,0,Te⟩,rfl,f,by rw[add0];exact p.box.cellAdd (o:=0) (k:=0) rfl,λG=>?_,λG=>?_⟩
 ·have G:u.length<=512:=by have:=zH G;omega
  have D:=AdM.start p T.ag;have Z:=p.box.lt;have fin:∀{g:za} {s1:Sl} {c1:List Nat} {s2:Sl} {c2:List Nat},AdM lo h4 m b f i (d1++d2) g (u.map (·.1)++[lab]) s1 c1 (u.map (·.2)++[(sl.len:Int)]) s2 c2->∃w:Addr,Td (⟨b,0,Te⟩:Addr)=Td w /\
    XRunU Tp (Tt 22 (.pointer (Td (Tl (Tl w 0) 0))) (aK s1)) g (λg1=>∃x:Addr,Td (⟨b,0,Te⟩:Addr)=Td x/\XRunU Tp (Tt 29 (.pointer (Td (Tl (Tl x 0) 1))) (aK s2)) g1 (λg2=>K (.tuple #[]) g2)):=by
   intro g s1 c1 s2 c2 y;refine⟨_,rfl,?_⟩;have:=y.fin (S:=u++[(lab,(sl.len:Int))]) (by simp) (by simp) (K:=λg2=>K (.tuple #[]) g2) λg' bs' T' B'=>hK g' m bs' (T.trans T') (by rw[<-BX V,zA G,<-l0];exact B');exact XRunU.mono this λg1 h1=>⟨_,rfl,h1⟩
  refine⟨⟨b,0,Te⟩,rfl,f,by rw[add0];exact p.box.cellAdd (o:=0) (k:=0) rfl,⟨b,0,Te⟩,rfl,i,by rw[add0];exact p.box.cellAdd (o:=0) (k:=1) rfl,?_,?_⟩;intro c;have ae:Keep h4.size h4 c:=Keep.push _ _ (Tm _);have ax:c.size=h4.size+1:=To _;have Y:Blk c h4.size #[.string lab]:=Blk.new _ _ _;have r:AdM lo h4 m b f i (d1++d2) c _ _ _ _ _ _:=D.push _;clear_value c;have n:c[b]?=h4[b]?:=ae.get b Z;refine⟨n,n,?_,?_⟩;refine r.lab (by omega) (by rw[Tx];omega) Y λQ g' c' y z' t=>⟨Q,rfl,?_,?_⟩;exact(t b (by omega) r.n1).trans n;intro q;have aa:Keep g'.size g' q:=Keep.push _ _ (Tm _);have aj:Blk q g'.size #[.int .i64 (sl.len:Int)]:=Blk.new _ _ _;have ak:AdM lo h4 m b f i (d1++d2) q _ _ _ _ _ _:=y.push _;clear_value q;refine⟨(aa.get b y.box.lt).trans ((t b (by omega) r.n1).trans n),?_⟩;exact ak.lef (by omega) (by rw[Tx];omega) aj λs2 g2 c2 N _ _=>⟨s2,rfl,fin N⟩;intro j;have O:Keep c.size c j:=Keep.push _ _ (Tm _);have af:Blk j c.size #[.int .i64 (sl.len:Int)]:=Blk.new _ _ _;have P:AdM lo h4 m b f i (d1++d2) j _ _ _ _ _ _:=r.push _;have am:j.size=c.size+1:=To _;clear_value j;have J:j[b]?=h4[b]?:=(O.get b (by omega)).trans n;refine⟨J,J,?_⟩;refine P.lab (by omega) (by rw[Tx];omega) (Y.ofKeep O) λQ g' c' y z' t=>⟨Q,rfl,(t b (by omega) P.n1).trans J,?_⟩;have hn:c.size∉d1:=λhm=>by have:=(p.r1.own _ hm).2.1;omega
  exact y.lef (by omega) (by rw[Tx];omega) (af.keep (t _ (by omega) hn)) λs2 g2 c2 N _ _=>⟨s2,rfl,fin N⟩;intro e;have ah:Keep h4.size h4 e:=Keep.push _ _ (Tm _);have al:e.size=h4.size+1:=To _;have ai:Blk e h4.size #[.int .i64 (sl.len:Int)]:=Blk.new _ _ _;have ac:AdM lo h4 m b f i (d1++d2) e _ _ _ _ _ _:=D.push _;clear_value e;have E:e[b]?=h4[b]?:=ah.get b Z;refine⟨E,E,?_⟩;intro l;have U:Keep e.size e l:=Keep.push _ _ (Tm _);have au:l.size=e.size+1:=To _;have ab:Blk l e.size #[.string lab]:=Blk.new _ _ _;have L:AdM lo h4 m b f i (d1++d2) l _ _ _ _ _ _:=ac.push _;clear_value l;have I:l[b]?=h4[b]?:=(U.get b (by omega)).trans E;refine⟨I,I,?_⟩;refine L.lab (by omega) (by rw[Tx];omega) ab λQ g' c' y z' t=>⟨Q,rfl,(t b (by omega) L.n1).trans I,?_⟩;have hn:h4.size∉d1:=λhm=>by have:=(p.r1.own _ hm).2.1;omega
  exact y.lef (by omega) (by rw[Tx];omega) ((ai.ofKeep U).keep (t _ (by omega) hn)) λs2 g2 c2 N _ _=>⟨s2,rfl,fin N⟩
 have G:¬u.length<=512:=by have:=zI G;omega
 refine hK h4 m _ T ?_;rw[<-BX V,zv G];exact⟨f,i,d1,d2,rfl,p⟩
theorem Co{gl:Fr}(c:GL gl)(b:Brn gl)(e:Sm v){R:Bt->Prop}(f:R (Wu v).1):PC Tp gl 97 [Arg.mk .tree v] [.str] R:=by apply SE;simp only[xy];exact Ax c b e f
theorem A8(h:iu v=Ta)(j:v.kind≠5)(i:v.kind≠6):v.items=[]/\zm v=Ta:=by
 have hi:v.items=[]:=by unfold iu zo at h;simp only[j,i,if_false]at h;by_cases h1:v.kind=1;simp[h1]at h;exact h.2;by_cases b:v.kind=2;simp[b]at h;exact h.2;by_cases f:v.kind=3;simp[f]at h;exact h.2;by_cases c:v.kind=4;simp[c]at h;exact h.2;by_cases e:v.kind=7;simp[e]at h;simp[h1,b,f,c,e]at h
 refine⟨hi,?_⟩;unfold zm Zj;rw[w7,mJ,xg,hi];simp only[TC,zG];refine⟨⟨by rw[Zc];omega,by rw[X7];omega⟩,?_,by rfl⟩;unfold iu at h;simpa using h
theorem Sg(h:Jl (lb k)=Ta):iu (.mk 4 k [] [])=Ta:=by unfold iu zo;simpa[Tr.kind,Tr.text,Tr.keys,Tr.items]using h
theorem A0(h:Jl (lb k)=Ta):zm (.mk 4 k [] [])=Ta:= (A8 (Sg h) (show¬(4:Int)=5 by decide) (show¬(4:Int)=6 by decide)).2
theorem Hm(h:iu v=Ta)(b:v.kind≠5)(c:v.kind≠6):(Wu v).1=mu v:=by unfold Wu mu;rw[zA (A8 h b c).2,zv b,zv c]
theorem MS(h:Jl (lb k)=Ta):(⟨#[107]⟩:Bt)++(Wu (.mk 4 k [] [])).1=mW k:=by unfold Wu mW;rw[zA (A0 h),nA];show bl [107]++bl (iz (lb k)).1=_;rw[jd];rfl
end
section
theorem Cf{g:za}{M:Fr}(ag:AgM M g){k:Int}{s:Bt}{sk si:Sl}{K:za->Prop}(h:∀g',Later g M g' M->g'.size=g.size+1->Blk g' g.size #[.int .i64 k,.string s,aK sk,aK si]->K g'):
  XRunU Tp (Tt 25 (.pointer (Td ⟨g.size,0,Te⟩)) (.agg #[.int .i64 k,.string s,aK sk,aK si])) (U8 g (.cells #[.int .i64 0,.string ⟨#[]⟩,.slice Te 0 0,.slice Te 0 0] 25)) K:=by
 have b:Keep g.size g (U8 g (.cells #[.int .i64 0,.string ⟨#[]⟩,.slice Te 0 0,.slice Te 0 0] 25)):=Keep.push _ _ (Tm _);have i:(U8 g (.cells #[.int .i64 0,.string ⟨#[]⟩,.slice Te 0 0,.slice Te 0 0] 25)).size=g.size+1:=To _;have c:Blk (U8 g (.cells #[.int .i64 0,.string ⟨#[]⟩,.slice Te 0 0,.slice Te 0 0] 25)) g.size #[.int .i64 0,.string ⟨#[]⟩,.slice Te 0 0,.slice Te 0 0]:=Blk.new _ _ _;refine Wt c λg' f z B=>h g' (Later.same ag ⟨by omega,λj e=>by rw[f j (by omega)];exact b.get j e⟩) (by omega) B
set_option maxRecDepth 100000 in
set_option maxHeartbeats 2000000 in
theorem GD{gl:Fr}(hg:GL gl)(hb:Brn gl){lo:Nat}:∀(n:Nat) (v:Tr),n<=1000000->cK v<=n->Qp iu v=Ta->Sm v->∀(h:za) (M:Fr) (b:Nat) (S:List (Bt×Int)) (bs:List Nat) (u:Value),AgM M h->Fr.le gl M->Tb lo h M b S bs->lo<=h.size->S.length<=513->RdV M .tree v u ->
  XC Tp 55 #[.pointer (Td ⟨b,0,Te⟩),u] h λr h'=>r=.tuple #[]/\∃M' bs',Grw h M b bs h' M' bs'/\Tb lo h' M' b (ic (S++hH v S.length)) bs'
 |0,v,_,hz,_,_=>by have:=Qx v;omega
 |n+1,v,hn,hz,hok,hsm=>by
  intro h M b S bs u ag hM HB aM hS hu;obtain⟨sk,si,rfl,rk,ri⟩:=qe hu;have E:=hok;rw[xg,TC]at E;have aS:v.items.length<=1000000:=by have:=Zk v.items;rw[w7]at hz;omega
  have ih:∀(i:Nat) (hi:i<v.items.length) (h:za) (M:Fr) (S:List (Bt×Int)) (bs:List Nat) (u:Value),AgM M h->Fr.le gl M->Tb lo h M b S bs->lo<=h.size->S.length<=513->RdV M .tree v.items[i] u ->
    XC Tp 55 #[.pointer (Td ⟨b,0,Te⟩),u] h λr h'=>r=.tuple #[]/\∃M' bs',Grw h M b bs h' M' bs'/\Tb lo h' M' b (ic (S++hH v.items[i] S.length)) bs':=λi hi h M S bs u=>by
   have hm:=TA hi;have hs:=qq hm;have ax:Qp iu v.items[i]=Ta:=by rw[je,T7]at E;exact E.2 _ hm
   exact GD hg hb n v.items[i] (by omega) (by omega) ax (hsm.item hm) h M b S bs u
  obtain⟨li,_,_⟩:=rowLen ri;obtain⟨lk,_,_⟩:=rowLen rk;have aQ:=HB.ltb;have ae:=HB.lt;apply Wr (Td ⟨b,0,Te⟩) v.kind v.text sk si;intro h1;have k1:Keep h.size h h1:=Keep.push _ _ (Tm _);have z1:h1.size=h.size+1:=To _;have P1:Blk h1 h.size #[.pointer (Td ⟨b,0,Te⟩)]:=Blk.new _ _ _;clear_value h1;intro h2;have k2:Keep h1.size h1 h2:=Keep.push _ _ (Tm _);have z2:h2.size=h1.size+1:=To _;have T2:Blk h2 h1.size #[.int .i64 v.kind,.string v.text,aK sk,aK si]:=Blk.new _ _ _;clear_value h2;have P2:=P1.ofKeep k2;have aF:Keep h.size h h2:=k1.trans k2 (by omega);have L2:Later h M h2 M:=Later.same ag aF;have af:=HB.call L2;have row:hH v S.length=(if v.kind=6 then Xj v.items v.keys S.length else if v.kind=5 then ig v.items S.length else [])++[(mu v,(S.length:Int))]:=Mo v _;have fin:∀(A:List (Bt×Int)) (lab:Bt) (F:FuncId) (C:Array Value),hH v S.length=A++[(lab,(S.length:Int))]->zj Tp F=Ta -> (∀(h':za) (M':Fr),Later h2 M h' M'->XC Tp F (#[]++#[]++C) h' λw h1=>w=.tuple #[]/\∃J p,Grw h' M' b bs h1 J p/\Tb lo h1 J b (ic (S++A)) p) ->
    ∀(h':za) (M':Fr),Later h2 M h' M'->XC Tp 94 #[.pointer (Td ⟨b,0,Te⟩),.string lab,.func (.func F) #[] C] h' λr h3=>r=.tuple #[]/\Value.tuple #[]=Value.tuple #[]/\∃M' bs',Grw h M b bs h3 M' bs'/\Tb lo h3 M' b (ic (S++hH v S.length)) bs':=by
   intro A lab F C au hF hk h' M' L';have aO:=L'.keep.size;refine D3 hF (af.call L') (by omega) (rD (S++A)) (hk h' M' L') λh3 M3 ai T3 B3=>⟨rfl,rfl,M3,ai,Grw.ofCall (L2.trans L') T3 ae,?_⟩;have:=tv (S++A) λ_=>[(lab,(S.length:Int))];rw[this,TR,<-au]at B3;exact B3
  refine⟨v.kind,T2.cellAdd (o:=0) (k:=0) rfl,λh5=>?_,λh5=>⟨λh6=>?_,λh6=>?_⟩⟩;have h5:v.kind=5:=by simpa using h5
  refine⟨Td ⟨b,0,Te⟩,P2.cell (o:=0) rfl,?_⟩;refine fin (ig v.items S.length) ⟨#[91]⟩ _ _ (by rw[row,zv (by omega),zA h5];unfold mu;rw[zA h5]) (by kernel_rfl) (λh' M' L'=>?_) h2 M (Later.refl L2.ag);show XC _ _ #[.pointer (Td ⟨h1.size,0,Te⟩),.pointer (Td ⟨h.size,0,Te⟩)] _ _;have z':=L'.keep.size;have T':Blk h' h1.size #[.int .i64 v.kind,.string v.text,aK sk,aK si]:=T2.keep (L'.keep.get _ (by omega));have P':Blk h' h.size #[.pointer (Td ⟨b,0,Te⟩)]:=P2.keep (L'.keep.get _ (by omega));have ak:=af.call L';apply Jc ⟨h1.size,0,Te⟩ ⟨h.size,0,Te⟩;refine⟨si,T'.cellAdd (o:=0) (k:=3) rfl,λi g=>∃(m:Nat) (J:Fr) (p:List Nat),i=(m:Int)/\m<=v.items.length/\Grw h' M' b bs g J p/\Tb lo g J b (ic (S++ig (v.items.take m) S.length)) p,λi _=>v.items.length-i.toNat,⟨0,M',bs,rfl,TK _,Grw.refl L'.ag,by rw[List.take_zero,ig,Uq,nY hS];exact ak⟩,?_⟩;rintro i g ⟨m,J,p,rfl,hm,T,B⟩;have gz:=T.grow;refine⟨λhc=>?_,λhc=>?_⟩;have z:m<v.items.length:=by have:=zH hc;omega
  obtain⟨a,ck,ci,ea,ah,t1,t2⟩:=Yj T.ag (ri.mono (L'.le.trans T.le)) z;refine⟨a,⟨ea,by omega,by omega⟩,v.items[m].kind,v.items[m].text,ck,ci,by rw[Tq];exact ah,?_⟩;intro aG;refine Cf T.ag λG I aJ aj=>?_;have Pg:Blk G h.size #[.pointer (Td ⟨b,0,Te⟩)]:=P'.keep ((I.keep.get h.size (by omega)).trans (T.fr h.size (by omega) (by omega) λhm=>by have:=ae _ hm;omega));refine⟨Td ⟨b,0,Te⟩,Pg.cell (o:=0) rfl,v.items[m].kind,v.items[m].text,ck,ci,aj.ld (cs:=[_,_,aK ck,aK ci]),?_⟩;refine XC.mono (ih m z G J _ p _ I.ag (hM.trans (L'.le.trans T.le)) (B.call I) (by omega) (rD _) (zu t1 t2)) ?_;rintro r h19 ⟨rfl,M2,ay,aB,al⟩;refine⟨rfl,⟨m+1,M2,ay,by rw[yr z (by omega)],z,T.trans (Grw.ofCall I aB λc hc=>B.lt c hc),?_⟩,?_⟩;have:=tv (S++ig (v.items.take m) S.length) λk=>hH v.items[m] k;rw[this,TR,Ts,<-SB z]at al;exact al;show v.items.length-(Tj .i64 ((m:Int)+1)).toNat<v.items.length-(m:Int).toNat;rw[yr z (by omega)];omega;have z:m=v.items.length:=by have:=zI hc;omega
  subst z;rw[TN]at B;exact⟨rfl,J,p,T,B⟩
  ·have h6:v.kind=6:=by simpa using h6
   have aP:v.keys.length=v.items.length:=by have:=E.1;unfold iu zo at this;simp[h6]at this;exact this.1.2
   have aE:∀k∈v.keys,Jl (lb k)=Ta:=by have:=E.1;unfold iu zo j8 at this;simp[h6]at this;exact this.1.1.1
   refine⟨Td ⟨b,0,Te⟩,P2.cell (o:=0) rfl,?_⟩;refine fin (Xj v.items v.keys S.length) ⟨#[123]⟩ _ _ (by rw[row,zA h6];unfold mu;rw[zv (by omega),zA h6]) (by kernel_rfl) (λh' M' L'=>?_) h2 M (Later.refl L2.ag);show XC _ _ #[.pointer (Td ⟨h1.size,0,Te⟩),.pointer (Td ⟨h.size,0,Te⟩)] _ _;have z':=L'.keep.size;have T':Blk h' h1.size #[.int .i64 v.kind,.string v.text,aK sk,aK si]:=T2.keep (L'.keep.get _ (by omega));have P':Blk h' h.size #[.pointer (Td ⟨b,0,Te⟩)]:=P2.keep (L'.keep.get _ (by omega));have ak:=af.call L';apply Jd ⟨h1.size,0,Te⟩ ⟨h.size,0,Te⟩;refine⟨si,T'.cellAdd (o:=0) (k:=3) rfl,λi g=>∃(m:Nat) (J:Fr) (p:List Nat),i=(m:Int)/\m<=v.items.length/\Grw h' M' b bs g J p/\Tb lo g J b (ic (S++Xj (v.items.take m) v.keys S.length)) p,λi _=>v.items.length-i.toNat,⟨0,M',bs,rfl,TK _,Grw.refl L'.ag,by rw[List.take_zero,Xj,Uq,nY hS];exact ak⟩,?_⟩;rintro i g ⟨m,J,p,rfl,hm,T,B⟩;have gz:=T.grow;refine⟨λhc=>?_,λhc=>?_⟩
   ·have z:m<v.items.length:=by have:=zH hc;omega
    have aa:m<v.keys.length:=by omega
    have Z:=L'.le.trans T.le;obtain⟨a,ck,ci,ea,ah,t1,t2⟩:=Yj T.ag (ri.mono Z) z;refine⟨a,⟨ea,by omega,by omega⟩,v.items[m].kind,v.items[m].text,ck,ci,by rw[Tq];exact ah,?_⟩;intro aG;refine Cf T.ag λG I aJ aj=>?_;have Pg:Blk G h.size #[.pointer (Td ⟨b,0,Te⟩)]:=P'.keep ((I.keep.get h.size (by omega)).trans (T.fr h.size (by omega) (by omega) λhm=>by have:=ae _ hm;omega));have Tg:Blk G h1.size #[.int .i64 v.kind,.string v.text,aK sk,aK si]:=T'.keep ((I.keep.get h1.size (by omega)).trans (T.fr h1.size (by omega) (by omega) λhm=>by have:=ae _ hm;omega));obtain⟨a2,aH,x,aA,aD⟩:=kR I.ag (rk.mono Z) aa (i:=(m:Int)) rfl (L:=sk.len) rfl (Q:=λx=>x=v.keys[m]) rfl;subst aD;refine⟨Td ⟨b,0,Te⟩,Pg.cell (o:=0) rfl,sk,Tg.cellAdd (o:=0) (k:=2) rfl,a2,aH,v.keys[m],aA,?_⟩;have ar:=aE _ (TA aa);have az:Sm (.mk 4 v.keys[m] [] []):=⟨by rw[w7];simp[Zc],by rw[jM];refine⟨⟨?_,TK _,λk hk=>by cases hk⟩,trivial⟩;have:=hsm.key (TA aa);rw[ny]at this;exact this⟩;have BB:=B.call I;have Y:∀(f:za) (j:Fr) (kt:Bt),Later G J f j->kt=(Wu (.mk 4 v.keys[m] [] [])).1->XC Tp 94 #[.pointer (Td ⟨b,0,Te⟩),.string ((⟨#[107]⟩:Bt)++kt),.func (.func 99) #[] #[.pointer (Td ⟨h.size,0,Te⟩),.pointer (Td ⟨g.size,0,Te⟩)]] f λw am=>w=.tuple #[] /\
      (∃(q:Nat) (J:Fr) (p:List Nat),Tj .i64 ((m:Int)+1)=(q:Int)/\q<=v.items.length/\Grw h' M' b bs am J p/\Tb lo am J b (ic (S++Xj (v.items.take q) v.keys S.length)) p)/\v.items.length-(Tj .i64 ((m:Int)+1)).toNat<v.items.length-(m:Int).toNat:=by
     rintro f j kt l rfl;rw[MS ar];have aN:=l.keep.size;have V:=I.trans l;refine D3 (by kernel_rfl) (B.call V) (by omega) (rD (ic (S++Xj (v.items.take m) v.keys S.length)++hH v.items[m] (ic (S++Xj (v.items.take m) v.keys S.length)).length)) ?_ λh3 M3 ai T3 B3=>⟨rfl,⟨m+1,M3,ai,by rw[yr z (by omega)],z,T.trans (Grw.ofCall V T3 λc hc=>B.lt c hc),?_⟩,?_⟩;show XC _ _ #[.pointer (Td ⟨h.size,0,Te⟩),.pointer (Td ⟨g.size,0,Te⟩)] _ _;apply Qy ⟨h.size,0,Te⟩ ⟨g.size,0,Te⟩;refine⟨Td ⟨b,0,Te⟩,(Pg.keep (l.keep.get _ (by omega))).cell (o:=0) rfl,v.items[m].kind,v.items[m].text,ck,ci,(aj.keep (l.keep.get _ (by omega))).ld (cs:=[_,_,aK ck,aK ci]),?_⟩;exact XC.mono (ih m z f j _ p _ l.ag (hM.trans (Z.trans l.le)) (B.call V) (by omega) (rD _) (zu (t1.mono l.le) (t2.mono l.le))) λr h' N=>⟨N.1,rfl,N.2⟩;have e1:=tv (S++Xj (v.items.take m) v.keys S.length) λk=>hH v.items[m] k++[(mW v.keys[m],(k:Int))];have e2:=tv (ic (S++Xj (v.items.take m) v.keys S.length)++hH v.items[m] (ic (S++Xj (v.items.take m) v.keys S.length)).length) λ_=>[(mW v.keys[m],((ic (S++Xj (v.items.take m) v.keys S.length)).length:Int))];rw[e2,TR,e1,TR,Ts,<-Nk z aa]at B3;exact B3;rw[yr z (by omega)];omega
    have ac:∀(t:za) (y:Fr) (U P:Sl),Later G J t y->RdV y .tree (.mk 4 v.keys[m] [] []) (.agg #[.int .i64 4,.string v.keys[m],aK U,aK P])->∀{K:Value->za->Prop},(∀f j,Later G J f j->Later t y f j->K (.string (Wu (.mk 4 v.keys[m] [] [])).1) f) ->
      XC Tp 97 #[.agg #[.int .i64 4,.string v.keys[m],aK U,aK P]] t K:=λt y U P D N K hK=>by
     refine(Co hg hb az (R:=λr=>r=(Wu (.mk 4 v.keys[m] [] [])).1) rfl).go (vs:=[.agg #[.int .i64 4,.string v.keys[m],aK U,aK P]]) (hM.trans (Z.trans D.le)) D.ag (zh N zy) λw f j r l O N=>?_;subst N;rw[lF O];exact hK f j (D.trans l) l
    have off:∀{K:Value->za->Prop},(∀t y U P,Later G J t y->RdV y .tree (.mk 4 v.keys[m] [] []) (.agg #[.int .i64 4,.string v.keys[m],aK U,aK P])->K (.agg #[.int .i64 4,.string v.keys[m],aK U,aK P]) t)->XC Tp 98 #[.string v.keys[m]] G K:=λ {K} hK=>by refine(show PC Tp gl 98 [Arg.mk .str v.keys[m]] [.tree] (λr=>r=.mk 4 v.keys[m] [] [])from by apply Le;rfl).go (hM.trans Z) I.ag (zh (a:=Arg.mk .str _) (rdStr _) zy) λw t y r D O N=>?_;subst N;have N:=Qf.1 O;obtain⟨U,P,e,_,_⟩:=qe N;subst e;exact hK t y U P D N
    have ab:yz ((⟨#[107]⟩:Bt).size+(Wu (.mk 4 v.keys[m] [] [])).1.size):=by have h1:=hsm.key (TA aa);unfold Wu;rw[zA (A0 ar),nA];show yz ((bl [107]).size+(bl (iz (lb v.keys[m])).1).size);have:=qJ (lb v.keys[m]);exact nn (by simp only[UG];omega)
    have aL:b<G.size:=by have:=B.ltb;omega
    have H:∀(f:za) (j:Fr),Later G J f j->f[h.size]?=G[h.size]?:=λf j L=>L.keep.get _ (by omega);refine⟨off λt y U P D N=>⟨_,_,U,P,rfl,H t y D,?_,H t y D,?_⟩,rfl,rfl,rfl,off λt y U P D N=>⟨_,_,U,P,rfl,H t y D,?_⟩⟩;exact ac t y U P D N λf j l _=>⟨_,rfl,ab,H f j l,H f j l,Y f j _ l rfl⟩;exact ac t y U P D N λf j l _=>⟨_,rfl,ab,H f j l,Y f j _ l rfl⟩;exact ac t y U P D N λf j l _=>⟨_,rfl,ab,H f j l,Y f j _ l rfl⟩
   have z:m=v.items.length:=by have:=zI hc;omega
   subst z;rw[TN]at B;exact⟨rfl,J,p,T,B⟩
  have h5:v.kind≠5:=by simpa using h5
  have h6:v.kind≠6:=by simpa using h6
  refine⟨Td ⟨b,0,Te⟩,P2.cell (o:=0) rfl,v.kind,v.text,sk,si,T2.ld (cs:=[_,_,aK sk,aK si]),?_⟩;refine(Co hg hb hsm (R:=λr=>r=(Wu v).1) rfl).go (vs:=[.agg #[.int .i64 v.kind,.string v.text,aK sk,aK si]]) hM L2.ag (zh hu zy) λw aC aI r an O N=>?_;subst N;rw[lF O,Hm E.1 h5 h6];refine⟨_,rfl,an.keep.get h.size (by omega),?_⟩;refine fin [] (mu v) _ _ (by rw[row,zv h6,zv h5]) (by kernel_rfl) (λh' M' L'=>?_) aC aI an;show XC _ _ #[] _ _;apply Je;exact⟨rfl,M',bs,Grw.refl L'.ag,by rw[Uq,nY hS];exact af.call L'⟩
end
end Go.X
end
section
namespace Go.X
open Go Go.Lib
section
variable {n i:Nat}
def bR(L:List Int)(i:Nat):Int:=L.getD i 0
def kN(L:List Int)(j:Nat):Bool:=decide (0<=bR L j)&&decide (bR L j<=j)&&(TZ j).all λi=>!(decide (bR L j<=(i:Int))&&decide (bR L i<bR L j))
def km(L:List Int)(j:Nat):Bool:=(TZ j).all (kN L)
def zq(t:List Bt×List Int):Bool:=decide (t.1.length=t.2.length)&&decide (t.1.length<=512)&&km t.2 t.2.length
def iM(L:List Int)(n i:Nat):Int:=match (TZ n).find? λj=>decide (i<j)&&decide (bR L j<=(i:Int))with
 |some j=>(j:Int)
 |none=>-1
def nI(L:List Int):List Int:=(TZ L.length).map (iM L L.length)
def Jo(L:List Int)(j:Nat):List Nat:=(TZ j).filter λi=>decide (iM L j i<0)
theorem Jg{L:List Int}{j:Nat}:kN L j=Ta↔0<=bR L j/\bR L j<=j/\∀i,i<j->bR L j<=(i:Int)->bR L j<=bR L i:=by unfold kN;simp only[TC,zG,T7,Ui,VE,Bool.and_eq_false_iff,decide_eq_false_iff_not];constructor;rintro⟨⟨h1,c⟩,e⟩;exact⟨h1,c,λi hi b=>by rcases e i hi with h|h <;> omega⟩;rintro⟨h1,c,e⟩;refine⟨⟨h1,c⟩,λi hi=>?_⟩;by_cases b:bR L j<=(i:Int);exact .inr (by have:=e i hi b;omega);exact .inl b
theorem Xk{L:List Int}{j:Nat}:km L j=Ta↔∀i,i<j->kN L i=Ta:=by unfold km;simp only[T7,Ui]
theorem Hn{L:List Int}{j:Nat}(h:km L j=Ta)(c:kN L j=Ta):km L (j+1)=Ta:=by rw[Xk]at h ⊢;intro i hi;rcases Up i j with b|b;exact h i b;rw[show i=j from by omega];exact c
theorem Lk{p:Nat->Bool}:∀{n j:Nat},(TZ n).find? p=Td j->j<n/\p j=Ta/\∀i,i<j->p i=Tc:=by
 intro n;induction n with
 |zero=>intro j h;simp at h
 |succ n c=>
  intro j h;rw[List.range_succ,List.find?_append]at h;cases e:(TZ n).find? p with
  |some k=>rw[e]at h;simp at h;subst h;obtain⟨h1,f,l⟩:=c e;exact⟨by omega,f,l⟩
  |none=>rw[e]at h;rw[List.find?_eq_none]at e;simp[List.find?]at h;split at h;rename_i b;simp at h;subst h;exact⟨by omega,b,λi hi=>by simpa using e i (Ui.2 hi)⟩;simp at h
theorem Zt(L:List Int)(n i:Nat):(iM L n i=-1/\∀j,i<j->j<n->(i:Int)<bR L j)\/∃p:Nat,iM L n i=(p:Int)/\i<p/\p<n/\bR L p<=(i:Int)/\∀j,i<j->j<p->(i:Int)<bR L j:=by
 unfold iM;cases e:(TZ n).find? λj=>decide (i<j)&&decide (bR L j<=(i:Int))with
 |none=>refine .inl ⟨rfl,λj h1 c=>?_⟩;rw[List.find?_eq_none]at e;have:=e j (Ui.2 c);simp[h1]at this;omega
 |some p=>obtain⟨h1,c,f⟩:=Lk e;simp only[TC,zG]at c;refine .inr ⟨p,rfl,c.1,h1,c.2,λj a b=>?_⟩;have:=f j b;simp[a]at this;omega
theorem Gw{L:List Int}{n i p:Nat}(h1:i<p)(f:p<n)(l:bR L p<=(i:Int))(k:∀j,i<j->j<p->(i:Int)<bR L j):iM L n i=(p:Int):=by rcases Zt L n i with⟨_,e⟩|⟨q,e,a,b,c,d⟩;have:=e p h1 f;omega;rw[e];rcases Nat.lt_trichotomy p q with h|h|h;have:=d p h1 h;omega;rw[h];have:=k q a h;omega
theorem EZ{L:List Int}(h:∀j,i<j->j<n->(i:Int)<bR L j):iM L n i=-1:=by rcases Zt L n i with⟨e,_⟩|⟨q,e,a,b,c,d⟩;exact e;have:=h q a b;omega
theorem GK(L:List Int)(n i:Nat)(hi:i<n):iM L (n+1) i=if iM L n i<0/\bR L n<=(i:Int)then(n:Int)else iM L n i:=by
 rcases Zt L n i with⟨e,h⟩|⟨p,e,a,b,c,d⟩;by_cases f:bR L n<=(i:Int);rw[zA ⟨by omega,f⟩];exact Gw hi (by omega) f λj h1 k=>h j h1 k
 rw[zv (λq=>f q.2),e];refine EZ λj h1 k=>?_;rcases Up j n with l|l;exact h j h1 l;rw[show j=n from by omega];omega;rw[zv (λq=>by omega),e];exact Gw a (by omega) c d
theorem ET(L:List Int)(n:Nat):iM L (n+1) n=-1:=EZ λj h1 b=>by omega
theorem E9{L:List Int}{j:Nat}(h:km L j=Ta):∀(k i:Nat),j-i<=k->i<j->∃r,r<j/\iM L j r=-1/\i<=r/\bR L r<=bR L i
 |0,i,hk,hi=>by omega
 |k+1,i,hk,hi=>by rcases Zt L j i with⟨e,_⟩|⟨p,e,a,b,c,_⟩;exact⟨i,hi,e,Tm _,Int.le_refl _⟩;obtain⟨r,f,l,m,n⟩:=E9 h k p (by omega) b;rw[Xk]at h;have:=(Jg.1 (h p b)).2.2 i a c;exact⟨r,f,l,by omega,by omega⟩
theorem vd{L:List Int}{j i:Nat}:i∈Jo L j↔i<j/\iM L j i=-1:=by unfold Jo;rw[UI,Ui,zG];constructor;rintro⟨a,b⟩;rcases Zt L j i with⟨e,_⟩|⟨p,e,_⟩;exact⟨a,e⟩;omega;rintro⟨a,b⟩;exact⟨a,by omega⟩
theorem KA{L:List Int}{j:Nat}(h:km L j=Ta)(h0:0<=bR L j)(h1:bR L j<=j)(c:∀r∈Jo L j,bR L j<=(r:Int)->bR L j<=bR L r):kN L j=Ta:=by refine Jg.2 ⟨h0,h1,λi hi l=>?_⟩;obtain⟨r,e,b,k,f⟩:=E9 h (j-i) i (Tm _) hi;have:=c r (vd.2 ⟨e,b⟩) (by omega);omega
theorem LN(L:List Int)(j:Nat):Jo L (j+1)=(Jo L j).filter (λi:Nat=>decide ((i:Int)<bR L j))++[j]:=by unfold Jo;rw[List.range_succ,List.filter_append,List.filter_filter];congr 1;refine List.filter_congr λi hi=>?_;rw[Ui]at hi;rw[GK L j i hi,T8,TC,zG,zG,zG];by_cases b:iM L j i<0;by_cases c:bR L j<=(i:Int);rw[zA ⟨b,c⟩];omega;rw[zv (λq=>c q.2)];omega;rw[zv (λq=>b q.1)];omega;rw[Vx,zA (by rw[ET];decide)];rfl
theorem Od(L:List Int)(j:Nat):(Jo L j).Pairwise (· < ·):=by unfold Jo;exact List.Pairwise.sublist List.filter_sublist List.pairwise_lt_range
theorem X9:∀{l:List Nat},l.Pairwise (· < ·)->∀{x:Int} {m:Nat},m<=l.length->(∀i (h:i<l.length),i<m->(l[i]:Int)<x)->(∀i (h:i<l.length),m<=i->x<=(l[i]:Int))->l.filter (λi:Nat=>decide ((i:Int)<x))=l.take m
 |[],_,x,m,_,_,_=>by simp
 |a::l,hp,x,m,hm,h1,h2=>by
  cases m with
  |zero=>rw[List.take_zero,List.filter_eq_nil_iff];intro b c;obtain⟨i,hi,rfl⟩:=VK.1 c;have:=h2 i hi (TK _);simp;exact this
  |succ m=>rw[Vx,zA (by have:=h1 0 (by simp) (by omega);simpa using this),Vv];congr 1;exact X9 (UM.1 hp).2 (by simpa using hm) (λi h hi=>by have:=h1 (i+1) (by simpa using h) (by omega);simpa using this) (λi h hi=>by have:=h2 (i+1) (by simpa using h) (by omega);simpa using this)
theorem Kk{L:List Int}(h:i<L.length):(nI L)[i]?=Td (iM L L.length i):=by unfold nI;rw[Us,List.getElem?_range h];rfl
theorem NI(L:List Int):(nI L).length=L.length:=by unfold nI;rw[Tx,List.length_range]
end
end Go.X
end
section
namespace Go.X
open Go Go.X Go.Proofs Go.RowKit
section
variable {M:Fr} {a b:Ty} {h g:za} {n bo bt i:Nat} {ts:Sl} {ct:Array Value}
theorem pv{x:El (.row a)×El (.row b)}{u:Value}(h:RdV M (.pair (.row a) (.row b)) x u):∃s1 s2:Sl,u=.agg #[aK s1,aK s2]/\Rd M (.row a) x.1 [aK s1]/\Rd M (.row b) x.2 [aK s2]:=by unfold RdV at h;simp only[fR,if_true]at h;obtain⟨cs,rfl,c1,c2,rfl,h1,c⟩:=h;obtain⟨f,rfl,g1⟩:=h1;obtain⟨e,rfl,g2⟩:=c;obtain⟨s1,rfl,j⟩:=i4 (M:=M) (t:=a) (xs:=x.1) ((Qo rfl).2 ⟨f,rfl,g1⟩);obtain⟨s2,rfl,i⟩:=i4 (M:=M) (t:=b) (xs:=x.2) ((Qo rfl).2 ⟨e,rfl,g2⟩);grind
theorem Wv{x:El (.row a)×El (.row b)}{s1 s2:Sl}(h1:Rd M (.row a) x.1 [aK s1])(c:Rd M (.row b) x.2 [aK s2]):RdV M (.pair (.row a) (.row b)) x (.agg #[aK s1,aK s2]):=by unfold RdV;simp only[fR,if_true];exact⟨[_,_],rfl,[_],[_],rfl,h1,c⟩
theorem IH(z:Value)(n:Nat):madeCells #[z] n=(UL n z).toArray:=by apply Array.ext;simp[madeCells];intro i h1 b;simp[madeCells,Nat.mod_one]
theorem re{t e:TypeId}{z:Value}{bytes:Nat}(E:ElemT Tp t e z 1 bytes)(hz:z.cells=#[z])(f:bytes<=1000)(m:n<=1000000){K:Value->za->Prop}(l:K (aK ⟨Td ⟨h.size,0,Te⟩,n,n⟩) (h.push (.cells (UL n z).toArray e))):
  XRun Tp (Uc t (.int .i64 (n:Int)) (.int .i64 (n:Int))) h K:=by
 intro B d;obtain⟨i,hi,b,k,j⟩:=E.info;have o:(bytes:Int)*(n:Int)<=1000*1000000:=Int.mul_le_mul (by omega) (by omega) (by omega) (by omega);have c:=run_make (P:=Tp) (mk B d h) t e i z E.slice hi b .i64 .i64 (n:Int) (n:Int) (by omega) (Int.le_refl _) (by rw[j];omega) (by omega);rw[Tq,k,Uj,hz,IH]at c;exact⟨_,_,_,c,l⟩
theorem CR.pop{els:List (List Value)}{sl:Sl}{b:Nat}{cs:Array Value}(H:CR g 1 els sl b cs){q:Nat}(f:q<=els.length):CR g 1 (els.take q) ⟨sl.a,q,sl.cap⟩ b cs:=by have h:=H.ln;have c:=H.ro.le;refine⟨⟨by grind,?_⟩,by simp_all,λi e hi=>?_⟩;rcases H.ro.at_ with⟨h1,j⟩|h1;grind;grind;rw[Ud]at hi;split at hi;exact H.el i e hi;cases hi
structure ParI (h:za) (n bo:Nat) (T:List Nat) (outs:List Int) (ts:Sl) (bt:Nat) (ct:Array Value) (g:za):Prop where
 k:Keep bo h g
 out:Blk g bo (outs.map (UB .i64)).toArray
 ln:outs.length=n
 top:CR g 1 (T.map λi:Nat=>[UB .i64 (i:Int)]) ts bt ct
 hb:bo<bt
theorem ParI.len{T:List Nat}{outs:List Int}(S:ParI h n bo T outs ts bt ct g):ts.len=T.length:=by rw[S.top.ln,Tx]
theorem ParI.cell{T:List Nat}{outs:List Int}(S:ParI h n bo T outs ts bt ct g)(hi:i<T.length):ts.a=Td ⟨bt,0,Te⟩/\zb g ⟨bt,0+i,Te⟩=Td (.int .i64 ((T[i]:Nat):Int)):=by
 have b:(T.map λi:Nat=>[UB .i64 (i:Int)])≠[]:=λe=>by simp_all
 obtain⟨c,B⟩:=S.top.blk b;obtain⟨_,f⟩:=S.top.el i [.int .i64 ((T[i]:Nat):Int)] (by simp_all);refine⟨c,B.cell ?_⟩;have:=x5 f (q:=0) (by omega);simp_all
theorem ParI.set{T:List Nat}{outs:List Int}(S:ParI h n bo T outs ts bt ct g)(hi:i<n){x:Int}{K:za->Prop}(m:∀g',ParI h n bo T (outs.set i x) ts bt ct g'->g'.size=g.size->K g'):
  XRunU Tp (Tt 3 (.pointer (Td ((⟨bo,0,Te⟩:Addr).add (i*1)))) (.int .i64 x)) g K:=by
 have c:=S.ln;have e:=S.hb;rw[zd,TJ,Uj];refine j6 DW (by kernel_rfl) S.out (by simp;omega) rfl λg' o f b=>m g' ⟨⟨by have:=S.k.size;omega,λj l=>(b j (by omega)).trans (S.k.get j l)⟩,?_,by simp_all,S.top.frame λ_=>b bt (by omega),e⟩ f;simp_all
theorem HP{s:Sl}{q:Nat}{i:Int}(h1:i=(q:Int)):(⟨io s.a 1 (0:Int).toNat ((s.cap:Nat):Int).toNat,i.toNat-(0:Int).toNat,((s.cap:Nat):Int).toNat-(0:Int).toNat⟩:Sl)=⟨s.a,q,s.cap⟩:=by simp_all[FW]
set_option maxRecDepth 100000 in
set_option maxHeartbeats 2000000 in
theorem NU{gl:Fr}{t:List Bt×List Int}{R:List Int×Bool->Prop}(hR:R (if zq t=Ta then(nI t.2,Ta)else([],Tc))):PC Tp gl 60 [Arg.mk (.pair (.row .str) (.row (.int .i64))) t] [.row (.int .i64),.bool] R:=by
 intro h M vs hM ag ha
 match vs,ha with
 |[u],⟨hu,_⟩=>
  obtain⟨s1,s2,rfl,r1,r2⟩:=pv (show RdV M (.pair (.row .str) (.row (.int .i64))) t u from hu);apply PX.of;obtain⟨l1,_,_⟩:=rowLen r1;obtain⟨l2,b2,_⟩:=rowLen r2;apply Oi s1 s2;intro h1;have k1:Keep h.size h h1:=Keep.push _ _ (Tm _);have z1:h1.size=h.size+1:=To _;have F:Blk h1 h.size #[aK s1,aK s2]:=Blk.new _ _ _;clear_value h1;have B:∀g:za,zq t=Tc->Keep h.size h g->∃M' r,Later h M g M'/\Yg M' [.row (.int .i64),.bool] r (.tuple #[.slice Te 0 0,.bool Tc])/\R r:=λg e k=>⟨M,([],Tc),Later.same ag k,⟨[_,_],⟨_,_,rfl,(Qo rfl).2 kf,_,rfl,rdBool _⟩,rfl⟩,by simp_all⟩;refine⟨s1,F.cellAdd (o:=0) (k:=0) rfl,s2,F.cellAdd (o:=0) (k:=1) rfl,s1,λ_=>F.cellAdd (o:=0) (k:=0) rfl,λf=>?_,λf=>?_⟩;refine B _ ?_ k1;cases l:zq t with
  |false=>rfl
  |true=>unfold zq at l;grind
  have w:s1.len=s2.len:=by by_cases e:s1.len=s2.len;exact e;grind
  have ay:s1.len<=512:=by
   have:((s1.len:Int) != (s2.len:Int))=Tc:=by simp;omega
   rw[this]at f;have:=zI f;omega
  refine⟨s2,F.cellAdd (o:=0) (k:=1) rfl,?_⟩;refine re (E:=(m3:ElemT _ _ _ _ 1 8)) rfl (by omega) (by omega) ⟨⟨Td ⟨h1.size,0,Te⟩,s2.len,s2.len⟩,rfl,s2,?_,?_⟩;exact(F.keepN (n:=h1.size) (Keep.push _ _ (Tm _)) (by omega)).cellAdd (o:=0) (k:=1) rfl;obtain⟨L,hL⟩:∃L,L=t.2:=⟨_,rfl⟩;have hn:L.length=s2.len:=by rw[hL,l2]
  have nr:∀m,m<L.length->kN L m=Tc->zq t=Tc:=λm hm e=>by
   cases l:zq t with
   |false=>rfl
   |true=>unfold zq at l;simp only[TC,zG]at l;rw[hL]at hm e;have:=Xk.1 l.2 m hm;simp_all
  refine⟨λts j g=>∃(m:Nat) (outs:List Int) (bt:Nat) (ct:Array Value),j=(m:Int)/\m<=L.length/\km L m=Ta/\ParI h1 L.length h1.size (Jo L m) outs ts bt ct g/\∀i,i<m->outs[i]?=Td (iM L m i),λ_ j _=>L.length-j.toNat,?_,?_⟩;refine⟨0,UL L.length 0,h1.size+1,#[],rfl,TK _,rfl,⟨Keep.push _ _ (Tm _),?_,Vg,⟨⟨TK _,.inl ⟨rfl,rfl⟩⟩,rfl,λi e hi=>by simp[Jo]at hi⟩,by omega⟩,λi hi=>by omega⟩;rw[List.map_replicate,hn];exact Blk.new _ _ _;rintro ts j g ⟨m,outs,bt,ct,rfl,hm,O,S,hv⟩;refine⟨λf=>?_,λf=>?_⟩;have w:m<L.length:=by have:=zH f;omega
  have H:Keep h.size h g:=k1.trans S.k (by omega);have V:AgM M g:=ag.keep H;obtain⟨b,o,e1,J⟩:=rP V r2 (k:=m) (by omega);have hx:t.2[m]'(by omega)=bR L m:=by subst hL;unfold bR;rw[TM,Tv w];rfl
  rw[hx]at J;refine⟨⟨b,o,Te⟩,⟨e1,by omega,by omega⟩,bR L m,by rw[Wh,Tq];exact J,λh3=>?_,λh3=>?_⟩;refine B _ (nr m w ?_) H;cases e:kN L m with
  |false=>rfl
  |true=>obtain⟨a1,a2,_⟩:=Jg.1 e;grind
  have a0:0<=bR L m:=by by_cases e:bR L m<0;simp_all;omega
  have a1:bR L m<=m:=by rw[decide_eq_false (show¬bR L m<0 by omega)]at h3;have:=zI h3;omega
  generalize D:bR L m=lf at *;have hT:∀k,(U:k<(Jo L m).length)->(Jo L m)[k]<m:=λk U=>(vd.1 (TA U)).1;refine⟨λts g=>∃(q:Nat) (outs:List Int) (ct:Array Value),q<=(Jo L m).length/\ParI h1 L.length h1.size ((Jo L m).take q) outs ts bt ct g/\(∀i,i<m->outs[i]?=Td (if i∈(Jo L m).drop q then(m:Int)else iM L m i))/\∀r∈(Jo L m).drop q,lf<=(r:Int)/\lf<=bR L r,λts _=>ts.len,?_,?_⟩;exact⟨(Jo L m).length,outs,ct,Tm _,by simp_all,λi hi=>by simp_all,λr l=>by simp_all⟩;rintro ts' g' ⟨q,C,A,hq,y,T,hp⟩;have az:ts'.len=q:=by rw[y.len,UD,VS hq]
  have N:Keep h.size h g':=k1.trans y.k (by omega);have ak:=y.top.ro.le;have aA:m<=512:=by omega
  have am:q<=512:=by
   have:(Jo L m).length<=m:=by unfold Jo;exact Ux (List.length_filter_le _ _) (by simp)
   omega
  obtain⟨k,U⟩:∃k,k=(Jo L m).getD (q-1) 0:=⟨_,rfl⟩;obtain⟨a,p1⟩:∃a:Addr,0<q->ts'.a=Td a/\zb g' (a.add ((q-1)*1))=Td (.int .i64 (k:Int)):=by by_cases h0:0<q;obtain⟨e3,e4⟩:=y.cell (i:=q-1) (by grind);refine⟨_,λ_=>⟨e3,?_⟩⟩;rw[zd,Uj,e4,List.getElem_take,U,TM,Tv (by omega)];rfl;exact⟨⟨0,0,Te⟩,λh=>absurd h h0⟩
  have x:0<q->Tj .i64 (((ts'.len:Nat):Int)-1)=((q-1:Nat):Int):=λh0=>by rw[wrap64 (by omega) (by omega)];omega
  have ab:0<q->k<m/\k∈Jo L m/\(Jo L m).drop (q-1)=k::(Jo L m).drop q:=λh0=>by grind [Uk]
  refine⟨a,λf=>?_,(k:Int),λf=>?_,λf=>?_,λf=>?_⟩;grind;have h0:0<q:=by have:=zH f;omega
  rw[x h0,Tq];exact(p1 h0).2;have h0:0<q:=by by_cases e:0<q;exact e;rw[decide_eq_false (show¬((ts'.len:Nat):Int)>0 by omega)]at f;cases f
  rw[zJ (show((ts'.len:Nat):Int)>0 by omega)]at f;have an:lf<=(k:Int):=by have:=zH f;omega
  obtain⟨aj,ar,I⟩:=ab h0;have x:=x h0;obtain⟨b3,o3,e3,e4⟩:=rP (ag.keep N) r2 (k:=k) (by omega);have ai:t.2[k]'(by omega)=bR L k:=by subst hL;unfold bR;rw[TM,Tv (by omega)];rfl
  rw[ai]at e4;refine⟨a,⟨(p1 h0).1,by rw[x];omega,by rw[x];omega⟩,(k:Int),by rw[x,Tq];exact(p1 h0).2,s2,(F.keepN y.k (by omega)).cellAdd (o:=0) (k:=1) rfl,⟨b3,o3,Te⟩,⟨e3,by omega,by omega⟩,bR L k,by rw[Wh,Tq];exact e4,λh4=>?_,λh4=>?_⟩;refine B _ (nr m w ?_) N;cases e:kN L m with
  |false=>rfl
  |true=>have:=(Jg.1 e).2.2 k aj (by omega);grind
  have h5:lf<=bR L k:=by have:=zI h4;omega
  have af:q<=ts'.cap:=by omega
  have P:(0:Int)<=0/\0<=Tj .i64 (((ts'.len:Nat):Int)-1)/\Tj .i64 (((ts'.len:Nat):Int)-1)<=((ts'.cap:Nat):Int)/\((ts'.cap:Nat):Int)<=((ts'.cap:Nat):Int):=by rw[x];omega
  have Q:∀g2,ParI h1 L.length h1.size ((Jo L m).take q) (C.set k (m:Int)) ts' bt A g2->(∃(q2:Nat) (outs:List Int) (ct:Array Value),q2<=(Jo L m).length/\ParI h1 L.length h1.size ((Jo L m).take q2) outs ⟨io ts'.a 1 (0:Int).toNat ((ts'.cap:Nat):Int).toNat,(Tj .i64 (((ts'.len:Nat):Int)-1)).toNat-(0:Int).toNat,((ts'.cap:Nat):Int).toNat-(0:Int).toNat⟩ bt ct g2/\(∀i,i<m->outs[i]?=Td (if i∈(Jo L m).drop q2 then(m:Int)else iM L m i))/\∀r∈(Jo L m).drop q2,lf<=(r:Int)/\lf<=bR L r)/\(Tj .i64 (((ts'.len:Nat):Int)-1)).toNat-(0:Int).toNat<ts'.len:=λg2 c=>by rw[HP x];refine⟨⟨q-1,_,A,by omega,⟨c.k,c.out,c.ln,?_,c.hb⟩,λi hi=>?_,λr l=>?_⟩,by rw[x];omega⟩;have:=c.top.pop (q:=q-1) (by grind);grind [List.map_take];rw[List.getElem?_set,I];by_cases e:k=i;grind;rw[zv e,T i hi];congr 1;by_cases J:i∈(Jo L m).drop q;grind;grind;rw[I]at l;rcases Tz.1 l with rfl|l;omega;grind
  refine⟨⟨h1.size,0,Te⟩,⟨rfl,by omega,by grind⟩,⟨.inl rfl,P,?_⟩,?_⟩;rw[Tq];exact y.set (by omega) λg2 c _=>Q g2 c;rw[Tq];exact y.set (by omega) λg2 c _=>⟨.inl rfl,P,Q g2 c⟩;have G:0<q->(k:Int)<lf:=λh0=>by grind
  have z:=Od L m;have Y:(Jo L m).filter (λi:Nat=>decide ((i:Int)<bR L m))=(Jo L m).take q:=by
   rw[D];refine X9 z hq (λi hi ac=>?_) λi hi ac=>?_;have h0:0<q:=by omega
   have h1:=G h0;have e:k=(Jo L m)[q-1]'(by omega):=by rw[U,TM,Tv (by omega)];rfl
   rcases Up i (q-1)with h2|h2;have:=List.pairwise_iff_getElem.1 z i (q-1) hi (by omega) h2;omega;grind;exact(hp _ (by rw[List.mem_drop_iff_getElem];exact⟨i-q,by omega,by congr 1;omega⟩)).1
  have aa:kN L m=Ta:=KA O (by omega) (by omega) λr l ah=>by
   rw[D]at ah ⊢;have ax:r∉(Jo L m).take q:=λh=>by grind
   rw[<-UF q (Jo L m)]at l;grind
  refine⟨⟨h1.size,0,Te⟩,⟨rfl,by omega,by grind⟩,?_⟩;rw[Tq];refine y.set (by omega) λg2 c z2=>?_;intro g3;have k3:Keep g2.size g2 g3:=Keep.push _ _ (Tm _);have B3:Blk g3 g2.size [UB .i64 (m:Int)].toArray:=Blk.new _ _ _;have z3:g3.size=g2.size+1:=To _;clear_value g3;have aB:=c.k.size;have au:=c.out.lt;have al:=c.hb;have T3:CR g3 1 (((Jo L m).take q).map λi:Nat=>[UB .i64 (i:Int)]) ts' bt A:=c.top.frame λhx=>k3.get bt (by rcases c.top.ro.at_ with⟨e5,e6⟩|⟨_,e6,_⟩;grind;exact e6.lt);refine CR.app (E:=(m3:ElemT _ _ _ _ 1 8)) (by omega) T3 B3 rfl (by intro u hu;simp at hu;rw[hu];rfl) (by grind) λs' g4 b' c4 T4 z4 w4 l4 f4=>⟨s',rfl,⟨m+1,_,b',c4,by rw[wrap64 (by omega) (by omega)];omega,w,Hn O aa,⟨⟨by omega,λj hj=>?_⟩,?_,c.ln,?_,?_⟩,λi hi=>?_⟩,?_⟩;rw[f4 j (by omega) (by omega),k3.get j (by omega)];exact c.k.get j hj;refine c.out.keep ?_;rw[f4 h1.size (by omega) (by omega),k3.get _ (by omega)];rw[LN,Y,Ug];exact T4;omega;rw[List.getElem?_set];by_cases e:m=i;subst e;rw[zA rfl,zA (by rw[y.ln];exact w),ET];rw[zv e,T i (by omega),GK L m i (by omega),D];congr 1;have Z:i∈Jo L m↔iM L m i<0:=by rw[vd];rcases Zt L m i with⟨e7,_⟩|⟨p,e7,_⟩;omega;omega
  by_cases J:i∈(Jo L m).drop q;grind;rw[zv J,zv];rintro⟨h6,h7⟩;have h8:=Z.2 h6;rw[<-UF q (Jo L m)]at h8;grind;grind [yr,Tq];have ae:m=L.length:=by have:=zI f;omega
  subst ae;have l:zq t=Ta:=by unfold zq;simp only[TC,zG];exact⟨⟨by omega,by omega⟩,by simp_all⟩
  rw[l]at hR;have H:Keep h.size h g:=k1.trans S.k (by omega);have V:AgM M g:=ag.keep H;have ho:outs=nI t.2:=by rw[<-hL];apply Uf;intro i;by_cases hi:i<L.length;rw[hv i hi,Kk hi];rw[Un (by rw[S.ln];omega),Un (by rw[NI];omega)]
  refine⟨MxL M g [h1.size],(outs,Ta),MxL.later ag H (by simp_all),⟨[_,_],⟨_,_,rfl,(Qo rfl).2 ⟨_,rfl,Td ⟨h1.size,0,Te⟩,s2.len,?_,⟨?_,?_⟩,.inr ⟨h1.size,0,_,rfl,MxL.at (by simp) S.out,λi hi=>?_⟩⟩,_,rfl,rdBool _⟩,rfl⟩,by grind⟩;show VY _ _ _=VY _ _ _;rw[S.ln,hn];show outs.length<=_;rw[S.ln];omega;show outs.length<=_;rw[S.ln];omega;show cut (outs.map (UB .i64)).toArray (0+i*1) 1=[UB .i64 outs[i]];refine oM rfl λq hq=>?_;simp_all
end
end Go.X
end
section
namespace Go.X
open Go Go.ChangeMaps
section
variable {P:Program} {kt:TypeId}
def mF(l:List (Int×Value))(k:Int):Option Value:=match l with
 |[]=>Te
 |p::l=>if p.1=k then Td p.2 else mF l k
def lV(l:List (Int×Value))(k:Int)(v:Value):List (Int×Value):=match l with
 |[]=>[(k,v)]
 |p::l=>if p.1=k then(k,v)::l else p::lV l k v
def kK(l:List (Int×Value)):List (Value×Value):=l.map λp=>(UB .i64 p.1,p.2)
structure MapTI (P:Program) (t kt et:TypeId):Prop where
 map:P.underlying t=Td (.map kt et)
 key:P.underlying kt=Td (.int .i64)
theorem En(k:Int):∀(f:List MapEntry) (l:List (Int×Value)) (i:Nat),f.map (λe=>(e.key,e.val))=l.map (λp=>(UB .i64 p.1,p.2)) ->
  (mF l k=Te/\U3 (.int .i64) (.int .i64 k) f i=Td Te)\/(∃j v e,mF l k=Td v/\f[j]?=Td e/\e.key=.int .i64 k/\e.val=v/\U3 (.int .i64) (.int .i64 k) f i=Td (Td (i+j,v)) /\ ∀w,(f.modify j λe=>{ e with key:=.int .i64 k,val:=w }).map (λe=>(e.key,e.val))=(lV l k w).map λp=>(UB .i64 p.1,p.2))
 |[],l,i,h=>by
  have:l=[]:=by cases l <;> simp_all
  subst this;exact .inl ⟨rfl,rfl⟩
 |e::f,l,i,h=>by
  cases l with
  |nil=>simp at h
  |cons p l=>
   simp only[TV,U4,Uy]at h;obtain⟨⟨h1,m⟩,n⟩:=h;by_cases c:p.1=k;refine .inr ⟨0,p.2,e,by simp[mF,c],rfl,by rw[h1,c],m,?_,λw=>?_⟩;have b:(k==p.1)=Ta:=by simpa using c.symm
   simp[U3,VR,h1,m,b];simp[lV,c,n];have b:(k==p.1)=Tc:=by simpa using λe=>c e.symm
   rcases En k f l (i+1) n with⟨g1,g2⟩|⟨j,v,t,g1,g2,u,o,r,q⟩;refine .inl ⟨by simp[mF,c,g1],?_⟩;simp[U3,VR,h1,b,g2];refine .inr ⟨j+1,v,t,by simp[mF,c,g1],by simpa using g2,u,o,?_,λw=>?_⟩;simp[U3,VR,h1,b,r];omega;simp[lV,c,h1,m,q w]
theorem HH(c:P.underlying kt=Td (.int .i64))(b:Bool)(k:Int)(h:za):QExec P (Instr.checkKey b 10000 kt (.int .i64 k)) h ():=by intro B d;have e:=QExec.underlying (h:=h) c B d;unfold Instr.checkKey;simp_all
theorem Gp(c:P.underlying kt=Td (.int .i64))(k:Int)(b:List MapEntry)(r:Option (Nat×Value))(h:za)(e:U3 (.int .i64) (.int .i64 k) b 0=Td r):
  QExec P (Instr.findKey kt (.int .i64 k) b) h r:=by
 intro B d;have f:=QExec.underlying (h:=h) c B d;unfold Instr.findKey;simp_all
theorem Pz{l:List (Int×Value)}{k:Int}{v:Value}(g:mF l k=Te):lV l k v=l++[(k,v)]:=by
 induction l with
 |nil=>rfl
 |cons p l c=>simp only[mF]at g;split at g;cases g;rename_i b;simp[lV,b,c g]
theorem Kp{t kt et:TypeId}(T:MapTI P t kt et){h:za}{m:Nat}{l:List (Int×Value)}(H:MapW h m (kK l))(k:Int)(v:Value){K:za->Prop}
  (x:∀h':za,MapW h' m (kK (lV l k v))->h'.size=h.size->(∀i,i≠m->h'[i]?=h[i]?)->K h'):XRunU P (UN t (.map (Td m)) (.int .i64 k) v) h K:=by
 have f:=H.lt;obtain⟨b,c,h1,q,L,I⟩:=H;intro B d;have A:=QExec.underlying (h:=h) T.map B d;have w:=Zq (P:=P) h1 B d;have C:=HH T.key Tc k h B d;have n:∀o:Obj,(setObj m o).run P (mk B d h)=.ok () (mk B d (h.setIfInBounds m o)):=by intro o;have:(mk B d h).heap[m]?=Td (.map b c):=h1;simp[setObj,Sem.run,this];rfl
 unfold UN;rcases En k b.toList l 0 q with⟨g1,g2⟩|⟨j,N,e,g1,g2,G,J,F,D⟩;refine⟨d,h.setIfInBounds m (.map (b.push { key:=.int .i64 k,val:=v,born:=c }) (c+1)),?_,x _ ⟨b.push { key:=.int .i64 k,val:=v,born:=c },c+1,by simp[f],?_,?_,?_⟩ (by simp) (λi hi=>by grind)⟩;rw[Sem.run_bind,A];simp only[Result.andThen_ok,Sem.run_bind,w,C];rw[Gp T.key k b.toList Te h g2 B d];simp_all;rw[Pz g1];unfold kK at q ⊢;simp[q];grind;grind;have z:j<b.size:=by have:=(T5.1 g2).1;simpa using this
 have u:((b.modify j λe=>{ e with key:=.int .i64 k,val:=v }).toList.map (·.born))=b.toList.map (·.born):=by apply Uf;intro i;simp only[Array.toList_modify,Us,List.getElem?_modify];by_cases E:j=i;simp_all;simp_all
 refine⟨d,_,?_,x (h.setIfInBounds m (.map (b.modify j λe=>{ e with key:=.int .i64 k,val:=v }) c)) ⟨b.modify j λe=>{ e with key:=.int .i64 k,val:=v },c,by simp[f],?_,?_,?_⟩ (by simp) (λi hi=>by grind)⟩;rw[Sem.run_bind,A];simp only[Result.andThen_ok,Sem.run_bind,w,C];rw[Gp T.key k b.toList _ h F B d];simp only[Result.andThen_ok,TJ];have p:((b[j]?).map (·.key)).getD (.int .i64 k)=.int .i64 k:=by
  have:b[j]?=Td e:=by simpa using g2
  rw[this];exact G
 rw[p];have M:Vo (.int .i64 k) (.int .i64 k)=pure (.int .i64 k):=by unfold Vo;rw[zA (by show((IntKind.i64==IntKind.i64)&&(k==k))=Ta;simp)]
 simp_all;have:=D v;unfold kK;grind;intro y r;have:y.born∈((b.modify j λe=>{ e with key:=.int .i64 k,val:=v }).toList.map (·.born)):=Ub.2 ⟨y,r,rfl⟩;grind;simp_all
end
end Go.X
end
section
namespace Go.X
open Go Go.Lib
section
def Jh(L:List Int):List Nat:=(TZ L.length).filter λi=>(TZ L.length).all λj=>decide (j<=i)||decide (bR L j≠bR L i)
theorem CQ{L:List Int}{i:Nat}:i∈Jh L↔i<L.length/\∀j,i<j->j<L.length->bR L j≠bR L i:=by unfold Jh;rw[UI,Ui,T7];refine and_congr_right λ_=>⟨λh j h1 c=>?_,λh j b=>?_⟩;have:=h j (Ui.2 c);simp only[VC,zG]at this;rcases this with h|h;omega;exact h;simp only[VC,zG];by_cases e:j<=i;exact .inl e;exact .inr (h j (by omega) (Ui.1 b))
theorem Ec(L:List Int):(Jh L).Pairwise (· < ·):=by unfold Jh;exact List.Pairwise.sublist List.filter_sublist List.pairwise_lt_range
def kW(L:List Int)(m:Nat):List Nat->List Nat
 |[]=>[m]
 |p::P=>if bR L p=bR L m then m::P else p::kW L m P
def jI(L:List Int):Nat->List Nat
 |0=>[]
 |m+1=>kW L m (jI L m)
def mL(L:List Int)(i:Nat):Int×Value:=(bR L i,.int .i64 (i:Int))
theorem EL(L:List Int)(m:Nat):∀P:List Nat,lV (P.map (mL L)) (bR L m) (.int .i64 (m:Int))=(kW L m P).map (mL L)
 |[]=>rfl
 |p::P=>by rw[TV,lV,kW];by_cases h:bR L p=bR L m;rw[zA h,zA (show(mL L p).1=bR L m from h),TV];rfl;rw[zv h,zv (show¬(mL L p).1=bR L m from h),TV,EL L m P]
theorem yW{L:List Int}{m:Nat}:∀{P:List Nat},(P.map (bR L)).Nodup->∀i,i∈kW L m P↔i=m\/(i∈P/\bR L i≠bR L m)
 |[],_,i=>by simp[kW]
 |p::P,hn,i=>by rw[TV,Ut]at hn;rw[kW];by_cases h:bR L p=bR L m;rw[zA h,Tz,Tz];refine or_congr_right ⟨λhi=>⟨.inr hi,λe=>hn.1 ?_⟩,λhi=>?_⟩;rw[h,<-e];exact List.mem_map_of_mem hi;rcases hi.1 with rfl|b;exact absurd h hi.2;exact b;rw[zv h,Tz,Tz,yW hn.2 i];constructor;rintro(rfl|rfl|b);exact .inr ⟨.inl rfl,h⟩;exact .inl rfl;exact .inr ⟨.inr b.1,b.2⟩;rintro(rfl|⟨rfl|b,c⟩);exact .inr (.inl rfl);exact .inl rfl;exact .inr (.inr ⟨b,c⟩)
theorem FE{L:List Int}{m:Nat}:∀{P:List Nat},(P.map (bR L)).Nodup->((kW L m P).map (bR L)).Nodup
 |[],_=>by simp[kW]
 |p::P,hn=>by have i:=hn;rw[TV,Ut]at hn;rw[kW];by_cases h:bR L p=bR L m;rw[zA h,TV,Ut,<-h];exact hn;rw[zv h,TV,Ut];refine⟨λb=>?_,FE hn.2⟩;obtain⟨q,c,e⟩:=Ub.1 b;rcases(yW hn.2 q).1 c with rfl|⟨f,_⟩;exact h e.symm;exact hn.1 (e ▸ List.mem_map_of_mem f)
theorem wF(L:List Int):∀m,((jI L m).map (bR L)).Nodup/\∀i,i∈jI L m↔i<m/\∀j,i<j->j<m->bR L j≠bR L i
 |0=>⟨Vk,λi=>by simp[jI]⟩
 |m+1=>by
  obtain⟨h1,k⟩:=wF L m;refine⟨FE h1,λi=>?_⟩;rw[jI,yW h1,k];constructor;rintro(rfl|⟨⟨a,b⟩,c⟩);exact⟨by omega,λj _ _=>by omega⟩;refine⟨by omega,λj h l=>?_⟩;rcases Up j m with f|f;exact b j h f;rw[show j=m from by omega];exact λe=>c e.symm
  rintro⟨a,b⟩;rcases Up i m with f|f;exact .inr ⟨⟨f,λj h l=>b j h (by omega)⟩,λe=>b m f (by omega) e.symm⟩;exact .inl (by omega)
theorem Cn{α β:Type}{f:α->β}{l:List α}(h:(l.map f).Nodup):l.Nodup:=by
 induction l with
 |nil=>exact Vk
 |cons x l c=>rw[TV,Ut]at h;exact Ut.2 ⟨λb=>h.1 (List.mem_map_of_mem b),c h.2⟩
theorem IB(L:List Int):(jI L L.length).Perm (Jh L):=by obtain⟨h1,b⟩:=wF L L.length;refine(List.perm_ext_iff_of_nodup (Cn h1) ((Ec L).imp λh=>Nat.ne_of_lt h)).2 λi=>?_;rw[b,CQ]
end
section
variable {n:Nat}
def OkX(n:Nat)(X:List (Bt×Int)):Prop:=∀j (h:j<X.length),(n:Int)<=X[j].2/\X[j].2<=((n+j:Nat):Int)/\∀i (hi:i<X.length),i<j->X[j].2<=((n+i:Nat):Int)->X[j].2<=X[i].2
theorem OkX.nil(n:Nat):OkX n []:=λj h=>absurd h (UZ j)
theorem OkX.app{X Y:List (Bt×Int)}(k:OkX n X)(l:OkX (n+X.length) Y):OkX n (X++Y):=by intro j h;rw[Ts]at h;by_cases h1:j<X.length;rw[UR h1];obtain⟨a,b,c⟩:=k j h1;refine⟨a,b,λi hi e f=>?_⟩;rw[UR (by omega)];exact c i (by omega) e f;rw[Vf (by omega)];obtain⟨a,b,c⟩:=l (j-X.length) (by omega);refine⟨by omega,by omega,λi hi e f=>?_⟩;by_cases m:i<X.length;omega;rw[Vf (by omega)];exact c (i-X.length) (by omega) (by omega) (by omega)
theorem OkX.root{X:List (Bt×Int)}(h:OkX n X)(s:Bt):OkX n (X++[(s,(n:Int))]):=by
 intro j k;rw[Ts,UG]at k;by_cases h1:j<X.length;rw[UR h1];obtain⟨a,b,c⟩:=h j h1;refine⟨a,b,λi hi e f=>?_⟩;rw[UR (by omega)];exact c i (by omega) e f;have:j=X.length:=by omega
 subst this;rw[Vf (Tm _)];refine⟨by simp,by simp;omega,λi hi e f=>?_⟩;rw[UR (by omega)];have:=(h i (by omega)).1;simp;exact this
mutual
theorem uq:∀(v:Tr) (n:Nat),OkX n (hH v n)
 |.mk k s ks xs,n=>by rw[hH];refine OkX.root ?_ _;split;exact Ae xs ks n;split;exact Dl xs n;exact OkX.nil n
theorem Dl:∀(l:List Tr) (n:Nat),OkX n (ig l n)
 |[],n=>by rw[ig];exact OkX.nil n
 |x::l,n=>by rw[ig];exact(uq x n).app (Dl l _)
theorem Ae:∀(l:List Tr) (ks:List Bt) (n:Nat),OkX n (Xj l ks n)
 |[],_,n=>by rw[Xj];exact OkX.nil n
 |x::l,ks,n=>by rw[Xj];have h1:=(uq x n).root (mW ks.head!);have b:=h1.app (Y:=Xj l ks.tail (n+(hH x n).length+1)) (by rw[Ts,UG,<-Nat.add_assoc];exact Ae l _ _);rw[TR]at b;exact b
end
def qE(X:List (Bt×Int)):List Bt×List Int:=(X.map (·.1),X.map (·.2))
theorem Mv{w:Tr}(h:mT w<=512):zq (qE (hH w 0))=Ta:=by
 have l:=qU w 0;unfold zq qE;simp only[TC,zG,Tx];refine⟨⟨by simp,by omega⟩,Xk.2 λj f=>Jg.2 ?_⟩;have e:∀i (hi:i<(hH w 0).length),bR ((hH w 0).map (·.2)) i=(hH w 0)[i].2:=λi hi=>by unfold bR;rw[TM,Us,Tv hi];rfl
 obtain⟨a,b,c⟩:=uq w 0 j f;rw[e j f];refine⟨by omega,by omega,λi hi k=>?_⟩;rw[e i (by omega)];exact c i (by omega) hi (by omega)
end
end Go.X
end
section
namespace Go.X
open Go Go.X Go.Proofs Go.RowKit
section
variable {g:za} {b:Nat} {v:Tr}
theorem H6:qm Tp 31=Ta:=by kernel_rfl
theorem QC:y8 Tp 31=2:=by kernel_rfl
theorem Lp{x y:Value}(B:Blk g b #[x,y]){s1 s2:Sl}{K:za->Prop}(f:∀g',(∀j,j≠b->g'[j]?=g[j]?)->g'.size=g.size->Blk g' b #[aK s1,aK s2]->K g'):
  XRunU Tp (Tt 31 (.pointer (Td ⟨b,0,Te⟩)) (.agg #[aK s1,aK s2])) g K:=by
 refine X4 (vs:=[aK s1,aK s2]) H6 B rfl QC (Tm _) (λu c=>?_) λg' e i h=>f g' h i e;simp at c;rcases c with rfl|rfl <;> rfl
theorem Later.stay{h g g':za}{M M':Fr}(L:Later h M g M')(l:h.size<=b)(k:M' b=Te)(f:∀j,j≠b->g'[j]?=g[j]?)(z:g'.size=g.size):Later h M g' M':= ⟨⟨by have:=L.keep.size;omega,λj i=>by rw[f j (by omega)];exact L.keep.get j i⟩,L.le,L.old,λc cs e=>by rw[f c (λh=>by subst h;rw[k]at e;cases e)];exact L.ag c cs e⟩
def Zi(v:Tr):(List Bt×List Int)×Int:=if zm v=Ta then(if 512<mT (zk v)then(([],[]),6)else(qE (hH (zk v) 0),0))else(([],[]),1)
theorem Sq(h:zm v=Ta):xj v=zk v:=by unfold xj;rw[zA (Bi h)]
set_option maxRecDepth 100000 in
set_option maxHeartbeats 1000000 in
theorem Ni{gl:Fr}(V:GL gl)(hb:Brn gl)(hv:Sm v){R:(List Bt×List Int)×Int->Prop}(C:R (Zi v)):PC Tp gl 14 [Arg.mk .tree v] [.pair (.row .str) (.row (.int .i64)),.int .i64] R:=by
 intro h M vs hM ag ha
 match vs,ha with
 |[u],⟨P,_⟩=>
  have P:RdV M .tree v u:=P;have H:=P;obtain⟨sk,si,rfl,rk,ri⟩:=qe P;apply PX.of;apply Kb v.kind v.text sk si;intro h1;have k1:Keep h.size h h1:=Keep.push _ _ (Tm _);have z1:h1.size=h.size+1:=To _;have B1:Blk h1 h.size #[.int .i64 v.kind,.string v.text,aK sk,aK si]:=Blk.new _ _ _;clear_value h1;intro x;have k2:Keep h1.size h1 x:=Keep.push _ _ (Tm _);have z2:x.size=h1.size+1:=To _;have R2:Blk x h1.size #[.slice Te 0 0,.slice Te 0 0]:=Blk.new _ _ _;clear_value x;have B2:=B1.ofKeep k2;have Z:Keep h.size h x:=k1.trans k2 (by omega);have L2:Later h M x M:=Later.same ag Z;have done:∀(g:za) (M':Fr) (t:List Bt×List Int) (e:Int) (s1 s2:Sl),Later x M g M'->Rd M' (.row .str) t.1 [aK s1]->Rd M' (.row (.int .i64)) t.2 [aK s2]->R (t,e) ->
    XRunU Tp (Tt 31 (.pointer (Td ⟨h1.size,0,Te⟩)) (.agg #[aK s1,aK s2])) g λg'=>∃Q S:Sl,zc g' ⟨h1.size,0,Te⟩ 0 [aK Q,aK S]/\∃M2 q,Later h M g' M2/\Yg M2 [.pair (.row .str) (.row (.int .i64)),.int .i64] q (.tuple #[.agg #[aK Q,aK S],.int .i64 e])/\R q:=by
   intro g M' t e s1 s2 L Q S O;have nR:M' h1.size=Te:=by rw[L.old _ (by omega)];exact ag.none (by omega)
   refine Lp (R2.keep (L.keep.get _ (by omega))) λg' f z B=>⟨s1,s2,B.ld (cs:=[aK s1,aK s2]),M',(t,e),Later.stay (L2.trans L) (by omega) nR f z,⟨[_,_],⟨_,_,rfl,Wv Q S,_,rfl,Qv _ _⟩,rfl⟩,O⟩
  refine⟨v.kind,v.text,sk,si,B2.ld (cs:=[_,_,aK sk,aK si]),?_⟩;refine(Yn V hv (R:=λr=>r=zm v) rfl).go (vs:=[.agg #[.int .i64 v.kind,.string v.text,aK sk,aK si]]) hM L2.ag (zh H zy) λw A M8 r I p O=>?_;subst O;refine⟨_,Jk p,λy=>?_,λy=>?_⟩
  ·have y:zm v=Tc:=by simpa using y
   unfold Zi at C;rw[zv (by rw[y];simp)]at C;exact done A M8 ([],[]) 1 ⟨Te,0,0⟩ ⟨Te,0,0⟩ I kf kf C
  have y:zm v=Ta:=by simpa using y
  unfold Zi at C;rw[zA y]at C;have z8:=I.keep.size;intro m;have aa:Keep A.size A m:=Keep.push _ _ (Tm _);have ac:m.size=A.size+1:=To _;have U:Blk m A.size #[.slice Te 0 0,.slice Te 0 0]:=Blk.new _ _ _;clear_value m;have l:Later x M m M8:=I.trans (Later.same I.ag aa);refine⟨v.kind,v.text,sk,si,(B2.keep (l.keep.get _ (by omega))).ld (cs:=[_,_,aK sk,aK si]),?_⟩;refine(KL V hv (R:=λr=>r=xj v) rfl).go (vs:=[.agg #[.int .i64 v.kind,.string v.text,aK sk,aK si]]) (hM.trans l.le) l.ag (zh (H.mono l.le) zy) λw J D r i p O=>?_;subst O;have G:=Qf.1 p;obtain⟨xk,xi,rfl,y1,y2⟩:=qe G;refine⟨_,_,xk,xi,rfl,?_⟩;have hs:=Sq y;have ab:zm (xj v)=Ta:=by rw[Iw];exact y
  obtain⟨q1,q2,q3,q4⟩:=Qc ab;have ae:=i.keep.size;have nB:D A.size=Te:=by rw[i.old _ (by omega)];exact I.ag.none (by omega)
  have HB:Tb A.size J D A.size [] []:=⟨⟨Te,0,0⟩,⟨Te,0,0⟩,[],[],rfl,U.keep (i.keep.get _ (by omega)),ORow.nil,ORow.nil,λc b=>(by cases b),λb=>(by cases b),λb=>(by cases b),nB,Tm _⟩;refine XC.mono (GD V hb (cK (xj v)) (xj v) (by omega) (Tm _) q3 (SJ hv) J D A.size [] [] _ i.ag (hM.trans (l.le.trans i.le)) HB (by omega) (TK _) G) ?_;rintro w h25 ⟨rfl,E,bs,T,s1,s2,b1,b2,rfl,B⟩;rw[UO,Uu,hs]at B;have af:=T.grow;have N:Later x M h25 E:=by have hk:=l.keep;refine⟨⟨by omega,λj hj=>?_⟩,l.le.trans (i.le.trans T.le),λc b=>?_,T.ag⟩;rw[T.fr j (by omega) (by omega) (by simp),i.keep.get j (by omega)];exact hk.get j hj;rw[T.old c (by omega),i.old c (by omega)];exact l.old c b
  have n:=B.r1.len;rw[Tx]at n;have ah:=qU (zk v) 0;refine⟨rfl,s1,by rw[add0];exact B.box.cellAdd (o:=0) (k:=0) rfl,λb=>?_,λb=>?_⟩
  ·have b:=zH b;have:512<mT (zk v):=by unfold ic at n;rw[UD]at n;omega
   rw[zA this]at C;exact done h25 E ([],[]) 6 ⟨Te,0,0⟩ ⟨Te,0,0⟩ N kf kf C
  ·have b:=zI b;have:¬512<mT (zk v):=by unfold ic at n;rw[UD]at n;omega
   rw[zv this]at C;have F:=nY (X:=hH (zk v) 0) (by omega);rw[F]at B;refine⟨s1,s2,by rw[add0];exact B.box.ld (cs:=[aK s1,aK s2]),?_⟩;have own:∀c∈b1++b2,x.size<=c:=λc b=>by rcases TE.1 b with h|h;have:=(B.r1.own c h).1;omega;have:=(B.r2.own c h).1;omega
   have Y:Later x M h25 (MxL E h25 (b1++b2)):=Later.own N own;exact done h25 _ (qE (hH (zk v) 0)) 0 s1 s2 Y (B.r1.rd T.ag (λc b=>TF _ b) (by rw[Tx];omega)) (B.r2.rd T.ag (λc b=>TU _ b) (by rw[Tx];omega)) C
end
section
variable {y:Bool} {a b:Int}
theorem Nl(a b:Bt):(a.toList==b.toList)=decide (a=b):=by rw[jo,jo,T8,beq_iff_eq,zG,qD]
theorem IU{x y:Bool}:(bif x then Ta else y)=Ta↔x=Ta\/y=Ta:=by simp
theorem Mf{x y:Bool}:(bif x then Ta else y)=Tc↔x=Tc/\y=Tc:=by simp
theorem KI{x y:Bool}:(bif x then y else Tc)=Ta↔x=Ta/\y=Ta:=by simp
theorem IC{x y:Bool}:(bif x then y else Tc)=Tc↔x=Tc\/y=Tc:=by grind
theorem mw(h:decide (a<b)=Ta):a<b:=zH h
theorem l9(h:decide (a<b)=Tc):¬a<b:=zI h
theorem yx{t:List Bt×List Int}(h:zq t=Ta):t.1.length=t.2.length/\t.2.length<=512/\km t.2 t.2.length=Ta:=by unfold zq at h;grind
abbrev jp:Ty:=.pair (.row .str) (.row (.int .i64))
theorem uf{gl:Fr}{t:List Bt×List Int}{R:Bool->Prop}(b:R (zq t)):PC Tp gl 21 [Arg.mk (.pair (.row .str) (.row (.int .i64))) t] [.bool] R:=by apply Ou;refine NU (t:=t) (R:=λr=>R r.2) ?_;grind
end
end Go.X
end
section
namespace Go.X
open Go Go.Proofs Go.Shelf Go.RowKit
section
def Nt:Go.Shelf.Ren:=⟨fun|189=>64|125=>114|257=>113|128=>177|129=>178|294=>168|295=>169|296=>170|297=>171|298=>172|299=>173|216=>174|300=>175|301=>176|328=>235|329=>236|330=>237|331=>238|332=>239|215=>240|343=>294|n=>n,fun|28=>29|3=>3|46=>123|0=>0|51=>176|53=>178|4=>4|183=>168|182=>167|131=>173|5=>5|9=>9|218=>245|222=>249|228=>299|229=>300|n=>n,fun|n=>n⟩
theorem ED:Go.Proofs.Lays.n189 Tp Nt:=by constructor <;> intros <;> kernel_rfl
open Go.Sort Go.RowKit in
theorem NJ(blk off cap:Nat)(c:List Int)(w:World)(h:Holds (UB .i64) w blk off c.toArray)(b:blk<w.heap.size)(f:c.length<4611686018427387904):
  Calls Tp 64 #[.slice (Td ⟨blk,off,Te⟩) c.length cap] w λe w'=>
   e=.returned (.tuple #[])/\∃n os,w'=grow (putRow (UB .i64) (Sort.ahead w n) blk off (c.mergeSort λx y=>decide (x<=y)).toArray) os:=Any.slices_Sort_int ED blk off cap c w h b f
open Go.RowKit Go.Sort in
theorem Jx(p:Option Addr)(cap:Nat)(w:World): Calls Tp 64 #[.slice p 0 cap] w λe w'=>e=.returned (.tuple #[])/\w'=w:=Any.slices_Sort_int_none ED p cap w
end
end Go.X
end
section
namespace Go.X
open Go Go.Lib
section
def oQ(b:List Bt)(i:Nat):Bt:=b.getD i ⟨#[]⟩
end
section
theorem EG{α:Type}[DecidableEq α]:∀{xs ys:List α},xs.Nodup->(∀x∈xs,x∈ys)->xs.length<=ys.length
 |[],ys,_,_=>TK _
 |x::xs,ys,hn,h=>by
  rw[Ut]at hn;have f:=h x TQ;have:=EG (ys:=ys.erase x) hn.2 λy c=>by have b:y≠x:=λe=>hn.1 (e ▸ c);exact(List.mem_erase_of_ne b).2 (h y (TS _ c))
  have i:=List.length_pos_of_mem f;rw[List.length_erase_of_mem f]at this;rw[TI];omega
end
end Go.X
end
section
namespace Go.X
open Go Go.X Go.Proofs Go.RowKit Go.Sort Go.Shelf
section
variable {h:za}
theorem NZ{x:Int}{K:Value->za->Prop}:yQ Tp 29 1 (.int .i64 x) h K=K (.slice (Td ⟨h.size,0,Te⟩) 1 1) (h.push (.cells #[.int .i64 x] 3)):=by kernel_rfl
theorem mapII:MapTI Tp 79 3 3:=⟨by kernel_rfl,by kernel_rfl⟩
theorem yK{base:Nat}{s:Sl}{xs:List Int}(H:Owns h base 3 1 s (xs.map (UB .i64))):s.len=xs.length:=by have:=H.length;simp at this;omega
theorem Si{base:Nat}{s:Sl}{xs:List Int}(H:Owns h base 3 1 s (xs.map (UB .i64)))(q:xs.length<=1000000):
  XC Tp 64 #[.slice s.a s.len s.cap] h λv h'=>v=.tuple #[]/\Owns h' base 3 1 s ((xs.mergeSort λx y=>decide (x<=y)).map (UB .i64))/\h.size<=h'.size/\∀i,i<h.size->(∀p,s.a=Td p->i≠p.block)->h'[i]?=h[i]?:=by
 refine XC.of_below λB d=>?_;have f:s.len=xs.length:=yK H;rcases H.2 with⟨m,h0⟩|⟨g,cap,k,m,l,C,A,G,z,D⟩;have F:xs=[]:=TT (by omega);subst F;rw[h0];refine(Jx s.a s.cap (mk B d h)).mono ?_;rintro e w' ⟨rfl,rfl⟩;exact⟨_,rfl,rfl,rfl,rfl,rfl,by rw[List.mergeSort_nil];exact H,Tm _,λ_ _ _=>rfl⟩;simp only[Ua]at m;obtain⟨t,_,rfl⟩:=m;have c:(mk B d h).heap[g]?=Td (.cells k 3 (0,0)):=C;have o:g<(mk B d h).heap.size:=(TD.1 c).1;have E:Holds (UB .i64) (mk B d h) g 0 xs.toArray:=holds_of_blockI c (by rw[<-f];simpa using D);have u:=NJ g 0 s.cap xs (mk B d h) E o (by omega);rw[<-f]at u;rw[t];refine u.mono ?_;rintro e w' ⟨rfl,n,os,rfl⟩;have b:=grownBy_sortedI (w:=mk B d h) (g:=g) (n:=n) (os:=os) (xs.mergeSort λx y=>decide (x<=y)).toArray;refine⟨_,rfl,b.os,b.tape,b.output,rfl,?_,b.size,λi hi j=>b.block i hi λe=>j _ rfl (by simpa using e)⟩;have r:=ownsRow_sortedI (w:=mk B d h) (base:=base) (n:=n) (os:=os) (ss:=xs) (ts:=xs.mergeSort λx y=>decide (x<=y)) (by simp) l c (by rw[<-f];exact A) G (by simpa using z);rw[<-f]at r;show World.ownsRow _ base _ 1 (.slice s.a s.len s.cap) s.len _;rw[t];exact r
theorem Owns.frzI{h g:za}{M M':Fr}(L:Later h M g M'){s:Sl}{ks:List Int}{base:Nat}(o:Owns g base 3 1 s (ks.map (UB .i64)))(A:h.size<=base)(C:ks.length<=1000000):
  ∃l,Later h M g l/\Rd l (.row (.int .i64)) ks [aK s]:=by
 have p:=yK o;rcases o.2 with⟨j,h0⟩|⟨b,cap,f,j,n,r,z,B,y,u⟩;have t:ks=[]:=TT (by omega);subst t;simp only[Ua]at j;refine⟨M',L,⟨_,rfl,s.a,s.cap,?_,⟨by simp,by simp⟩,.inl rfl⟩⟩;show aK s=_;unfold aK;rw[h0];rfl;simp only[Ua]at j;obtain⟨w,_,m⟩:=j;have x:Blk g b f:=⟨_,r⟩;refine⟨MxL M' g [b],Later.own L (λc m=>by rw[TP.1 m];omega),⟨_,rfl,s.a,s.cap,?_,⟨by omega,by omega⟩,.inr ⟨b,0,f,w,MxL.at (by simp) x,λi hi=>?_⟩⟩⟩;show aK s=_;unfold aK;rw[p];show cut f (0+i*1) 1=[.int .i64 ks[i]];refine oM rfl λq D=>?_
 have k:q=0:=by omega
 subst k;have e:(f.toList.take (s.len*1))[i]?=(ks.map (UB .i64))[i]?:=by rw[u]
 rw[Ud,zA (by omega)]at e;rw[show 0+i*1+0=i from by omega,e];simp[hi]
theorem QV{L:List Int}{xs:List Nat}(h:xs.Perm (Jh L)):((xs.map λi:Nat=>(i:Int)).mergeSort λx y=>decide (x<=y))=(Jh L).map λi:Nat=>(i:Int):=by refine List.Perm.eq_of_pairwise (le:=λa b:Int=>decide (a<=b)=Ta) (λa b _ _ h1 e=>?_) (List.pairwise_mergeSort (λa b c h1 e=>?_) (λa b=>?_) _) (List.pairwise_map.2 ((Ec L).imp λh=>zJ (by omega))) ((List.mergeSort_perm _ _).trans (h.map _));have:=zH h1;have:=zH e;omega;have:=zH h1;have:=zH e;exact zJ (by omega);rw[VC,zG,zG];omega
set_option maxRecDepth 100000 in
set_option maxHeartbeats 2000000 in
theorem Bq{gl:Fr}{t:List Bt×List Int}{R:List Int->Prop}(hR:R (if zq t=Ta then(Jh t.2).map (λi:Nat=>(i:Int))else [])):PC Tp gl 28 [Arg.mk (.pair (.row .str) (.row (.int .i64))) t] [.row (.int .i64)] R:=by
 intro h M vs hM ag ha
 match vs,ha with
 |[u],⟨hu,_⟩=>
  obtain⟨s1,s2,rfl,r1,r2⟩:=pv (show RdV M (.pair (.row .str) (.row (.int .i64))) t u from hu);apply PX.of;obtain⟨l2,_,_⟩:=rowLen r2;apply Lv s1 s2;intro h1;have L1:Later h M h1 M:=Later.push ag _;have z1:h1.size=h.size+1:=To _;have B1:Blk h1 h.size #[aK s1,aK s2]:=Blk.new _ _ _;clear_value h1;refine⟨s1,s2,B1.ld (cs:=[aK s1,aK s2]),?_⟩;refine(uf (gl:=gl) (t:=t) (R:=λr=>r=zq t) rfl).go (vs:=[.agg #[aK s1,aK s2]]) hM L1.ag (zh (a:=Arg.mk (.pair (.row .str) (.row (.int .i64))) t) (Wv r1 r2) zy) λw l P r Q Z hr=>?_;subst hr;have E:=L1.trans Q;have z5:=Q.keep.size;refine⟨_,Jk Z,λc=>?_,λc=>?_⟩;have c:zq t=Tc:=by simpa using c
  rw[c]at hR;exact⟨P,[],E,Qf.2 ((Qo rfl).2 (kf (T:=.int .i64))),hR⟩;have c:zq t=Ta:=by simpa using c
  rw[c,zA rfl]at hR;obtain⟨q1,q2,q3⟩:=yx c;obtain⟨L,hL⟩:∃L,L=t.2:=⟨_,rfl⟩;rw[<-hL]at hR q2 q3 r2 l2;intro G;have k7:Keep l.size l G:=Keep.push _ _ (Tm _);have z7:G.size=l.size+1:=To _;have W7:MapW G l.size []:=MapW.new _;clear_value G;have B7:Blk G h.size #[aK s1,aK s2]:=(B1.keep (Q.keep.get _ (by omega))).ofKeep k7;refine⟨s2,B7.cellAdd (o:=0) (k:=1) rfl,λi g=>∃m:Nat,i=(m:Int)/\m<=L.length/\g.size=G.size/\(∀j,j≠l.size->g[j]?=G[j]?)/\MapW g l.size (kK ((jI L m).map (mL L))),λi _=>L.length-i.toNat,⟨0,rfl,TK _,rfl,λ_ _=>rfl,W7⟩,?_⟩;rintro i g ⟨m,rfl,hm,zg,fg,W⟩;have kg:Keep l.size l g:=⟨by omega,λj B=>by rw[fg j (by omega)];exact k7.get j B⟩;have Lg:Later l P g P:=Later.same Q.ag kg;refine⟨λD=>?_,λD=>?_⟩;have y:m<L.length:=by have:=mw D;omega
  obtain⟨b,o,e1,e2⟩:=rP Lg.ag (r2.mono E.le) (k:=m) y;have V:L[m]=bR L m:=by unfold bR;rw[TM,Tv y];rfl
  rw[V]at e2;refine⟨⟨b,o,Te⟩,⟨e1,by omega,by omega⟩,bR L m,by rw[Wh,Tq];exact e2,?_⟩;refine Kp mapII W (bR L m) (.int .i64 (m:Int)) λg' W' z' f'=>⟨⟨m+1,by rw[yr y (by omega)],y,by omega,λj B=>(f' j B).trans (fg j B),?_⟩,by rw[yr y (by omega)];simp only[Tq];omega⟩;rw[EL]at W';exact W';have ac:m=L.length:=by have:=l9 D;omega
  subst ac;obtain⟨ab,z⟩:=wF L L.length;have C:((kK ((jI L L.length).map (mL L))).map (·.1))=((jI L L.length).map (bR L)).map (UB .i64):=by unfold kK;rw[T9,T9,T9];rfl
  have af:((kK ((jI L L.length).map (mL L))).map (·.1)).Nodup:=by rw[C];exact List.Pairwise.map _ (λa b ai e=>ai (by injection e)) ab
  refine wc mapII.map W λae ar ak U=>⟨Td ⟨g.size,0,Te⟩,rfl,?_⟩;have al:Keep l.size l ae:=kg.trans ak (by omega);refine⟨λout g2=>∃xs:List Nat,xs.Nodup/\(∀x∈xs,x∈jI L L.length)/\MapIt g2 g.size l.size (kK ((jI L L.length).map (mL L))) (xs.reverse.map λi=>UB .i64 (bR L i))/\Owns g2 (g.size+1) 3 1 out ((xs.map λi:Nat=>(i:Int)).map (UB .i64))/\g.size+1<=g2.size/\Keep l.size l g2,λ_ g2=>leftN g2 g.size l.size,⟨[],Vk,λx c=>(by cases c),U,Owns.nil _ _ _ _,by omega,al⟩,?_⟩;rintro out g2 ⟨xs,I,A,it,o,au,S⟩;have an:xs.length<=L.length:=by have:=EG (xs:=xs) (ys:=TZ L.length) I λx c=>Ui.2 ((z x).1 (A x c)).1;rwa[List.length_range]at this
  refine vh it af (by omega) (λO=>.inl ⟨rfl,(λD=>(by cases D)),λ_=>?_⟩) λk v H hk q am Y z3 f3 aa=>.inr ⟨k,v,rfl,λ_=>vn Y ⟨k,v,rfl,?_⟩,λD=>(by cases D)⟩;have f:xs.Perm (Jh L):=by refine((List.perm_ext_iff_of_nodup I (Cn ab)).2 λp=>⟨A p,λf=>?_⟩).trans (IB L);have aj:=O (.int .i64 (bR L p),.int .i64 (p:Int)) (by unfold kK;rw[T9];exact Ub.2 ⟨p,f,rfl⟩);obtain⟨x,c,e⟩:=Ub.1 aj;injection e with _ e;have c:=List.mem_reverse.1 c;obtain⟨a1,a2⟩:=(z x).1 (A x c);obtain⟨b1,b2⟩:=(z p).1 f;rcases Nat.lt_trichotomy x p with h|h|h;exact absurd e.symm (a2 p h b1);rw[<-h];exact c;exact absurd e (b2 x h a1)
  refine XC.mono (Si o (by rw[Tx];omega)) ?_;rintro v g4 ⟨rfl,o4,z4,f4⟩;rw[QV f]at o4;have Lf:Later l P g4 P:=Later.same Q.ag ⟨by have:=S.size;omega,λj B=>by rw[f4 j (by have:=S.size;omega) λp f=>by have:=o.base_le p f;omega];exact S.get j B⟩;obtain⟨M6,L6,rd⟩:=Owns.frzI Lf o4 (by omega) (by rw[Tx,f.symm.length_eq];omega);exact⟨rfl,M6,_,E.trans L6,Qf.2 ((Qo rfl).2 rd),hR⟩;obtain⟨i,hi,rfl,rfl⟩:∃i,i∈jI L L.length/\k=.int .i64 (bR L i)/\v=.int .i64 (i:Int):=by unfold kK at H;rw[T9]at H;obtain⟨i,hi,e⟩:=Ub.1 H;injection e with e1 e2;exact⟨i,hi,e1.symm,e2.symm⟩
  have ah:i∉xs:=λhm=>hk (Ub.2 ⟨i,List.mem_reverse.2 hm,rfl⟩);rw[NZ];have F:Keep q.size q (q.push (.cells #[.int .i64 (i:Int)] 3)):=Keep.push _ _ (Tm _);have z8:(q.push (.cells #[.int .i64 (i:Int)] 3)).size=q.size+1:=To _;have V8:Blk (q.push (.cells #[.int .i64 (i:Int)] 3)) q.size #[.int .i64 (i:Int)]:=Blk.new _ _ _;generalize (q.push (.cells #[.int .i64 (i:Int)] 3))=h8 at F z8 V8 ⊢;have o3:Owns q (g.size+1) 3 1 out ((xs.map λi:Nat=>(i:Int)).map (UB .i64)):=o.keep λp f=>f3 _ (by have:=o.base_le p f;omega);have J:=o3.keepN F;have hl:=yK o;rw[Tx]at hl;refine xb (m3:ElemT _ _ _ _ 1 8) J (src:=⟨Td ⟨q.size,0,Te⟩,1,1⟩) (news:=[.int .i64 (i:Int)]) (n:=h8.size) ?_ rfl (by simp[Value.oneCell']) (by simp only;omega) (by simp only;omega) (by omega) λs' h4 p1 p2 N p4 p5=>⟨s',rfl,⟨xs++[i],?_,?_,?_,?_,by omega,?_⟩,?_⟩;refine .inr ⟨q.size,0,rfl,by omega,λi v V=>?_⟩
  match i,V with
  |0,V=>cases V;exact V8.cell rfl
  rw[Vd];exact⟨I,by simp,λa ha b hb e=>by rw[TP]at hb;subst hb;subst e;exact ah ha⟩;intro x c;rcases TE.1 c with h|h;exact A x h;rw[TP.1 h];exact hi;rw[List.reverse_append];refine am.keep ?_ ?_;rw[N _ (by omega) λp f=>by have:=J.base_le p f;omega];exact F.get _ (by omega);rw[N _ (by omega) λp f=>by have:=J.base_le p f;omega];exact F.get _ (by omega);rw[Ug,Ug];exact p2;refine⟨by have:=S.size;omega,λj B=>?_⟩;rw[N j (by omega) λp f=>by have:=J.base_le p f;omega,F.get j (by omega),f3 j (by omega)];exact S.get j B;show leftN h4 g.size l.size<leftN g2 g.size l.size;rw[leftN.keep (h:=q) ?_ ?_];exact aa;rw[N _ (by omega) λp f=>by have:=J.base_le p f;omega];exact F.get _ (by omega);rw[N _ (by omega) λp f=>by have:=J.base_le p f;omega];exact F.get _ (by omega)
end
end Go.X
end
section
namespace Go.X
open Go Go.X Go.Proofs Go.Lib
section
variable {gl:Fr}
theorem EH:zj Tp 84=Ta:=by kernel_rfl
theorem Du(a b:Bt):(a.toList==b.toList)=decide (a=b):=by rw[T8];simp only[ByteArray.toList_eq,beq_iff_eq,zG];constructor;intro h;cases a;cases b;simpa using h;intro h;rw[h]
theorem Ft{v:Tr}(h:zo v=Ta)(b:v.kind=6):v.keys.Nodup/\v.keys.length=v.items.length:=by refine⟨?_,Ep h b⟩;unfold zo at h;simp[b]at h;have:=h.1.1;unfold j8 at this;rw[TC]at this;simpa using this.2
set_option maxHeartbeats 1000000 in
theorem Nw:∀(n:Nat) (a b:Tr),cK a<=n->Sm a->Sm b->Qp zo a=Ta->Qp zo b=Ta->∀{R:Bool->Prop},R (Za a b)->PC Tp gl 84 [Arg.mk .tree a,Arg.mk .tree b] [.bool] R:=by
 intro n;induction n with
 |zero=>intro a _ h;have:=Qx a;omega
 |succ n ih=>
  intro a b hn O J P ob R C h M vs hM ag t
  match vs,t with
  |[u1,u2],⟨u,o,_⟩=>
  have u:RdV M .tree a u1:=u;have o:RdV M .tree b u2:=o;obtain⟨sk,si,rfl,rk,ri⟩:=qe u;obtain⟨tk,E,rfl,V,p⟩:=qe o;obtain⟨li,_,_⟩:=rowLen ri;obtain⟨I,_,_⟩:=rowLen p;apply PX.of;apply RB a.kind a.text sk si b.kind b.text tk E;intro h1 l;have k1:Keep h.size h h1:=Keep.push _ _ (Tm _);have k2:Keep h1.size h1 l:=Keep.push _ _ (Tm _);have b1:Blk h1 h.size (ze a.kind a.text sk si).toArray:=Blk.new _ _ _;have b2:Blk l h1.size (ze b.kind b.text tk E).toArray:=Blk.new _ _ _;have z1:h1.size=h.size+1:=To _;have z2:l.size=h1.size+1:=To _;clear_value h1 l;have c:=b1.ofKeep k2;have kk:Keep h.size h l:=k1.trans k2 (by omega);have B:Later h M l M:=Later.same ag kk;intro K5 Z;have k:∀x:Bool,(x=Ta->Za a b=Tc)->(x=Tc->a.kind=b.kind/\a.text=b.text/\a.items.length=b.items.length)->K5 x l:=by
   intro x af S;refine Z x l ⟨λf=>⟨M,_,B,Qf.2 (rdBool _),?_⟩,λf=>?_⟩;rw[af f]at C;exact C;obtain⟨e1,e2,Q⟩:=S f;have Y:Za a b=(if a.kind=6 then mo a.keys a.items b else mZ a.items b.items):=by rw[qO];simp[e1,e2,Q]
   rw[Y]at C;refine⟨a.kind,c.cellAdd (by rfl),λh6=>?_,λh6=>?_⟩;have e:¬a.kind=6:=by simpa using h6
   rw[zv e,Ff _ _ Q]at C;refine⟨si,c.cellAdd (by rfl),E,b2.cellAdd (by rfl),?_⟩;refine(MO (gl:=gl) EH (q:=Za) (xs:=a.items) (ys:=b.items) (λx f y G=>ih x y (by have:=qq f;omega) (O.item f) (J.item G) (x9 P f) (x9 ob G) rfl) hM B.ag ri p).go λw ai ac r L j z=>?_;have z:r=_:=z;subst z;refine⟨_,Jk j,ac,_,B.trans L,Qf.2 (rdBool _),?_⟩;rw[Q];simpa using C;have e:a.kind=6:=by simpa using h6
   rw[zA e,FQ _ _ _ (Ep (sY P) e)]at C;obtain⟨na,la⟩:=Ft (sY P) e;obtain⟨nb,lb⟩:=Ft (sY ob) (by rw[<-e1];exact e);refine⟨a.kind,a.text,sk,si,c.ld (cs:=ze a.kind a.text sk si),b.kind,b.text,tk,E,b2.ld (cs:=ze b.kind b.text tk E),?_⟩;refine wA na la O.items B.ag (zu rk ri) λak m1 ua A al ae ra w1=>⟨Td m1,rfl,A.get h1.size (by omega),?_⟩;have m:=B.ag.keep A;refine wA nb lb J.items m (zu V p) λab m2 ub F aj aa rb w2=>⟨Td m2,rfl,?_⟩;have H:Later h M ab M:=(B.trans (Later.same B.ag A)).trans (Later.same m F);refine(H7 (gl:=gl) EH (q:=Za) na la lb ae aa ⟨O.items,J.items⟩ (λx f y G=>ih x y (by have:=qq f;omega) (O.item f) (J.item G) (x9 P f) (x9 ob G) rfl) hM H.ag (w1.keep (F.get _ w1.lt)) w2 ra rb).go λw ah U r L j z=>?_;have z:r=_:=z;subst z;refine⟨_,Jk j,U,_,H.trans L,Qf.2 (rdBool _),?_⟩;rw[Q];simpa using C
  refine⟨a.kind,c.cellAdd (by rfl),b.kind,b2.cellAdd (by rfl),λN=>k _ (λ_=>?_) (λi=>?_),λN=>?_⟩;rw[qO];have:¬a.kind=b.kind:=by simpa using N
  simp[this];rw[N]at i;cases i;have T:a.kind=b.kind:=by simpa using N
  refine⟨a.text,c.cellAdd (by rfl),b.text,b2.cellAdd (by rfl),λD=>k _ (λ_=>?_) (λi=>?_),λD=>⟨si,c.cellAdd (by rfl),E,b2.cellAdd (by rfl),k _ (λi=>?_) (λi=>?_)⟩⟩;rw[qO];have:¬a.text=b.text:=by rw[Du]at D;simpa using D
  simp[this];rw[D]at i;cases i;rw[qO];have:¬a.items.length=b.items.length:=by rw[li,I]at i;simp at i;omega
  simp[this];have:a.text=b.text:=by rw[Du]at D;simpa using D
  exact⟨T,this,by rw[li,I]at i;simp at i;omega⟩
theorem Lm(l:GL gl){a b:Tr}(i:Sm a)(k:Sm b){R:Bool->Prop}(h:R (we a&&(we b&&Za a b))):PC Tp gl 46 [Arg.mk .tree a,Arg.mk .tree b] [.bool] R:=by
 apply Sb;simp only[xy];refine tj l i ⟨λr=>r=we b,λ_=>tj l k rfl,λr j=>⟨λx=>x=Za a b,λe=>?_,λx f=>?_⟩⟩;cases h1:we a with
 |false=>rw[h1]at e;cases e
 |true=>rw[h1,zK]at e;have c:=j h1;rw[e]at c;exact Nw _ a b (Tm _) i k (xR h1) (xR c.symm) rfl
 cases h1:we a with
 |false=>rw[h1]at h;exact h
 |true=>
  rw[h1]at h f;have c:=j h1;subst c;simp only[zK,UQ]at h f ⊢;cases h3:we b with
  |false=>rw[h3]at h;exact h
  |true=>rw[h3]at h f;rw[zK,f rfl];exact h
end
section
variable {M gl:Fr} {o:dK} {R:Bool -> Prop}
abbrev ij:Ty:=.pair .str (.pair (.row .str) (.pair (.row .str) .tree))
def ya(s:Bt)(sp sf:Sl)(v:Tr)(sk si:Sl):List Value:=[.string s,aK sp,aK sf,.int .i64 v.kind,.string v.text,aK sk,aK si]
theorem IK{u:Value}(h:RdV M ij o u):∃sp sf sk si:Sl,u=.agg (ya o.1 sp sf o.2.2.2 sk si).toArray/\RdV M (.row .str) o.2.1 (aK sp)/\RdV M (.row .str) o.2.2.1 (aK sf)/\RdV M .tree o.2.2.2 (.agg (xz o.2.2.2 sk si).toArray):=by
 unfold RdV at h;simp only[fR,if_true]at h;obtain⟨cs,rfl,c1,c2,rfl,h1,y,B,rfl,m,A,i,rfl,n,q⟩:=h;have h1:c1=[.string o.1]:=h1;subst h1;obtain⟨z,t,a2,e,r,g2⟩:=m;obtain⟨x,p,j,c,k,w⟩:=n;subst t;subst p;subst r;subst k;have b:RdV M .tree o.2.2.2 (.agg i.toArray):=by unfold RdV;simp only[fR,if_true];exact⟨_,rfl,q⟩
 obtain⟨sk,si,f,_⟩:=qe b;have l:i=xz o.2.2.2 sk si:=by injection f with f;exact congrArg Vu f
 subst l;refine⟨⟨a2,o.2.1.length,e⟩,⟨j,o.2.2.1.length,c⟩,sk,si,rfl,?_,?_,b⟩;rw[Qo rfl];exact⟨_,rfl,a2,e,rfl,g2⟩;rw[Qo rfl];exact⟨_,rfl,j,c,rfl,w⟩
theorem Ps{v:Tr}(i:v.keys.length<=1000000000)(hi:v.items.length<=1000000000000)(h:R (nJ v)):PC Tp gl 79 [Arg.mk .tree v] [.bool] R:=by
 apply Sz;have e:(bif (bif ((v.kind:Int)==0)then((v.text:Bt).toList==((⟨#[]⟩:Bt):Bt).toList)else Tc)then((Tj .i64 (((Uw v.keys:Nat):Int)+((Uw v.items:Nat):Int)):Int)==0)else Tc)=nJ v:=by rw[hX (by omega),T8];unfold nJ;simp only[Bool.cond_false_right,TC,beq_iff_eq,zG,ByteArray.toList_eq,lb];constructor;rintro⟨⟨h1,b⟩,c⟩;exact⟨h1,b,TT (by omega),TT (by omega)⟩;rintro⟨h1,b,c,f⟩;exact⟨⟨h1,b⟩,by rw[c,f];rfl⟩
 rw[e];exact h
theorem Dd(s:Bt)(a:Array UInt8):(s.toList==(⟨a⟩:Bt).toList)=decide (lb s=a.toList):=by rw[T8];simp[ByteArray.toList_eq,lb]
structure OpS (o:dK):Prop where
 p:SL o.2.1
 f:SL o.2.2.1
 v:Sm o.2.2.2
theorem QU{s:Bt}{R:Bool×Bool×Bool->Prop}(h:R (Jn (lb s))):PC Tp gl 77 [Arg.mk .str s] [.bool,.bool,.bool] R:=by
 apply KE;simp only[Dd];unfold Jn oR Ws wX q7 vV rH at h;intro K i;have c:(lb s=[97,100,100]\/lb s=[114,101,112,108,97,99,101]\/lb s=[116,101,115,116])->K Ta:=λe=>i Ta ⟨λ_=>by rw[zA e]at h;exact h,(λe=>by cases e)⟩;have j:¬(lb s=[97,100,100]\/lb s=[114,101,112,108,97,99,101]\/lb s=[116,101,115,116])->K Tc:=λe=>i Tc ⟨(λe=>by cases e),λ_=>by rw[zv e]at h;refine⟨λh1=>⟨λ_=>?_,λb=>?_⟩,λh1=>⟨λb=>?_,λb=>?_⟩⟩;rw[zA (.inl (by simpa using h1))]at h;exact h;rw[h1]at b;cases b;rw[zA (.inr (by simpa using b))]at h;exact h;rw[zv (λf=>by rcases f with f|f <;> simp_all)]at h;exact h⟩;refine⟨λh1=>?_,λh1=>⟨λb=>?_,λb=>?_⟩⟩;rw[h1];exact c (.inl (by simpa using h1));rw[b];exact c (.inr (.inl (by simpa using b)));cases h3:decide (lb s=#[116,101,115,116].toList)with
 |true=>exact c (.inr (.inr (by simpa using h3)))
 |false=>exact j (by rintro(f|f|f) <;> simp_all)
theorem Pj(m:GL gl)(b:OpS o)(h:R (j9 o)):PC Tp gl 44 [Arg.mk ij o] [.bool] R:=by
 apply H9;refine QU ?_;simp only[xy];intro K t;have j:j9 o=Tc->K Ta:=λu=>t Ta ⟨λ_=>by rw[u]at h;exact h,(λr=>by cases r)⟩;refine⟨λh1=>?_,λh1=>?_⟩;rw[h1];exact j (by unfold j9;simp at h1;simp[h1]);have n:(Jn (lb o.1)).2.2=Ta:=by simpa using h1
 refine u7 m b.p ⟨λc=>?_,λc=>?_⟩;rw[c];exact j (by unfold j9;simp at c;simp[c]);have k:Z9 o.2.1=Ta:=by simpa using c
 refine u7 m b.f ⟨λi=>?_,λi=>?_⟩;rw[i];exact j (by unfold j9;simp at i;simp[i]);have q:Z9 o.2.2.1=Ta:=by simpa using i
 have e:(bif (!(Jn (lb o.1)).2.1)then(decide (((Uw o.2.2.1:Nat):Int)>0))else Tc)=!((Jn (lb o.1)).2.1||decide (o.2.2.1=[])):=by
  rw[T8];cases(Jn (lb o.1)).2.1 with
  |true=>simp
  |false=>simp[UH]
 rw[e];cases h4:((Jn (lb o.1)).2.1||decide (o.2.2.1=[]))with
 |false=>exact j (by unfold j9;rw[h4];simp)
 |true=>
  have w:j9 o=(bif (Jn (lb o.1)).1 then zm o.2.2.2 else nJ o.2.2.2):=by unfold j9;rw[n,k,q,h4];rfl
  rw[w]at h;refine t Tc ⟨(λr=>by cases r),λ_=>⟨λl=>?_,λl=>?_⟩⟩;rw[l]at h;exact Yn m b.v h;rw[l]at h;exact Ps (by have:=b.v.keys;omega) b.v.items h
theorem Fp{sp sf sk si:Sl}(f:RdV M (.row .str) o.2.1 (aK sp))(c:RdV M (.row .str) o.2.2.1 (aK sf))(b:RdV M .tree o.2.2.2 (.agg (xz o.2.2.2 sk si).toArray)):RdV M ij o (.agg (ya o.1 sp sf o.2.2.2 sk si).toArray):=by
 rw[Qo rfl]at f c;unfold RdV at b ⊢;simp only[fR,if_true]at b ⊢;obtain⟨cs,e,b⟩:=b;have e:xz o.2.2.2 sk si=cs:=by injection e with e;simpa using congrArg Vu e
 subst e;exact⟨ya o.1 sp sf o.2.2.2 sk si,rfl,[.string o.1],_,rfl,rfl,[aK sp],_,rfl,f,[aK sf],_,rfl,c,b⟩
end
end Go.X
end
section
namespace Go.X
open Go Go.X Go.Proofs Go.RowKit
section
variable {g:za} {ks:List Bt} {bs:List Nat} {c:Nat}
def OPath(g:za)(ks:List Bt)(bs:List Nat)(s:Sl):Prop:=
 s.len=ks.length/\ks.length<=s.cap/\ks.length<=140737488355328/\((ks=[]/\bs=[])\/∃b cs,bs=[b]/\s.a=Td ⟨b,0,Te⟩/\Blk g b cs/\cut cs 0 ks.length=ks.map TH)
theorem OPath.frame{g g':za}{s:Sl}(H:OPath g ks bs s)(f:∀b∈bs,g'[b]?=g[b]?):OPath g' ks bs s:=by obtain⟨h1,h,j,i⟩:=H;refine⟨h1,h,j,i.imp id ?_⟩;rintro⟨b,cs,rfl,c,k,e⟩;exact⟨b,cs,rfl,c,k.keep (f b (by simp)),e⟩
theorem OPath.nil:OPath g [] [] ⟨Te,0,0⟩:=⟨rfl,Tm _,by simp,.inl ⟨rfl,rfl⟩⟩
theorem OPath.rd{M:Fr}{s:Sl}(H:OPath g ks bs s)(h:∀b∈bs,∀cs,Blk g b cs->M b=Td cs):Rd M (.row .str) ks [aK s]:=by
 obtain⟨h1,f,j,m⟩:=H;refine⟨_,rfl,s.a,s.cap,by rw[aK,h1],⟨j,f⟩,?_⟩;rcases m with⟨h0,_⟩|⟨b,cs,rfl,k,n,l⟩;exact .inl h0;refine .inr ⟨b,0,cs,k,h b (by simp) cs n,λi hi=>?_⟩;have e:(cut cs 0 ks.length)[i]?=Td (TH ks[i]):=by rw[l,Us,Tv hi];rfl
 rw[qd,zA hi,TJ]at e;show cut cs (0+i*1) 1=[.string ks[i]];apply Uf;intro q;rw[qd];by_cases c:q<1;have:q=0:=by omega
 subst this;rw[zA c,show 0+i*1+0=i by omega,e];rfl;rw[zv c,Un (by simp;omega)]
structure DAx where
 sp:Sl
 bp:List Nat
 sk:Sl
 si:Sl
 bv:List Nat
abbrev DA:=List (dK×DAx)
def dC(p:dK×DAx):List Value:=ya p.1.1 p.2.sp ⟨Te,0,0⟩ p.1.2.2.2 p.2.sk p.2.si
def dO(p:dK×DAx)(c:Nat):Prop:=c∈p.2.bp\/c∈p.2.bv
def gK(na:DA)(sl:Sl)(b c:Nat):Prop:=(sl.cap≠0/\c=b)\/∃p∈na,dO p c
structure DI (lo:Nat) (g:za) (M:Fr) (p:dK×DAx):Prop where
 path:OPath g p.1.2.1 p.2.bp p.2.sp
 frm:p.1.2.2.1=[]
 val:OT g p.1.2.2.2 p.2.bv (xz p.1.2.2.2 p.2.sk p.2.si)
 own:∀c,dO p c->lo<=c/\c<g.size/\M c=Te
 dj:∀c∈p.2.bp,c∉p.2.bv
structure DStp (lo:Nat) (g:za) (M:Fr) (na:DA) (sl:Sl) (b:Nat) (cs:Array Value):Prop where
 cr:CR g 7 (na.map dC) sl b cs
 lb:sl.cap≠0->lo<=b/\b<g.size/\M b=Te
 nd:∀p∈na,DI lo g M p
 dj:∀(i j:Nat) (p p':dK×DAx) (c:Nat),na[i]?=Td p->na[j]?=Td p'->dO p c->dO p' c->i=j
 nb:∀p∈na,¬dO p b
section
variable {lo : Nat} {g g' : za} {M M' : Fr} {na : DA} {sl : Sl} {b : Nat} {cs : Array Value} {p : dK × DAx}
theorem DI.frame(H:DI lo g M p)(hz:g.size<=g'.size)(f:∀c,dO p c->g'[c]?=g[c]?)(e:∀c,dO p c->M' c=Te):DI lo g' M' p:= ⟨H.path.frame λc b=>f c (.inl b),H.frm,H.val.frame λc b=>f c (.inr b),λc b=>⟨(H.own c b).1,by have:=(H.own c b).2.1;omega,e c b⟩,H.dj⟩
theorem DStp.len(H:DStp lo g M na sl b cs):sl.len=na.length:=by rw[H.cr.ln,Tx]
theorem DStp.own(H:DStp lo g M na sl b cs)(h:gK na sl b c):lo<=c/\c<g.size/\M c=Te:=by rcases h with⟨h1,rfl⟩|⟨p,e,h⟩;exact H.lb h1;exact(H.nd p e).own c h
theorem DStp.frame(H:DStp lo g M na sl b cs)(hz:g.size<=g'.size)(f:∀c,gK na sl b c->g'[c]?=g[c]?)(j:∀c,gK na sl b c->M' c=Te):DStp lo g' M' na sl b cs:=by refine⟨H.cr.frame λh=>f b (.inl ⟨?_,rfl⟩),λh=>by have:=H.lb h;exact⟨this.1,by omega,j b (.inl ⟨h,rfl⟩)⟩,λp e=>(H.nd p e).frame hz (λc i=>f c (.inr ⟨p,e,i⟩)) λc i=>j c (.inr ⟨p,e,i⟩),H.dj,H.nb⟩;rcases h with h|h;have:=H.cr.ln;have k:=H.cr.ro.le;have:=UH.2 h;omega;exact h
theorem DStp.nil:DStp lo g M [] ⟨Te,0,0⟩ b cs:= ⟨⟨⟨Tm _,.inl ⟨rfl,rfl⟩⟩,rfl,λi e h=>(by cases h)⟩,λh=>absurd rfl h,λp f=>(by cases f),λi j p k c h=>(by cases h),λp f=>(by cases f)⟩
theorem Lc(p:dK×DAx):∀u∈dC p,u.oneCell'=Ta:=by intro u b;unfold dC ya aK at b;simp at b;rcases b with rfl|rfl|rfl|rfl|rfl|rfl|rfl <;> rfl
theorem DStp.push{t e:TypeId}{O:Value}{bytes:Nat}(E:ElemT Tp t e O 7 bytes)(A:bytes<=1000){ty:TypeId}(ag:AgM M g)(H:DStp lo g M na sl b cs)(J:DI lo g M p)(ap:∀c,dO p c->¬gK na sl b c)(P:lo<=g.size){bv L:Nat}(Q:Blk g bv (dC p).toArray)(B:na.length<=1000000){K:Value->za->Prop} (N:∀(n:Sl) (g':za) (b':Nat) (cs':Array Value),DStp lo g' M (na++[p]) n b' cs'->g.size<=g'.size->(∀c,gK (na++[p]) n b' c->gK na sl b c\/dO p c\/g.size<=c)->(∀j,j<g.size->¬gK na sl b j->g'[j]?=g[j]?)->K (.slice n.a n.len n.cap) g'):
  XRun Tp (TB #[t,t] ty #[.slice sl.a sl.len sl.cap,.slice (Td ⟨bv,0,Te⟩) 1 L]) g K:=by
 have z:∀c,g.size<=c->M c=Te:=by
  intro c k;cases e:M c with
  |none=>rfl
  |some cs=>have:=ag.lt e;omega
 refine CR.app E A H.cr Q rfl (Lc _) (by rw[Tx];exact B) λn g' b' cs' C G x w I=>?_;have l:gK na sl b b'\/g.size<=b':=by rcases x with⟨u,S⟩|u;exact .inl (.inl ⟨by have:=H.cr.ro.le;omega,u⟩);exact .inr u
 have y:∀q∈na++[p],¬dO q b':=λq f k=>by rcases TE.1 f with f|f;rcases x with⟨u,_⟩|u;rw[u]at k;exact H.nb q f k;have:=((H.nd q f).own b' k).2.1;omega;rw[TP.1 f]at k;rcases l with h|h;exact ap b' k h;have:=(J.own b' k).2.1;omega
 have r:∀q∈na++[p],DI lo g M q:=λq f=>by rcases TE.1 f with f|f;exact H.nd q f;rw[TP.1 f];exact J
 refine N n g' b' cs' ⟨by rw[Ug];exact C,λ_=>?_,λq f=>?_,?_,y⟩ G (λc k=>?_) (λj D B=>I j D λe=>?_);rcases l with h|h;have:=H.own h;exact⟨this.1,w,this.2.2⟩;exact⟨by omega,w,z b' h⟩;exact(r q f).frame G (λc k=>I c ((r q f).own c k).2.1 λe=>y q f (e ▸ k)) λc k=>((r q f).own c k).2.2
 intro i j q F c hi D k o;have key:∀(i:Nat) (q:dK×DAx),(na++[p])[i]?=Td q->na[i]?=Td q\/(i=na.length/\q=p):=λi q hi=>by
  rw[List.getElem?_append]at hi;split at hi;exact .inl hi;rename_i h;cases h0:i-na.length with
  |zero=>rw[h0]at hi;exact .inr ⟨by omega,by simpa using hi.symm⟩
  |succ m=>rw[h0]at hi;simp at hi
 rcases key i q hi with h1|⟨h1,rfl⟩ <;> rcases key j F D with h2|⟨h2,rfl⟩;exact H.dj i j q F c h1 h2 k o;exact absurd (.inr ⟨q,UY h1,k⟩) (ap c o);exact absurd (.inr ⟨F,UY h2,o⟩) (ap c k);omega;rcases k with⟨_,rfl⟩|⟨q,f,k⟩;rcases l with h|h;exact .inl h;exact .inr (.inr h);rcases TE.1 f with f|f;exact .inl (.inr ⟨q,f,k⟩);rw[TP.1 f]at k;exact .inr (.inl k);subst e;rcases l with h|h;exact B h;omega
def mj(na:DA)(sl:Sl)(b:Nat):List Nat:=(if sl.cap=0 then []else [b])++na.flatMap λp=>p.2.bp++p.2.bv
theorem sP:c∈mj na sl b↔gK na sl b c:=by unfold mj gK dO;rw[TE,Vw];simp only[TE];by_cases h:sl.cap=0;simp[h];simp[h]
theorem DStp.rd(H:DStp lo g M na sl b cs)(ag:AgM M g)(z:na.length<=1000000):Rd (MxL M g (mj na sl b)) (.row ij) (na.map (·.1)) [aK sl]:=by
 have u:=H.len;have y:=H.cr.ro.le;refine⟨_,rfl,sl.a,sl.cap,by rw[aK,u,Tx],⟨by rw[Tx];omega,by rw[Tx];omega⟩,?_⟩;by_cases h0:na=[];subst h0;exact .inl rfl;obtain⟨x,j⟩:=H.cr.blk (by simpa using h0);have n:=UH.2 h0;refine .inr ⟨b,0,cs,x,MxL.at (sP.2 (.inl ⟨by omega,rfl⟩)) j,λi hi=>?_⟩;have f:i<na.length:=by simpa using hi
 have t:na[i]?=Td na[i]:=Tv f;have k:na[i]∈na:=TA f;have e:=(H.cr.el i (dC na[i]) (by rw[Us,t];rfl)).2;have l:sz ij=7:=rfl;rw[l,TJ,e,US];have D:=H.nd _ k;have q:Rd (MxL M g (mj na sl b)) (.row .str) na[i].1.2.1 [aK na[i].2.sp]:=D.path.rd λc m cs' j=>MxL.at (sP.2 (.inr ⟨_,k,.inl m⟩)) j;have w:Rd (MxL M g (mj na sl b)) (.row .str) na[i].1.2.2.1 [aK ⟨Te,0,0⟩]:=by rw[D.frm];exact⟨_,rfl,Te,0,rfl,⟨by simp,by simp⟩,.inl rfl⟩
 have p:RdV (MxL M g (mj na sl b)) .tree na[i].1.2.2.2 (.agg (xz na[i].1.2.2.2 na[i].2.sk na[i].2.si).toArray):=by unfold RdV;simp only[fR,if_true];exact⟨_,rfl,D.val.rd λc m cs' j=>MxL.at (sP.2 (.inr ⟨_,k,.inr m⟩)) j⟩
 have:=Fp (M:=MxL M g (mj na sl b)) (o:=na[i].1) (sf:=⟨Te,0,0⟩) ((Qo rfl).2 q) ((Qo rfl).2 w) p;unfold RdV at this;simp only[fR,if_true]at this;obtain⟨cs',h,r⟩:=this;have h:ya na[i].1.1 na[i].2.sp ⟨Te,0,0⟩ na[i].1.2.2.2 na[i].2.sk na[i].2.si=cs':=by injection h with h;simpa using congrArg Vu h
 subst h;exact r
end
end
end Go.X
end
section
namespace Go.X
open Go Go.X Go.Proofs Go.Sort Go.Lib
section
variable {h:za} {n:Nat} {src:Sl} {K:Value -> za -> Prop} {M:Fr}
theorem vm{P:Program}{t e:TypeId}{z:Value}{sz bytes:Nat}(T:ElemT P t e z sz bytes){ty:TypeId}{p:Addr}{n N:Nat}{olds:List Value}(E:olds.length=n*sz)(k:∀j v,olds[j]?=Td v->zb h (p.add j)=Td v){news:List Value}(I:Arr N h src.a news)(F:news.length=src.len*sz)(f:(n+src.len)*bytes<=140737488355328)(C:n+src.len<=4611686018427387904) (h0:src.len=0->K (.slice (Td p) n n) h) (D:∀(c:Nat) (h':za) (l:Array Value),0<src.len->n+src.len<=c->Blk h' h.size l->l.toList.take (olds++news).length=olds++news->Keep h.size h h'->K (.slice (Td ⟨h.size,0,Te⟩) (n+src.len) c) h'):
  XRun P (TB #[t,t] ty #[.slice (Td p) n n,.slice src.a src.len src.cap]) h K:=by
 intro B d;obtain⟨i,hi,hz,r,x⟩:=T.info;have A:=T.slice;subst r x;by_cases y:src.len=0;refine⟨_,d,h,?_,h0 y⟩;rw[y];generalize src.a=q;cases q <;> simp[TB,run_underlying A,sizeOf,typeInfo,hi,Builtin.lenOf,U6,loadCells,loadCellsFrom,storeCells];rcases I with m|⟨b,o,m,M,L⟩;subst m;have:=Nat.mul_pos (Nat.pos_of_ne_zero y) T.pos;grind;rw[m];have G:=run_append_grow (P:=P) (ty:=ty) (w:=mk B d h) t e i z A hi hz p n n olds E (λj v J=>k j v J) ⟨b,o,Te⟩ src.len src.cap news F (λj u H=>by rw[zd];exact L j u H) (by omega) (by omega) (growslice_fits (by omega) f);refine⟨_,_,_,G,D _ _ (olds.toArray++news.toArray++Builtin.zeroCells z.cells (grownCap (mk B d h) (n+src.len) n e-(n+src.len))) (by omega) (grownCap_ge _ _ _ _) (Blk.new h _ e) ?_ (Keep.push _ _ (Tm _))⟩;grind
theorem QS(ag:AgM M h){ks:List Bt}{s:Sl}(H:Rd M (.row .str) ks [aK s]):Arr h.size h s.a (ks.map TH):=by
 obtain⟨w,e,a,c,q,t,l⟩:=H;simp only[U4,and_true]at e;subst e;simp only[aK,Ua]at q;obtain⟨h1,_,_⟩:=q;rcases l with rfl|⟨b,o,cs,m,j,n⟩;exact .inl rfl;refine .inr ⟨b,o,by rw[h1,m],ag.lt j,λi v f=>?_⟩;rw[Us]at f;cases hk:ks[i]? with
 |none=>simp_all
 |some k=>
  rw[hk]at f;simp only[VU,Tn]at f;subst f;obtain⟨hi,e⟩:=T5.1 hk;have:=n i hi;rw[e]at this;have p:cut cs (o+i) 1=[.string k]:=by have r:cut cs (o+i*sz .str) (sz .str)=[.string k]:=this;simpa[sz]using r
  exact oZ ag j p
theorem BP{g:za}(ag:AgM M g){p:Addr}{olds news:List Bt}(h0:Rd M (.row .str) olds [aK ⟨Td p,n,n⟩])(w:Rd M (.row .str) news [aK src])(H:olds.length+news.length<=1000000) (t:∀(r:Sl) (g':za) (u:Fr),Later g M g' u->Rd u (.row .str) (olds++news) [aK r]->K (aK r) g'):
  XRun Tp (TB #[22,22] 22 #[.slice (Td p) n n,aK src]) g K:=by
 have A:n=olds.length:=(rowLen h0).1;obtain⟨E,_,_⟩:=rowLen w;refine vm Ai (olds:=olds.map TH) (news:=news.map TH) (N:=g.size) (by simp[sz,A]) (λj v m=>?_) (QS ag w) (by simp[sz,E]) (by omega) (by omega) (λI=>?_) λc g' f h1 F B y k=>?_;rw[Us]at m;cases e:olds[j]? with
 |none=>simp_all
 |some x=>rw[e]at m;obtain⟨h,rfl⟩:=T5.1 e;cases m;obtain⟨b,o,cs,C,z,D⟩:=Go.X.rowAt h0 h;cases C;rw[zd];have:=oZ ag z (v:=.string olds[j]) (o:=o+j*sz .str) D;simpa[sz]using this
 have:news=[]:=TT (by omega);subst this;exact t ⟨Td p,n,n⟩ g M (Later.refl ag) (by simp_all);refine t ⟨Td ⟨g.size,0,Te⟩,n+src.len,c⟩ g' (MxL M g' [g.size]) (Later.own (Later.same ag k) λc F=>by grind) ⟨_,rfl,Td ⟨g.size,0,Te⟩,c,?_,⟨by grind,by simp_all⟩,.inr ⟨g.size,0,f,rfl,MxL.at (by simp) B,λi hi=>?_⟩⟩;show VY _ _ _=VY _ _ _;simp_all;show cut f (0+i*1) 1=[.string (olds++news)[i]];refine oM rfl λq G=>?_;have l:q=0:=by omega
 subst l;have e:(f.toList.take (olds.map TH++news.map TH).length)[i]?=(olds.map TH++news.map TH)[i]?:=by rw[y]
 grind
end
end Go.X
end
section
namespace Go.X
section
section
variable (n m : Nat) (sa sb : Nat -> Nat) (c : Nat -> Nat -> Nat)
def jH:Nat->Nat->Nat->Nat
 |0,_,_=>0
 |f+1,i,j=>
  if n<=i then(if m<=j then 0 else sb j+jH f i (j+1))
  else if m<=j then sa i+jH f (i+1) j
  else min (min (c i j+jH f (i+1) (j+1)) (sa i+jH f (i+1) j)) (sb j+jH f i (j+1))
def iT(i j:Nat):Nat:=jH n m sa sb c (n-i+(m-j)) i j
def kd:Nat->Nat->Nat->List (Nat×Nat)
 |0,_,_=>[]
 |f+1,i,j=>
  if i<n/\j<m then
   if iT n m sa sb c i j=c i j+iT n m sa sb c (i+1) (j+1)then(i,j)::kd f (i+1) (j+1)
   else if iT n m sa sb c i j=sa i+iT n m sa sb c (i+1) j then kd f (i+1) j
   else kd f i (j+1)
  else []
def mY(i j:Nat):List (Nat×Nat):=kd n m sa sb c (n-i+(m-j)) i j
end
variable {n m : Nat} {sa sb : Nat -> Nat} {c : Nat -> Nat -> Nat}
theorem ww:∀(f e i j:Nat),n-i+(m-j)<=f->n-i+(m-j)<=e->jH n m sa sb c f i j=jH n m sa sb c e i j
 |0,0,i,j,_,_=>rfl
 |0,e+1,i,j,h,_=>by unfold jH;rw[zA (by omega),zA (by omega)]
 |f+1,0,i,j,_,h=>by unfold jH;rw[zA (by omega),zA (by omega)]
 |f+1,e+1,i,j,h,h'=>by unfold jH;by_cases h1:n<=i;rw[zA h1,zA h1];by_cases b:m<=j;rw[zA b,zA b];rw[zv b,zv b,ww f e i (j+1) (by omega) (by omega)];rw[zv h1,zv h1];by_cases b:m<=j;rw[zA b,zA b,ww f e (i+1) j (by omega) (by omega)];rw[zv b,zv b,ww f e (i+1) j (by omega) (by omega),ww f e i (j+1) (by omega) (by omega),ww f e (i+1) (j+1) (by omega) (by omega)]
theorem LY(i j:Nat):iT n m sa sb c i j=
  if n<=i then(if m<=j then 0 else sb j+iT n m sa sb c i (j+1))
  else if m<=j then sa i+iT n m sa sb c (i+1) j
  else min (min (c i j+iT n m sa sb c (i+1) (j+1)) (sa i+iT n m sa sb c (i+1) j)) (sb j+iT n m sa sb c i (j+1)):=by
 unfold iT;rw[ww _ (n-i+(m-j)+1) i j (Tm _) (by omega)];conv=>lhs;unfold jH
 by_cases h1:n<=i;rw[zA h1,zA h1];by_cases b:m<=j;rw[zA b,zA b];rw[zv b,zv b,ww (n-i+(m-j)) _ i (j+1) (by omega) (Tm _)];rw[zv h1,zv h1];by_cases b:m<=j;rw[zA b,zA b,ww (n-i+(m-j)) _ (i+1) j (by omega) (Tm _)];rw[zv b,zv b,ww (n-i+(m-j)) _ (i+1) j (by omega) (Tm _),ww (n-i+(m-j)) _ i (j+1) (by omega) (Tm _),ww (n-i+(m-j)) _ (i+1) (j+1) (by omega) (Tm _)]
theorem Ji:∀(f b i j:Nat),n-i+(m-j)<=f->n-i+(m-j)<=b->kd n m sa sb c f i j=kd n m sa sb c b i j
 |0,0,i,j,_,_=>rfl
 |0,b+1,i,j,h,_=>by unfold kd;rw[zv (by omega)]
 |f+1,0,i,j,_,h=>by unfold kd;rw[zv (by omega)]
 |f+1,b+1,i,j,h,h'=>by unfold kd;by_cases h1:i<n/\j<m;rw[zA h1,zA h1,Ji f b (i+1) j (by omega) (by omega),Ji f b i (j+1) (by omega) (by omega),Ji f b (i+1) (j+1) (by omega) (by omega)];rw[zv h1,zv h1]
theorem Lb(i j:Nat):mY n m sa sb c i j=
  if i<n/\j<m then
   if iT n m sa sb c i j=c i j+iT n m sa sb c (i+1) (j+1)then(i,j)::mY n m sa sb c (i+1) (j+1)
   else if iT n m sa sb c i j=sa i+iT n m sa sb c (i+1) j then mY n m sa sb c (i+1) j
   else mY n m sa sb c i (j+1)
  else []:=by
 unfold mY;rw[Ji _ (n-i+(m-j)+1) i j (Tm _) (by omega)];conv=>lhs;unfold kd
 by_cases h1:i<n/\j<m;rw[zA h1,zA h1,Ji (n-i+(m-j)) _ (i+1) j (by omega) (Tm _),Ji (n-i+(m-j)) _ i (j+1) (by omega) (Tm _),Ji (n-i+(m-j)) _ (i+1) (j+1) (by omega) (Tm _)];rw[zv h1,zv h1]
def Rising(i j n m:Nat):List (Nat×Nat)->Prop
 |[]=>True
 |p::M=>i<=p.1/\j<=p.2/\p.1<n/\p.2<m/\Rising (p.1+1) (p.2+1) n m M
theorem Rising.less{i j h f n m:Nat}(hi:h<=i)(k:f<=j):∀{M:List (Nat×Nat)},Rising i j n m M->Rising h f n m M
 |[],_=>trivial
 |_::_,⟨a,b,c,d,e⟩=>⟨by omega,by omega,c,d,e⟩
theorem rZ:∀(f i j:Nat),Rising i j n m (kd n m sa sb c f i j)
 |0,i,j=>trivial
 |f+1,i,j=>by unfold kd;split;rename_i h;split;exact⟨Tm _,Tm _,h.1,h.2,rZ f _ _⟩;split;exact(rZ f _ _).less (Nat.le_succ _) (Tm _);exact(rZ f _ _).less (Tm _) (Nat.le_succ _);trivial
end
end Go.X
end
section
namespace Go.X
open Go Go.Lib
section
def gR(v:Tr)(k:Bt):Tr:=v.items.getD (idxOfS v.keys k).toNat zT
def iG(v:Tr)(i:Nat):Tr:=v.items.getD i zT
def iE(i:Nat):Bt:=bl (Lib.itoa (i:Int))
def mn(p:List Bt):dK:=(bl rH,p,[],zT)
def mH(p:List Bt)(w:Tr):dK:=(bl oR,p,[],w)
def jB(p:List Bt)(w:Tr):dK:=(bl Ws,p,[],w)
def iW(D:List Bt->Tr->Tr->List dK)(p:List Bt)(a b:Tr):List dK:=
 ((zf a.keys).filter λk=>!b.keys.contains k).map (λk=>mn (p++[k])) ++
  (((zf a.keys).filter λk=>b.keys.contains k).flatMap (λk=>D (p++[k]) (gR a k) (gR b k)) ++
   ((zf b.keys).filter λk=>!a.keys.contains k).map (λk=>mH (p++[k]) (gR b k)))
def iZ(D:List Bt->Tr->Tr->List dK)(p:List Bt)(a b:Tr)(m:List (Nat×Nat)):List dK:=
 m.flatMap (λq=>D (p++[iE q.1]) (iG a q.1) (iG b q.2)) ++
  (((TZ a.items.length).filter λi=>!(m.map (·.1)).contains i).reverse.map (λi=>mn (p++[iE i])) ++
   ((TZ b.items.length).filter λi=>!(m.map (·.2)).contains i).map (λi=>mH (p++[iE i]) (iG b i)))
section
variable (rw : List Tr -> List Tr -> Option (List (Nat × Nat)))
def ik:Nat->List Bt->Tr->Tr->List dK
 |0,_,_,_=>[]
 |f+1,p,a,b=>
  if Za a b then []
  else if a.kind=6/\b.kind=6 then iW (ik f) p a b
  else if a.kind=5/\b.kind=5 then(match rw a.items b.items with
   |some m=>iZ (ik f) p a b m
   |none=>[jB p b])
  else [jB p b]
end
def jE(p:List Bt)(o:dK):dK:=(o.1,p++o.2.1,o.2.2)
theorem AY(p q:List Bt):jE p (mn q)=mn (p++q):=rfl
theorem AN(p q:List Bt)(w:Tr):jE p (mH q w)=mH (p++q) w:=rfl
theorem QO{D:List Bt->Tr->Tr->List dK}(c:∀p q a b,D (p++q) a b=(D q a b).map (jE p))(p q:List Bt)(a b:Tr):iW D (p++q) a b=(iW D q a b).map (jE p):=by unfold iW;simp only[Ug,T9,List.map_flatMap,Function.comp_def,AY,AN,TR,c p (q++_)]
theorem O7{D:List Bt->Tr->Tr->List dK}(c:∀p q a b,D (p++q) a b=(D q a b).map (jE p))(p q:List Bt)(a b:Tr)(m:List (Nat×Nat)):iZ D (p++q) a b m=(iZ D q a b m).map (jE p):=by unfold iZ;simp only[Ug,T9,List.map_flatMap,Function.comp_def,AY,AN,TR,c p (q++_)]
theorem w0{rw:List Tr->List Tr->Option (List (Nat×Nat))}:∀(f:Nat) (p q:List Bt) (a b:Tr),ik rw f (p++q) a b=(ik rw f q a b).map (jE p)
 |0,p,q,a,b=>rfl
 |f+1,p,q,a,b=>by unfold ik;split;rfl;split;exact QO (λp q a b=>w0 f p q a b) p q a b;split;split;exact O7 (λp q a b=>w0 f p q a b) p q a b _;rfl;rfl
end
section
variable {α:Type} {i:Nat} {v a b:Tr}
theorem uu{α:Type}(g:α->Nat)(p:α->Bool):∀l:List α,(l.map g).sum=((l.filter p).map g).sum+((l.filter λx=>!p x).map g).sum
 |[]=>rfl
 |x::l=>by have:=uu g p l;cases h:p x;rw[List.filter_cons_of_neg (by simp[h]),List.filter_cons_of_pos (by simp[h])];simp only[TV,List.sum_cons];omega;rw[List.filter_cons_of_pos h,List.filter_cons_of_neg (by simp[h])];simp only[TV,List.sum_cons];omega
theorem v7{α:Type}(g:α->Nat)(b:∀x,1<=g x):∀l:List α,l.length<=(l.map g).sum
 |[]=>Tm _
 |x::l=>by have:=v7 g b l;have:=b x;simp only[TV,List.sum_cons,TI];omega
theorem Fi{α:Type}(g g':α->Nat):∀l:List α,(l.map λx=>g x+g' x).sum=(l.map g).sum+(l.map g').sum
 |[]=>rfl
 |x::l=>by have:=Fi g g' l;simp only[TV,List.sum_cons]at this ⊢;omega
theorem Ck{α:Type}{g g':α->Nat}:∀{l:List α},(∀x∈l,g x<=g' x)->(l.map g).sum<=(l.map g').sum
 |[],_=>Tm _
 |x::l,h=>by have:=Ck (l:=l) λy b=>h y (TS _ b);have:=h x (TQ ..);simp only[TV,List.sum_cons];omega
theorem tB{g:α->Nat}{l b:List α}(h:l.Perm b):(l.map g).sum=(b.map g).sum:=(h.map g).sum_nat
theorem vc{A B:List α}(c:A.Nodup)(b:B.Nodup)(h:∀x,x∈A↔x∈B):A.Perm B:=(List.perm_ext_iff_of_nodup c b).2 h
theorem pw:∀l:List Tr,Zc l=(l.map cK).sum
 |[]=>rfl
 |x::l=>by rw[TV,List.sum_cons,<-pw l];rfl
theorem rI(v:Tr):1<=cK v:=by cases v;unfold cK;omega
theorem FH{α β:Type}{A:List α}{B:List β}{M:List (α×β)}{ga:α->Nat}{gb:β->Nat}{D:α×β->Nat}(b:α->Bool)(pb:β->Bool) (h1:(A.filter b).Perm (M.map (·.1))) (c:(B.filter pb).Perm (M.map (·.2))) (h:∀x,1<=ga x) (e:∀x,1<=gb x) (f:∀q∈M,D q<=ga q.1+gb q.2):
  (A.filter λx=>!b x).length+(M.map D).sum+(B.filter λx=>!pb x).length<=(A.map ga).sum+(B.map gb).sum:=by
 have s1:=uu ga b A;have s2:=uu gb pb B;rw[tB h1,T9]at s1;rw[tB c,T9]at s2;have j:=v7 ga h (A.filter λx=>!b x);have k:=v7 gb e (B.filter λx=>!pb x);have t:=Ck f;have i:=Fi (λq:α×β=>ga q.1) (λq=>gb q.2) M;simp only[Function.comp_def]at s1 s2;omega
theorem xm{i j n m:Nat}:∀{M:List (Nat×Nat)},Rising i j n m M->(∀q∈M,i<=q.1/\q.1<n/\j<=q.2/\q.2<m)/\(M.map (·.1)).Nodup/\(M.map (·.2)).Nodup
 |[],_=>⟨λq f=>(nomatch f),Vk,Vk⟩
 |p::M,⟨a,b,c,d,e⟩=>by obtain⟨h,u,v⟩:=xm e;refine⟨λq f=>?_,?_,?_⟩;rcases Tz.1 f with rfl|f;exact⟨a,c,b,d⟩;have:=h q f;omega;rw[TV,Ut];refine⟨λk=>?_,u⟩;obtain⟨q,f,e⟩:=Ub.1 k;have:=h q f;omega;rw[TV,Ut];refine⟨λk=>?_,v⟩;obtain⟨q,f,e⟩:=Ub.1 k;have:=h q f;omega
theorem Eu(v:Tr):(TZ v.items.length).map (iG v)=v.items:=by refine List.ext_getElem (by simp) λi h1 b=>?_;rw[US,List.getElem_range];unfold iG;rw[TM,Tv b];rfl
theorem DO{l:List Bt}(h:l.Nodup)(hi:i<l.length):idxOfS l l[i]=(i:Int):=by rcases uL l[i] l 0 with⟨_,b⟩|⟨k,h1,b,c⟩;exact absurd (TA hi) b;unfold idxOfS;rw[h1,TJ];rw[Tv b]at c;rw[(List.getElem_inj h).1 (TY c)]
theorem uG(e:v.keys.Nodup)(b:v.keys.length=v.items.length):v.keys.map (gR v)=v.items:=by refine List.ext_getElem (by simp[b]) λi h1 c=>?_;rw[US];unfold gR;rw[DO e (by omega),Tq,TM,Tv c];rfl
theorem vF(h:Qp zo v=Ta)(b:v.kind=6):v.keys.Nodup/\v.keys.length=v.items.length:=by cases v;rename_i k s ks xs;unfold Qp at h;rw[TC]at h;have h:=h.1;have b:k=6:=b;subst b;simp[zo,j8,Tr.kind,Tr.keys,Tr.items]at h;exact⟨h.1.1.2,h.1.2⟩
theorem tI(e:v.keys.Nodup)(b:v.keys.length=v.items.length){k:Bt}(c:k∈v.keys):gR v k∈v.items:=by rw[<-uG e b];exact Ub.2 ⟨k,c,rfl⟩
theorem td(h:i<v.items.length):iG v i∈v.items:=by unfold iG;rw[TM,Tv h];exact TA h
theorem Ku{D:List Bt->Tr->Tr->List dK}{p:List Bt}(na:a.keys.Nodup)(c:b.keys.Nodup)(la:a.keys.length=a.items.length)(lb:b.keys.length=b.items.length)
  (i:∀p x y,x∈a.items->y∈b.items->(D p x y).length<=cK x+cK y):(iW D p a b).length<=Zc a.items+Zc b.items:=by
 have f:=qi a.keys;have pb:=qi b.keys;have h:∀k,k∈zf a.keys↔k∈a.keys:=λk=>f.mem_iff;have l:∀k,k∈zf b.keys↔k∈b.keys:=λk=>pb.mem_iff;have H:=FH (A:=zf a.keys) (B:=zf b.keys) (M:=((zf a.keys).filter λk=>b.keys.contains k).map λk=>(k,k)) (ga:=λk=>cK (gR a k)) (gb:=λk=>cK (gR b k)) (D:=λq=>(D (p++[q.1]) (gR a q.1) (gR b q.2)).length) (λk=>b.keys.contains k) (λk=>a.keys.contains k) (by rw[T9];simp only[Function.comp_def,List.map_id'];exact List.Perm.refl _) (by rw[T9];simp only[Function.comp_def,List.map_id'];refine vc ((pb.nodup_iff.2 c).filter _) ((f.nodup_iff.2 na).filter _) λx=>?_;rw[UI,UI,h,l,List.contains_iff_mem,List.contains_iff_mem];exact And.comm) (λ_=>rI _) (λ_=>rI _) (by intro q j;obtain⟨k,e,rfl⟩:=Ub.1 j;rw[UI,h,List.contains_iff_mem]at e;exact i _ _ _ (tI na la e.1) (tI c lb e.2));rw[tB f,tB pb]at H;have m:(a.keys.map λk=>cK (gR a k)).sum=Zc a.items:=by rw[pw,<-uG na la,T9];rfl
 have n:(b.keys.map λk=>cK (gR b k)).sum=Zc b.items:=by rw[pw,<-uG c lb,T9];rfl
 rw[m,n,T9]at H;unfold iW;rw[Ts,Ts,Tx,Tx,List.length_flatMap];simp only[Function.comp_def]at H;omega
theorem H0{D:List Bt->Tr->Tr->List dK}{p:List Bt}{m:List (Nat×Nat)}(j:Rising 0 0 a.items.length b.items.length m)
  (f:∀p x y,x∈a.items->y∈b.items->(D p x y).length<=cK x+cK y):(iZ D p a b m).length<=Zc a.items+Zc b.items:=by
 obtain⟨e,k,n⟩:=xm j;have H:=FH (A:=TZ a.items.length) (B:=TZ b.items.length) (M:=m) (ga:=λi=>cK (iG a i)) (gb:=λi=>cK (iG b i)) (D:=λq=>(D (p++[iE q.1]) (iG a q.1) (iG b q.2)).length) (λi=>(m.map (·.1)).contains i) (λi=>(m.map (·.2)).contains i) (vc (List.nodup_range.filter _) k λx=>by rw[UI,Ui,List.contains_iff_mem];refine⟨λh=>h.2,λh=>⟨?_,h⟩⟩;obtain⟨q,c,rfl⟩:=Ub.1 h;exact(e q c).2.1) (vc (List.nodup_range.filter _) n λx=>by rw[UI,Ui,List.contains_iff_mem];refine⟨λh=>h.2,λh=>⟨?_,h⟩⟩;obtain⟨q,c,rfl⟩:=Ub.1 h;exact(e q c).2.2.2) (λ_=>rI _) (λ_=>rI _) (λq c=>f _ _ _ (td (e q c).2.1) (td (e q c).2.2.2));have l:((TZ a.items.length).map λi=>cK (iG a i)).sum=Zc a.items:=by
  conv=>rhs;rw[<-Eu a]
  rw[pw,T9];rfl
 have o:((TZ b.items.length).map λi=>cK (iG b i)).sum=Zc b.items:=by
  conv=>rhs;rw[<-Eu b]
  rw[pw,T9];rfl
 rw[l,o]at H;unfold iZ;rw[Ts,Ts,Tx,Tx,List.length_flatMap,List.length_reverse];omega
theorem AF{rw:List Tr->List Tr->Option (List (Nat×Nat))}(c:∀us ws m,rw us ws=Td m->Rising 0 0 us.length ws.length m):
  ∀(f:Nat) (p:List Bt) (a b:Tr),Qp zo a=Ta->Qp zo b=Ta->(ik rw f p a b).length<=cK a+cK b
 |0,p,a,b,_,_=>TK _
 |f+1,p,a,b,ha,hb=>by have n:=w7 a;have tb:=w7 b;have e:∀p x y,x∈a.items->y∈b.items->(ik rw f p x y).length<=cK x+cK y:=λp x y j i=>AF c f p x y (x9 ha j) (x9 hb i);unfold ik;split;exact TK _;split;rename_i h;obtain⟨na,la⟩:=vF ha h.1;obtain⟨k,lb⟩:=vF hb h.2;have:=Ku (p:=p) na k la lb e;omega;split;split;rename_i m l;have:=H0 (p:=p) (c _ _ _ l) e;omega;show 1<=_;omega;show 1<=_;omega
end
section
theorem um:∀{l:List Tr} {x:Tr},x∈l->ie x<=X7 l
 |y::l,x,h=>by unfold X7;rcases Tz.1 h with rfl|h;omega;have:=um h;omega
end
end Go.X
end
section
namespace Go.X
open Go Go.X Go.Proofs Go.Lib
section
variable {v:Tr} {l:List Tr} {k:Nat}
structure GV (v:Tr):Prop where
 r:zm v=Ta
 s:Sm v
theorem Ms{v x:Tr}(h:zm v=Ta)(c:x∈v.items):zm x=Ta:=by unfold zm Zj at h ⊢;rw[TC,TC]at h ⊢;have h1:=qq c;have e:=um c;have f:=mJ v;have a:=zH h.1.1;have b:=zH h.1.2;exact⟨⟨zJ (by omega),zJ (by omega)⟩,x9 h.2 c⟩
theorem GV.item{v x:Tr}(H:GV v)(b:x∈v.items):GV x:=⟨Ms H.r b,H.s.item b⟩
theorem GV.open(H:GV v):we v=Ta:=HA H.r
theorem GV.ok(H:GV v):Qp zo v=Ta:=xR H.open
theorem GV.dp(H:GV v):ie v<=32:=by have h:=H.r;unfold zm Zj at h;rw[TC,TC]at h;exact zH h.1.2
theorem GV.sz(H:GV v):cK v<=4096:=Hp H.open
theorem GV.len(H:GV v):v.items.length<=4096:=by have:=H.sz;have:=Zk v.items;have:=w7 v;omega
theorem GV.keys(H:GV v)(b:v.kind=6):v.keys.Nodup/\v.keys.length=v.items.length:=vF H.ok b
theorem QM(v:Tr):(Zi v).1.1.length<=512/\(Zi v).1.2.length<=512:=by unfold Zi;split;split;exact⟨TK _,TK _⟩;rename_i h;have:=qU (zk v) 0;unfold qE;simp only[Tx];omega;exact⟨TK _,TK _⟩
def jG(l:List Tr):Nat:=(l.map λv=>(Zi v).1.1.length).sum
def js(l:List Tr):Option (List (List Bt×List Int)):=if 64<l.length\/(l.any λv=>decide ((Zi v).2≠0))=Ta\/512<jG l then Te else Td (l.map λv=>(Zi v).1)
def lZ:Option (List (List Bt×List Int))->List (List Bt×List Int)×Int
 |some x=>(x,0)
 |none=>([],6)
theorem PN(b:k<l.length):jG (l.take (k+1))=jG (l.take k)+(Zi l[k]).1.1.length:=by unfold jG;rw[Tu b,Ug,List.sum_append];simp
theorem PG:jG (l.take k)<=jG l:=by
 unfold jG;conv=>rhs;rw[<-UF k l]
 rw[Ug,List.sum_append];omega
theorem O4{q:Tr->Bool}(b:k<l.length):(l.take (k+1)).any q=((l.take k).any q||q l[k]):=by rw[Tu b,List.any_append];simp
theorem I9(b:k<l.length)(h:(Zi l[k]).2≠0\/512<jG (l.take (k+1))):js l=Te:=by unfold js;rw[zA];rcases h with h|h;exact .inr (.inl (List.any_eq_true.2 ⟨l[k],TA b,by simpa using h⟩));exact .inr (.inr (U5 h PG))
theorem Ht(h1:l.length<=64)(b:(l.any λv=>decide ((Zi v).2≠0))=Tc)(c:jG l<=512):js l=Td (l.map λv=>(Zi v).1):=by unfold js;rw[zv];rintro(h|h|h);omega;rw[b]at h;exact nomatch h;omega
section
variable {gl : Fr}
theorem Dh(q:GL gl)(w:Brn gl)(t:∀v∈l,GV v)(z:l.length<=1000000){R:List (List Bt×List Int)×Int->Prop}(h:R (lZ (js l))):PC Tp gl 182 [Arg.mk (.row .tree) l] [.row jp,.int .i64] R:=by
 apply Se;refine⟨λi=>∃k:Nat,i=k/\k<=l.length,λi=>l.length-i.toNat,⟨0,rfl,TK _⟩,?_⟩;rintro i ⟨k,rfl,x⟩;refine⟨λj=>?_,λj=>?_⟩;have b:k<l.length:=by simp at j;omega
 have m:=t _ (TA b);refine⟨l[k],⟨by omega,by rw[Tq];exact Tv b⟩,?_⟩;rw[xy];refine Yn q m.s ?_;rw[m.r];refine⟨λe=>(by cases e),λ_=>?_⟩;rw[yr b (by omega)];exact⟨⟨k+1,rfl,b⟩,by simp only[Tq];omega⟩;refine⟨λc=>?_,λc=>?_⟩;have:js l=Te:=by unfold js;rw[zA (.inl (by simp at c;omega))]
 rw[this]at h;exact h;have c:l.length<=64:=by simp at c;omega
 refine⟨λout left i=>∃k:Nat,i=k/\k<=l.length/\out=(l.take k).map (λv=>(Zi v).1)/\left=512-(jG (l.take k):Int)/\jG (l.take k)<=512/\((l.take k).any λv=>decide ((Zi v).2≠0))=Tc,λ_ _ i=>l.length-i.toNat,⟨0,rfl,TK _,rfl,rfl,TK _,rfl⟩,?_⟩;rintro out left i ⟨k,rfl,x,rfl,rfl,u,p⟩;refine⟨λj=>?_,λj=>?_⟩;have b:k<l.length:=by simp at j;omega
 have m:=t _ (TA b);refine⟨l[k],⟨by omega,by rw[Tq];exact Tv b⟩,?_⟩;rw[xy];refine Ni q w m.s ?_;have y:=(QM l[k]).1;have hL:=PN b;rw[hX (n:=512-(jG (l.take k):Int)-((Zi l[k]).1.1.length:Nat)) (by omega)];refine⟨λe=>?_,λe=>?_⟩;have:js l=Te:=I9 b (by
  by_cases f:(Zi l[k]).2=0;right;rw[f]at e;have:512-(jG (l.take k):Int)-((Zi l[k]).1.1.length:Nat)<0:=by simpa using e
  omega;exact .inl f)
 rw[this]at h;exact h;have o:(Zi l[k]).2=0/\¬512-(jG (l.take k):Int)-((Zi l[k]).1.1.length:Nat)<0:=by cases f:((Zi l[k]).2 != 0);rw[f]at e;exact⟨by simpa using f,by simpa using e⟩;rw[f]at e;exact nomatch e
 rw[yr b (by omega)];refine⟨by simp;omega,⟨k+1,rfl,b,?_,by omega,by omega,?_⟩,by simp only[Tq];omega⟩;rw[Tu b,Ug];rfl;rw[O4 b,p];simpa using o.1;have:k=l.length:=by simp at j;omega
 subst this;rw[TN]at u p ⊢;rw[Ht c p u]at h;exact h
end
end
end Go.X
end
section
namespace Go.X
section
section
variable (la lb : Nat -> Nat) (tn : Nat -> Nat -> Nat)
def gF(P:Nat->Nat->Nat)(fa fb:Nat):Nat->Nat->Nat->Nat
 |0,x,y=>x+y
 |_+1,0,y=>y
 |_+1,x+1,0=>x+1
 |f+1,x+1,y+1=>min (1+min (gF P fa fb f x (y+1)) (gF P fa fb f (x+1) y))
   (if la (fa+x)=fa/\lb (fb+y)=fb then gF P fa fb f x y+tn (fa+x) (fb+y)else gF P fa fb f (la (fa+x)-fa) (lb (fb+y)-fb)+P (fa+x) (fb+y))
def gN(P:Nat->Nat->Nat)(fa fb x y:Nat):Nat:=gF la lb tn P fa fb (x+y) x y
end
def Frs(la:Nat->Nat)(fa x:Nat):Prop:=∀k,k<x->fa<=la (fa+k)/\la (fa+k)<=fa+k
theorem Frs.less{la:Nat->Nat}{fa x b:Nat}(h:Frs la fa x)(e:b<=x):Frs la fa b:=λk c=>h k (by omega)
variable {la lb : Nat -> Nat} {tn : Nat -> Nat -> Nat} {P P' : Nat -> Nat -> Nat} {fa fb : Nat}
theorem Ww:∀(f c x y:Nat),Frs la fa x->Frs lb fb y->x+y<=f->x+y<=c->gF la lb tn P fa fb f x y=gF la lb tn P fa fb c x y
 |f,c,0,y,_,_,_,_=>by cases f <;> cases c <;> simp[gF]
 |f,c,x+1,0,_,_,_,_=>by cases f <;> cases c <;> simp[gF]
 |0,c,x+1,y+1,_,_,h,_=>by omega
 |f+1,0,x+1,y+1,_,_,_,h=>by omega
 |f+1,c+1,x+1,y+1,ha,hb,h,h'=>by have a:=ha x (by omega);have b:=hb y (by omega);unfold gF;rw[Ww f c x (y+1) (ha.less (by omega)) hb (by omega) (by omega),Ww f c (x+1) y ha (hb.less (by omega)) (by omega) (by omega),Ww f c x y (ha.less (by omega)) (hb.less (by omega)) (by omega) (by omega),Ww f c (la (fa+x)-fa) (lb (fb+y)-fb) (ha.less (by omega)) (hb.less (by omega)) (by omega) (by omega)]
theorem uv(y:Nat):gN la lb tn P fa fb 0 y=y:=by unfold gN;cases y <;> simp[gF]
theorem FU(x:Nat):gN la lb tn P fa fb x 0=x:=by unfold gN;cases x <;> simp[gF]
theorem EN{x y:Nat}(h:Frs la fa (x+1))(f:Frs lb fb (y+1)):gN la lb tn P fa fb (x+1) (y+1)=min (1+min (gN la lb tn P fa fb x (y+1)) (gN la lb tn P fa fb (x+1) y))
  (if la (fa+x)=fa/\lb (fb+y)=fb then gN la lb tn P fa fb x y+tn (fa+x) (fb+y)else gN la lb tn P fa fb (la (fa+x)-fa) (lb (fb+y)-fb)+P (fa+x) (fb+y)):=by
 have a:=h x (by omega);have b:=f y (by omega);have e:=h.less (Nat.le_succ x);have c:=f.less (Nat.le_succ y);unfold gN;rw[show x+1+(y+1)=(x+y+1)+1 by omega,gF];rw[Ww (x+y+1) (x+(y+1)) x (y+1) e f (by omega) (by omega),Ww (x+y+1) (x+1+y) (x+1) y h c (by omega) (by omega),Ww (x+y+1) (x+y) x y e c (by omega) (by omega),Ww (x+y+1) (la (fa+x)-fa+(lb (fb+y)-fb)) _ _ (h.less (by omega)) (f.less (by omega)) (by omega) (by omega)]
theorem te:∀(n x y:Nat),x+y<=n->Frs la fa x->Frs lb fb y->gN la lb tn P fa fb x y<=x+y
 |n,0,y,_,_,_=>by rw[uv];omega
 |n,x+1,0,_,_,_=>by rw[FU];omega
 |0,x+1,y+1,h,_,_=>by omega
 |n+1,x+1,y+1,h,ha,hb=>by have h1:=te n x (y+1) (by omega) (ha.less (by omega)) hb;rw[EN ha hb];omega
end
section
def Rt(la:Nat->Nat)(n:Nat):Prop:=∀i,i<n->la i<=i/\∀k,k<i->la i<=k->la i<=la k
theorem Rt.frs{la:Nat->Nat}{n i:Nat}(h:Rt la n)(hi:i<n):Frs la (la i) (i+1-la i):=λk c=>by obtain⟨a,b⟩:=h i hi;have:=(h (la i+k) (by omega)).1;by_cases e:la i+k=i;rw[e];omega;exact⟨b _ (by omega) (by omega),this⟩
section
variable (la lb : Nat -> Nat) (tn : Nat -> Nat -> Nat)
def n3(P:Nat->Nat->Nat)(c b:Nat):Nat->Nat->Nat:=λi j=>if la i=la c/\lb j=lb b/\i<=c/\j<=b then gN la lb tn P (la c) (lb b) (i+1-la c) (j+1-lb b)else P i j
end
variable {la lb : Nat -> Nat} {tn : Nat -> Nat -> Nat} {n m : Nat}
def pe(la lb:Nat->Nat)(tn:Nat->Nat->Nat)(e:List Nat)(P:Nat->Nat->Nat)(f:List Nat):Nat->Nat->Nat:=f.foldl (λP c=>e.foldl (λP b=>n3 la lb tn P c b) P) P
end
end Go.X
end
section
namespace Go.X
open Go Go.Lib
section
def aR(t:List Bt×List Int)(i:Nat):Nat:=(bR t.2 i).toNat
def eK(s t:List Bt×List Int)(i j:Nat):Nat:=if oQ s.1 i=oQ t.1 j then 0 else 1
theorem oq{t:List Bt×List Int}(h:km t.2 t.2.length=Ta):Rt (aR t) t.2.length:=λi hi=>by obtain⟨a,b,c⟩:=Jg.1 (Xk.1 h i hi);refine⟨by unfold aR;omega,λk e f=>?_⟩;have:=c k e (by unfold aR at f;omega);unfold aR;omega
def rO(s t:List Bt×List Int):Nat->Nat->Nat:=pe (aR s) (aR t) (eK s t) (Jh t.2) (λ_ _=>0) (Jh s.2)
theorem Ac{la:Nat->Nat}{n:Nat}(h:Rt la n):Frs la 0 n:=λk b=>⟨TK _,by rw[TJ];exact(h k b).1⟩
end
end Go.X
end
section
namespace Go.X
section
abbrev hY:=List Bt×List Int
abbrev oe:=Int×Int
def mV(p:Nat×Nat):oe:=((p.1:Int),(p.2:Int))
def se(e:Int)(s t:hY):Int×Int:=if(zq s&&zq t)=Ta then((gN (aR s) (aR t) (eK s t) (rO s t) 0 0 s.2.length t.2.length:Nat),0)else(0,e)
theorem Ob{t:hY}(h:zq t=Ta):t.1.length=t.2.length/\km t.2 t.2.length=Ta:=by unfold zq at h;simp only[TC,zG]at h;exact⟨h.1.1,h.2⟩
theorem sV{t:hY}(h:zq t=Ta){i:Nat}(hi:i<t.2.length):bR t.2 i=((aR t i:Nat):Int):=by have:=(Jg.1 (Xk.1 (Ob h).2 i hi)).1;unfold aR;omega
end
end Go.X
end
section
namespace Go.X
open Go Go.X Go.Proofs Go.Lib
section
variable {us ws:List Tr}
abbrev jt:Ty:=.pair (.int .i64) (.int .i64)
def Qd(s t:hY):Nat:=gN (aR s) (aR t) (eK s t) (rO s t) 0 0 s.2.length t.2.length
def cR:hY:=([],[])
section
variable (x y : List hY)
def xM:List (Nat×Nat):=mY x.length y.length (λi=>(x.getD i cR).1.length) (λj=>(y.getD j cR).1.length) (λi j=>Qd (x.getD i cR) (y.getD j cR)) 0 0
def eR:Nat->Nat->Nat:=iT x.length y.length (λi=>(x.getD i cR).1.length) (λj=>(y.getD j cR).1.length) (λi j=>Qd (x.getD i cR) (y.getD j cR))
end
def iC(us ws:List Tr):Option (List (Nat×Nat)):=match js us with
 |none=>Te
 |some x=>match js ws with
  |none=>Te
  |some y=>Td (xM x y)
def mr(us ws:List Tr):List oe×Int×Int:=match js us with
 |none=>([],0,6)
 |some x=>match js ws with
  |none=>([],0,6)
  |some y=>((xM x y).map mV,((eR x y 0 0:Nat):Int),0)
theorem Gy{l:List Tr}{x:List hY}(h:js l=Td x):x.length=l.length:=by unfold js at h;split at h;exact nomatch h;rw[<-TY h,Tx]
theorem Xl:∀us ws m,iC us ws=Td m->Rising 0 0 us.length ws.length m:=λus ws m h=>by unfold iC at h;split at h;exact nomatch h;rename_i x c;split at h;exact nomatch h;rename_i y b;rw[<-TY h,<-Gy c,<-Gy b];exact rZ _ _ _
theorem KG{m:List (Nat×Nat)}(h:iC us ws=Td m):∃c,mr us ws=(m.map mV,c,0):=by unfold iC at h;unfold mr;split at h;exact nomatch h;rename_i x e;split at h;exact nomatch h;rename_i y b;rw[<-TY h];exact⟨_,rfl⟩
theorem HR(h:iC us ws=Te):mr us ws=([],0,6):=by unfold iC at h;unfold mr;split at h;rfl;rename_i x b;split at h;rfl;exact nomatch h
abbrev dR:Nat->List Bt->Tr->Tr->List dK:=ik iC
section
variable {gl : Fr}
section
variable {a b : Tr} {p : List Bt} {D : List Bt -> Tr -> Tr -> List dK}
end
end
end
end Go.X
end
section
namespace Go.X
open Go Go.X Go.Proofs Go.RowKit
section
variable {M:Fr} {h h':za} {n i b pb m:Nat} {y:Int} {K:za -> Prop} {Q:Int -> Prop}
theorem AgM.off{h g:za}(ag:AgM M h)(f:∀b c,M b=Td c->g[b]?=h[b]?):AgM M g:=λb c e=>by rw[f b c e];exact ag b c e
theorem oW{x y:Int}(h:y=x+1)(h0:0<=x)(h1:x<(n:Int)):n-y.toNat<n-x.toNat:=by omega
def jS(n:Nat)(f:Nat->Nat):List Value:=(TZ n).map λi=>UB .i64 ((f i:Nat):Int)
theorem Xm(n:Nat)(f:Nat->Nat):(jS n f).length=n:=by simp[jS]
theorem t0{f:Nat->Nat}(h:i<n):(jS n f)[i]?=Td (.int .i64 ((f i:Nat):Int)):=by simp[jS,h]
theorem Lu{f b:Nat->Nat}(e:∀i,i<n->f i=b i):jS n f=jS n b:=UT λi hi=>by rw[e i (Ui.1 hi)]
theorem NQ{f:Nat->Nat}{i x:Nat}:(jS n f).set i (.int .i64 ((x:Nat):Int))=jS n λj=>if j=i then x else f j:=by apply Uf;intro j;rw[List.getElem?_set];by_cases c:j<n;rw[t0 c,t0 c,Xm];by_cases e:i=j;subst e;rw[zA rfl,zA c,zA rfl];rw[zv e,zv λh=>e h.symm];rw[Un (by rw[Xm];omega),Un (by rw[Xm];omega),Xm];split;split;rename_i a b;omega;rfl;rfl
def IntB(h:za)(b n:Nat)(f:Nat->Nat):Prop:=Blk h b (jS n f).toArray
theorem IntB.keep{f:Nat->Nat}(H:IntB h b n f)(k:h'[b]?=h[b]?):IntB h' b n f:=Blk.keep H k
theorem IntB.ext{f c:Nat->Nat}(H:IntB h b n f)(e:∀i,i<n->f i=c i):IntB h b n c:=by unfold IntB;rw[<-Lu e];exact H
theorem IntB.cell{f:Nat->Nat}(H:IntB h b n f)(hi:i<n):zb h ⟨b,i,Te⟩=Td (.int .i64 ((f i:Nat):Int)):= Blk.cell H (by rw[<-Uh];exact t0 hi)
theorem IntB.set{f:Nat->Nat}(H:IntB h b n f){i x:Nat}(hi:i<n)(k:∀h',IntB h' b n (λj=>if j=i then x else f j)->h'.size=h.size->(∀j,j≠b->h'[j]?=h[j]?)->K h'):
  XRunU Tp (Tt 3 (.pointer (Td ⟨b,i,Te⟩)) (.int .i64 ((x:Nat):Int))) h K:=by
 refine j6 DW (by kernel_rfl) H (by rw[List.size_toArray,Xm];exact hi) rfl λg' c m l=>k g' ?_ m l;unfold IntB;rw[<-NQ];have e:(jS n f).toArray.setIfInBounds i (.int .i64 ((x:Nat):Int))=((jS n f).set i (.int .i64 ((x:Nat):Int))).toArray:=by simp
 rw[e]at c;exact c
theorem Mk(n:Nat):UL n (UB .i64 0)=jS n λ_=>0:=by apply Uf;intro i;rw[List.getElem?_replicate];by_cases hi:i<n;rw[zA hi,t0 hi];rfl;rw[zv hi,Un (by rw[Xm];omega)]
theorem vR{t:TypeId}(E:ElemT Tp t 3 (.int .i64 0) 1 8)(c:n<=1000000){K:Value->za->Prop}(b:∀h',h'=h.push (.cells (jS n λ_=>0).toArray 3)->IntB h' h.size n (λ_=>0)->Keep h.size h h'->h'.size=h.size+1->K (aK ⟨Td ⟨h.size,0,Te⟩,n,n⟩) h'):
  XRun Tp (Uc t (.int .i64 (n:Int)) (.int .i64 (n:Int))) h K:=by
 refine re E rfl (by omega) c ?_;rw[Mk];exact b _ rfl (Blk.new _ _ _) (Keep.push _ _ (Tm _)) (To _)
def yP(n m:Nat)(B:Nat->Nat):List Value:=(TZ n).map λi=>aK ⟨Td ⟨B i,0,Te⟩,m,m⟩
structure Mat (h:za) (pb:Nat) (B:Nat->Nat) (n m:Nat) (P:Nat->Nat->Nat):Prop where
 top:Blk h pb (yP n m B).toArray
 row:∀i,i<n->IntB h (B i) m (P i)
 inj:∀i j,i<n->j<n->B i=B j->i=j
 hb:∀i,i<n->pb<B i
theorem Mat.keep{B:Nat->Nat}{P:Nat->Nat->Nat}(H:Mat h pb B n m P)(b:h'[pb]?=h[pb]?)(k:∀i,i<n->h'[B i]?=h[B i]?):Mat h' pb B n m P:= ⟨H.top.keep b,λi hi=>(H.row i hi).keep (k i hi),H.inj,H.hb⟩
theorem Mat.ext{B:Nat->Nat}{P P':Nat->Nat->Nat}(H:Mat h pb B n m P)(e:∀i j,i<n->j<m->P i j=P' i j):Mat h pb B n m P':= ⟨H.top,λi hi=>(H.row i hi).ext λj b=>e i j hi b,H.inj,H.hb⟩
theorem Mat.at_{B:Nat->Nat}{P:Nat->Nat->Nat}(H:Mat h pb B n m P)(hi:i<n):zb h ⟨pb,i,Te⟩=Td (aK ⟨Td ⟨B i,0,Te⟩,m,m⟩):= H.top.cell (by rw[<-Uh];simp[yP,hi])
theorem Mat.set{B:Nat->Nat}{P:Nat->Nat->Nat}(H:Mat h pb B n m P){i j x:Nat}(hi:i<n)(p:j<m)(q:∀h',Mat h' pb B n m (λa b=>if a=i/\b=j then x else P a b)->h'.size=h.size->(∀k,k≠B i->h'[k]?=h[k]?)->K h'):
  XRunU Tp (Tt 3 (.pointer (Td ⟨B i,j,Te⟩)) (.int .i64 ((x:Nat):Int))) h K:=by
 refine(H.row i hi).set p λh' h1 l c=>q h' ⟨H.top.keep (c _ (by have:=H.hb i hi;omega)),λa f=>?_,H.inj,H.hb⟩ l c;by_cases e:a=i;subst e;exact h1.ext λb o=>by by_cases e:b=j;rw[zA e,zA ⟨rfl,e⟩];rw[zv e,zv λh=>e h.2]
 refine((H.row a f).keep (c _ λh=>e (H.inj a i f hi h))).ext λb o=>?_;rw[zv λh=>e h.1]
def Cel(h:za)(lo:Nat)(s:Sl)(x y v:Nat):Prop:=∃(a:Addr) (s2:Sl) (a2:Addr),s.a=Td a/\x<s.len/\zb h (a.add (x*1))=Td (aK s2)/\s2.a=Td a2/\y<s2.len/\zb h (a2.add (y*1))=Td (.int .i64 ((v:Nat):Int))/\a.block<lo/\a2.block<lo
theorem Cel.rd{lo:Nat}{s:Sl}{i j v:Nat}(C:Cel h lo s i j v){x y:Int}(e:x=(i:Int))(b:y=(j:Int))(c:Q ((v:Nat):Int)):
  ∃a:Addr,(s.a=Td a/\0<=x/\x<((s.len:Nat):Int))/\∃s2:Sl,zb h (a.add (x.toNat*1))=Td (aK s2)/\∃a2:Addr,(s2.a=Td a2/\0<=y/\y<((s2.len:Nat):Int))/\∃v:Int,zb h (a2.add (y.toNat*1))=Td (.int .i64 v)/\Q v:=by
 subst e;subst b;obtain⟨a,s2,a2,f,o,k,m,n,l,_,_⟩:=C;exact⟨a,⟨f,by omega,by omega⟩,s2,by rw[Tq];exact k,a2,⟨m,by omega,by omega⟩,_,by rw[Tq];exact l,c⟩
theorem oc(ag:AgM M h){xs:List Int}{s:Sl}(H:Rd M (.row (.int .i64)) xs [aK s]){x:Int}(f:x=(i:Int))(hi:i<xs.length)(e:Q (bR xs i)):
  ∃a:Addr,(s.a=Td a/\0<=x/\x<((s.len:Nat):Int))/\∃v:Int,zb h (a.add (x.toNat*1))=Td (.int .i64 v)/\Q v:=by
 subst f;obtain⟨b,o,j,c⟩:=rP ag H (k:=i) hi;have l:xs[i]=bR xs i:=by unfold bR;rw[TM,Tv hi];rfl
 rw[l]at c;obtain⟨m,_,_⟩:=rowLen H;exact⟨_,⟨j,by omega,by omega⟩,_,by rw[Wh,Tq];exact c,e⟩
theorem Di(ag:AgM M h){xs:List Bt}{s:Sl}(H:Rd M (.row .str) xs [aK s]){x:Int}(e:x=(i:Int))(hi:i<xs.length){Q:Bt->Prop}(b:Q (oQ xs i)):
  ∃a:Addr,(s.a=Td a/\0<=x/\x<((s.len:Nat):Int))/\∃v:Bt,zb h (a.add (x.toNat*1))=Td (.string v)/\Q v:=by
 have c:xs[i]=oQ xs i:=by unfold oQ;rw[TM,Tv hi];rfl
 rw[<-c]at b;exact kR ag H hi e rfl b
end
end Go.X
end
section
namespace Go.X
section
theorem Ks(i:Int)(f:Int)(h:za)(R:Value->za->Prop) (H:XRun Tp (Uc 29 (iV (Tj .i64 ((Tj .i64 (i+1))*(Tj .i64 (f+1))))) (iV (Tj .i64 ((Tj .i64 (i+1))*(Tj .i64 (f+1)))))) h (λb c=>∃d,b=aK d/\let e:=c.push (.cells #[iV (Tj .i64 (f+1)),aK d] 371);R (.pointer (Td ⟨c.size,0,Te⟩)) e)):
  XC Tp 381 #[.int .i64 i,.int .i64 f] h R:=
 XF ⟨[],[],[]⟩ [.tmp 4] 15 Tryz.func381 H
theorem Hf(g0:Option Addr)(i:Int)(j:Int)(h:za)(R:Value->za->Prop) (H:∃b,g0=Td b/\∃c,zb h (Tl b 1)=Td (aK c)/\∃d,g0=Td d/\∃e,zb h (Tl d 0)=Td (iV e)/\∃f,(c.a=Td f/\0<=(Tj .i64 ((Tj .i64 ((Tj .i64 ((Tj .i64 (i+1))*e))+j))+1):Int)/\(Tj .i64 ((Tj .i64 ((Tj .i64 ((Tj .i64 (i+1))*e))+j))+1):Int)<(c.len:Int))/\R (.pointer (Td (f.add ((Tj .i64 ((Tj .i64 ((Tj .i64 ((Tj .i64 (i+1))*e))+j))+1):Int).toNat*1)))) h):
  XC Tp 351 #[.pointer g0,.int .i64 i,.int .i64 j] h R:=
 XF ⟨[],[],[]⟩ [.tmp 6] 22 Tryz.func351 H
theorem Xv(m:Option Addr)(k:Int)(l:Int)(h:za)(R:Value->za->Prop) (H:∃b,m=Td b/\∃c,zb h (Tl (Tl b 0) 0)=Td (aK c)/\∃d,(c.a=Td d/\0<=k/\k<c.len)/\∃e,zb h (d.add (k.toNat*1))=Td (.string e)/\∃f,m=Td f/\∃g,zb h (Tl (Tl f 2) 0)=Td (aK g)/\∃i,(g.a=Td i/\0<=l/\l<g.len)/\∃j,zb h (i.add (l.toNat*1))=Td (.string j)/\((e.toList==j.toList)=Ta->R (iV 0) h)/\((e.toList==j.toList)=Tc->R (iV 1) h)):
  XC Tp 382 #[.pointer m,.int .i64 k,.int .i64 l] h R:=
 XF ⟨[],[],[]⟩ [.tmp 6] 24 Tryz.func382 H
theorem Jy(r0:Option Addr)(be:Int)(bj:Int)(bg:Int)(bi:Int)(h:za)(R:Value->za->Prop) (H:XC Tp 381 #[iV (Tj .i64 (bj-be)),iV (Tj .i64 (bi-bg))] h (λb c=>∃d:Option Addr,b=.pointer d/\∃(e:Int->za->Prop) (f:Int->za->Nat),e be c/\∀g:Int,∀i:za,e g i->((decide (g<bj)=Ta->XC Tp 351 #[.pointer d,iV (Tj .i64 (g-be)),iV (-1)] i (λj k=>∃l:Option Addr,j=.pointer l/\∃m,l=Td m/\XRunU Tp (Tt 3 (.pointer (Td m)) (iV (Tj .i64 ((Tj .i64 (g-be))+1)))) k (λn=>(e (Tj .i64 (g+1)) n/\f (Tj .i64 (g+1)) n<f g i))))/\(decide (g<bj)=Tc->∃(o:Int->za->Prop) (p:Int->za->Nat),o bg i/\∀q:Int,∀r:za,o q r->((decide (q<bi)=Ta->XC Tp 351 #[.pointer d,iV (-1),iV (Tj .i64 (q-bg))] r (λs t=>∃u:Option Addr,s=.pointer u/\∃v,u=Td v/\XRunU Tp (Tt 3 (.pointer (Td v)) (iV (Tj .i64 ((Tj .i64 (q-bg))+1)))) t (λw=>(o (Tj .i64 (q+1)) w/\p (Tj .i64 (q+1)) w<p q r))))/\(decide (q<bi)=Tc->∃(x:Int->za->Prop) (y:Int->za->Nat),x be r/\∀z:Int,∀A:za,x z A->((decide (z<bj)=Ta->∃(B:Int->za->Prop) (C:Int->za->Nat),B bg A/\∀D:Int,∀E:za,B D E->((decide (D<bi)=Ta->∀F:Int->za->Prop,(∀G:Int,∀I:za,(∃J,r0=Td J/\∃L,zb I (Tl (Tl J 0) 1)=Td (aK L)/\∃M,(L.a=Td M/\0<=z/\z<L.len)/\∃N,zb I (M.add (z.toNat*1))=Td (iV N)/\∃O,r0=Td O/\∃P,zb I (Tl (Tl O 2) 1)=Td (aK P)/\∃Q,(P.a=Td Q/\0<=D/\D<P.len)/\∃S,zb I (Q.add (D.toNat*1))=Td (iV S)/\∀T:Int->za->Prop,(∀U:Int,∀V:za,(XC Tp 351 #[.pointer d,iV (Tj .i64 (z-be)),iV (Tj .i64 (D-bg))] V (λW X=>∃Y:Option Addr,W=.pointer Y/\∃Z,Y=Td Z/\XRunU Tp (Tt 3 (.pointer (Td Z)) (iV U)) X (λaa=>(B (Tj .i64 (D+1)) aa/\C (Tj .i64 (D+1)) aa<C D E))))->T U V)->((bif (N==be)then(S==bg)else Tc)=Ta->∀ab:Int->za->Prop,(∀ac:Int,∀ad:za,(∃ae,r0=Td ae/\∃af,zb ad (Tl ae 4)=Td (aK af)/\∃ag,(af.a=Td ag/\0<=z/\z<af.len)/\∃ah,zb ad (ag.add (z.toNat*1))=Td (aK ah)/\∃ai,(ah.a=Td ai/\0<=D/\D<ah.len)/\XRunU Tp (Tt 3 (.pointer (Td (ai.add (D.toNat*1)))) (iV ac)) ad (λaj=>T ac aj))->ab ac ad)->let ak:Int->za->Prop:=λal (am:za)=>(ab (if al<G then al else G) am);XC Tp 351 #[.pointer d,iV (Tj .i64 ((Tj .i64 (z-be))-1)),iV (Tj .i64 ((Tj .i64 (D-bg))-1))] I (λan ao=>∃ap:Option Addr,an=.pointer ap/\∃aq,ap=Td aq/\(∃ar,zb ao aq=Td (iV ar)/\XC Tp 382 #[.pointer r0,iV z,iV D] ao (λau av=>∃aw,au=iV aw/\ak (Tj .i64 (ar+aw)) av))/\(XC Tp 382 #[.pointer r0,iV z,iV D] ao (λax ay=>∃az,ax=iV az/\∃aA,zb ay aq=Td (iV aA)/\ak (Tj .i64 (aA+az)) ay))))/\((bif (N==be)then(S==bg)else Tc)=Tc->∃aB,r0=Td aB/\∃aC,zb I (Tl aB 4)=Td (aK aC)/\∃aD,(aC.a=Td aD/\0<=z/\z<aC.len)/\∃aE,zb I (aD.add (z.toNat*1))=Td (aK aE)/\∃aF,(aE.a=Td aF/\0<=D/\D<aE.len)/\∃aG,zb I (aF.add (D.toNat*1))=Td (iV aG)/\XC Tp 351 #[.pointer d,iV (Tj .i64 ((Tj .i64 (N-be))-1)),iV (Tj .i64 ((Tj .i64 (S-bg))-1))] I (λaH aI=>∃aJ:Option Addr,aH=.pointer aJ/\∃aL,aJ=Td aL/\(aI)[((aF.add (D.toNat*1)):Addr).block]?=(I)[((aF.add (D.toNat*1)):Addr).block]?/\(aI)[((aD.add (z.toNat*1)):Addr).block]?=(I)[((aD.add (z.toNat*1)):Addr).block]?/\(aI)[((Tl aB 4):Addr).block]?=(I)[((Tl aB 4):Addr).block]?/\∃aM,zb aI aL=Td (iV aM)/\(aI)[((aF.add (D.toNat*1)):Addr).block]?=(I)[((aF.add (D.toNat*1)):Addr).block]?/\(aI)[((aD.add (z.toNat*1)):Addr).block]?=(I)[((aD.add (z.toNat*1)):Addr).block]?/\(aI)[((Tl aB 4):Addr).block]?=(I)[((Tl aB 4):Addr).block]?/\T (if(Tj .i64 (aM+aG))<G then Tj .i64 (aM+aG)else G) aI)))->F G I)->let aN:Int->Int->za->Prop:=λaO aP (aQ:za)=>(F (Tj .i64 (1+(if aO<aP then aO else aP))) aQ);let aS:Addr->Int->za->Prop:=λ(aT:Addr) aU (aV:za)=>(∃aW,zb aV aT=Td (iV aW)/\aN aW aU aV);XC Tp 351 #[.pointer d,iV (Tj .i64 ((Tj .i64 (z-be))-1)),iV (Tj .i64 (D-bg))] E (λaX aY=>∃aZ:Option Addr,aX=.pointer aZ/\∃a0,aZ=Td a0/\(∃a1,zb aY a0=Td (iV a1)/\XC Tp 351 #[.pointer d,iV (Tj .i64 (z-be)),iV (Tj .i64 ((Tj .i64 (D-bg))-1))] aY (λa2 a3=>∃a4:Option Addr,a2=.pointer a4/\∃a5,a4=Td a5/\aS a5 a1 a3))/\(XC Tp 351 #[.pointer d,iV (Tj .i64 (z-be)),iV (Tj .i64 ((Tj .i64 (D-bg))-1))] aY (λa6 a7=>∃a8:Option Addr,a6=.pointer a8/\∃a9,a8=Td a9/\(∃ba,zb a7 a0=Td (iV ba)/\aS a9 ba a7)/\(∃bb,zb a7 a9=Td (iV bb)/\∃bc,zb a7 a0=Td (iV bc)/\aN bb bc a7)))))/\(decide (D<bi)=Tc->(x (Tj .i64 (z+1)) E/\y (Tj .i64 (z+1)) E<y z A))))/\(decide (z<bj)=Tc->R (.pointer d) A)))))))):
  XC Tp 350 #[.pointer r0,.int .i64 be,.int .i64 bj,.int .i64 bg,.int .i64 bi] h R:=
 XF ⟨[(20,8000),(22,8000),(17,8000)],[(3,[(12,.one (.int .i64))]),(7,[(13,.one (.int .i64))]),(11,[(14,.one (.int .i64))]),(14,[(15,.one (.int .i64))])],[(18,[(18,.one (.int .i64))]),(23,[(18,.one (.int .i64))]),(21,[(18,.one (.int .i64))])]⟩ [.tmp 10] 175 Tryz.func350 H
theorem RV(b:Sl)(c:Sl)(d:Sl)(e:Sl)(h:za)(R:Value->za->Prop) (H:let f:=h.push (.cells #[aK b,aK c] 31);let g:=f.push (.cells #[aK d,aK e] 31);∃i j,zc g ⟨h.size,0,Te⟩ 0 [aK i,aK j]/\XC Tp 21 #[.agg #[aK i,aK j]] g (λk l=>∃m,k=.bool m/\∃n o,((!(!m))=Ta->zc l ⟨f.size,0,Te⟩ 0 [aK n,aK o])/\∃p:Value->za->Prop,((!(!m))=Ta->XC Tp 21 #[.agg #[aK n,aK o]] l (λq r=>∃s,q=.bool s/\p (.bool s) r))/\((!(!m))=Tc->∃t,p (.bool t) l)/\((!(!m))=Ta->∀u v,p u v->∃w,u=.bool w)/\∀x:Bool,∀y,p (.bool x) y->((bif (!m)then Ta else(!x))=Ta->R (.tuple #[.pointer Te,.bool Tc]) y)/\((bif (!m)then Ta else(!x))=Tc->∃z A,zc y ⟨h.size,0,Te⟩ 0 [aK z,aK A]/\∃B C,zc y ⟨f.size,0,Te⟩ 0 [aK B,aK C]/\∃D,zb y (Tl ⟨h.size,0,Te⟩ 0)=Td (aK D)/\(y)[(⟨f.size,0,Te⟩:Addr).block]?=(y)[(⟨f.size,0,Te⟩:Addr).block]?/\(y)[(⟨h.size,0,Te⟩:Addr).block]?=(y)[(⟨h.size,0,Te⟩:Addr).block]?/\XRun Tp (Uc 74 (iV (D.len:Int)) (iV (D.len:Int))) y (λE F=>∃G,E=aK G/\(F)[(⟨f.size,0,Te⟩:Addr).block]?=(y)[(⟨f.size,0,Te⟩:Addr).block]?/\(F)[(⟨h.size,0,Te⟩:Addr).block]?=(y)[(⟨h.size,0,Te⟩:Addr).block]?/\let I:=F.push (.cells #[aK z,aK A,aK B,aK C,aK G] 368);∃J:Addr,Td ⟨F.size,0,Te⟩=Td J/\∃L,zb I (Tl J 4)=Td (aK L)/\∃(M:Int->za->Prop) (N:Int->za->Nat),M 0 I/\∀O:Int,∀P:za,M O P->((decide (O<L.len)=Ta->∃Q:Addr,Td ⟨F.size,0,Te⟩=Td Q/\∃S,zb P (Tl Q 4)=Td (aK S)/\∃T,zb P (Tl ⟨f.size,0,Te⟩ 0)=Td (aK T)/\(P)[((Tl Q 4):Addr).block]?=(P)[((Tl Q 4):Addr).block]?/\XRun Tp (Uc 29 (iV (T.len:Int)) (iV (T.len:Int))) P (λU V=>∃W,U=aK W/\∃X,(S.a=Td X/\0<=O/\O<S.len)/\(V)[((Tl Q 4):Addr).block]?=(P)[((Tl Q 4):Addr).block]?/\XRunU Tp (Tt 29 (.pointer (Td (X.add (O.toNat*1)))) (aK W)) V (λY=>(M (Tj .i64 (O+1)) Y/\N (Tj .i64 (O+1)) Y<N O P))))/\(decide (O<L.len)=Tc->∃Z aa,zc P ⟨h.size,0,Te⟩ 0 [aK Z,aK aa]/\XC Tp 28 #[.agg #[aK Z,aK aa]] P (λab ac=>∃ad,ab=aK ad/\∃(ae:Int->za->Prop) (af:Int->za->Nat),ae 0 ac/\∀ag:Int,∀ah:za,ae ag ah->((decide (ag<ad.len)=Ta->∃ai,(ad.a=Td ai/\0<=ag/\ag<ad.len)/\∃aj,zb ah (ai.add (ag.toNat*1))=Td (iV aj)/\∃ak al,zc ah ⟨f.size,0,Te⟩ 0 [aK ak,aK al]/\XC Tp 28 #[.agg #[aK ak,aK al]] ah (λam an=>∃ao,am=aK ao/\∃(ap:Int->za->Prop) (aq:Int->za->Nat),ap 0 an/\∀ar:Int,∀au:za,ap ar au->((decide (ar<ao.len)=Ta->∃av,(ao.a=Td av/\0<=ar/\ar<ao.len)/\∃aw,zb au (av.add (ar.toNat*1))=Td (iV aw)/\∃ax,zb au (Tl ⟨h.size,0,Te⟩ 1)=Td (aK ax)/\∃ay,(ax.a=Td ay/\0<=aj/\aj<ax.len)/\∃az,zb au (ay.add (aj.toNat*1))=Td (iV az)/\∃aA,zb au (Tl ⟨f.size,0,Te⟩ 1)=Td (aK aA)/\∃aB,(aA.a=Td aB/\0<=aw/\aw<aA.len)/\∃aC,zb au (aB.add (aw.toNat*1))=Td (iV aC)/\XC Tp 350 #[.pointer (Td ⟨F.size,0,Te⟩),iV az,iV (Tj .i64 (aj+1)),iV aC,iV (Tj .i64 (aw+1))] au (λaD aE=>∃aF:Option Addr,aD=.pointer aF/\(ap (Tj .i64 (ar+1)) aE/\aq (Tj .i64 (ar+1)) aE<aq ar au)))/\(decide (ar<ao.len)=Tc->(ae (Tj .i64 (ag+1)) au/\af (Tj .i64 (ag+1)) au<af ag ah)))))/\(decide (ag<ad.len)=Tc->R (.tuple #[.pointer (Td ⟨F.size,0,Te⟩),.bool Ta]) ah))))))))):
  XC Tp 349 #[.agg #[.slice b.a b.len b.cap,.slice c.a c.len c.cap],.agg #[.slice d.a d.len d.cap,.slice e.a e.len e.cap]] h R:=
 XF ⟨[(3,8000),(7,8000),(15,8000)],[(5,[(33,.one (.int .i64))]),(10,[(50,.one (.int .i64))]),(13,[(57,.one (.int .i64))])],[]⟩ [.tmp 4,.tmp 5] 80 Tryz.func349 H
theorem SV(b:Sl)(c:Sl)(d:Sl)(e:Sl)(h:za)(R:Value->za->Prop) (H:let f:=h.push (.cells #[aK b,aK c] 31);let g:=f.push (.cells #[aK d,aK e] 31);∃i j,zc g ⟨h.size,0,Te⟩ 0 [aK i,aK j]/\∃k l,zc g ⟨f.size,0,Te⟩ 0 [aK k,aK l]/\XC Tp 349 #[.agg #[aK i,aK j],.agg #[aK k,aK l]] g (λm n=>∃o:Option Addr,∃p,m=.tuple #[.pointer o,.bool p]/\((!p)=Ta->R (.tuple #[iV 0,iV 1]) n)/\((!p)=Tc->∃q,zb n (Tl ⟨h.size,0,Te⟩ 0)=Td (aK q)/\∃r,zb n (Tl ⟨f.size,0,Te⟩ 0)=Td (aK r)/\XC Tp 350 #[.pointer o,iV 0,iV (q.len:Int),iV 0,iV (r.len:Int)] n (λs t=>∃u:Option Addr,s=.pointer u/\XC Tp 351 #[.pointer u,iV (Tj .i64 ((q.len:Int)-1)),iV (Tj .i64 ((r.len:Int)-1))] t (λv w=>∃x:Option Addr,v=.pointer x/\∃y,x=Td y/\∃z,zb w y=Td (iV z)/\R (.tuple #[iV z,iV 0]) w))))):
  XC Tp 296 #[.agg #[.slice b.a b.len b.cap,.slice c.a c.len c.cap],.agg #[.slice d.a d.len d.cap,.slice e.a e.len e.cap]] h R:=
 XF ⟨[],[],[]⟩ [.tmp 4,.tmp 5] 35 Tryz.func296 H
end
end Go.X
end
section
namespace Go.X
open Go Go.X Go.Proofs Go.RowKit
section
variable {y A:Nat} {h:za} {K:Value -> za -> Prop}
theorem N9{W x y c f:Nat}(h1:y<W)(h:f<W)(e:x*W+y=c*W+f):x=c/\y=f:=by
 have a:(x*W+y) / W=x:=by rw[VA,Nat.mul_add_div (by omega),Nat.div_eq_of_lt h1,VM]
 have b:(c*W+f) / W=c:=by rw[VA,Nat.mul_add_div (by omega),Nat.div_eq_of_lt h,VM]
 have:x=c:=by rw[<-a,<-b,e]
 subst this;exact⟨rfl,by omega⟩
theorem IW{W A x y:Nat}(b:x<A)(c:y<W):x*W+y<A*W:=by have:(x+1)*W<=A*W:=TX _ b;rw[VB]at this;omega
set_option maxRecDepth 100000 in
theorem OB{A B:Nat}(hA:A<=900)(n:B<=900) (l:∀g,IntB g h.size ((A+1)*(B+1)) (λ_=>0)->Blk g (h.size+1) #[.int .i64 ((B+1:Nat):Int),aK ⟨Td ⟨h.size,0,Te⟩,(A+1)*(B+1),(A+1)*(B+1)⟩]->Keep h.size h g->g.size=h.size+2->K (.pointer (Td ⟨h.size+1,0,Te⟩)) g):
  XC Tp 381 #[.int .i64 (A:Int),.int .i64 (B:Int)] h K:=by
 apply Ks;have m:(A+1)*(B+1)<=901*901:=Vq (by omega) (by omega);have j:Tj .i64 ((Tj .i64 ((A:Int)+1))*(Tj .i64 ((B:Int)+1)))=(((A+1)*(B+1):Nat):Int):=by rw[zl (by omega),zl (by omega),<-Int.natCast_mul,wrap64 (by omega) (by omega)]
 rw[j,zl (by omega:B<9223372036854775807)];refine vR (m3:ElemT _ _ _ _ 1 8) (by omega) λh1 _ i f k=>⟨_,rfl,?_⟩;intro b;have k2:Keep h1.size h1 b:=Keep.push _ _ (Tm _);have e:Blk b h1.size #[.int .i64 ((B+1:Nat):Int),aK ⟨Td ⟨h.size,0,Te⟩,(A+1)*(B+1),(A+1)*(B+1)⟩]:=Blk.new _ _ _;have c:b.size=h1.size+1:=To _;clear_value b;rw[k]at e c ⊢;exact l b (i.keep (k2.get _ (by omega))) e (f.trans k2 (by omega)) c
set_option maxRecDepth 100000 in
theorem GY{gb cb W N:Nat}(B:Blk h gb #[.int .i64 (W:Int),aK ⟨Td ⟨cb,0,Te⟩,N,N⟩]){i j:Int}{x y:Nat}(hi:i=(x:Int)-1)(f:j=(y:Int)-1)(q:x*W+y<N)(p:N<=1000000)(b:x<=100000)(c:W<=100000)
  (l:K (.pointer (Td ⟨cb,x*W+y,Te⟩)) h):XC Tp 351 #[.pointer (Td ⟨gb,0,Te⟩),.int .i64 i,.int .i64 j] h K:=by
 apply Hf;have m:x*W<=100000*100000:=Vq b c;have e:Tj .i64 ((Tj .i64 ((Tj .i64 ((Tj .i64 (i+1))*(W:Int)))+j))+1)=((x*W+y:Nat):Int):=by rw[hi,f,wrap64 (n:=(x:Int)-1+1) (by omega) (by omega),show(x:Int)-1+1=(x:Int)by omega,<-Int.natCast_mul,wrap64 (n:=((x*W:Nat):Int)) (by omega) (by omega),wrap64 (n:=((x*W:Nat):Int)+((y:Int)-1)) (by omega) (by omega),wrap64 (by omega) (by omega)];omega
 refine⟨_,rfl,_,B.cellAdd (o:=0) (k:=1) rfl,_,rfl,_,B.cellAdd (o:=0) (k:=0) rfl,?_⟩;rw[e];refine⟨_,⟨rfl,by omega,by show((x*W+y:Nat):Int)<(N:Int);omega⟩,?_⟩;rw[Wh,Tq,TJ,Uj];exact l
structure TwoT (M:Fr) (s t:hY) (a1 a2 b1 b2:Sl):Prop where
 sl:Rd M (.row .str) s.1 [aK a1]
 si:Rd M (.row (.int .i64)) s.2 [aK a2]
 tl:Rd M (.row .str) t.1 [aK b1]
 ti:Rd M (.row (.int .i64)) t.2 [aK b2]
 rs:zq s=Ta
 rt:zq t=Ta
set_option maxRecDepth 100000 in
theorem E8{M:Fr}{s t:hY}{a1 a2 b1 b2 ps:Sl}{e:Nat}(ag:AgM M h)(T:TwoT M s t a1 a2 b1 b2)(B:Blk h e #[aK a1,aK a2,aK b1,aK b2,aK ps]){i j:Nat}(hi:i<s.1.length)(f:j<t.1.length)
  (b:K (.int .i64 ((eK s t i j:Nat):Int)) h):XC Tp 382 #[.pointer (Td ⟨e,0,Te⟩),.int .i64 (i:Int),.int .i64 (j:Int)] h K:=by
 apply Xv;refine⟨_,rfl,a1,B.cellAdd (o:=0) (k:=0) rfl,Di ag T.sl rfl hi ⟨_,rfl,b1,B.cellAdd (o:=0) (k:=2) rfl,Di ag T.tl rfl f ?_⟩⟩;unfold eK at b;rw[Nl];refine⟨λc=>?_,λc=>?_⟩;rw[zA (zH c)]at b;exact b;rw[zv (zI c)]at b;exact b
end
end Go.X
end
