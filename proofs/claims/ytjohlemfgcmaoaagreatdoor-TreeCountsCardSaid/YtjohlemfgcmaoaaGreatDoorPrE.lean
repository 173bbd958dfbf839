/- A part of the proof: nothing is stated here for its own sake. -/
import Derived.Test.YtjohlemfgcmaoaaGreatDoorPrD
import Derived.Sort.KeysCollected
import Derived.Sort.OwnSorted
open _root_.Go.Addr renaming add->Ad
open _root_.Array renaming getD_eq_getD_getElem?->BM,getElem?_append_left->CU,getElem?_eq_getElem->Bo,getElem?_eq_some_iff->An,getElem?_push->Cd,getElem?_setIfInBounds_ne->AB,getElem?_setIfInBounds_self_of_lt->CB,getElem?_toList->Cj,push->CH,replicate->BN,size->AU,size_push->Aj,size_setIfInBounds->AW
open _root_.Bool renaming and_eq_false_iff->CJ,and_eq_true->Ap,eq_iff_iff->AM,false_or->D7,or_eq_true->BO,true_and->Cs
open _root_.Go.Builtin renaming append_->Au,len_->C5
open _root_.Go.Code renaming region->Ek
open _root_.Go.Deferred renaming ofValue->DX
open _root_.Go.Instr renaming entry->DO,keyThatStays->Dk,mapUpdate->Cv,next->Di,range->D9,storeAt->Af
open _root_.Int renaming toNat_natCast->Ai
open _root_.Go.IntKind renaming wrap->Aa
open _root_.List renaming all_eq_true->Av,all_map->Eh,append_assoc->AF,append_nil->AQ,cons_append->AD,drop_drop->BU,drop_eq_getElem_cons->Bw,drop_eq_nil_of_le->Br,drop_left->DR,drop_zero->BZ,eq_nil_of_length_eq_zero->AN,exists_cons_of_ne_nil->Bq,ext_getElem?->Bu,filter_cons->Cr,getElem?_eq_getElem->Al,getElem?_eq_none->BL,getElem?_eq_some_iff->AY,getElem?_map->Bn,getElem?_modify->BJ,getElem?_take->AJ,getElem_map->C4,getElem_mem->AE,length->Ct,length_append->Ag,length_cons->Aq,length_drop->AH,length_eq_zero_iff->Bi,length_map->Ao,length_nil->AR,length_pos_iff->Bv,length_replicate->CI,length_singleton->CK,length_take->AK,map_append->Bf,map_congr_left->CX,map_cons->Ar,map_fst_zip->D4,map_id->Eu,map_map->A8,map_nil->Cp,mem_append->Ay,mem_cons->Ah,mem_cons_of_mem->Ae,mem_cons_self->Am,mem_flatMap->Cw,mem_map->AL,mem_range->A1,mem_singleton->A4,nil_append->A5,nodup_append->CV,nodup_cons->Ba,nodup_nil->Dm,not_mem_nil->Dg,range->Bl,take_append_drop->Cb,take_append_of_le_length->C8,take_left->CQ,take_length->A3,take_of_length_le->BG,take_succ_eq_append_getElem->Aw,take_take->Ec,zip_cons_cons->B0
open _root_.List.cons renaming injEq->BV
open _root_.Nat renaming add_assoc->CP,add_mul->Cg,add_sub_cancel_left->Db,add_zero->C7,eq_of_beq_eq_true->Ak,le_of_ble_eq_true->Ca,le_of_lt->DZ,le_refl->Ab,le_trans->Ck,lt_of_lt_of_le->Dh,lt_or_ge->A6,min_eq_left->CE,one_mul->DU,strongRecOn->DF,sub_self->D3,succ_mul->C6,zero_add->AI,zero_le->AX
open _root_.Go.Next renaming value->Dr
open _root_.Option renaming map_some->Ep
open _root_.Option.some renaming inj->Az
open _root_.Go.Region renaming wanted->Cc
open _root_.Go.Proofs.Tryz renaming isAgg0->CZ,isAgg3->Cx,isAgg4->CC,isAgg5->Cy,isAgg9->Cz,prog->A0,sizeOf0->CN,sizeOf3->Cm,sizeOf4->Cu,sizeOf5->Cn,sizeOf9->Co,underlying0->Cf,underlying3->BH,underlying4->BI,underlying5->Bz,underlying9->BC,zeroValue0->Cq,zeroValue3->BP,zeroValue4->BW,zeroValue5->BQ,zeroValue9->BR
open _root_.UInt8 renaming ofNat->Bb
open _root_.Go.Value renaming int->Bm,string->AZ
open _root_.Go.Value.slice renaming injEq->AO
set_option linter.unusedVariables false
set_option maxRecDepth 100000
namespace Go.X
end Go.X
namespace Go.Proofs
end Go.Proofs
open Go Go.X Go.Proofs
open _root_.Bool renaming true->Ta,false->Tc
open _root_.Option renaming some->Td,none->Te
section
namespace Go.X
section
variable {P:Program} {n m id:Nat} {ro:Option Nat} {e:Env} {h:zb} {a:Act}
theorem zou{P:Program}{ops:Array Oper}{D:List Deferred}{K:Act->World->Prop}:∀(l:List Oper) (a:Act) (w:World),wpList P ops (zhf K) l a w->wpList P ops (zhf λc w1=>∃a0,c=Xq D a0/\K a0 w1) l (Xq D a) w
 |[],a,w,h=>⟨a,rfl,h⟩
 |o::l,a,w,h=>by
  unfold wpList at h ⊢;have f:yielded ops (Xq D a).tmps=yielded ops a.tmps:=rfl;rw[f];by_cases b:Cc o (yielded ops a.tmps)=Ta;rw[if_pos b]at h ⊢;rcases h with h|⟨_,h⟩;exact .inl (Oper.wp_mono (λc w1 ⟨a0,e,i⟩=>by rw[e];exact zou l a0 w1 i) (qc1 h));exact(Q7 h).elim;rw[if_neg b]at h ⊢;have k:(Xq D a).put o.dst undef=Xq D (a.put o.dst undef):=by cases o.dst <;> rfl
  rw[k];exact zou l _ w h
def qj4(P:Program)(n:Nat)(ops:Array Oper)(b:Bool)(K:Env->zb->Prop)(e:Env)(h:zb):Prop:=
 bif ops.toList.all xu then(bif b then(bif zp7 ops then wI P n h Ta ops (λe'=>wB7 P n ops h K Ta (hvL ops).length [] (hvL ops) e' h) (Y7 [] (Y6 ops [] ops.size) ops.size) e else False)else wR P n ops K ops.toList e h)else False
theorem zmq(t:P.follows .mixedOrders=Ta){D:List Deferred}{ops:Array Oper}{c:Bool}{K:Env->zb->Prop}(H:qj4 P n ops c K e h)(B:World)(d:Nat)(r:Sat n e a){Q:Exit->Act->World->Prop}
  (w:∀e' a' b h',Sat n e' a'->K e' h'->Q .normal (Xq D a') (mk B b h')):(Ek id ops c).wpIn (rf ro) m P Q (Xq D a) (mk B d h):=by
 unfold qj4 at H;cases hd:ops.toList.all xu with
 |false=>rw[hd]at H;exact H.elim
 |true=>
  rw[hd,cond_true]at H;have fin:∀k w1,(∃a0,k=Xq D a0/\∃e' b h',w1=mk B b h'/\Sat n e' a0/\K e' h')->Q .normal k w1:=by rintro k w1 ⟨a0,rfl,e',b,h',rfl,f,l⟩;exact w e' a0 b h' f l
  cases c with
  |false=>refine wpIn_region_list ?_;rw[<-AQ ops.toList];exact zjx _ [] _ _ hd (zou (K:=λa0 w1=>∃e' b h',w1=mk B b h'/\Sat n e' a0/\K e' h') _ _ _ (zdj B _ _ _ _ _ H r λe' a' b h' f l p=>⟨e',b,h',rfl,f,p⟩)) fin
  |true=>
   rw[cond_true]at H;cases hB:zp7 ops with
   |false=>rw[hB]at H;exact H.elim
   |true=>
    rw[hB]at H;have h0:wpAny P .any ops (zhf λa0 w1=>∃e' b h',w1=mk B b h'/\Sat n e' a0/\K e' h') ops.size (BN ops.size Tc) a (mk B (d+1) h):= zlo B hB H r (λe' a' b h' f l p=>⟨e',b,h',rfl,f,p⟩) (d+1);refine wpIn_mono (wpIn_region_any (Q:=zhf λk w1=>∃a0,k=Xq D a0/\∃e' b h',w1=mk B b h'/\Sat n e' a0/\K e' h') t (zxu (λi o u=>?_) _ _ _ _ (zos _ _ _ _ h0))) λx a' w' q=>?_;rw[Av]at hd;obtain⟨s,e⟩:=An.1 u;exact hd o (by rw[<-e];simp);cases x with
    |normal=>exact fin _ _ q
    |_=>exact q.elim
def WG(P:Program)(n:Nat):Code->zb1->Env->zb->Prop
 |.skip,Q,e,h=>Q .normal e h
 |.ret,Q,e,h=>Q .ret e h
 |.exit id,Q,e,h=>Q (.exit id) e h
 |.region _ ops draw,Q,e,h=>qj4 P n ops draw (λe h=>Q .normal e h) e h
 |.seq x y,Q,e,h=>WG P n x (ztz (λe h=>WG P n y Q e h) Q) e h
 |.cond c x y,Q,e,h=>match Xt e [] c with
  |some (.bool b)=>(b=Ta->WG P n x Q e h)/\(b=Tc->WG P n y Q e h)
  |_=>False
 |.block id x,Q,e,h=>WG P n x (zih id Q) e h
 |_,_,_,_=>False
def qfz(n:Nat)(B:World)(D:List Deferred)(Q:zb1):Exit->Act->World->Prop:=
 λx a w=>∃e d h a0,a=Xq D a0/\w=mk B d h/\Sat n e a0/\Q x e h
theorem qit{B:World}{D:List Deferred}{Q:zb1}:∀ex a w,qfz n B D (zih id Q) ex a w->Exit.inBlock id (qfz n B D Q) ex a w:=by
 rintro ex a1 w1 ⟨f,e,h1,a0,rfl,rfl,s1,b⟩;cases ex with
 |exit i=>simp only[zih]at b;simp only[Exit.inBlock];by_cases c:Nat.beq i id=Ta;rw[if_pos (Ak c)];simp only[c,cond_true]at b;exact⟨f,e,h1,a0,rfl,rfl,s1,b⟩;rw[if_neg (λh=>c (by rw[h];simp))];simp only[c,cond_false]at b;exact⟨f,e,h1,a0,rfl,rfl,s1,b⟩
 |_=>exact⟨f,e,h1,a0,rfl,rfl,s1,b⟩
theorem zxw(s:P.follows .mixedOrders=Ta){D:List Deferred}:∀(c:Code) (Q:zb1) (e:Env) (h:zb),WG P n c Q e h ->
  ∀(B:World) (d:Nat) (a:Act),Sat n e a->c.wpIn (rf ro) m P (qfz n B D Q) (Xq D a) (mk B d h):=by
 intro c;induction c with
 |skip=>exact λQ e h H B d a f=>wpIn_skip ⟨e,d,h,a,rfl,rfl,f,H⟩
 |ret=>exact λQ e h H B d a f=>wpIn_ret ⟨e,d,h,a,rfl,rfl,f,H⟩
 |exit id=>exact λQ e h H B d a f=>wpIn_exit ⟨e,d,h,a,rfl,rfl,f,H⟩
 |region id ops q=>exact λQ e h H B d a f=>zmq s H B d f λe' a' w h' l u=>⟨e',w,h',a',rfl,rfl,l,u⟩
 |seq x y k i=>
  intro Q e h H B d a f;refine wpIn_seq (wpIn_mono (k _ _ _ H B d a f) ?_);rintro ex a1 w1 ⟨A,r,h1,a0,rfl,rfl,s1,l⟩;cases ex with
  |normal=>exact i _ _ _ l B r a0 s1
  |_=>exact⟨A,r,h1,a0,rfl,rfl,s1,l⟩
 |cond c x y k i=>intro Q e h H B d a f;simp only[WG]at H;split at H;rename_i b z;have t:(Xq D a).eval c=.bool b:=qn f (c:=[]) trivial z;exact wpIn_cond_split t (λo=>k _ _ _ (H.1 o) B d a f) (λp=>i _ _ _ (H.2 p) B d a f);exact H.elim
 |block id x C=>intro Q e h H B d a f;exact wpIn_block (wpIn_mono (C _ _ _ H B d a f) qit)
 |_=>exact λQ e h H=>H.elim
abbrev zpx:=LoopState->Option Code->Loop
def qmp(rec:zpx)(l:Nat)(K:Value->zb->Prop):zb1
 |.normal,_,h=>h[l]?=Td (.loop (rec .busy Te))/\K (.bool Ta) (h.setIfInBounds l (.loop (rec .ready Te)))
 |.ret,_,h=>h[l]?=Td (.loop (rec .busy Te))/\K (.bool Tc) (h.setIfInBounds l (.loop (rec .done (Td .ret))))
 |_,_,_=>False
def zao(P:Program)(n:Nat)(b bd:Code)(rec:zpx)(l:Nat)(K:Value->zb->Prop)(e:Env)(h:zb):Prop:=
 WG P n b (λx c h1=>match x with
  |.normal=>h1[l]?=Td (.loop (rec .ready Te))/\WG P n bd (qmp rec l K) c (h1.setIfInBounds l (.loop (rec .busy Te)))
  |_=>False) e h
theorem zxx(a:Act):Xq [] a=a:=by unfold Xq;rw[AQ]
def qf0:Env->List Nat->List Value->Env
 |e,p::ps,v::vs=>qf0 (putO e (Td p) [] v) ps vs
 |e,_,_=>e
def z0l:Array Value->List Nat->List Value->Array Value
 |t,p::ps,v::vs=>z0l (t.setIfInBounds p v) ps vs
 |t,_,_=>t
theorem zmr:∀(ps:List Nat) (vs:List Value) (t:Array Value),(ps.zip vs).foldl (λ(t:Array Value) (x:Tmp×Value)=>t.setIfInBounds x.1 x.2) t=z0l t ps vs
 |[],_,_=>rfl
 |_::_,[],_=>rfl
 |p::ps,v::vs,t=>zmr ps vs (t.setIfInBounds p v)
theorem zsf{n:Nat}:∀(ps:List Nat) (vs:List Value) (e:Env) (a:Act),(∀p∈ps,jh n [] (Td p)=Ta)->Sat n e a->Sat n (qf0 e ps vs) { tmps:=z0l a.tmps ps vs,defers:=[] }
 |[],vs,e,a,_,hs=>by have:=hs.defers;cases a;simp only at this;subst this;exact hs
 |p::ps,[],e,a,_,hs=>by have:=hs.defers;cases a;simp only at this;subst this;exact hs
 |p::ps,v::vs,e,a,h,hs=>zsf ps vs _ (a.put (Td p) v) (λq b=>h q (Ae _ b)) (hs.putO (h p Am) (λ_=>rfl) (λc=>absurd trivial c))
theorem qc2(C:P.follows .mixedOrders=Ta){n l:Nat}{ps:List Nat}{f bd:Code}{fn:FuncId}{D:Nat}(u:∀p∈ps,jh n [] (Td p)=Ta) {rec:zpx} (b:rec=λst L=>{ state:=st,pending:=L,fn:=fn,tmps:=a.tmps,params:=ps.toArray,assign:=f,body:=bd,defers:=D }) {vs:List Value} (Q:ps.length=vs.length) (N:Sat n e a) (S:h[l]?=Td (.loop (rec .ready Te))) {K:Value->zb->Prop}
  (H:zao P n f bd rec l K (qf0 e ps vs) h):YX P l vs.toArray h K:=by
 intro m B d;have s:(mk B d h).heap[l]?=Td (.loop (rec .ready Te)):=S;have E:=run_yield (P:=P) (w:=mk B d h) (args:=vs.toArray) s (by rw[b];show vs.toArray.size=ps.toArray.size;simp[Q]);refine⟨_,_,_,_,E,?_⟩;rw[b]at E ⊢;have s2:=zsf ps vs e a u N;have key:RoundIn (rf Te) m P l fn (z0l a.tmps ps vs) f bd (mk B d h) (λe w'=>∃v V h',e=.returned v/\w'=mk B V h'/\K v h'):=by
  refine roundIn_of_wpIn (F:=rf Te) trivial ?_;have O:(rf Te).inRound l=rf (Td l):=rfl;rw[O,<-zxx { tmps:=z0l a.tmps ps vs,defers:=[] }];refine wpIn_mono (zxw C f _ _ _ H B d _ s2) ?_;rintro ex a1 w1 ⟨e1,G,h1,a0,rfl,rfl,s1,I⟩;cases ex with
  |normal=>
   obtain⟨U,J⟩:=I;have A:(mk B G h1).heap[l]?=Td (.loop (rec .ready Te)):=U;have Y:=run_beginRound (P:=P) A (by rw[b]);refine⟨_,Y,?_⟩;have o:({ rec .ready Te with state:=.busy }:Loop)=rec .busy Te:=by rw[b]
   rw[o];refine wpIn_mono (zxw C bd _ _ _ J B G a0 s1) ?_;rintro ex a2 w2 ⟨Z,d2,q,a3,rfl,rfl,s3,z⟩;cases ex with
   |normal=>
    obtain⟨r,y⟩:=z;have i:(mk B d2 q).heap[l]?=Td (.loop (rec .busy Te)):=r;have c:=run_endRound (P:=P) Te i;refine⟨_,_,c,.bool Ta,d2,q.setIfInBounds l (.loop (rec .ready Te)),rfl,?_,y⟩;have k:({ rec .busy Te with state:=if(Te:Option Code).isNone then .ready else .done,pending:=Te }:Loop)=rec .ready Te:=by rw[b];rfl
    rw[k];rfl
   |ret=>
    obtain⟨r,y⟩:=z;have i:(mk B d2 q).heap[l]?=Td (.loop (rec .busy Te)):=r;have c:=run_endRound (P:=P) (Td .ret) i;refine⟨_,_,c,.bool Tc,d2,q.setIfInBounds l (.loop (rec .done (Td .ret))),rfl,?_,y⟩;have k:({ rec .busy Te with state:=if(Td Code.ret:Option Code).isNone then .ready else .done,pending:=Td .ret }:Loop)=rec .done (Td .ret):=by rw[b];rfl
    rw[k];rfl
   |_=>exact z.elim
  |_=>exact I.elim
 show RoundIn (rf Te) m P l fn (Array.foldl (λ(t:Array Value) (x:Tmp×Value)=>t.setIfInBounds x.1 x.2) a.tmps (ps.toArray.zip vs.toArray)) _ _ _ _;have M:Array.foldl (λ(t:Array Value) (x:Tmp×Value)=>t.setIfInBounds x.1 x.2) a.tmps (ps.toArray.zip vs.toArray)=z0l a.tmps ps vs:=by rw[<-zmr];simp
 rw[M];exact key
def rfA:Code->Code
 |.rangeFunc _ _ x _=>x
 |.seq x y=>match rfA x with
  |.skip=>rfA y
  |c=>c
 |.block _ x=>rfA x
 |_=>.skip
def rfB:Code->Code
 |.rangeFunc _ _ _ y=>y
 |.seq x y=>match rfB x with
  |.skip=>rfB y
  |c=>c
 |.block _ x=>rfB x
 |_=>.skip
def marks(c:List Nat):List Deferred:=c.map λb=>{ target:=.collected b,args:=#[] }
abbrev zjz:=Exit->List Nat->Env->zb->Prop
def qll(K:List Nat->Env->zb->Prop)(Q:zjz):zjz
 |.normal,ds,e,h=>K ds e h
 |x,ds,e,h=>Q x ds e h
def qc3(id:Nat)(Q:zjz):zjz
 |.exit i,ds,e,h=>bif Nat.beq i id then Q .normal ds e h else Q (.exit i) ds e h
 |x,ds,e,h=>Q x ds e h
def zj0(rec:zpx)(l:Nat)(N R:zb->Prop)(h:zb):Prop:=
 (h[l]?=Td (.loop (rec .ready Te))/\N (h.setIfInBounds l (.loop (rec .exhausted Te))))\/(h[l]?=Td (.loop (rec .done (Td .ret)))/\R (h.setIfInBounds l (.loop (rec .exhausted (Td .ret)))))
def qc4(P:Program)(n:Nat)(i l:Nat)(b bd:Code)(v:Value)(Q:zjz)(m:List Nat)(e:Env)(h:zb):Prop:=
 bif jh n [] (Td i)&&jh n [] (Td l)then(∃g lb,v=.func (.func g) #[] lb/\zh P g=Ta/\∀rec:zpx,
  (∀{o k:Value} {f:zb} {K:Value->zb->Prop},f[h.size+1]?=Td (.loop (rec .ready Te))->zao P n b bd rec (h.size+1) K (putO (putO e (Td i) [] o) (Td l) [] k) f->YX P (h.size+1) #[o,k] f K) ->
  XCI P g (#[.func (.yield (h.size+1)) #[] #[]]++lb) ((h.push (.deferred (Td []))).push (.loop (rec .ready Te))) λ_ p=>zj0 rec (h.size+1) (λc=>Q .normal (h.size::m) e c) (λc=>Q .ret (h.size::m) e c) p)else False
def z6l(P:Program)(n:Nat)(i:Nat)(b bd:Code)(v:Value)(Q:zjz)(k:List Nat)(e:Env)(h:zb):Prop:=
 bif jh n [] (Td i)then(∃g lb,v=.func (.func g) #[] lb/\zh P g=Ta/\∀rec:zpx,
  (∀{l:Value} {f:zb} {K:Value->zb->Prop},f[h.size+1]?=Td (.loop (rec .ready Te))->zao P n b bd rec (h.size+1) K (putO e (Td i) [] l) f->YX P (h.size+1) #[l] f K) ->
  XCI P g (#[.func (.yield (h.size+1)) #[] #[]]++lb) ((h.push (.deferred (Td []))).push (.loop (rec .ready Te))) λ_ m=>zj0 rec (h.size+1) (λc=>Q .normal (h.size::k) e c) (λc=>Q .ret (h.size::k) e c) m)else False
def WD(P:Program)(n:Nat):Code->zjz->List Nat->Env->zb->Prop
 |.skip,Q,f,e,h=>Q .normal f e h
 |.ret,Q,f,e,h=>Q .ret f e h
 |.exit id,Q,f,e,h=>Q (.exit id) f e h
 |.region _ ops draw,Q,f,e,h=>qj4 P n ops draw (λe h=>Q .normal f e h) e h
 |.seq x y,Q,f,e,h=>WD P n x (qll (λf e h=>WD P n y Q f e h) Q) f e h
 |.cond c x y,Q,f,e,h=>match Xt e [] c with
  |some (.bool b)=>(b=Ta->WD P n x Q f e h)/\(b=Tc->WD P n y Q f e h)
  |_=>False
 |.block id x,Q,f,e,h=>WD P n x (qc3 id Q) f e h
 |.rangeFunc g ps asg bd,Q,f,e,h=>match Xt e [] g,ps.toList with
  |some v,[p1,p2]=>qc4 P n p1 p2 asg bd v Q f e h
  |some v,[p1]=>z6l P n p1 asg bd v Q f e h
  |_,_=>False
 |_,_,_,_,_=>False
def qiu(n:Nat)(B:World)(Q:zjz):Exit->Act->World->Prop:=
 λx a w=>∃b e d h a0,a=Xq (marks b) a0/\w=mk B d h/\Sat n e a0/\Q x b e h
theorem zgt(A:1<=m){ps:Array Nat}{f bd:Code}{o:FuncId}{lb:Array Value}(E:zh P o=Ta){g:Operand}{Q:zjz}{k:List Nat}(w:Sat n e a)(D:(Xq (marks k) a).eval g=.func (.func o) #[] lb) (G:∀fn (rec:zpx),rec=(λst u=>{ state:=st,pending:=u,fn:=fn,tmps:=a.tmps,params:=ps,assign:=f,body:=bd,defers:=h.size }) -> XCI P o (#[.func (.yield (h.size+1)) #[] #[]]++lb) ((h.push (.deferred (Td []))).push (.loop (rec .ready Te))) λ_ r=>zj0 rec (h.size+1) (λy=>Q .normal (h.size::k) e y) (λy=>Q .ret (h.size::k) e y) r)
  (B:World) (d:Nat):(Code.rangeFunc g ps f bd).wpIn (rf Te) m P (qiu n B Q) (Xq (marks k) a) (mk B d h):=by
 refine wpIn_rangeFunc λp _=>?_;obtain⟨rec,b⟩:∃rec:zpx,rec=λst u=>{ state:=st,pending:=u,fn:=p,tmps:=a.tmps,params:=ps,assign:=f,body:=bd,defers:=h.size }:=⟨_,rfl⟩;have x:=G p rec b;refine⟨h.size+1,[{ target:=.collected h.size,args:=#[] }],mk B d ((h.push (.deferred (Td []))).push (.loop (rec .ready Te))),{ target:=.fn (.func o) lb,args:=#[.func (.yield (h.size+1)) #[] #[]] },mk B d ((h.push (.deferred (Td []))).push (.loop (rec .ready Te))),o,#[.func (.yield (h.size+1)) #[] #[]]++lb,mk B d ((h.push (.deferred (Td []))).push (.loop (rec .ready Te))),?_,?_,λ_ _=>trivial,?_,λ_=>A,?_⟩;rw[b];exact run_enterLoop_outer _ _ _ _ _;simp only[resolve,D];simp[go_sem,DX];simp only[invoke];exact Xx E _ _;have H:({ Xq (marks k) a with defers:=[{ target:=.collected h.size,args:=#[] }]++(Xq (marks k) a).defers }:Act)=Xq (marks (h.size::k)) a:=by unfold Xq marks;simp only[w.defers];rfl
 rw[H];refine CallsIn.mono (x (m-1) B d) ?_;rintro e' w' ⟨v,s,r,rfl,rfl,l⟩;rcases l with⟨i,F⟩|⟨i,I⟩;have c:(mk B s r).heap[h.size+1]?=Td (.loop (rec .ready Te)):=i;have q:=run_endLoop (P:=P) c (by rw[b];intro z;cases z);have C:({ rec .ready Te with state:=.exhausted }:Loop)=rec .exhausted Te:=by rw[b]
 have t:(rec .ready Te).pending=Te:=by rw[b]
 rw[C,t]at q;exact⟨Te,_,q,_,e,s,_,a,rfl,rfl,w,F⟩;have c:(mk B s r).heap[h.size+1]?=Td (.loop (rec .done (Td .ret))):=i;have q:=run_endLoop (P:=P) c (by rw[b];intro z;cases z);have C:({ rec .done (Td .ret)with state:=.exhausted }:Loop)=rec .exhausted (Td .ret):=by rw[b]
 have t:(rec .done (Td .ret)).pending=Td .ret:=by rw[b]
 rw[C,t]at q;exact⟨Td .ret,_,q,wpIn_ret ⟨_,e,s,_,a,rfl,rfl,w,I⟩⟩
theorem qbg(J:P.follows .mixedOrders=Ta)(E:1<=m):∀(c:Code) (Q:zjz) (l:List Nat) (e:Env) (h:zb),WD P n c Q l e h ->
  ∀(B:World) (d:Nat) (a:Act),Sat n e a->c.wpIn (rf Te) m P (qiu n B Q) (Xq (marks l) a) (mk B d h):=by
 intro c;induction c with
 |skip=>exact λQ l e h H B d a f=>wpIn_skip ⟨l,e,d,h,a,rfl,rfl,f,H⟩
 |ret=>exact λQ l e h H B d a f=>wpIn_ret ⟨l,e,d,h,a,rfl,rfl,f,H⟩
 |exit id=>exact λQ l e h H B d a f=>wpIn_exit ⟨l,e,d,h,a,rfl,rfl,f,H⟩
 |region id ops Y=>exact λQ l e h H B d a f=>zmq J H B d f λe' a' d' h' q q2=>⟨l,e',d',h',a',rfl,rfl,q,q2⟩
 |seq x y A w=>
  intro Q l e h H B d a f;refine wpIn_seq (wpIn_mono (A _ _ _ _ H B d a f) ?_);rintro ex a1 w1 ⟨s,F,C,h1,a0,rfl,rfl,s1,q⟩;cases ex with
  |normal=>exact w _ _ _ _ q B C a0 s1
  |_=>exact⟨s,F,C,h1,a0,rfl,rfl,s1,q⟩
 |cond c x y A w=>intro Q l e h H B d a f;simp only[WD]at H;split at H;rename_i b D;have hc:(Xq (marks l) a).eval c=.bool b:=qn f (c:=[]) trivial D;exact wpIn_cond_split hc (λI=>A _ _ _ _ (H.1 I) B d a f) (λM=>w _ _ _ _ (H.2 M) B d a f);exact H.elim
 |block id x ih=>
  intro Q l e h H B d a f;refine wpIn_block (wpIn_mono (ih _ _ _ _ H B d a f) ?_);rintro ex a1 w1 ⟨s,F,C,h1,a0,rfl,rfl,s1,q⟩;cases ex with
  |exit i=>simp only[qc3]at q;simp only[Exit.inBlock];by_cases D:Nat.beq i id=Ta;rw[if_pos (Ak D)];simp only[D,cond_true]at q;exact⟨s,F,C,h1,a0,rfl,rfl,s1,q⟩;rw[if_neg (λhe=>D (by rw[he];simp))];simp only[D,cond_false]at q;exact⟨s,F,C,h1,a0,rfl,rfl,s1,q⟩
  |_=>exact⟨s,F,C,h1,a0,rfl,rfl,s1,q⟩
 |rangeFunc g ps Z bd ab aa=>
  intro Q l e h H B d a f;simp only[WD]at H;split at H;rename_i v u U N t;have r:ps=#[u,U]:=by rw[<-Array.toList_inj];exact t
  subst r;unfold qc4 at H;cases k:(jh n [] (Td u)&&jh n [] (Td U))with
  |false=>rw[k]at H;exact H.elim
  |true=>rw[k]at H;rw[Ap]at k;obtain⟨gf,lb,rfl,L,O⟩:=H;exact zgt E L f (qn f (c:=[]) trivial N) (λfn rec o=>O rec (λ {V v2 h2 K} S z=>qc2 J (ps:=[u,U]) (vs:=[V,v2]) (by intro p G;simp only[Ah,Dg,or_false]at G;rcases G with rfl|rfl;exact k.1;exact k.2) o rfl f S z)) B d
  rename_i v u N t;have r:ps=#[u]:=by rw[<-Array.toList_inj];exact t
  subst r;unfold z6l at H;cases k:jh n [] (Td u)with
  |false=>rw[k]at H;exact H.elim
  |true=>rw[k]at H;obtain⟨gf,lb,rfl,L,O⟩:=H;exact zgt E L f (qn f (c:=[]) trivial N) (λfn rec o=>O rec (λ {V h2 K} S z=>qc2 J (ps:=[u]) (vs:=[V]) (by intro p G;simp only[Ah,Dg,or_false]at G;subst G;exact k) o rfl f S z)) B d
  exact H.elim
 |_=>exact λQ l e h H=>H.elim
def takeD:List Nat->(zb->Prop)->zb->Prop
 |[],K,h=>K h
 |b::ds,K,h=>h[b]?=Td (.deferred (Td []))/\takeD ds K (h.setIfInBounds b (.deferred Te))
def qmq(P:Program)(rs:List ResultVar)(R:Value->zb->Prop):zjz
 |.normal,ds,e,h=>takeD ds (λh'=>z1t P h' e rs λvs=>R (zii vs) h') h
 |.ret,ds,e,h=>takeD ds (λh'=>z1t P h' e rs λvs=>R (zii vs) h') h
 |_,_,_,_=>False
theorem zc2{P:Program}{fn:Func}{n:Nat}{rs:List ResultVar}(i:fn.results.toList=rs){e:Env}{a:Act}(k:Sat n e a){B:World}{R:Value->zb->Prop}{D:Nat}:∀(c:List Nat) (d:Nat) (h:zb),takeD c (λh'=>z1t P h' e rs λvs=>R (zii vs) h') h ->
  LeavesInM Fence.wide D P fn a.tmps (λe w'=>∃v m h',e=.returned v/\w'=mk B m h'/\R v h') (marks c) .returning (mk B d h)
 |[],d,h,H=>by obtain⟨v,o,l⟩:=Qt k i H;exact⟨v,l B d,v,d,h,rfl,rfl,o⟩
 |b::c,d,h,⟨h1,H⟩=>by have f:(mk B d h).heap[b]?=Td (.deferred (Td [])):=h1;exact⟨by simp,.inl ⟨_,_,rfl,run_takeDeferred (P:=P) f,zc2 i k c d _ H⟩⟩
theorem zj1(u:P.follows .mixedOrders=Ta)(vs:List Value){f:FuncId}{fn:Func}{rs:List ResultVar}(C:P.funcs[f]?=Td fn)(o:Qu fn=Ta)(p:fn.results.toList=rs)(A:fn.ntmps=n)(t:Nat.ble vs.length n=Ta){R:Value->zb->Prop}{F:Prop}(H:F)(z:F=WD P n (codeOf fn) (qmq P rs R) [] (z1s 0 vs) h):XC P f vs.toArray h R:=by
 have e:fn.body=Td (codeOf fn):=by unfold Qu at o;unfold codeOf;split at o;rename_i c x;rw[x];cases o
 intro B d;refine callsIn_wide.1 (callsIn_of_wp_marks (F:=Fence.wide) (n:=1) C e trivial ?_ rfl);subst A;have D:vs.length<=fn.ntmps:=Ca t;have y:Sat fn.ntmps (z1s 0 vs) { tmps:=vs.toArray++BN (fn.ntmps-vs.toArray.size) undef,defers:=[] }:=by
  refine⟨rfl,by simp;omega,?_⟩;refine za1 vs.toArray _ vs 0 λj v i=>?_;have k:j<vs.length:=by rcases A6 j vs.length with h|h;exact h;rw[BL h]at i;cases i
  simp only[AI,BM];rw[CU (by simpa using k)];simp[i]
 have:=qbg u (m:=1) (by omega) (codeOf fn) _ [] _ _ (z ▸ H) B d _ y;rw[show marks []=[]from rfl,zxx]at this;refine wpIn_mono this ?_;rintro ex a w ⟨b,E,s,h1,a0,rfl,rfl,s1,l⟩;have r:(Xq (marks b) a0).defers=marks b:=by unfold Xq;rw[s1.defers];rfl
 have q:(Xq (marks b) a0).tmps=a0.tmps:=rfl;cases ex with
 |normal=>show LeavesInM _ _ _ _ _ _ _ _ _;rw[r,q];exact zc2 p s1 b s h1 l
 |ret=>show LeavesInM _ _ _ _ _ _ _ _ _;rw[r,q];exact zc2 p s1 b s h1 l
 |_=>exact l.elim
end
section
theorem zsg(b:Nat)(c1:Addr)(h:zb)(R:Value->zb->Prop) (H:∃x:Bt,zc h c1=Td (.string x)/\((decide ((((x).size:Int):Int)>65536))=Ta->YX Tp b #[.agg #[.int .i64 0,.int .i64 0,.int .i64 0],.int .i64 3] h (λF G=>∃z:Bool,F=.bool z/\R (.tuple #[]) G))/\((decide ((((x).size:Int):Int)>65536))=Tc->∃(A:Int->zb->Prop) (C:Int->zb->Nat),A 0 h/\∀e:Int,∀w:zb,A e w->(∃k:Bt,zc w c1=Td (.string k)/\((decide ((e:Int)<((k).size:Int)))=Ta->∃q:Bt,zc w c1=Td (.string q)/\XC Tp 198 #[.string q,.int .i64 e] w (λD m=>∃o:Int,∃p:Int,∃r:Int,∃c:Int,D=.tuple #[.agg #[.int .i64 o,.int .i64 p,.int .i64 r],.int .i64 c]/\let B:zb:=CH m (.cells #[.int .i64 0,.int .i64 0,.int .i64 0] 90);XRunU Tp (Af 90 (.pointer (Td ⟨AU m,0,Te⟩)) (.agg #[.int .i64 o,.int .i64 p,.int .i64 r])) B (λy=>∃u:Int,∃s:Int,∃t:Int,zd y ⟨AU m,0,Te⟩ 0 [.int .i64 u,.int .i64 s,.int .i64 t]/\YX Tp b #[.agg #[.int .i64 u,.int .i64 s,.int .i64 t],.int .i64 c] y (λE l=>∃f:Bool,E=.bool f/\((bif (!f)then Ta else((c:Int) != 0))=Ta->R (.tuple #[]) l)/\((bif (!f)then Ta else((c:Int) != 0))=Tc->∃i:Int,zc l (Ad (Ad ⟨AU m,0,Te⟩ 1) 1)=Td (.int .i64 i)/\(A i l/\C i l<C e w))))))/\((decide ((e:Int)<((k).size:Int)))=Tc->R (.tuple #[]) w)))):
  XCI Tp 197 #[.func (.yield b) #[] #[],.pointer (Td c1)] h R:=
 zjy Tryz.mixed ⟨[],[(3,[(3,.one (.int .i64))])],[]⟩ [.func (.yield b) #[] #[],.pointer (Td c1)] (rs:=[]) (n:=34) Tryz.func197 (by kernel_rfl) (by kernel_rfl) (by kernel_rfl) (by kernel_rfl) (Eq.mp (by kernel_rfl) H)
theorem zov(C:Bt)(h:zb)(R:Value->zb->Prop) (H:let r:zb:=CH h (.cells #[.slice Te 0 0] 83);let m:zb:=CH r (.cells #[.int .i64 0] 3);let A:zb:=CH m (.cells #[.int .i64 0] 27);let G:zb:=CH A (.cells #[.slice Te 0 0] 83);XC Tp 113 #[.string C] G (λI c=>∃o:Value,I=o/\∃(p:FuncId) (q:Array Value),o=.func (.func p) #[] q/\zh Tp p=Ta/\∀k:zpx,(∀{u y:Value} {B:zb} {s:Value->zb->Prop},B[(AU c+1)]?=Td (.loop (k .ready Te))->zao Tp 25 (rfA (codeOf Tryz.f60)) (rfB (codeOf Tryz.f60)) k (AU c+1) s (putO (putO [(9,[],o),(8,[],.string C),(5,[],.pointer (Td ⟨AU A,0,Te⟩)),(4,[],.pointer (Td ⟨AU m,0,Te⟩)),(3,[],.pointer (Td ⟨AU r,0,Te⟩)),(2,[],.pointer (Td ⟨AU h,0,Te⟩)),(0,[],.string C)] (Td 10) [] u) (Td 11) [] y) B->YX Tp (AU c+1) #[u,y] B s)->XCI Tp p (#[.func (.yield (AU c+1)) #[] #[]]++q) (CH (CH c (.deferred (Td []))) (.loop (k .ready Te))) λ_ D=>zj0 k (AU c+1) (λe=>∃b:Sl,zc e ⟨AU A,0,Te⟩=Td (.slice b.a b.len b.cap)/\XRunU Tp (Af 83 (.pointer (Td ⟨AU h,0,Te⟩)) (.slice b.a b.len b.cap)) e (λE=>XRunU Tp (Af 3 (.pointer (Td ⟨AU r,0,Te⟩)) (.int .i64 ((C).size:Int))) E (λF=>XRunU Tp (Af 27 (.pointer (Td ⟨AU m,0,Te⟩)) (.int .i64 0)) F (λl=>(l)[AU c]?=Td (.deferred (Td []))/\∃i:Sl,zc (Array.setIfInBounds l (AU c) (.deferred Te)) ⟨AU h,0,Te⟩=Td (.slice i.a i.len i.cap)/\∃z:Int,zc (Array.setIfInBounds l (AU c) (.deferred Te)) ⟨AU r,0,Te⟩=Td (.int .i64 z)/\∃t:Int,zc (Array.setIfInBounds l (AU c) (.deferred Te)) ⟨AU m,0,Te⟩=Td (.int .i64 t)/\R (.tuple #[.slice i.a i.len i.cap,.int .i64 z,.int .i64 t]) (Array.setIfInBounds l (AU c) (.deferred Te)))))) (λe=>(e)[AU c]?=Td (.deferred (Td []))/\∃f:Sl,zc (Array.setIfInBounds e (AU c) (.deferred Te)) ⟨AU h,0,Te⟩=Td (.slice f.a f.len f.cap)/\∃w:Int,zc (Array.setIfInBounds e (AU c) (.deferred Te)) ⟨AU r,0,Te⟩=Td (.int .i64 w)/\∃x:Int,zc (Array.setIfInBounds e (AU c) (.deferred Te)) ⟨AU m,0,Te⟩=Td (.int .i64 x)/\R (.tuple #[.slice f.a f.len f.cap,.int .i64 w,.int .i64 x]) (Array.setIfInBounds e (AU c) (.deferred Te))) D)):
  XC Tp 60 #[.string C] h R:=
 zj1 Tryz.mixed [.string C] (rs:=[.cell 2 83,.cell 3 3,.cell 4 27]) (n:=25) Tryz.func60 (by kernel_rfl) (by kernel_rfl) (by kernel_rfl) (by kernel_rfl) H (by kernel_rfl)
theorem zes(x9:Value)(x8:Value)(B:Addr)(D:Addr)(E:Addr)(C:Addr)(x0:Value)(p:Int)(n:Int)(o:Int)(q:Int)(rec:zpx)(l:Nat)(K:Value->zb->Prop)(h:zb) (H:let z:zb:=CH h (.cells #[.int .i64 0,.int .i64 0,.int .i64 0] 90);XRunU Tp (Af 90 (.pointer (Td ⟨AU h,0,Te⟩)) (.agg #[.int .i64 p,.int .i64 n,.int .i64 o])) z (λs=>(s)[l]?=Td (.loop (rec .ready Te))/\let e:zb:=Array.setIfInBounds s l (.loop (rec .busy Te));(((q:Int) != 0)=Ta->∃k:Int,zc e (Ad (Ad ⟨AU h,0,Te⟩ 1) 0)=Td (.int .i64 k)/\XRunU Tp (Af 83 (.pointer (Td C)) (.slice Te 0 0)) e (λr=>(r)[((Ad (Ad ⟨AU h,0,Te⟩ 1) 0):Addr).block]?=(e)[((Ad (Ad ⟨AU h,0,Te⟩ 1) 0):Addr).block]?/\XRunU Tp (Af 3 (.pointer (Td E)) (.int .i64 k)) r (λx=>XRunU Tp (Af 27 (.pointer (Td D)) (.int .i64 q)) x (λt=>(t)[l]?=Td (.loop (rec .busy Te))/\K (.bool Tc) (Array.setIfInBounds t l (.loop (rec .done (Td .ret))))))))/\(((q:Int) != 0)=Tc->∃c:Sl,zc e B=Td (.slice c.a c.len c.cap)/\∃m:Int,∃f:Int,∃i:Int,zd e ⟨AU h,0,Te⟩ 0 [.int .i64 m,.int .i64 f,.int .i64 i]/\let A:zb:=CH e (.cells #[.int .i64 m,.int .i64 f,.int .i64 i] 90);XRun Tp (Au #[83,83] 83 #[.slice c.a c.len c.cap,.slice (Td ⟨AU e,0,Te⟩) 1 1]) A (λw y=>∃b:Sl,w=.slice b.a b.len b.cap/\XRunU Tp (Af 83 (.pointer (Td B)) (.slice b.a b.len b.cap)) y (λu=>(u)[l]?=Td (.loop (rec .busy Te))/\K (.bool Ta) (Array.setIfInBounds u l (.loop (rec .ready Te)))))))):
  zao Tp 25 (rfA (codeOf Tryz.f60)) (rfB (codeOf Tryz.f60)) rec l K [(11,[],.int .i64 q),(10,[],.agg #[.int .i64 p,.int .i64 n,.int .i64 o]),(9,[],x9),(8,[],x8),(5,[],.pointer (Td B)),(4,[],.pointer (Td D)),(3,[],.pointer (Td E)),(2,[],.pointer (Td C)),(0,[],x0)] h:=
 Eq.mp (by kernel_rfl) H
end
end Go.X
end
section
namespace Go.X
open Go Go.X Go.Proofs Go.RowKit
section
variable {g:zb} {i:Nat} {k f t:Int} {x9 x8 x0:Value} {K:Value -> zb -> Prop}
abbrev tTk:Ty:=.pair (.int .i64) (.pair (.int .i64) (.int .i64))
theorem qc5:ElemT Tp 83 90 (.agg #[.int .i64 0,.int .i64 0,.int .i64 0]) (sz tTk) 24:=⟨by kernel_rfl,⟨Tryz.t90,by kernel_rfl,by kernel_rfl,by kernel_rfl,by kernel_rfl⟩,rfl,by decide⟩
theorem qf1:qb Tp 83=Ta:=by kernel_rfl
theorem qf2:qi Tp 83=1:=by kernel_rfl
theorem qiv:qb Tp 3=Ta:=by kernel_rfl
theorem qiw:qi Tp 3=1:=by kernel_rfl
theorem qix:qb Tp 27=Ta:=by kernel_rfl
theorem qiy:qi Tp 27=1:=by kernel_rfl
theorem qc6{M:Fr}(k f t:Int):Rd M tTk (k,(f,t)) (zsb k f t):=⟨[.int .i64 k],[.int .i64 f,.int .i64 t],rfl,rfl,[.int .i64 f],[.int .i64 t],rfl,rfl,rfl⟩
structure TkS (h:zb) (M:Fr) (b2 b3 b4 b5 bc D l:Nat) (rec:zpx) (s:Bs) (out:List Tk) (sl:Sl) (bs:List Nat) (g:zb):Prop where
 keep:Keep h.size h g
 c:Blk g bc #[.string (bl s)]
 d:g[D]?=Td (.deferred (Td []))
 rc:g[l]?=Td (.loop (rec .ready Te))
 r2:Blk g b2 #[.slice Te 0 0]
 r3:Blk g b3 #[.int .i64 0]
 r4:Blk g b4 #[.int .i64 0]
 r5:Blk g b5 #[slV sl]
 o:ORow (l+1) g M tTk out sl bs
structure Apart (h:zb) (b2 b3 b4 b5 bc D l:Nat):Prop where
 lo:h.size<=b2
 a3:b2<b3
 a4:b3<b4
 a5:b4<b5
 ac:b5<bc
 aD:bc<D
 al:l=D+1
theorem zk{i j:Nat}{o:Obj}(h:j≠i):(g.setIfInBounds i o)[j]?=g[j]?:=AB (Ne.symm h)
theorem set_self{o:Obj}(h:i<g.size):(g.setIfInBounds i o)[i]?=Td o:=CB h
theorem lt_of_some{o:Obj}(h:g[i]?=Td o):i<g.size:=(An.1 h).1
section
variable {h : zb} {M : Fr} {b2 b3 b4 b5 bc D l : Nat} {rec : zpx} {s : Bs} {out : List Tk} {sl : Sl} {bs : List Nat} {g : zb}
set_option maxRecDepth 100000 in
set_option maxHeartbeats 1000000 in
theorem TkS.round(A:Apart h b2 b3 b4 b5 bc D l)(ag:AgM M h)(S:TkS h M b2 b3 b4 b5 bc D l rec s out sl bs g)(hn:out.length<=100000) (hK:∀g' Y bs',TkS h M b2 b3 b4 b5 bc D l rec s (out++[(k,(f,t))]) Y bs' g'->g.size<=g'.size->(∀j,j<g.size->j≠b5->j≠l->j∉bs->g'[j]?=g[j]?)->K (.bool Ta) g'):
  zao Tp 25 (rfA (codeOf Tryz.f60)) (rfB (codeOf Tryz.f60)) rec l K [(11,[],.int .i64 0),(10,[],.agg #[.int .i64 k,.int .i64 f,.int .i64 t]),(9,[],x9),(8,[],x8),(5,[],.pointer (Td ⟨b5,0,Te⟩)),(4,[],.pointer (Td ⟨b4,0,Te⟩)),(3,[],.pointer (Td ⟨b3,0,Te⟩)),(2,[],.pointer (Td ⟨b2,0,Te⟩)),(0,[],x0)] g:=by
 apply zes;intro r;have Q:Keep g.size g r:=Keep.push _ _ (Ab _);have ak:r.size=g.size+1:=Aj _;have aa:Blk r g.size (zsb 0 0 0).toArray:=Blk.new _ _ _;clear_value r;have ll:=lt_of_some S.rc;have:=A.lo;have:=A.a3;have:=A.a4;have:=A.a5;have:=A.ac;have:=A.aD;have:=A.al;refine qfw aa λE q1 q2 q3=>?_;have C:∀j,j<g.size->E[j]?=g[j]?:=λj p=>by rw[q1 j (by omega)];exact Q.get j p
 refine⟨by rw[C l ll];exact S.rc,?_⟩;intro i;have y:∀j,j≠l->i[j]?=E[j]?:=λj p=>zk p;have Z:i[l]?=Td (.loop (rec .busy Te)):=set_self (by omega);have ah:i.size=E.size:=AW;clear_value i;refine⟨λhx=>by simp at hx,λ_=>?_⟩;have B5:Blk i b5 #[slV sl]:=S.r5.keep (by rw[y b5 (by omega),C b5 (by omega)]);have Bt:Blk i g.size (zsb k f t).toArray:=q3.keep (y g.size (by omega));refine⟨sl,B5.cell rfl,k,f,t,Bt.ld,?_⟩;intro n;have w:Keep i.size i n:=Keep.push _ _ (Ab _);have aj:n.size=i.size+1:=Aj _;have ab:Blk n i.size (zsb k f t).toArray:=Blk.new _ _ _;clear_value n;have B:∀j,j<g.size->j≠l->n[j]?=g[j]?:=λj p H=>by rw[w.get j (by omega),y j H,C j p]
 have J:AgM M n:=λb c e=>by obtain⟨T,m,e'⟩:=(ag.keep S.keep) b c e;have hb:=ag.lt e;exact⟨T,m,by rw[B b (by have:=S.keep.size;omega) (by omega)];exact e'⟩
 have ae:ORow (l+1) n M tTk out sl bs:=S.o.frame (λc u=>by have:=S.o.own c u;exact B c this.2.1 (by omega)) (Fr.le.refl _) (λc u=>(S.o.own c u).2.2);refine ORow.app qc5 (by omega) J ae (by omega) ab (qc6 k f t) (by omega) λs' U bs' z ai af F=>⟨s',rfl,?_⟩;have G:∀c∈bs,l+1<=c:=λc u=>(S.o.own c u).1;have V:Blk U b5 #[slV sl]:=B5.keep (by rw[F b5 (by omega) (λq=>by have:=G _ q;omega)];exact w.get b5 (by omega));refine yf qf1 qf2 V (by show 0<1;omega) rfl λx u1 u3 u2=>?_;have L:∀j,j<g.size->j≠l->j≠b5->j∉bs->x[j]?=g[j]?:=λj p H N q=>by rw[u2 j N,F j (by omega) q,B j p H]
 have P:x[l]?=Td (.loop (rec .busy Te)):=by rw[u2 l (by omega),F l (by omega) (λq=>by have:=G _ q;omega),w.get l (by omega)];exact Z
 refine⟨P,hK _ s' bs' ?_ ?_ ?_⟩;have O:=lt_of_some P;have I:∀j,j<l->j≠b5->(x.setIfInBounds l (.loop (rec .ready Te)))[j]?=g[j]?:=λj p N=>by rw[zk (by omega)];exact L j (by omega) (by omega) N (λq=>by have:=G _ q;omega)
 refine⟨S.keep.trans ⟨?_,λj p=>I j (by omega) (by omega)⟩ (Ab _),S.c.keep (I bc (by omega) (by omega)),(I D (by omega) (by omega)).trans S.d,set_self O,S.r2.keep (I b2 (by omega) (by omega)),S.r3.keep (I b3 (by omega) (by omega)),S.r4.keep (I b4 (by omega) (by omega)),?_,?_⟩;rw[AW];have:=S.keep.size;omega;exact Blk.keep u1 (zk (by omega));refine z.frame (λc u=>?_) (Fr.le.refl _) (λc u=>(z.own c u).2.2);have:=(z.own c u).1;rw[zk (by omega),u2 c (by omega)];rw[AW];omega;intro j p N H q;rw[zk H];exact L j p H N q
set_option maxRecDepth 100000 in
set_option maxHeartbeats 1000000 in
theorem TkS.err(A:Apart h b2 b3 b4 b5 bc D l)(S:TkS h M b2 b3 b4 b5 bc D l rec s out sl bs g){k f t e:Int}(O:¬e=0) (E:∀g',Keep h.size h g'->g'[D]?=Td (.deferred (Td []))->g'[l]?=Td (.loop (rec .done (Td .ret)))->Blk g' b2 #[.slice Te 0 0]->Blk g' b3 #[.int .i64 f]->Blk g' b4 #[.int .i64 e]->K (.bool Tc) g'):
  zao Tp 25 (rfA (codeOf Tryz.f60)) (rfB (codeOf Tryz.f60)) rec l K [(11,[],.int .i64 e),(10,[],.agg #[.int .i64 k,.int .i64 f,.int .i64 t]),(9,[],x9),(8,[],x8),(5,[],.pointer (Td ⟨b5,0,Te⟩)),(4,[],.pointer (Td ⟨b4,0,Te⟩)),(3,[],.pointer (Td ⟨b3,0,Te⟩)),(2,[],.pointer (Td ⟨b2,0,Te⟩)),(0,[],x0)] g:=by
 apply zes;intro i;have y:Keep g.size g i:=Keep.push _ _ (Ab _);have N:i.size=g.size+1:=Aj _;have z:Blk i g.size (zsb 0 0 0).toArray:=Blk.new _ _ _;clear_value i;have C:=lt_of_some S.rc;have:=A.lo;have:=A.a3;have:=A.a4;have:=A.a5;have:=A.ac;have:=A.aD;have:=A.al;refine qfw z λm H Z G=>?_;have p:∀j,j<g.size->m[j]?=g[j]?:=λj n=>by rw[H j (by omega)];exact y.get j n
 refine⟨by rw[p l C];exact S.rc,?_⟩;intro c;have r:∀j,j≠l->c[j]?=m[j]?:=λj n=>zk n;have x:c[l]?=Td (.loop (rec .busy Te)):=set_self (by omega);have I:c.size=m.size:=AW;clear_value c;refine⟨λ_=>?_,λJ=>by simp[O]at J⟩;have Bt:Blk c g.size (zsb k f t).toArray:=G.keep (r g.size (by omega));have b:∀j,j<g.size->j≠l->c[j]?=g[j]?:=λj n L=>(r j L).trans (p j n);refine⟨f,?_,?_⟩;rw[qd,qd];exact Bt.cell rfl;refine yf qf1 qf2 (S.r2.keep (b b2 (by omega) (by omega))) (by show 0<1;omega) rfl λU F Y o=>⟨?_,?_⟩;rw[qd,qd];exact o g.size (by omega);refine yf qiv qiw (S.r3.keep ((o b3 (by omega)).trans (b b3 (by omega) (by omega)))) (by show 0<1;omega) rfl λQ P V q=>?_;refine yf qix qiy (S.r4.keep ((q b4 (by omega)).trans ((o b4 (by omega)).trans (b b4 (by omega) (by omega))))) (by show 0<1;omega) rfl λB w1 w3 w=>?_;have u:B[l]?=Td (.loop (rec .busy Te)):=by rw[w l (by omega),q l (by omega),o l (by omega)];exact x
 refine⟨u,E _ ?_ ?_ (set_self (lt_of_some u)) ?_ ?_ ?_⟩;refine S.keep.trans ⟨by rw[AW];have:=S.keep.size;omega,λj n=>?_⟩ (Ab _);rw[zk (by omega),w j (by omega),q j (by omega),o j (by omega)];exact b j (by have:=S.keep.size;omega) (by omega);rw[zk (by omega),w D (by omega),q D (by omega),o D (by omega),b D (by omega) (by omega)];exact S.d;exact Blk.keep F (by rw[zk (by omega),w b2 (by omega),q b2 (by omega)]);exact Blk.keep P (by rw[zk (by omega),w b3 (by omega)]);exact Blk.keep w1 (zk (by omega))
end
end
section
variable {M:Fr} {s:Bs} {g g':zb} {k a e lf:Int} {O:Nat -> Prop} {lo bp b c:Nat} {rs:Sl} {cs:Array Value}
theorem qf3{t:Ty}{x:El t}{xs:List (El t)}{s:Sl}(h:Rd M (.row t) (x::xs) [slV s]):Rd M (.row t) xs [slV ⟨zfb s.a (sz t) 1 s.cap,s.len-1,s.cap-1⟩]:=by
 obtain⟨h1,r,p⟩:=rowLen h;rw[Aq]at h1 r p;refine⟨_,rfl,zfb s.a (sz t) 1 s.cap,s.cap-1,?_,⟨by omega,by omega⟩,?_⟩;show slV _=_;unfold slV;rw[h1];rfl;by_cases n:xs=[];exact .inl n;have y:=Bv.2 n;obtain⟨b,o,cs,l,f,m⟩:∃b o cs,s.a=Td ⟨b,o,Te⟩/\M b=Td cs/\∀i (hi:i<(x::xs).length),Rd M t (x::xs)[i] (cut cs (o+i*sz t) (sz t)):=by obtain⟨w,e,a,c,q,u,k⟩:=h;simp only[BV,and_true]at e;subst e;simp only[slV,AO]at q;rcases k with k|⟨b,o,cs,l,f,m⟩;cases k;exact⟨b,o,cs,by rw[q.1,l],f,m⟩
 refine .inr ⟨b,o+sz t,cs,?_,f,λi hi=>?_⟩;unfold zfb;rw[if_neg (by omega),l,Ep,qd,DU];have:=m (i+1) (by simp;omega);rw[List.getElem_cons_succ]at this;rw[show o+sz t+i*sz t=o+(i+1)*sz t by rw[C6];omega];exact this
theorem qgq(ag:AgM M g){xs:List Tk}{s:Sl}(H:Rd M (.row tTk) xs [slV s]){k:Nat}(p:k<xs.length):∃b o,s.a=Td ⟨b,o,Te⟩/\zc g ⟨b,o+k*3,Te⟩=Td (.int .i64 xs[k].1)/\zc g ⟨b,o+k*3+1,Te⟩=Td (.int .i64 xs[k].2.1)/\zc g ⟨b,o+k*3+2,Te⟩=Td (.int .i64 xs[k].2.2):=by obtain⟨b,o,cs,t,n,u⟩:=Go.X.rowAt H p;refine⟨b,o,t,?_⟩;obtain⟨c1,c2,e,h1,c3,r,q,f,c⟩:=u;have h1:c1=[.int .i64 xs[k].1]:=h1;have f:c3=[.int .i64 xs[k].2.1]:=f;have c:r=[.int .i64 xs[k].2.2]:=c;subst h1 f c q;have e:cut cs (o+k*3) 3=zsb xs[k].1 xs[k].2.1 xs[k].2.2:=e;have L:=z3m (vs:=zsb xs[k].1 xs[k].2.1 xs[k].2.2) (o:=o+k*3) (i:=0) ag n (by rw[C7];exact e);obtain⟨l,m,h,_⟩:=L;rw[qd]at l m h;exact⟨l,m,h⟩
def ppC(s:Bs)(rs:Sl)(lf last:Int)(sl:Sl)(a e:Int):List Value:=[.string (bl s),slV rs,.int .i64 lf,.int .i64 last,slV sl,.int .i64 a,.int .i64 e]
def ppO(bp:Nat)(na:NA)(sl:Sl)(b c:Nat):Prop:=c=bp\/nsO na sl b c
structure PW (lo:Nat) (g:zb) (M:Fr) (bp:Nat) (s:Bs) (rest:List Tk) (last a e:Int) (rs:Sl) (lf:Int) (na:NA) (sl:Sl) (b:Nat) (cs:Array Value):Prop where
 blk:Blk g bp (ppC s rs lf last sl a e).toArray
 rd:Rd M (.row tTk) rest [slV rs]
 ns:NS lo g M na sl b cs
 ag:AgM M g
 bl:lo<=bp/\M bp=Te
 nb:¬nsO na sl b bp
def PaS(lo:Nat)(g:zb)(M:Fr)(bp:Nat)(s:Bs)(st:PSt)(a e:Int)(O:Nat->Prop):Prop:=
 ∃(rs:Sl) (lf:Int) (na:NA) (sl:Sl) (b:Nat) (cs:Array Value),PW lo g M bp s st.rest st.last a e rs lf na sl b cs/\na.map (·.1)=st.nodes/\O=ppO bp na sl b
structure Stp (g:zb) (O:Nat->Prop) (g':zb) (O':Nat->Prop):Prop where
 le:g.size<=g'.size
 sub:∀c,O' c->O c\/g.size<=c
 fr:∀j,j<g.size->¬O j->g'[j]?=g[j]?
theorem Stp.refl(g:zb)(O:Nat->Prop):Stp g O g O:=⟨Ab _,λc h=>.inl h,λj _ _=>rfl⟩
theorem Stp.trans{g g' f:zb}{O O' e:Nat->Prop}(a:Stp g O g' O')(b:Stp g' O' f e):Stp g O f e:=by have:=a.le;have:=b.le;refine⟨by omega,λc h=>?_,λj k i=>?_⟩;rcases b.sub c h with h|h;exact a.sub c h;exact .inr (by omega);rw[b.fr j (by omega) (λh=>?_)];exact a.fr j k i;rcases a.sub j h with h|h;exact i h;omega
theorem Stp.keep(k:Keep g.size g g'):Stp g O g' O:=⟨k.size,λc h=>.inl h,λj b _=>k.get j b⟩
theorem PW.own{rest:List Tk}{last a e:Int}{na:NA}{sl:Sl}(H:PW lo g M bp s rest last a e rs lf na sl b cs)(h:ppO bp na sl b c):lo<=c/\c<g.size/\M c=Te:=by rcases h with rfl|h;exact⟨H.bl.1,H.blk.lt,H.bl.2⟩;exact H.ns.own h
theorem PaS.own{st:PSt}(H:PaS lo g M bp s st a e O)(h:O c):lo<=c/\c<g.size/\M c=Te:=by obtain⟨rs,lf,na,sl,b,cs,W,_,rfl⟩:=H;exact W.own h
theorem z6m(ag:AgM M g)(f:∀j,j<g.size->M j≠Te->g'[j]?=g[j]?):AgM M g':=λb c e=>by obtain⟨T,m,e'⟩:=ag b c e;exact⟨T,m,by rw[f b (ag.lt e) (by rw[e];simp)];exact e'⟩
theorem PaS.frame{st:PSt}(H:PaS lo g M bp s st a e O)(i:g.size<=g'.size)(f:∀c,c<g.size->(O c\/M c≠Te)->g'[c]?=g[c]?):PaS lo g' M bp s st a e O:=by obtain⟨rs,lf,na,sl,b,cs,W,h1,rfl⟩:=H;refine⟨rs,lf,na,sl,b,cs,⟨W.blk.keep (f bp W.blk.lt (.inl (.inl rfl))),W.rd,W.ns.frame i λc h=>f c (W.ns.own h).2.1 (.inl (.inr h)),z6m W.ag λj l k=>f j l (.inr k),W.bl,W.nb⟩,h1,rfl⟩
theorem PaS.keep{st:PSt}(H:PaS lo g M bp s st a e O)(k:Keep g.size g g'):PaS lo g' M bp s st a e O:=H.frame k.size λc b _=>k.get c b
theorem PaS.ag{st:PSt}(H:PaS lo g M bp s st a e O):AgM M g:=by obtain⟨rs,lf,na,sl,b,cs,W,_,_⟩:=H;exact W.ag
theorem PW.put{rest rest':List Tk}{last last' a a' e e':Int}{rs rs':Sl}{lf lf':Int}{na:NA}{sl:Sl}(H:PW lo g M bp s rest last a e rs lf na sl b cs)(B:Blk g' bp (ppC s rs' lf' last' sl a' e').toArray)(r:Rd M (.row tTk) rest' [slV rs'])(l:g'.size=g.size)(f:∀j,j≠bp->g'[j]?=g[j]?):PW lo g' M bp s rest' last' a' e' rs' lf' na sl b cs:= ⟨B,r,H.ns.frame (by omega) λc k=>f c λh=>H.nb (h ▸ k),z6m H.ag λj _ i=>f j λh=>i (h ▸ H.bl.2),H.bl,H.nb⟩
section
variable {lo : Nat} {g : zb} {M : Fr} {bp : Nat} {s : Bs} {st : PSt} {a e : Int} {O : Nat -> Prop} {K : Value -> zb -> Prop}
theorem zow(H:PaS lo g M bp s st a e O)(c:K (.int .i64 st.kind) g):XC Tp 115 #[.pointer (Td ⟨bp,0,Te⟩)] g K:=by
 obtain⟨rs,lf,na,sl,b,cs,W,h1,rfl⟩:=H;apply zco;have h:=(rowLen W.rd).1;refine⟨_,rfl,rs,by rw[qd];exact W.blk.cell rfl,λf=>?_,λf=>⟨_,rfl,rs,by rw[qd];exact W.blk.cell rfl,?_⟩⟩;have f:rs.len=0:=by simpa using f
 have:st.rest=[]:=Bi.1 (by omega);unfold PSt.kind at c;rw[this]at c;exact c;have f:rs.len≠0:=by simpa using f
 cases hr:st.rest with
 |nil=>rw[hr]at h;exact absurd h f
 |cons t r=>have rd:=W.rd;rw[hr]at rd;obtain⟨n,o,l,i,p,m⟩:=qgq W.ag rd (k:=0) (by simp);refine⟨_,⟨l,by omega,by omega⟩,t.1,?_,?_⟩;rw[qd,qd];exact i;unfold PSt.kind at c;rw[hr]at c;exact c
theorem z6n(H:PaS lo g M bp s st a e O)(c:K (.int .i64 (st.here s.length)) g):XC Tp 121 #[.pointer (Td ⟨bp,0,Te⟩)] g K:=by
 obtain⟨rs,lf,na,sl,b,cs,W,h1,rfl⟩:=H;apply zcs;have h:=(rowLen W.rd).1;refine⟨_,rfl,rs,by rw[qd];exact W.blk.cell rfl,λf=>?_,λf=>⟨_,rfl,rs,by rw[qd];exact W.blk.cell rfl,?_⟩⟩;have f:rs.len=0:=by simpa using f
 have:st.rest=[]:=Bi.1 (by omega);unfold PSt.here at c;rw[this]at c;refine⟨_,rfl,bl s,by rw[qd];exact W.blk.cell rfl,?_⟩;rw[zf];exact c;have f:rs.len≠0:=by simpa using f
 cases hr:st.rest with
 |nil=>rw[hr]at h;exact absurd h f
 |cons t r=>have rd:=W.rd;rw[hr]at rd;obtain⟨p,o,l,m,i,n⟩:=qgq W.ag rd (k:=0) (by simp);refine⟨_,⟨l,by omega,by omega⟩,t.2.1,?_,?_⟩;rw[qd,qd,qd];exact i;unfold PSt.here at c;rw[hr]at c;exact c
theorem zsh:qb Tp 3=Ta:=by kernel_rfl
theorem qc7:qi Tp 3=1:=by kernel_rfl
theorem qlm:qb Tp 27=Ta:=by kernel_rfl
theorem qln:qi Tp 27=1:=by kernel_rfl
theorem qiz:qb Tp 58=Ta:=by kernel_rfl
theorem qi0:qi Tp 58=2:=by kernel_rfl
theorem qi1:qb Tp 83=Ta:=by kernel_rfl
theorem qi2:qi Tp 83=1:=by kernel_rfl
theorem Stp.same(k:g'.size=g.size)(i:O bp)(f:∀j,j≠bp->g'[j]?=g[j]?):Stp g O g' O:=⟨by omega,λc h=>.inl h,λj l b=>f j λe=>b (e ▸ i)⟩
theorem Wy(H:PaS lo g M bp s st a e O){x:Int}(k:∀g',PaS lo g' M bp s st (st.here s.length) x O->Stp g O g' O->K (.bool Tc) g'):XC Tp 62 #[.pointer (Td ⟨bp,0,Te⟩),.int .i64 x] g K:=by apply zcn;refine z6n H ⟨_,rfl,_,rfl,?_⟩;obtain⟨rs,lf,na,sl,b,cs,W,h1,rfl⟩:=H;rw[qd];refine yf zsh qc7 W.blk (by show 5<7;omega) rfl λq l p i=>⟨_,rfl,?_⟩;rw[qd];refine yf qlm qln l (by show 6<7;omega) rfl λh n o m=>?_;have f:∀j,j≠bp->h[j]?=g[j]?:=λj c=>(m j c).trans (i j c);exact k h ⟨rs,lf,na,sl,b,cs,W.put (rest':=st.rest) (last':=st.last) (a':=st.here s.length) (e':=x) (rs':=rs) (lf':=lf) n W.rd (by omega) f,h1,rfl⟩ (Stp.same (by omega) (.inl rfl) f)
theorem zvi(H:PaS lo g M bp s st a e O)(B:st.rest≠[])(l:∀g',PaS lo g' M bp s st.skip a e O->Stp g O g' O->K (.tuple #[]) g'):XC Tp 116 #[.pointer (Td ⟨bp,0,Te⟩)] g K:=by
 apply zcp;obtain⟨rs,lf,na,sl,b,cs,W,h1,rfl⟩:=H;obtain⟨w,_,m⟩:=rowLen W.rd;obtain⟨t,r,n⟩:=Bq B;have rd:=W.rd;rw[n]at rd w m;rw[Aq]at w m;obtain⟨L,o,E,I,A,D⟩:=qgq W.ag rd (k:=0) (by simp);refine⟨_,rfl,rs,by rw[qd];exact W.blk.cell rfl,_,⟨E,by omega,by omega⟩,t.2.1,t.2.2,?_,_,rfl,rs,by rw[qd];exact W.blk.cell rfl,.inl rfl,⟨by omega,by omega,by omega,by omega⟩,_,rfl,?_⟩;rw[qd,qd];exact⟨by rw[qd];exact A,by rw[qd];exact D,trivial⟩;rw[qd];refine zei (vs:=[.int .i64 t.2.1,.int .i64 t.2.2]) qiz W.blk rfl qi0 (by show 2+2<=7;omega) (λu q=>?_) λG C J z=>⟨_,rfl,?_⟩;simp at q;rcases q with rfl|rfl <;> rfl;rw[qd];refine yf qi1 qi2 C (by rw[zw9 (by show 2+2<=7;omega)];show 1<7;omega) rfl λi c F x=>?_
 have f:∀j,j≠bp->i[j]?=g[j]?:=λj p=>(x j p).trans (z j p);have h:=qf3 rd;rw[Ai,Ai]at c;have c:Blk i bp (ppC s ⟨zfb rs.a (sz tTk) 1 rs.cap,rs.len-1,rs.cap-1⟩ t.2.1 t.2.2 sl a e).toArray:=c;have y:st.skip=⟨r,t.2.2,st.nodes⟩:=by unfold PSt.skip;rw[n]
 rw[y]at l;exact l i ⟨_,t.2.1,na,sl,b,cs,W.put c h (by omega) f,h1,rfl⟩ (Stp.same (by omega) (.inl rfl) f)
theorem PSt.ne_of_kind{st:PSt}(h:st.kind=k)(b:k≠0):st.rest≠[]:=λe=>by unfold PSt.kind at h;rw[e]at h;exact b h.symm
theorem zhx(H:PaS lo g M bp s st a e O)(h:k≠0)(c:st.kind=k->∀g',PaS lo g' M bp s st.skip a e O->Stp g O g' O->K (.bool Ta) g')(f:st.kind≠k->K (.bool Tc) g):XC Tp 199 #[.pointer (Td ⟨bp,0,Te⟩),.int .i64 k] g K:=by
 apply zbh;refine zow H ⟨_,rfl,λb=>f (by simpa using b),λb=>?_⟩;have b:st.kind=k:=by simpa using b
 exact zvi H (PSt.ne_of_kind b h) λg' p q=>⟨rfl,c b g' p q⟩
end
end
section
variable {M:Fr} {g:zb} {s:Sl} {k b f:Nat} {t:Bs}
theorem zox(ag:AgM M g){xs:List Int}(H:Rd M (.row (.int .i64)) xs [slV s])(e:k<xs.length):∃b o,s.a=Td ⟨b,o,Te⟩/\zc g ⟨b,o+k*1,Te⟩=Td (.int .i64 xs[k]):=by obtain⟨b,o,cs,f,c,h⟩:=Go.X.rowAt H e;exact⟨b,o,f,zi2 ag c h⟩
theorem qmr(ag:AgM M g){xs:List Nd}(H:Rd M (.row tNd) xs [slV s])(r:k<xs.length):∃(b o:Nat) (ks ps:Sl),s.a=Td ⟨b,o,Te⟩/\zd g ⟨b,o+k*7,Te⟩ 0 [.int .i64 xs[k].1,.int .i64 xs[k].2.1.1,.int .i64 xs[k].2.1.2,.int .i64 xs[k].2.2.1.1,.int .i64 xs[k].2.2.1.2,slV ks,slV ps]/\Rd M (.row (.int .i64)) xs[k].2.2.2.1 [slV ks]:=by
 obtain⟨b,o,cs,G,p,I⟩:=Go.X.rowAt H r;obtain⟨c1,L,C,l,c2,O,E,⟨B,d2,t,a2,h⟩,c3,N,F,⟨z,y,D,f,m⟩,u,A,x,n,J⟩:=I;have l:c1=[.int .i64 xs[k].1]:=l;have a2:B=[.int .i64 xs[k].2.1.1]:=a2;have h:d2=[.int .i64 xs[k].2.1.2]:=h;have f:z=[.int .i64 xs[k].2.2.1.1]:=f;have m:y=[.int .i64 xs[k].2.2.1.2]:=m;obtain⟨ks,rfl⟩:∃ks:Sl,u=[slV ks]:=by obtain⟨w,e,a,c,q,_⟩:=n;exact⟨⟨a,_,c⟩,by rw[e,q];rfl⟩
 obtain⟨ps,rfl⟩:∃ps:Sl,A=[slV ps]:=by obtain⟨w,e,a,c,q,_⟩:=J;exact⟨⟨a,_,c⟩,by rw[e,q];rfl⟩
 subst l a2 h f m t D x F E;refine⟨b,o,ks,ps,G,?_,n⟩;exact z3m (o:=o+k*7) (i:=0) ag p (by rw[C7];exact C)
theorem qms:qb Tp 62=Ta:=by kernel_rfl
theorem qmt:qi Tp 62=7:=by kernel_rfl
theorem qlo:qb Tp 26=Ta:=by kernel_rfl
theorem qlp:qi Tp 26=4:=by kernel_rfl
theorem jw{x y z w:Value}(B:Blk g b #[x,y,z,w]){k:Int}{s:Bt}{sk si:Sl}{K:zb->Prop}(f:∀g',(∀j,j≠b->g'[j]?=g[j]?)->g'.size=g.size->Blk g' b #[.int .i64 k,.string s,slV sk,slV si]->K g'):
  XRunU Tp (Af 26 (.pointer (Td ⟨b,0,Te⟩)) (.agg #[.int .i64 k,.string s,slV sk,slV si])) g K:=by
 refine zei (vs:=[.int .i64 k,.string s,slV sk,slV si]) qlo B rfl qlp (Ab _) (λu c=>?_) λg' e h i=>f g' i h e;simp at c;rcases c with rfl|rfl|rfl|rfl <;> rfl
def Xr(t:Bs)(nodes:List Nd)(f:Nat)(x:Nd)(n:Nat):Tr:=.mk x.1 (bl (Yf x.1 (qp t x.2.1))) (if x.1=6 then(x.2.2.2.1.take n).map λc=>bl (zr1 t nodes c)else []) ((x.2.2.2.1.take n).map λc=>Q5 t nodes f c.toNat)
theorem z6o{nodes:List Nd}{x:Nd}(b:nodes[k]?=Td x):Xr t nodes f x x.2.2.2.1.length=Q5 t nodes (f+1) k:=by unfold Xr;rw[Q5,b,A3]
theorem z0m{nodes:List Nd}{x:Nd}{n:Nat}(c:n<x.2.2.2.1.length):Xr t nodes f x (n+1)=.mk x.1 (bl (Yf x.1 (qp t x.2.1))) (if x.1=6 then(Xr t nodes f x n).keys++[bl (zr1 t nodes x.2.2.2.1[n])]else(Xr t nodes f x n).keys) ((Xr t nodes f x n).items++[Q5 t nodes f x.2.2.2.1[n].toNat]):=by unfold Xr;rw[Aw c,Bf,Bf];by_cases b:x.1=6;simp only[b,if_true];rfl;simp only[b,if_false];rfl
section
variable {t : Bs} {nodes : List Nd} {lvs : List Nat} {gl : Fr}
theorem qf4{u v:Value}(B:Blk g b #[u,v]):zd g ⟨b,0,Te⟩ 0 [u,v]:=B.ld (cs:=[u,v])
def qmu(F:FuncId)(t:Bs)(nodes:List Nd)(gl:Fr)(k:Nat)(c:List Value)(v:Tr):Prop:=
 ∀(h:zb) (M:Fr) (e:Sl),Fr.le gl M->AgM M h->Rd M (.row tNd) nodes [slV e]->∀(K:Value->zb->Prop),(∀(h':zb) (bs:List Nat) (sk si:Sl),Keep h.size h h'->OT h' v bs (Zz v sk si)->(∀b∈bs,h.size<=b)->K (.agg #[.int .i64 v.kind,.string v.text,slV sk,slV si]) h') ->
  XC Tp F ([Value.agg #[.string (bl t),slV e],Bm .i64 (k:Int)]++c).toArray h K
set_option maxRecDepth 100000 in
set_option maxHeartbeats 4000000 in
theorem qc8(hg:GL gl)(ht:t.length<=65536)(G:GoodN lvs nodes)(bC:∀x∈nodes,x.2.2.2.1.length<=200000):∀(f k l:Nat) (L:Int),lvs[k]?=Td l->33-l<=f->1<=L->L<=(l:Int)->qmu 59 t nodes gl k [.int .i64 L] (Q5 t nodes f k)
 |0,k,l,L,hl,hf,_,_=>by have:=G.lv k l hl;omega
 |f+1,k,l,L,hl,hf,hL1,hL2=>by
  intro h M N hM ag rd K hK;have aO:k<nodes.length:=by have:=(AY.1 hl).1;have:=G.len;omega
  have hx:nodes[k]?=Td nodes[k]:=Al aO;have b9:=G.lv k l hl;have aj:=G.kid k l nodes[k] hx hl;have bJ:=bC _ (AE aO);generalize bV:nodes[k]=x at hx aj bJ;have cb:=(rowLen rd).1;show XC Tp _ #[.agg #[.string (bl t),slV N],.int .i64 (k:Int),.int .i64 L] h K;apply zrl;intro h1 u;have k1:Keep h.size h h1:=Keep.push _ _ (Ab _);have k2:Keep h1.size h1 u:=Keep.push _ _ (Ab _);have z1:h1.size=h.size+1:=Aj _;have z2:u.size=h1.size+1:=Aj _;have D1:Blk h1 h.size #[.string (bl t),slV N]:=Blk.new _ _ _;have R2:Blk u h1.size #[.int .i64 0,.string ⟨#[]⟩,.slice Te 0 0,.slice Te 0 0]:=Blk.new _ _ _;clear_value h1 u;have aV:Keep h.size h u:=k1.trans (c:=u) (m:=h.size) ⟨k2.size,λj q=>k2.get j (by omega)⟩ (Ab _);have D2:=D1.keep (k2.get h.size (by omega));have bP:=ag.keep aV;obtain⟨nb,no,ks,ps,e1,e2,e3⟩:=qmr bP rd aO;rw[bV]at e2 e3;have b8:=(rowLen e3).1;refine⟨N,by rw[qd];exact D2.cell rfl,_,⟨e1,by omega,by omega⟩,x.1,x.2.1.1,x.2.1.2,x.2.2.1.1,x.2.2.1.2,ks,ps,?_,?_⟩;rw[qd,Ai];exact e2;intro ax;have bN:Keep u.size u ax:=Keep.push _ _ (Ab _);have co:ax.size=u.size+1:=Aj _;have b6:Blk ax u.size #[.int .i64 0,.int .i64 0,.int .i64 0,.int .i64 0,.int .i64 0,.slice Te 0 0,.slice Te 0 0]:=Blk.new _ _ _;clear_value ax;refine zei (vs:=ndC (x,⟨ks,[],ps,[]⟩)) qms b6 rfl qmt (Ab _) (z6e _) λb C cy bQ=>?_;have C:Blk b u.size #[.int .i64 x.1,.int .i64 x.2.1.1,.int .i64 x.2.1.2,.int .i64 x.2.2.1.1,.int .i64 x.2.2.1.2,slV ks,slV ps]:=C;have J:Keep u.size u b:=⟨by omega,λj q=>(bQ j (by omega)).trans (bN.get j q)⟩;have af:Keep h.size h b:=aV.trans (c:=b) (m:=h.size) ⟨J.size,λj q=>J.get j (by omega)⟩ (Ab _);have aG:=D2.keep (J.get h.size (by omega));have b7:=R2.keep (J.get h1.size (by omega));intro bB bu;have bg:∀(U:Nat) (aa:zb),b.size<=U->Keep b.size b aa->Blk aa U #[.int .i64 x.1,.string (bl (Yf x.1 (qp t x.2.1))),.slice Te 0 0,.slice Te 0 0]->bB ⟨U,0,Te⟩ aa:=by
   intro U aa bZ aZ aQ;refine bu ⟨U,0,Te⟩ aa ?_;have bU:=C.keep (aZ.get u.size (by omega));have bG:=aQ.lt;refine⟨ks,by rw[qd];exact bU.cell rfl,λi s=>∃(n:Nat) (sk si:Sl),i=(n:Int)/\n<=x.2.2.2.1.length/\Own b.size s.size s U (Xr t nodes f x n) sk si/\Keep b.size b s,λi _=>x.2.2.2.1.length-i.toNat,⟨0,⟨Te,0,0⟩,⟨Te,0,0⟩,rfl,by omega,?_,aZ⟩,?_⟩;have e0:Xr t nodes f x 0=.mk x.1 (bl (Yf x.1 (qp t x.2.1))) [] []:=by unfold Xr;simp
   rw[e0];exact Own.new aQ bZ (Ab _);rintro i s ⟨n,sk,si,rfl,hn,E,B⟩;have bA:=C.keep (B.get u.size (by omega));have br:=aG.keep (B.get h.size (by omega));have bM:=b7.keep (B.get h1.size (by omega));have aC:Keep h.size h s:=af.trans (c:=s) (m:=h.size) ⟨B.size,λj q=>B.get j (by omega)⟩ (Ab _);have aE:=ag.keep aC;have ca:=B.size;refine⟨λai=>?_,λbL=>?_⟩;have ai:n<x.2.2.2.1.length:=by have:=of_decide_eq_true ai;omega
   obtain⟨j,ej,cq,aP⟩:=aj _ (AE ai);have q:j<nodes.length:=by have:=(AY.1 aP).1;have:=G.len;omega
   have ck:=G.lv j (l+1) aP;obtain⟨ib,io,f1,f2⟩:=zox aE e3 ai;rw[ej]at f2;refine⟨ks,by rw[qd];exact bA.cell rfl,_,⟨f1,by omega,by omega⟩,(j:Int),by rw[qd,Ai];exact f2,N,λ_=>by rw[qd];exact br.cell rfl,?_⟩;have hc:(bif (bif (decide ((j:Int)<0))then Ta else(decide ((j:Int)>=((N.len:Nat):Int))))then Ta else(decide (L>32)))=Tc:=by rw[decide_eq_false (by omega),cond_false,decide_eq_false (by omega),cond_false,decide_eq_false (by omega)]
   rw[hc];refine⟨λh=>(by cases h),λ_=>?_⟩;intro bF ba;have aS:nodes[j]?=Td nodes[j]:=Al q;have aY:zr1 t nodes x.2.2.2.1[n]=qcv t nodes[j]:=by unfold zr1;rw[ej,Ai,aS]
   have an:=z0m (t:=t) (nodes:=nodes) (f:=f) ai;rw[aY,ej,Ai]at an;have body:∀(e:zb) (aF:List Bt) (aI:Sl),aF=(if x.1=6 then(Xr t nodes f x n).keys++[bl (qcv t nodes[j])]else(Xr t nodes f x n).keys)->Own b.size e.size e U (.mk x.1 (bl (Yf x.1 (qp t x.2.1))) aF (Xr t nodes f x n).items) aI si->Keep b.size b e->bF e:=by
    intro e aF aI bS aH ab;refine ba e ?_;have cn:=ab.size;have bY:=aG.keep (ab.get h.size (by omega));have bj:Keep h.size h e:=af.trans (c:=e) (m:=h.size) ⟨ab.size,λj q=>ab.get j (by omega)⟩ (Ab _);have ae:=aH.box.lt;refine⟨si,by rw[qd];exact aH.box.cell rfl,bl t,N,qf4 bY,?_⟩;rw[w64 (by omega)];refine qc8 hg ht G bC f j (l+1) (L+1) aP (by omega) (by omega) (by omega) e M N hM (ag.keep bj) rd _ λau bw wk wi aB ow aM=>⟨_,_,_,_,rfl,?_⟩;have cm:=aB.size;refine⟨by rw[qd];exact aB.get U ae,?_⟩;intro A;have aA:Keep au.size au A:=Keep.push _ _ (Ab _);have cu:A.size=au.size+1:=Aj _;have bO:Blk A au.size (Zz (Q5 t nodes f j) wk wi).toArray:=Blk.new _ _ _;clear_value A;refine⟨by rw[qd];exact(aA.get U (by omega)).trans (aB.get U ae),?_⟩;have H:Keep e.size e A:=aB.trans (c:=A) (m:=e.size) ⟨aA.size,λj q=>aA.get j (by omega)⟩ (Ab _);have bq:Keep b.size b A:=ab.trans (c:=A) (m:=b.size) ⟨H.size,λj q=>H.get j (by omega)⟩ (Ab _);have a7:(Xr t nodes f x n).items.length<=1000000:=by unfold Xr;simp;omega
    rw[qd];refine Own.item (aH.keep H) (by omega) a7 bO (ow.frame λc hc=>aA.get c (ow.lt c hc)) (λhm=>by have:=ow.lt _ hm;omega) (λc hc=>⟨by have:=aM c hc;omega,by have:=aM c hc;omega,aM c hc⟩) λg' s2 O' k' z'=>⟨⟨n+1,aI,s2,by rw[w64 (by omega)];omega,by omega,?_,bq.trans (c:=g') (m:=b.size) k' (Ab _)⟩,?_⟩;rw[an,<-bS];exact O';show x.2.2.2.1.length-(Aa .i64 ((n:Int)+1)).toNat<x.2.2.2.1.length-(n:Int).toNat;rw[w64 (by omega)];omega
   refine⟨x.1,by rw[qd];exact bA.cell rfl,λh6=>?_,λh6=>?_⟩;have h6:x.1=6:=by simpa using h6
   have ah:=E.box.lt;refine⟨sk,by rw[qd];exact E.box.cell rfl,bl t,N,qf4 br,?_⟩;refine(qft hg ht (nodes:=nodes) (k:=j) aS (R:=λr=>r=bl (qcv t nodes[j])) rfl).go hM aE (qc (a:=Arg.mk qj1 _) ⟨[.string (bl t),slV N],rfl,[.string (bl t)],[slV N],rfl,rfl,rd⟩ (qc (a:=Arg.mk (.int .i64) _) (Jf _ _) qt)) λv az M' r Lt hv hr=>⟨r,qhq hv,?_⟩;subst hr;have ar:=Lt.keep;have cA:=ar.size;refine⟨by rw[qd];exact ar.get U ah,?_⟩;intro z;have aL:Keep az.size az z:=Keep.push _ _ (Ab _);have cd:z.size=az.size+1:=Aj _;have bD:Blk z az.size #[.string (bl (qcv t nodes[j]))]:=Blk.new _ _ _;clear_value z;refine⟨by rw[qd];exact(aL.get U (by omega)).trans (ar.get U ah),?_⟩;have F:Keep s.size s z:=ar.trans (c:=z) (m:=s.size) ⟨aL.size,λj q=>aL.get j (by omega)⟩ (Ab _);have aU:Keep b.size b z:=B.trans (c:=z) (m:=b.size) ⟨F.size,λj q=>F.get j (by omega)⟩ (Ab _);have a8:(Xr t nodes f x n).keys.length<=1048576:=by unfold Xr;simp[h6];omega
   rw[qd];refine Own.key (E.keep F) (by omega) a8 bD λg' s2 O' k' z'=>body g' _ s2 (by rw[if_pos h6]) O' (aU.trans (c:=g') (m:=b.size) k' (Ab _));have h6:¬x.1=6:=by simpa using h6
   exact body s (Xr t nodes f x n).keys sk (by rw[if_neg h6]) E B;have bH:n=x.2.2.2.1.length:=by have:=of_decide_eq_false bL;omega
   subst bH;have eN:=z6o (t:=t) (f:=f) hx;rw[eN]at E;refine⟨_,_,sk,si,E.box.ld (cs:=Zz _ sk si),?_⟩;refine jw bM λg2 f2 z2 B2=>⟨_,_,sk,si,B2.ld (cs:=[_,_,slV sk,slV si]),?_⟩;obtain⟨bs,ot,bn⟩:=E.ot;refine hK g2 bs sk si (aC.trans (c:=g2) (m:=h.size) ⟨by omega,λj q=>f2 j (by omega)⟩ (Ab _)) (ot.frame λc hc=>f2 c (by have:=(bn c hc).1;omega)) λc hc=>by have:=(bn c hc).1;omega
  have cz:=zf5 t x.2.1;have bm:∀{g:zb} {Q:Value->zb->Prop},AgM M g->(∀g',Keep g.size g g'->Q (.string (bl (qp t x.2.1))) g')->XC Tp 31 #[.agg #[.string (bl t),slV N],.agg #[.int .i64 x.2.1.1,.int .i64 x.2.1.2]] g Q:=λ {g Q} agg hQ=>by refine(zxt (gl:=gl) (t:=t) (nodes:=nodes) (p:=x.2.1) (R:=λr=>r=bl (qp t x.2.1)) rfl).go hM agg (qc (a:=Arg.mk qj1 _) ⟨[.string (bl t),slV N],rfl,[.string (bl t)],[slV N],rfl,rfl,rd⟩ (qc (a:=Arg.mk tSp _) ⟨[.int .i64 x.2.1.1,.int .i64 x.2.1.2],rfl,_,_,rfl,rfl,rfl⟩ qt)) λv g' M' r L hv hr=>?_;subst hr;rw[qhq hv];exact hQ g' L.keep
  have aJ:∀{g:zb} {Q:Value->zb->Prop},AgM M g->(∀g',Keep g.size g g'->Q (.string (bl (Yf x.1 (qp t x.2.1)))) g')->XC Tp 111 #[.int .i64 x.1,.string (bl (qp t x.2.1))] g Q:=λ {g Q} agg hQ=>by refine(qba hg (k:=x.1) (t:=qp t x.2.1) (by omega) (R:=λr=>r=bl (Yf x.1 (qp t x.2.1))) rfl).go hM agg (qc (a:=Arg.mk (.int .i64) _) (Jf _ _) (qc (a:=Arg.mk .str _) (rdStr _) qt)) λv g' M' r L hv hr=>?_;subst hr;rw[qhq hv];exact hQ g' L.keep
  have D:=ag.keep af;have y:∀(hh hA:zb),Keep b.size b hh->Keep hh.size hh hA->Blk hA hh.size #[.int .i64 0,.string ⟨#[]⟩,.slice Te 0 0,.slice Te 0 0]->XRunU Tp (Af 26 (.pointer (Td ⟨hh.size,0,Te⟩)) (.agg #[.int .i64 x.1,.string (bl (Yf x.1 (qp t x.2.1))),.slice Te 0 0,.slice Te 0 0])) hA (λg=>bB ⟨hh.size,0,Te⟩ g):=λhh hA kh kA BA=>
   jw (sk:=⟨Te,0,0⟩) (si:=⟨Te,0,0⟩) BA λg2 f2 z2 B2=>bg hh.size g2 kh.size (kh.trans (c:=g2) (m:=b.size) ⟨by have:=kh.size;have:=kA.size;omega,λj q=>by have:=kh.size;rw[f2 j (by omega)];exact kA.get j (by omega)⟩ (Ab _)) B2
  have V:∀{g:zb},Keep b.size b g->g[u.size]?=b[u.size]?:=λk=>k.get u.size (by omega);refine⟨x.1,by rw[qd];exact C.cell rfl,x.1,by rw[qd];exact C.cell rfl,bl t,N,qf4 aG,x.2.1.1,x.2.1.2,?_,bm D λap o=>⟨_,rfl,by rw[qd];exact V o,by rw[qd];exact V o,aJ (D.keep o) λw Y=>⟨_,rfl,?_,?_,?_⟩,?_⟩,?_⟩;rw[qd];exact⟨by rw[qd];exact C.cell rfl,by rw[qd];exact C.cell rfl,trivial⟩;rw[qd];exact V (o.trans (c:=w) (m:=b.size) ⟨Y.size,λj q=>Y.get j (by have:=o.size;omega)⟩ (Ab _));intro bI;have kk:Keep b.size b w:=o.trans (c:=w) (m:=b.size) ⟨Y.size,λj q=>Y.get j (by have:=o.size;omega)⟩ (Ab _);exact y w bI kk (Keep.push _ _ (Ab _)) (Blk.new _ _ _);intro a6;have kk:Keep b.size b w:=o.trans (c:=w) (m:=b.size) ⟨Y.size,λj q=>Y.get j (by have:=o.size;omega)⟩ (Ab _);have aT:Keep w.size w a6:=Keep.push _ _ (Ab _);refine⟨by rw[qd];exact(aT.get u.size (by have:=kk.size;omega)).trans (V kk),?_⟩;exact y w a6 kk aT (Blk.new _ _ _);intro S;have aN:Keep ap.size ap S:=Keep.push _ _ (Ab _);have cc:S.size=ap.size+1:=Aj _;have bT:Blk S ap.size #[.int .i64 0,.string ⟨#[]⟩,.slice Te 0 0,.slice Te 0 0]:=Blk.new _ _ _;clear_value S;have cp:=o.size;have P:Keep b.size b S:=o.trans (c:=S) (m:=b.size) ⟨aN.size,λj q=>aN.get j (by omega)⟩ (Ab _);refine⟨by rw[qd];exact V P,by rw[qd];exact V P,aJ (D.keep P) λbz am=>⟨_,rfl,?_,?_⟩⟩;rw[qd];exact V (P.trans (c:=bz) (m:=b.size) ⟨am.size,λj q=>am.get j (by omega)⟩ (Ab _));exact y ap bz o ⟨by have:=am.size;omega,λj q=>by rw[am.get j (by omega)];exact aN.get j q⟩ (bT.keep (am.get _ (by omega)));intro ay;have I:Keep b.size b ay:=Keep.push _ _ (Ab _);have cj:ay.size=b.size+1:=Aj _;have bE:Blk ay b.size #[.int .i64 0,.string ⟨#[]⟩,.slice Te 0 0,.slice Te 0 0]:=Blk.new _ _ _;clear_value ay;refine⟨by rw[qd];exact V I,I.get h.size (by omega),by rw[qd];exact V I,by rw[qd];exact V I,bm (D.keep I) λbe ak=>⟨_,rfl,?_⟩⟩;have cg:=ak.size;have O:Keep b.size b be:=I.trans (c:=be) (m:=b.size) ⟨ak.size,λj q=>ak.get j (by omega)⟩ (Ab _);refine⟨by rw[qd];exact V O,by rw[qd];exact V O,aJ (D.keep O) λa1 Z=>⟨_,rfl,?_,?_⟩⟩;rw[qd];exact V (O.trans (c:=a1) (m:=b.size) ⟨Z.size,λj q=>Z.get j (by omega)⟩ (Ab _));exact y b a1 (Keep.refl _ _) ⟨by have:=Z.size;omega,λj q=>by rw[Z.get j (by omega),ak.get j (by omega)];exact I.get j q⟩ ((bE.keep (ak.get _ (by omega))).keep (Z.get _ (by omega)))
end
end
section
variable {n bv cv:Nat} {t el ty:TypeId} {zv:Value} {ks:Sl} {K:Value -> zb -> Prop}
theorem NS.cell{lo:Nat}{g:zb}{M:Fr}{na:NA}{sl:Sl}{b:Nat}{cs:Array Value}(H:NS lo g M na sl b cs)(c:n<na.length):sl.a=Td ⟨b,0,Te⟩/\Blk g b cs/\sl.cap≠0/\n*7+7<=cs.size/\∀(q:Nat) (v:Value),q<7->(ndC na[n])[q]?=Td v->zc g ⟨b,n*7+q,Te⟩=Td v:=by
 have e:na.map ndC≠[]:=λh=>by rw[List.map_eq_nil_iff]at h;rw[h]at c;simp at c
 obtain⟨h1,f⟩:=H.cr.blk e;obtain⟨m,i⟩:=H.cr.el n (ndC na[n]) (by rw[Bn,Al c];rfl);refine⟨h1,f,by have:=H.len;have:=H.cr.ro.le;omega,by omega,λq v k l=>f.cell ?_⟩;have:=zsa i k;rw[l]at this;rw[<-this,Cj]
def axK(k:Int)(c:Sl)(b:List Nat)(p:Nd×Ax):Nd×Ax:=((p.1.1,p.1.2.1,p.1.2.2.1,p.1.2.2.2.1++[k],p.1.2.2.2.2),⟨c,b,p.2.ps,p.2.pb⟩)
def axP(k:Sp)(c:Sl)(b:List Nat)(p:Nd×Ax):Nd×Ax:=((p.1.1,p.1.2.1,p.1.2.2.1,p.1.2.2.2.1,p.1.2.2.2.2++[k]),⟨p.2.ks,p.2.kb,c,b⟩)
def axT(t:Int)(p:Nd×Ax):Nd×Ax:=(qfc t p.1,p.2)
theorem zc3{f:Nd×Ax->Nd×Ax}{f':Nd->Nd}(h:∀p,(f p).1=f' p.1)(na:NA)(n:Nat):(na.modify n f).map (·.1)=(na.map (·.1)).modify n f':=by
 apply Bu;intro i;rw[Bn,BJ,BJ,Bn];cases na[i]? with
 |none=>rfl
 |some p=>by_cases e:n=i <;> simp[e,h]
structure NSt (lo:Nat) (g:zb) (M:Fr) (na:NA) (sl:Sl) (b:Nat) (g':zb) (na':NA) (cs':Array Value):Prop where
 ns:NS lo g' M na' sl b cs'
 le:g.size<=g'.size
 sub:∀c,nsO na' sl b c->nsO na sl b c\/g.size<=c
 fr:∀j,j<g.size->¬nsO na sl b j->g'[j]?=g[j]?
section
variable {lo : Nat} {g : zb} {M : Fr} {na : NA} {sl : Sl} {b : Nat} {cs : Array Value}
theorem NS.addK{bytes:Nat}(E:ElemT Tp t el zv (sz (.int .i64)) bytes)(B:bytes<=1000)(ag:AgM M g)(J:lo<=g.size)(H:NS lo g M na sl b cs)(G:n<na.length){k:Int}(hv:Blk g bv #[.int .i64 k])(hb:na[n].1.2.2.2.1.length<=1000000)(A:na[n].2.ks=ks) (S:∀(m:Sl) (p:zb) (l:List Nat),Blk p b cs->g.size<=p.size->(∀j,j<g.size->¬nsO na sl b j->p[j]?=g[j]?)->(∀r:zb,Blk r b (cs.setIfInBounds (n*7+5) (slV m))->r.size=p.size->(∀j,j≠b->r[j]?=p[j]?)->NSt lo g M na sl b r (na.modify n (axK k m l)) (cs.setIfInBounds (n*7+5) (slV m)))->K (.slice m.a m.len m.cap) p):
  XRun Tp (Au #[t,t] ty #[.slice ks.a ks.len ks.cap,.slice (Td ⟨bv,0,Te⟩) 1 cv]) g K:=by
 subst A;obtain⟨h1,C,L,h4,h5⟩:=H.cell G;have s:=AE G;have I:=H.nd _ s;have F:=(H.lb L).2.1;refine ORow.app E B ag I.kk J hv rfl hb λm p l O Q c1 z=>?_;have y:b∉na[n].2.kb:=λh=>H.nb _ s (.inl h);have x:b∉l:=λh=>by rcases c1 b h with h|h;exact y h;omega
 refine S m p l (C.keep (z b F y)) Q (λj u o=>z j u λh=>o (.inr ⟨_,s,.inl h⟩)) λr V z2 D=>?_;have w:∀j,j<g.size->j≠b->¬axO na[n] j->r[j]?=g[j]?:=λj u h1 C=>by rw[D j h1,z j u λh=>C (.inl h)]
 have Y:NdI lo r M (axK k m l na[n]):=by refine⟨?_,?_,?_⟩;exact O.frame (λc i=>D c λe=>x (e ▸ i)) (Fr.le.refl _) λc i=>(O.own c i).2.2;exact I.pp.frame (λc i=>by have:=(I.pp.own c i).2.1;rw[D c λe=>H.nb _ s (.inr (e ▸ i))];exact z c this λh=>I.dd c h i) (Fr.le.refl _) λc i=>(I.pp.own c i).2.2;intro c i P;rcases c1 c i with h|h;exact I.dd c h P;have:=(I.pp.own c P).2.1;omega
 have Z:∀c,axO (axK k m l na[n]) c->axO na[n] c\/g.size<=c:=by intro c i;rcases i with i|i;rcases c1 c i with h|h;exact .inl (.inl h);exact .inr h;exact .inl (.inr i)
 obtain⟨N,U⟩:=H.upd G (f:=axK k m l) (q:=5) (v:=slV m) (by omega) V (by omega) rfl Y Z w;exact⟨N,by omega,U,λj u o=>w j u (λe=>o (.inl ⟨L,e⟩)) λh=>o (.inr ⟨_,s,h⟩)⟩
theorem NS.addP{bytes:Nat}(E:ElemT Tp t el zv (sz tSp) bytes)(B:bytes<=1000)(ag:AgM M g)(J:lo<=g.size)(H:NS lo g M na sl b cs)(G:n<na.length){k:Sp}(hv:Blk g bv #[.int .i64 k.1,.int .i64 k.2])(hb:na[n].1.2.2.2.2.length<=1000000)(A:na[n].2.ps=ks) (S:∀(m:Sl) (p:zb) (l:List Nat),Blk p b cs->g.size<=p.size->(∀j,j<g.size->¬nsO na sl b j->p[j]?=g[j]?)->(∀r:zb,Blk r b (cs.setIfInBounds (n*7+6) (slV m))->r.size=p.size->(∀j,j≠b->r[j]?=p[j]?)->NSt lo g M na sl b r (na.modify n (axP k m l)) (cs.setIfInBounds (n*7+6) (slV m)))->K (.slice m.a m.len m.cap) p):
  XRun Tp (Au #[t,t] ty #[.slice ks.a ks.len ks.cap,.slice (Td ⟨bv,0,Te⟩) 1 cv]) g K:=by
 subst A;obtain⟨h1,C,L,h4,h5⟩:=H.cell G;have s:=AE G;have I:=H.nd _ s;have F:=(H.lb L).2.1;refine ORow.app E B ag I.pp J hv ⟨_,_,rfl,rfl,rfl⟩ hb λm p l O Q c1 z=>?_;have y:b∉na[n].2.pb:=λh=>H.nb _ s (.inr h);have x:b∉l:=λh=>by rcases c1 b h with h|h;exact y h;omega
 refine S m p l (C.keep (z b F y)) Q (λj u o=>z j u λh=>o (.inr ⟨_,s,.inr h⟩)) λr V z2 D=>?_;have w:∀j,j<g.size->j≠b->¬axO na[n] j->r[j]?=g[j]?:=λj u h1 C=>by rw[D j h1,z j u λh=>C (.inr h)]
 have Y:NdI lo r M (axP k m l na[n]):=by refine⟨?_,?_,?_⟩;exact I.kk.frame (λc i=>by have:=(I.kk.own c i).2.1;rw[D c λe=>H.nb _ s (.inl (e ▸ i))];exact z c this λh=>I.dd c i h) (Fr.le.refl _) λc i=>(I.kk.own c i).2.2;exact O.frame (λc i=>D c λe=>x (e ▸ i)) (Fr.le.refl _) λc i=>(O.own c i).2.2;intro c P i;rcases c1 c i with h|h;exact I.dd c P h;have:=(I.kk.own c P).2.1;omega
 have Z:∀c,axO (axP k m l na[n]) c->axO na[n] c\/g.size<=c:=by intro c i;rcases i with i|i;exact .inl (.inl i);rcases c1 c i with h|h;exact .inl (.inr h);exact .inr h
 obtain⟨N,U⟩:=H.upd G (f:=axP k m l) (q:=6) (v:=slV m) (by omega) V (by omega) rfl Y Z w;exact⟨N,by omega,U,λj u o=>w j u (λe=>o (.inl ⟨L,e⟩)) λh=>o (.inr ⟨_,s,h⟩)⟩
theorem NS.toB(H:NS lo g M na sl b cs)(l:n<na.length){x:Int}{i:zb}(r:Blk i b (cs.setIfInBounds (n*7+2) (.int .i64 x)))(z2:i.size=g.size)(k:∀j,j≠b->i[j]?=g[j]?):NSt lo g M na sl b i (na.modify n (axT x)) (cs.setIfInBounds (n*7+2) (.int .i64 x)):=by
 obtain⟨h1,t,p,y,z⟩:=H.cell l;have m:=AE l;have I:=H.nd _ m;have s:NdI lo i M (axT x na[n]):=by refine⟨?_,?_,I.dd⟩;exact I.kk.frame (λc h=>k c λe=>H.nb _ m (.inl (e ▸ h))) (Fr.le.refl _) λc h=>(I.kk.own c h).2.2;exact I.pp.frame (λc h=>k c λe=>H.nb _ m (.inr (e ▸ h))) (Fr.le.refl _) λc h=>(I.pp.own c h).2.2
 obtain⟨N,w⟩:=H.upd l (f:=axT x) (q:=2) (v:=.int .i64 x) (by omega) r (by omega) rfl s (λc h=>.inl h) λj u h1 t=>k j h1;exact⟨N,by omega,w,λj u o=>k j λe=>o (.inl ⟨p,e⟩)⟩
end
end
section
variable {J O O':Nat -> Prop} {g g':zb} {lo bp:Nat} {M:Fr} {s:Bs} {a e:Int}
structure StJ (J:Nat->Prop) (g:zb) (O:Nat->Prop) (g':zb) (O':Nat->Prop):Prop where
 le:g.size<=g'.size
 sub:∀c,O' c->O c\/g.size<=c
 fr:∀j,j<g.size->¬O j->¬J j->g'[j]?=g[j]?
theorem Stp.j{J:Nat->Prop}{g g':zb}{O O':Nat->Prop}(S:Stp g O g' O'):StJ J g O g' O':=⟨S.le,S.sub,λj h1 b _=>S.fr j h1 b⟩
theorem StJ.trans{g g' f:zb}{O O' e:Nat->Prop}(a:StJ J g O g' O')(b:StJ J g' O' f e):StJ J g O f e:=by have:=a.le;have:=b.le;refine⟨by omega,λc h=>?_,λj l k i=>?_⟩;rcases b.sub c h with h|h;exact a.sub c h;exact .inr (by omega);rw[b.fr j (by omega) (λh=>?_) i];exact a.fr j l k i;rcases a.sub j h with h|h;exact k h;omega
def Apt(J:Nat->Prop)(g:zb)(O:Nat->Prop):Prop:=∀j,J j->j<g.size/\¬O j
theorem Apt.step{J D:Nat->Prop}(h:Apt D g O)(S:StJ J g O g' O'):Apt D g' O':=λj c=>by obtain⟨h1,e⟩:=h j c;have:=S.le;refine⟨by omega,λb=>?_⟩;rcases S.sub j b with h|h;exact e h;omega
def Ans(r:PR PSt)(b:Bool)(st':PSt)(a e:Int):Prop:=match r with
 |.inl t=>b=Ta/\st'=t
 |.inr x=>b=Tc/\x=(a,e)
def qmc(r:PR (List Bs×PSt))(b:Bool)(σ:List Bs)(st':PSt)(a e:Int):Prop:=match r with
 |.inl t=>b=Ta/\t=(σ,st')
 |.inr x=>b=Tc/\x=(a,e)
def qi3(g:zb)(bp:Nat):Nat:=match zc g ⟨bp,1,Te⟩with
 |some (.slice _ n _)=>n
 |_=>0
theorem PaS.restLen{st:PSt}(H:PaS lo g M bp s st a e O):qi3 g bp=st.rest.length:=by obtain⟨rs,lf,na,sl,b,cs,W,h1,rfl⟩:=H;unfold qi3;rw[W.blk.cell (o:=1) (v:=slV rs) rfl];exact(rowLen W.rd).1
theorem PW.nst{rest:List Tk}{last a e:Int}{rs:Sl}{lf:Int}{na na':NA}{sl:Sl}{b:Nat}{cs cs':Array Value}(W:PW lo g M bp s rest last a e rs lf na sl b cs)(N:NSt lo g M na sl b g' na' cs'):PW lo g' M bp s rest last a e rs lf na' sl b cs'/\Stp g (ppO bp na sl b) g' (ppO bp na' sl b):=by refine⟨⟨W.blk.keep (N.fr bp W.blk.lt W.nb),W.rd,N.ns,z6m W.ag λj f k=>N.fr j f λh=>k (W.ns.own h).2.2,W.bl,λh=>?_⟩,N.le,λc h=>?_,λj f i=>N.fr j f λh=>i (.inr h)⟩;rcases N.sub bp h with h|h;exact W.nb h;have:=W.blk.lt;omega;rcases h with h|h;exact .inl (.inl h);rcases N.sub c h with h|h;exact .inl (.inr h);exact .inr h
theorem z0n:ElemT Tp 59 3 (.int .i64 0) (sz (.int .i64)) 8:=⟨by kernel_rfl,⟨Tryz.t3,by kernel_rfl,by kernel_rfl,by kernel_rfl,by kernel_rfl⟩,rfl,by decide⟩
theorem qlq:ElemT Tp 60 58 (.agg #[.int .i64 0,.int .i64 0]) (sz tSp) 16:=⟨by kernel_rfl,⟨Tryz.t58,by kernel_rfl,by kernel_rfl,by kernel_rfl,by kernel_rfl⟩,rfl,by decide⟩
theorem qmv:qb Tp 59=Ta:=by kernel_rfl
theorem qmw:qi Tp 59=1:=by kernel_rfl
theorem qmx:qb Tp 60=Ta:=by kernel_rfl
theorem qmy:qi Tp 60=1:=by kernel_rfl
def qmd(lo:Nat)(M:Fr)(bp:Nat)(s:Bs)(F:FuncId)(A C:Array Value)(lv:Int)(kid:zmj)(HI:List Bs->zb->Prop)(J D:Nat->Prop):Prop:=
 ∀(σ:List Bs) (g:zb) (st:PSt) (a e:Int) (O:Nat->Prop),PaS lo g M bp s st a e O->HI σ g->Apt D g O->st.nodes.length<=4096->st.T<=200000->(∀t∈st.rest,TkW s t) ->
  ∀K:Value->zb->Prop,(∀b g' st' a' e' O' c,PaS lo g' M bp s st' a' e' O'->StJ J g O g' O'->st.nodes.length<=st'.nodes.length->(b=Ta->HI c g')->qmc (kid σ st) b c st' a' e'->K (.bool b) g')->XC Tp F (A++#[.int .i64 lv]++C) g K
section
variable {lo : Nat} {g : zb} {M : Fr} {bp : Nat} {s : Bs} {st : PSt} {a e : Int} {O J D : Nat -> Prop} {K : Value -> zb -> Prop} {HI : List Bs -> zb -> Prop} {kid : zmj} {F : FuncId} {A C : Array Value}
set_option maxRecDepth 100000 in
set_option maxHeartbeats 4000000 in
theorem z6p(ar:∀σ g g',HI σ g->(∀j,D j->g'[j]?=g[j]?)->HI σ g'){I lv:Int}(a8:Aa .i64 (I+1)=lv)(hk:qmd lo M bp s F A C lv kid HI J D)(ay:z0c kid)(hF:zh Tp F=Ta) {closing:Int} (hc:closing≠0) (H:PaS lo g M bp s st a e O) (h0:HI [] g) (hJ:Apt D g O) (h4:st.nodes.length<=4096) (hT:st.T<=200000) (hw:∀t∈st.rest,TkW s t) {n:Nat} (hn:n<st.nodes.length) (hK:∀b g' st' a' e' O',PaS lo g' M bp s st' a' e' O'->StJ J g O g' O'->st.nodes.length<=st'.nodes.length->Ans (Xo s n closing kid st) b st' a' e'->K (.bool b) g'):
  XC Tp 117 #[.pointer (Td ⟨bp,0,Te⟩),.int .i64 (n:Int),.int .i64 I,.int .i64 closing,.func (.func F) A C] g K:=by
 apply zcq;refine zhx H hc (λhy g1 P1 S1=>⟨Ta,rfl,λ_=>?_,λh=>(by cases h)⟩) (λaU=>⟨Tc,rfl,λh=>(by cases h),λ_=>?_⟩);refine hK Ta g1 st.skip a e O P1 S1.j (by rw[qu];exact Ab _) ?_;unfold Xo;rw[if_pos hy];exact⟨rfl,rfl⟩;refine⟨λg'=>∃(f:Nat) (σ:List Bs) (st':PSt) (a' e':Int) (O':Nat->Prop),PaS lo g' M bp s st' a' e' O'/\HI σ g'/\Apt D g' O'/\StJ J g O g' O'/\Okk st st' 0/\st'.rest.length<f/\Xo s n closing kid st=Jm s n closing kid f σ st',λg'=>qi3 g' bp,⟨st.rest.length+1,[],st,a,e,O,H,h0,hJ,(Stp.refl g O).j,Okk.refl st,by omega,by unfold Xo;rw[if_neg aU]⟩,?_⟩;rintro h6 ⟨f,σ,l,a1,e1,O1,P1,I1,J1,S1,o,hf,P⟩;obtain⟨f,rfl⟩:∃f',f=f'+1:=⟨f-1,by omega⟩;have bD:n<l.nodes.length:=by have:=o.n;omega
 have aI:l.nodes.length<=4096:=o.m h4;have aV:l.T<=200000:=by have:=o.t;omega
 have aC:=P1.restLen;have aO:=P1;obtain⟨bH,bG,bA,aA,b1,bm,W1,aS,_⟩:=aO;have l1:aA.len=l.nodes.length:=by rw[W1.ns.len,<-aS,Ao]
 refine⟨_,rfl,l.last,by rw[qd,qd];exact W1.blk.cell rfl,_,rfl,aA,by rw[qd];exact W1.blk.cell rfl,hF,?_⟩;rw[a8,l1];refine hk σ h6 l a1 e1 O1 P1 I1 J1 aI aV (λt ht=>hw t (o.w t ht)) _ λb g2 st2 a2 e2 O2 σ2 P2 S2 n2 I2 A2=>⟨b,rfl,λhb=>?_,λhb=>?_⟩;have hb:b=Tc:=by simpa using hb
 subst hb;refine hK Tc g2 st2 a2 e2 O2 P2 (S1.trans S2) (by have:=o.n;omega) ?_;rw[P,Jm];cases S:kid σ l with
 |inl t=>rw[S]at A2;exact absurd A2.1 (by simp)
 |inr x=>rw[S]at A2;exact⟨rfl,A2.2⟩
 have hb:b=Ta:=by simpa using hb
 subst hb;have S:kid σ l=.inl (σ2,st2):=by
  cases S:kid σ l with
  |inl t=>rw[S]at A2;rw[A2.2]
  |inr x=>rw[S]at A2;exact absurd A2.1 (by simp)
 have az:=ay _ _ _ _ S;have I2:=I2 rfl;have J2:=J1.step S2;rw[Jm,S]at P;dsimp only at P;have bj:=P2;obtain⟨rs,lf,na,sl,b,cs,W,h1,rfl⟩:=bj;have bq:na.length=st2.nodes.length:=by rw[<-h1,Ao]
 have Q:n<na.length:=by omega
 obtain⟨q1,q2,q3,q4,q5⟩:=W.ns.cell Q;have aZ:ndW na[n].1<=200000:=by
  have h:na[n].1∈st2.nodes:=by rw[<-h1];exact List.mem_map_of_mem (AE Q)
  have:=qfd h;have:=az.t;omega
 unfold ndW at aZ;refine⟨_,rfl,sl,by rw[qd];exact W.blk.cell rfl,⟨b,0,Te⟩,⟨q1,by omega,by have:=W.ns.len;omega⟩,⟨b,n*7,Te⟩,by rw[qd,Ai,AI],na[n].2.ks,?_,?_⟩;rw[qd];exact q5 5 _ (by omega) rfl;intro y;have aa:Keep g2.size g2 y:=Keep.push _ _ (Ab _);have bu:y.size=g2.size+1:=Aj _;have aF:Blk y g2.size #[.int .i64 (l.nodes.length:Int)]:=Blk.new _ _ _;clear_value y;have aQ:NSt lo g2 M na sl b y na cs:=⟨W.ns.frame aa.size λc hc=>aa.get c (W.ns.own hc).2.1,aa.size,λc h=>.inl h,λj Y _=>aa.get j Y⟩;obtain⟨Z,aG⟩:=W.nst aQ;have ap:lo<=y.size:=by have:=(Z.own (.inl rfl));omega
 refine NS.addK z0n (by omega) Z.ag ap Z.ns Q aF (by omega) rfl λs' bF G a7 bz bB aT=>⟨s',rfl,⟨b,n*7,Te⟩,by rw[qd,Ai,AI],?_⟩;rw[qd];refine yf qmv qmw a7 (by omega) rfl λq u1 u2 u3=>?_;obtain⟨z,a6⟩:=Z.nst (aT q u1 u2 u3);have ae:n<(na.modify n (axK (l.nodes.length:Int) s' G)).length:=by rw[List.length_modify];exact Q
 have ak:(na.modify n (axK (l.nodes.length:Int) s' G))[n]=axK (l.nodes.length:Int) s' G na[n]:=by rw[List.getElem_modify,if_pos rfl]
 obtain⟨r1,r2,r3,r4,r5⟩:=z.ns.cell ae;rw[ak]at r5;refine⟨⟨b,n*7,Te⟩,by rw[qd,Ai,AI],na[n].2.ps,?_,?_⟩;rw[qd];exact r5 6 _ (by omega) rfl;have aE:PaS lo q M bp s ⟨st2.rest,st2.last,(na.modify n (axK (l.nodes.length:Int) s' G)).map (·.1)⟩ a2 e2 _:=⟨_,_,_,_,_,_,z,rfl,rfl⟩;refine z6n aE ⟨_,rfl,rfl,rfl,?_⟩;intro u;have B:Keep q.size q u:=Keep.push _ _ (Ab _);have bC:u.size=q.size+1:=Aj _;have aY:Blk u q.size #[.int .i64 l.last,.int .i64 (st2.here s.length)]:=Blk.new _ _ _;clear_value u;have ba:=(z.ns.own (.inl ⟨r3,rfl⟩)).2.1;refine⟨by rw[qd];exact B.get b ba,?_⟩;have aJ:NSt lo q M _ sl b u _ _:=⟨z.ns.frame B.size λc hc=>B.get c (z.ns.own hc).2.1,B.size,λc h=>.inl h,λj Y _=>B.get j Y⟩;obtain⟨U,aP⟩:=z.nst aJ;have au:lo<=u.size:=by have:=(U.own (.inl rfl));omega
 refine NS.addP qlq (by omega) U.ag au U.ns ae (k:=(l.last,st2.here s.length)) aY (by rw[ak];show na[n].1.2.2.2.2.length<=_;omega) (by rw[ak];rfl) λs2 bE aM be bn br ax=>⟨s2,rfl,⟨b,n*7,Te⟩,by rw[qd,Ai,AI],?_⟩;rw[qd];refine yf qmx qmy be (by omega) rfl λL v1 v2 v3=>?_;obtain⟨aN,aL⟩:=U.nst (ax L v1 v2 v3);have V:((na.modify n (axK (l.nodes.length:Int) s' G)).modify n (axP (l.last,st2.here s.length) s2 aM)).map (·.1)=(st2.addKid n (l.nodes.length:Int) (l.last,st2.here s.length)).nodes:=by
  rw[zc3 (f':=λx=>(x.1,x.2.1,x.2.2.1,x.2.2.2.1,x.2.2.2.2++[(l.last,st2.here s.length)])) (λp=>rfl),zc3 (f':=λx=>(x.1,x.2.1,x.2.2.1,x.2.2.2.1++[(l.nodes.length:Int)],x.2.2.2.2)) (λp=>rfl),h1];unfold PSt.addKid;apply Bu;intro i;rw[BJ,BJ,BJ];cases st2.nodes[i]? with
  |none=>rfl
  |some x=>by_cases e:n=i <;> simp[e,z5j]
 have an:PaS lo L M bp s (st2.addKid n (l.nodes.length:Int) (l.last,st2.here s.length)) a2 e2 _:=⟨_,_,_,_,_,_,aN,V,rfl⟩;have N:=((aG.trans a6).trans aP).trans aL;have bg:HI σ2 L:=ar σ2 g2 L I2 λj Y=>N.fr j (J2 j Y).1 (J2 j Y).2;have am:=J2.step (N.j (J:=J));have aB:=Jn st2 n (l.nodes.length:Int) (l.last,st2.here s.length);have ab:(st2.addKid n (l.nodes.length:Int) (l.last,st2.here s.length)).kind=st2.kind:=rfl;have aH:(st2.addKid n (l.nodes.length:Int) (l.last,st2.here s.length)).here s.length=st2.here s.length:=rfl;have E:=(S1.trans S2).trans N.j;have ai:st.nodes.length<=(st2.addKid n (l.nodes.length:Int) (l.last,st2.here s.length)).nodes.length:=by have:=o.n;have:=az.n;omega
 refine zhx an hc (λhy g' P' S'=>⟨Ta,rfl,λ_=>?_,λh=>(by cases h)⟩) (λaf=>⟨Tc,rfl,λh=>(by cases h),λ_=>?_⟩);refine hK Ta g' _ _ _ _ P' (E.trans S'.j) (by rw[qu];exact ai) ?_;rw[ab]at hy;rw[P,if_pos hy];exact⟨rfl,rfl⟩;rw[ab]at af;rw[if_neg af]at P;refine zhx an (by omega) (λhy g' P' S'=>⟨Ta,rfl,λh=>(by simp at h),λ_=>?_⟩) (λah=>⟨Tc,rfl,λ_=>?_,λh=>(by simp at h)⟩);rw[ab]at hy;rw[if_pos hy]at P;have aj:=zf4 ay S (n:=n) (k:=(l.nodes.length:Int)) (p:=(l.last,st2.here s.length)) (PSt.ne_kind hy (by omega));refine⟨⟨f,σ2,_,_,_,_,P',ar σ2 L g' bg (λj Y=>S'.fr j (am j Y).1 (am j Y).2),am.step (S'.j (J:=J)),E.trans S'.j,(o.trans aj).le (by omega),?_,P⟩,?_⟩;have:=aj.r;omega;have e1:=P'.restLen;have:=aj.r;show qi3 g' bp<qi3 h6 bp;rw[e1,aC];omega;rw[ab]at ah;rw[if_neg ah]at P;refine Wy an λg' P' S'=>⟨Tc,rfl,hK Tc g' _ _ _ _ P' (E.trans S'.j) ai ?_⟩;rw[P];exact⟨rfl,by rw[aH]⟩
end
end
section
variable {gl:Fr}
theorem zsi{k:Int}{R:Int->Prop}(h:R (zu k)):PC Tp gl 114 [Arg.mk (.int .i64) k] [.int .i64] R:=by
 apply zk9;unfold zu at h;refine⟨λf=>?_,λf K n=>?_⟩;rw[if_pos (by simpa using f)]at h;exact h;have f:¬k=12:=by simpa using f
 rw[if_neg f]at h;have key:∀b:Bool,b=decide (k=10\/k=11)->K b:=λb l=>n b ⟨λh1=>by
   rw[h1]at l;rw[if_pos (of_decide_eq_true l.symm)]at h;exact h,λh1=>by
   rw[h1]at l;rw[if_neg (of_decide_eq_false l.symm)]at h;refine⟨λc=>?_,λc=>⟨λe=>?_,λe=>⟨λi=>?_,λi=>⟨λm=>?_,λm=>?_⟩⟩⟩⟩;rw[if_pos (by simpa using c)]at h;exact h;rw[if_neg (by simpa using c),if_pos (by simpa using e)]at h;exact h;rw[if_neg (by simpa using c),if_neg (by simpa using e),if_pos (by simpa using i)]at h;exact h;rw[if_neg (by simpa using c),if_neg (by simpa using e),if_neg (by simpa using i),if_pos (by simpa using m)]at h;exact h;rw[if_neg (by simpa using c),if_neg (by simpa using e),if_neg (by simpa using i),if_neg (by simpa using m)]at h;exact h⟩
 refine⟨λh1=>key _ ?_,λh1=>key _ ?_⟩;have:k=10:=by simpa using h1
 rw[h1,this];rfl;have:¬k=10:=by simpa using h1
 rw[AM,beq_iff_eq,decide_eq_true_eq];omega
def qlr(lo:Nat)(M:Fr)(bp:Nat)(s:Bs)(lv:Int)(val:zry):Prop:=
 ∀(key:Sp) (g:zb) (st:PSt) (a e:Int) (O:Nat->Prop),PaS lo g M bp s st a e O->st.nodes.length<=4096->st.T<=200000->(∀t∈st.rest,TkW s t) ->
  ∀K:Value->zb->Prop,(∀b g' st' a' e' O',PaS lo g' M bp s st' a' e' O'->Stp g O g' O'->st.nodes.length<=st'.nodes.length->Ans (val key st) b st' a' e'->K (.bool b) g')->XC Tp 61 #[.pointer (Td ⟨bp,0,Te⟩),.int .i64 lv,.agg #[.int .i64 key.1,.int .i64 key.2]] g K
section
variable {lo : Nat} {g : zb} {M : Fr} {bp : Nat} {s : Bs} {lv : Int} {val : zry}
theorem qf5(n:qlr lo M bp s lv val):qmd lo M bp s 118 #[.pointer (Td ⟨bp,0,Te⟩)] #[] lv (zen val) (λ_ _=>True) (λ_=>False) (λ_=>False):=by
 intro σ g st a e O P I J f o k K h;show XC Tp _ #[.pointer (Td ⟨bp,0,Te⟩),.int .i64 lv] g K;apply zcr;refine n (0,0) g st a e O P f o k _ λb g' st' a' e' O' l i m c=>⟨b,rfl,h b g' st' a' e' O' σ l i.j m (λ_=>trivial) ?_⟩;unfold zen;cases hr:val (0,0) st with
 |inl t=>rw[hr]at c;exact⟨c.1,by rw[c.2]⟩
 |inr x=>rw[hr]at c;exact c
theorem qc9:MapT Tp 154 9 4 (.bool Tc):=⟨by kernel_rfl,by kernel_rfl,⟨Tryz.t4,by kernel_rfl,by kernel_rfl⟩⟩
def qj5(m:Nat)(σ:List Bs)(g:zb):Prop:=∃l,MapAt g m l/\∀k:Bs,zde l (bl k)=if k∈σ then Td (.bool Ta)else Te
theorem z0o{M:Fr}{r:Bt×Int×Int}{v:Value}(h:Yv M [.str,.int .i64,.int .i64] r v):v=.tuple #[.string r.1,.int .i64 r.2.1,.int .i64 r.2.2]:=by obtain⟨vs,⟨l,rest,rfl,f,i,b,rfl,c,k,rfl,e⟩,rfl⟩:=h;rw[Wp f,j4 c,j4 e];rfl
set_option maxRecDepth 100000 in
set_option maxHeartbeats 2000000 in
theorem qi4(hg:GL gl)(hM:Fr.le gl M)(hs:s.length<=65536)(hv:qlr lo M bp s lv val){m:Nat}{J:Nat->Prop}(hm:J m){σ:List Bs}{st:PSt}{a e:Int}{O:Nat->Prop}(P:PaS lo g M bp s st a e O)(I:qj5 m σ g)(hJ:Apt J g O)(h4:st.nodes.length<=4096)(hT:st.T<=200000)(hw:∀t∈st.rest,TkW s t)(ay:∀j,J j->M j=Te){K:Value->zb->Prop} (hK:∀b g' st' a' e' O' σ',PaS lo g' M bp s st' a' e' O'->StJ (λj=>j=m) g O g' O'->st.nodes.length<=st'.nodes.length->(b=Ta->qj5 m σ' g')->qmc (zrz s val σ st) b σ' st' a' e'->K (.bool b) g'):
  XC Tp 120 #[.pointer (Td ⟨bp,0,Te⟩),.int .i64 lv,.map (Td m)] g K:=by
 have z:=hJ m hm;apply zad;refine zow P ⟨_,rfl,λq=>?_,λq=>?_⟩;have q:¬st.kind=8:=by simpa using q
 refine Wy P λg' S F=>⟨Tc,rfl,hK Tc g' st _ _ O σ S F.j (Ab _) (λh=>(by cases h)) ?_⟩;unfold zrz;cases U:st.rest with
 |nil=>exact⟨rfl,rfl⟩
 |cons t r=>
  have:¬t.1=8:=by unfold PSt.kind at q;rw[U]at q;exact q
  dsimp only;rw[if_neg this];exact⟨rfl,rfl⟩
 have q:st.kind=8:=by simpa using q
 have N:=PSt.ne_kind q (by omega);obtain⟨t,r,er⟩:=Bq N;have az:t.1=8:=by unfold PSt.kind at q;rw[er]at q;exact q
 obtain⟨w1,w2,w3,_⟩:=hw t (by rw[er];simp);have an:=zai N;have P0:=P;obtain⟨rs,lf,na,sl,b,cs,W,h1,eO⟩:=P0;have rd:=W.rd;have hl:=(rowLen W.rd).1;rw[er]at rd hl;rw[Aq]at hl;obtain⟨tb,o,e1,e2,e3,e4⟩:=qgq W.ag rd (k:=0) (by simp);refine⟨_,rfl,rs,by rw[qd];exact W.blk.cell rfl,_,⟨e1,by omega,by omega⟩,t.2.1,t.2.2,?_,?_⟩;rw[qd,qd];exact⟨by rw[qd];exact e3,by rw[qd];exact e4,trivial⟩;intro D;have ax:Keep g.size g D:=Keep.push _ _ (Ab _);have aH:D.size=g.size+1:=Aj _;have aC:Blk D g.size #[.int .i64 0,.int .i64 0]:=Blk.new _ _ _;clear_value D;refine zei (vs:=[.int .i64 t.2.1,.int .i64 t.2.2]) qiz aC rfl qi0 (Ab _) (λu hu=>?_) λae A aI au=>⟨_,rfl,?_⟩;simp at hu;rcases hu with rfl|rfl <;> rfl;have A:Blk ae g.size #[.int .i64 t.2.1,.int .i64 t.2.2]:=A;have y:Keep g.size g ae:=⟨by omega,λj hj=>(au j (by omega)).trans (ax.get j hj)⟩;have ar:=P.keep y;have ap:=W.blk.keep (y.get bp W.blk.lt);refine⟨bl s,by rw[qd];exact ap.cell rfl,t.2.1,by rw[qd];exact A.cell rfl,t.2.2,by rw[qd];exact A.cell rfl,⟨w1,by omega,by rw[zf];exact w3⟩,?_⟩;have ex:(bl s).extract t.2.1.toNat t.2.2.toNat=bl (Jw s t.2):=by rw[wb];rfl
 rw[ex];have aG:(Jw s t.2).length<=65536:=by unfold Jw;rw[AK,AH];omega
 refine(zf9 hg (t:=Jw s t.2) (by omega) (R:=λr=>r=(bl (Xh (Jw s t.2)).1,((Xh (Jw s t.2)).2.1:Int),(Xh (Jw s t.2)).2.2)) rfl).go hM ar.ag (qc (a:=Arg.mk .str _) (rdStr _) qt) λv ah M' rr L aA U=>?_;subst U;rw[z0o aA];refine⟨_,_,_,rfl,?_⟩;have f:Keep g.size g ah:=y.trans L.keep y.size;have ab:=P.keep f;obtain⟨l,ml,mk⟩:=I;have E:MapAt ah m l:=ml.keep (f.get m z.1);have i:=J8 qc9 E (bl (Xh (Jw s t.2)).1) Tc;rw[if_neg (by simp)]at i;have am:zwd l (bl (Xh (Jw s t.2)).1) (.bool Tc)=.bool (decide ((Xh (Jw s t.2)).1∈σ)):=by unfold zwd;rw[mk];by_cases C:(Xh (Jw s t.2)).1∈σ;rw[if_pos C];simp[C];rw[if_neg C];simp[C]
 rw[am]at i;have V:zrz s val σ st=if(Xh (Jw s t.2)).1∈σ then st.err s 7
   else if st.skip.kind=7 then match val t.2 st.skip.skip with
    |.inl st'=>.inl (σ++[(Xh (Jw s t.2)).1],st')
    |.inr e=>.inr e
   else st.skip.err s 2:=by
  unfold zrz;rw[er];dsimp only;rw[if_pos az];rfl
 refine⟨_,i,λG=>?_,λG=>?_⟩;have G:=of_decide_eq_true G;refine Wy ab λg' S F=>⟨Tc,rfl,hK Tc g' st _ _ O σ S ((Stp.keep (O:=O) f).trans F).j (Ab _) (λh=>(by cases h)) ?_⟩;rw[V,if_pos G];exact⟨rfl,rfl⟩;have G:=of_decide_eq_false G;rw[if_neg G]at V;refine zqa qc9 E (bl (Xh (Jw s t.2)).1) (.bool Ta) λB aB aL Q=>?_;have aF:PaS lo B M bp s st a e O:=ab.frame (by omega) λc hc ho=>Q c λh=>by subst h;rcases ho with ho|ho;exact z.2 ho;exact ho (ay _ hm)
 have af:StJ (λj=>j=m) g O B O:=⟨by have:=f.size;omega,λc h=>.inl h,λj hj hn hJ=>(Q j hJ).trans (f.get j hj)⟩;have H:∀g',g'[m]?=B[m]?->qj5 m (σ++[(Xh (Jw s t.2)).1]) g':=λg' aE=>by
  refine⟨_,aB.keep aE,λk=>?_⟩;rw[zp9,mk];by_cases hk:(Xh (Jw s t.2)).1=k;subst hk;simp;have aj:¬bl (Xh (Jw s t.2)).1=bl k:=λh=>hk (zrd.1 h);rw[if_neg aj];have:(k∈σ++[(Xh (Jw s t.2)).1])↔k∈σ:=by simp;intro h;exact absurd h.symm hk
  simp only[this]
 have ai:m<B.size:=by have:=z.1;have:=f.size;omega
 refine zvi aF N λg3 P3 S3=>⟨rfl,?_⟩;refine zhx P3 (by omega) (λh7 g4 P4 S4=>⟨Ta,rfl,λh=>(by simp at h),λ_=>?_⟩) (λh7=>⟨Tc,rfl,λ_=>?_,λh=>(by simp at h)⟩);rw[if_pos h7]at V;have ak:=zai (PSt.ne_kind h7 (by omega));have p:=an.trans ak;have aa:¬O g.size:=λh=>by have:=(P.own h).2.1;omega
 have B4:Blk g4 g.size #[.int .i64 t.2.1,.int .i64 t.2.2]:=by refine A.keep ?_;have aJ:=y.size;rw[S4.fr _ (by have:=S3.le;have:=f.size;have:=L.keep.size;omega) aa,S3.fr _ (by have:=f.size;have:=L.keep.size;omega) aa,Q _ (by have:=z.1;omega)];exact L.keep.get _ (by omega)
 refine⟨t.2.1,t.2.2,B4.ld (cs:=[.int .i64 t.2.1,.int .i64 t.2.2]),?_⟩;refine hv t.2 g4 st.skip.skip a e O P4 (by have:=p.m h4;exact this) (by have:=p.t;omega) (λx q=>hw x (p.w x q)) _ λb g' st' a' e' O' S F n' Z=>⟨b,rfl,?_⟩;have Y:=(S3.trans S4).trans F;refine hK b g' st' a' e' O' _ S (af.trans Y.j) (by have:=p.n;omega) (λ_=>H g' (Y.fr m ai λh=>z.2 h)) ?_;rw[V];cases U:val t.2 st.skip.skip with
 |inl x=>rw[U]at Z;exact⟨Z.1,by rw[Z.2]⟩
 |inr x=>rw[U]at Z;exact Z
 rw[if_neg h7]at V;refine Wy P3 λg' S F=>⟨Tc,rfl,hK Tc g' _ _ _ O σ S (af.trans (S3.trans F).j) (by rw[qu];exact Ab _) (λh=>(by cases h)) ?_⟩;rw[V];exact⟨rfl,rfl⟩
end
end
section
theorem qi5:ElemT Tp 23 9 (.string ⟨#[]⟩) (sz .str) 16:=⟨by kernel_rfl,⟨Tryz.t9,by kernel_rfl,by kernel_rfl,by kernel_rfl,by kernel_rfl⟩,rfl,by decide⟩
section
variable {lo : Nat} {g : zb} {M gl : Fr} {bp : Nat} {s : Bs} {l : List Tk} {st : PSt} {a e : Int} {O : Nat -> Prop} {K : Value -> zb -> Prop} {val : zry}
end
end
section
theorem qls:ElemT Tp 34 62 (.agg #[.int .i64 0,.int .i64 0,.int .i64 0,.int .i64 0,.int .i64 0,.slice Te 0 0,.slice Te 0 0]) 7 88:=⟨by kernel_rfl,⟨Tryz.t62,by kernel_rfl,by kernel_rfl,by kernel_rfl,by kernel_rfl⟩,rfl,by decide⟩
theorem qmz:qb Tp 34=Ta:=by kernel_rfl
theorem qm0:qi Tp 34=1:=by kernel_rfl
theorem qm1:qb Tp 154=Ta:=by kernel_rfl
theorem qm2:qi Tp 154=1:=by kernel_rfl
section
variable {lo : Nat} {M gl : Fr} {bp : Nat} {s : Bs}
set_option maxRecDepth 100000 in
set_option maxHeartbeats 4000000 in
theorem qbh(hg:GL gl)(hM:Fr.le gl M)(hs:s.length<=65536):∀d:Nat,d<=32->qlr lo M bp s (33-(d:Int)) (Jx s d):=by
 intro d;induction d with
 |zero=>intro hd key g st a e O P h4 hT hw K hK;apply Qa;intro h1 h2;have k1:Keep g.size g h1:=Keep.push _ _ (Ab _);have k2:Keep h1.size h1 h2:=Keep.push _ _ (Ab _);have z1:h1.size=g.size+1:=Aj _;have B1:Blk h1 g.size #[.pointer (Td ⟨bp,0,Te⟩)]:=Blk.new _ _ _;clear_value h1 h2;have q:Keep g.size g h2:=k1.trans k2 (by omega);have B2:=B1.keep (k2.get g.size (by omega));refine⟨_,B2.cell rfl,zow (P.keep q) ⟨_,rfl,?_⟩⟩;refine(zsi (k:=st.kind) (R:=λr=>r=zu st.kind) rfl).go hM (P.keep q).ag (qc (a:=Arg.mk (.int .i64) _) (Jf _ _) qt) λv N M' r L hv hr=>⟨r,qkx hv,?_⟩;subst hr;have G:=L.keep;have k8:Keep g.size g N:=q.trans G q.size;have Q:=B2.keep (G.get g.size (by have:=q.size;have:=k2.size;omega));refine⟨λu=>⟨_,Q.cell rfl,?_⟩,λu=>⟨λhy=>⟨_,Q.cell rfl,?_⟩,λhy=>?_⟩⟩;refine Wy (P.keep k8) λg' E n=>⟨Tc,rfl,hK Tc g' st _ _ O E ((Stp.keep (O:=O) k8).trans n) (Ab _) ?_⟩;rw[Jx,if_pos (by simpa using u)];exact⟨rfl,rfl⟩;refine Wy (P.keep k8) λg' E n=>⟨Tc,rfl,hK Tc g' st _ _ O E ((Stp.keep (O:=O) k8).trans n) (Ab _) ?_⟩;rw[Jx,if_neg (by simpa using u)];exact⟨rfl,rfl⟩;exact absurd (of_decide_eq_false hy) (by omega)
 |succ d ih=>
  intro hd key g st a e O P h4 hT hw K hK;have ih:=ih (by omega);have az:=zr0 s d;apply Qa;intro h1 h2;have k1:Keep g.size g h1:=Keep.push _ _ (Ab _);have k2:Keep h1.size h1 h2:=Keep.push _ _ (Ab _);have z1:h1.size=g.size+1:=Aj _;have z2:h2.size=h1.size+1:=Aj _;have B1:Blk h1 g.size #[.pointer (Td ⟨bp,0,Te⟩)]:=Blk.new _ _ _;have Bk2:Blk h2 h1.size #[.int .i64 key.1,.int .i64 key.2]:=Blk.new _ _ _;clear_value h1 h2;have q:Keep g.size g h2:=k1.trans k2 (by omega);have B2:=B1.keep (k2.get g.size (by omega));refine⟨_,B2.cell rfl,zow (P.keep q) ⟨_,rfl,?_⟩⟩;refine(zsi (k:=st.kind) (R:=λr=>r=zu st.kind) rfl).go hM (P.keep q).ag (qc (a:=Arg.mk (.int .i64) _) (Jf _ _) qt) λv N M' r L hv hr=>⟨r,qkx hv,?_⟩;subst hr;have G:=L.keep;have k8:Keep g.size g N:=q.trans G q.size;have z8:h2.size<=N.size:=G.size;have Q:=B2.keep (G.get g.size (by omega));have aQ:=Bk2.keep (G.get h1.size (by omega));have P8:=P.keep k8;have S8:Stp g O N O:=Stp.keep k8;refine⟨λu=>⟨_,Q.cell rfl,?_⟩,λu=>⟨λhy=>?_,λhy=>?_⟩⟩;refine Wy P8 λg' E n=>⟨Tc,rfl,hK Tc g' st _ _ O E (S8.trans n) (Ab _) ?_⟩;rw[Jx,if_pos (by simpa using u)];exact⟨rfl,rfl⟩;have:=of_decide_eq_true hy;omega;have u:¬zu st.kind=0:=by simpa using u
  have ae:=zhu u;obtain⟨t,r,er⟩:=Bq ae;have ba:=P8;obtain⟨rs,lf,na,sl,b,cs,W,am,eO⟩:=ba;have a8:na.length=st.nodes.length:=by rw[<-am,Ao]
  have aj:sl.len=st.nodes.length:=by rw[W.ns.len,a8]
  refine⟨_,Q.cell rfl,_,rfl,sl,by rw[qd];exact W.blk.cell rfl,?_⟩;rw[aj];refine⟨λhz=>⟨_,Q.cell rfl,?_⟩,λhz=>?_⟩;refine Wy P8 λg' E n=>⟨Tc,rfl,hK Tc g' st _ _ O E (S8.trans n) (Ab _) ?_⟩;have hz:st.nodes.length=4096:=by have:=of_decide_eq_true hz;omega
  rw[Jx,if_neg u,if_pos hz];exact⟨rfl,rfl⟩;have hz:¬st.nodes.length=4096:=λh=>by have:=of_decide_eq_false hz;omega
  have eV:Jx s (d+1) key st=match ztm s (Jx s d) st.nodes.length (zu st.kind) (st.open key)with
   |.inl st'=>.inl (st'.setTo st.nodes.length)
   |.inr e=>.inr e:=by rw[Jx,if_neg u,if_neg hz];rfl
  have rd:=W.rd;have hl:=(rowLen W.rd).1;rw[er]at rd hl;rw[Aq]at hl;obtain⟨tb,o,e1,e2,e3,e4⟩:=qgq W.ag rd (k:=0) (by simp);have bu:st.kind=t.1:=by unfold PSt.kind;rw[er]
  have aL:bp<N.size:=W.blk.lt;have aF:∀c,O c->c<g.size:=λc h=>(P.own h).2.1;refine⟨_,Q.cell rfl,_,rfl,sl,by rw[qd];exact W.blk.cell rfl,_,Q.cell rfl,_,Q.cell rfl,_,rfl,sl,by rw[qd];exact W.blk.cell rfl,_,Q.cell rfl,_,rfl,rs,by rw[qd];exact W.blk.cell rfl,_,⟨e1,by omega,by omega⟩,t.2.1,t.2.2,?_,key.1,key.2,aQ.ld (cs:=[.int .i64 key.1,.int .i64 key.2]),rfl,rfl,rfl,?_⟩;rw[qd,qd];exact⟨by rw[qd];exact e3,by rw[qd];exact e4,trivial⟩;intro F;have A:Keep N.size N F:=Keep.push _ _ (Ab _);have bF:F.size=N.size+1:=Aj _;have bD:Blk F N.size (ndC ((zu st.kind,t.2,key,[],[]),ax0)).toArray:=Blk.new _ _ _;clear_value F;refine⟨by rw[qd];exact A.get bp aL,A.get g.size (by omega),A.get g.size (by omega),?_⟩;have bB:NSt lo N M na sl b F na cs:=⟨W.ns.frame A.size λc hc=>A.get c (W.ns.own hc).2.1,A.size,λc h=>.inl h,λj B _=>A.get j B⟩;obtain⟨C,aJ⟩:=W.nst bB;have ax:lo<=F.size:=by have:=(C.own (.inl rfl));omega
  refine NS.push qls (by omega) C.ag ax C.ns (x:=(zu st.kind,t.2,key,[],[])) rfl rfl bD (by omega) λs' bE b' cs' aO bH ar ah=>⟨s',rfl,_,rfl,?_⟩;have be:¬nsO na sl b g.size:=λh=>by have:=aF g.size (by rw[eO];exact .inr h);omega
  refine⟨(ah g.size (by omega) be).trans (A.get g.size (by omega)),?_⟩;rw[qd];have ak:¬nsO (na++[((zu st.kind,t.2,key,[],[]),ax0)]) s' b' bp:=λh=>by rcases ar bp h with h|h;exact W.nb h;omega
  have aA:=C.blk.keep (ah bp (by omega) C.nb);refine yf qmz qm0 aA (by show 4<7;omega) rfl λab u1 u2 u3=>?_;have aT:PW lo ab M bp s st.rest st.last a e rs lf (na++[((zu st.kind,t.2,key,[],[]),ax0)]) s' b' cs':=by refine⟨u1,W.rd,aO.frame (by omega) λc hc=>u3 c λh=>ak (h ▸ hc),z6m C.ag λj B hm=>?_,W.bl,ak⟩;rw[u3 j λh=>hm (h ▸ W.bl.2)];exact ah j B λh=>hm (C.ns.own h).2.2
  have aM:Stp F (ppO bp na sl b) ab (ppO bp (na++[((zu st.kind,t.2,key,[],[]),ax0)]) s' b'):=by refine⟨by omega,λc h=>?_,λj B hn=>?_⟩;rcases h with h|h;exact .inl (.inl h);rcases ar c h with h|h;exact .inl (.inr h);exact .inr h;rw[u3 j λh=>hn (.inl h)];exact ah j B λh=>hn (.inr h)
  have ay:PaS lo ab M bp s ⟨st.rest,st.last,st.nodes++[(zu st.kind,t.2,key,[],[])]⟩ a e (ppO bp (na++[((zu st.kind,t.2,key,[],[]),ax0)]) s' b'):=⟨rs,lf,_,_,_,_,aT,by rw[Bf,am];rfl,rfl⟩;have H:Stp N O ab (ppO bp (na++[((zu st.kind,t.2,key,[],[]),ax0)]) s' b'):=by rw[eO];exact aJ.trans aM
  generalize ppO bp (na++[((zu st.kind,t.2,key,[],[]),ax0)]) s' b'=O45 at ay H;have aa:¬O g.size:=λh=>by have:=aF _ h;omega
  have aZ:=Q.keep (H.fr g.size (by omega) aa);refine⟨_,aZ.cell rfl,zvi ay ae λf S aU=>⟨rfl,?_⟩⟩;have aP:(⟨st.rest,st.last,st.nodes++[(zu st.kind,t.2,key,[],[])]⟩:PSt).skip=st.open key:=by unfold PSt.skip PSt.open;rw[bu];dsimp only;rw[er]
  rw[aP]at S;have z:=H.trans aU;have a6:=z.le;have U:∀c,c<N.size->¬O c->¬O45 c:=λc hc hn h=>by rcases H.sub c h with h|h;exact hn h;omega
  have af:=Q.keep (z.fr g.size (by omega) aa);have Y:=z5m (key:=key) ae hz;have a7:(st.open key).nodes.length=st.nodes.length+1:=zol ae;intro bn aB;have fin:∀(bb:Bool) (g':zb) (st':PSt) (a' e':Int) (O':Nat->Prop),PaS lo g' M bp s st' a' e' O'->Stp g O g' O'->(st.open key).nodes.length<=st'.nodes.length->g'[g.size]?=f[g.size]?->Ans (ztm s (Jx s d) st.nodes.length (zu st.kind) (st.open key)) bb st' a' e'->bn bb g':=by
   intro bb g' st' a' e' O' E n n' aI I;refine aB bb g' ?_;have B':=af.keep aI;obtain⟨bJ,bI,au,bz,b1,bL,W1,Z,aV⟩:=E;have aE:st.nodes.length<au.length:=by
    have:au.length=st'.nodes.length:=by rw[<-Z,Ao]
    omega
   obtain⟨q1,q2,q3,q4,q5⟩:=W1.ns.cell aE;refine⟨_,B'.cell rfl,_,rfl,bz,by rw[qd];exact W1.blk.cell rfl,_,B'.cell rfl,_,rfl,st'.last,by rw[qd,qd];exact W1.blk.cell rfl,⟨b1,0,Te⟩,⟨q1,by omega,by have:=W1.ns.len;omega⟩,?_⟩;rw[qd,qd,qd,Ai,AI,aj];refine yf zsh qc7 q2 (by omega) rfl λg2 u1 u2 u3=>?_;obtain⟨W2,S2⟩:=W1.nst (W1.ns.toB aE u1 u2 u3);refine hK bb g2 (st'.setTo st.nodes.length) a' e' _ ⟨_,_,_,_,_,_,W2,?_,rfl⟩ (n.trans (by rw[aV];exact S2)) (by rw[zeo];omega) ?_;rw[zc3 (f':=qfc st'.last) (λp=>rfl),Z];rfl;rw[eV];cases hr:ztm s (Jx s d) st.nodes.length (zu st.kind) (st.open key)with
   |inl x=>rw[hr]at I;exact⟨I.1,by rw[I.2]⟩
   |inr x=>rw[hr]at I;exact I
  have aG:Aa .i64 (33-((d+1:Nat):Int)+1)=33-(d:Int):=by rw[w64 (by omega)];omega
  have bO:=Y.t;refine⟨λh5=>⟨_,af.cell rfl,_,af.cell rfl,?_⟩,λh5=>⟨λh6=>?_,λh6=>?_⟩⟩;have h5:zu st.kind=5:=by simpa using h5
  refine z6p (J:=λ_=>False) (D:=λ_=>False) (HI:=λ_ _=>True) (kid:=zen (Jx s d)) (λ_ _ _ _ _=>trivial) aG (qf5 ih) (z5l az) (by kernel_rfl) (by omega) S trivial (λj B=>B.elim) (Y.m h4) (by omega) (λx u=>hw x (Y.w x u)) (by omega) λbb g' st' a' e' O' E n n' I=>⟨bb,rfl,fin bb g' st' a' e' O' E ?_ n' ?_ ?_⟩;exact(S8.trans z).trans ⟨n.le,n.sub,λj B hn=>n.fr j B hn (λh=>h)⟩;exact n.fr g.size (by omega) (U _ (by omega) aa) (λh=>h);rw[aj]at I;unfold ztm;rw[if_pos h5];exact I;have h5:¬zu st.kind=5:=by simpa using h5
  have h6:zu st.kind=6:=by simpa using h6
  intro i ai;have bm:Keep f.size f i:=Keep.push _ _ (Ab _);have ap:Keep i.size i ai:=Keep.push _ _ (Ab _);have z65:i.size=f.size+1:=Aj _;have bM:ai.size=i.size+1:=Aj _;have aS:MapAt i f.size []:=MapAt.new _;have br:Blk ai i.size #[.map Te]:=Blk.new _ _ _;clear_value i ai;refine yf qm1 qm2 br (by show 0<1;omega) rfl λan u1 u2 u3=>?_;have V:Keep f.size f an:=⟨by omega,λj B=>by rw[u3 j (by omega),ap.get j (by omega),bm.get j B]⟩;have bq:MapAt an f.size []:=(aS.keep (ap.get _ (by omega))).keep (u3 _ (by omega));have bC:=S.keep V;have aH:=af.keep (V.get g.size (by omega));have bG:Stp f O45 an O45:=Stp.keep V;have aC:∀c,O45 c->c<f.size:=λc h=>(S.own h).2.1;have bj:∀c,g.size<=c->M c=Te:=λc hc=>by
   cases e:M c with
   |none=>rfl
   |some x=>have:=P.ag.lt e;omega
  refine⟨_,aH.cell rfl,?_⟩;refine z6p (J:=λj=>j=f.size) (D:=λj=>j=g.size\/j=i.size\/j=f.size) (HI:=λσ g'=>Blk g' g.size #[.pointer (Td ⟨bp,0,Te⟩)]/\Blk g' i.size #[.map (Td f.size)]/\qj5 f.size σ g') (kid:=zrz s (Jx s d)) (λσ x y u hf=>⟨u.1.keep (hf _ (.inl rfl)),u.2.1.keep (hf _ (.inr (.inl rfl))),?_⟩) aG ?_ (qcu az) (by kernel_rfl) (by omega) bC ⟨aH,u1,[],bq,λk=>rfl⟩ (λj B=>?_) (Y.m h4) (by omega) (λx u=>hw x (Y.w x u)) (by omega) λbb g' st' a' e' O' E n n' I=>⟨bb,rfl,fin bb g' st' a' e' O' E ?_ n' ?_ ?_⟩;obtain⟨l,ml,mk⟩:=u.2.2;exact⟨l,ml.keep (hf _ (.inr (.inr rfl))),mk⟩;intro σ x bN a1 e1 O1 P1 I1 J1 bg aN aY K1 bA;show XC Tp _ #[.int .i64 (33-(d:Int)),.pointer (Td ⟨g.size,0,Te⟩),.pointer (Td ⟨i.size,0,Te⟩)] x K1;apply Xk;refine⟨_,I1.1.cell rfl,_,I1.2.1.cell rfl,?_⟩;refine qi4 hg hM hs ih (J:=λj=>j=g.size\/j=i.size\/j=f.size) (.inr (.inr rfl)) P1 I1.2.2 J1 bg aN aY (λj B=>bj j (by omega)) λbb g' st' a' e' O' σ' E n n' H' I=>⟨bb,rfl,bA bb g' st' a' e' O' σ' E n n' (λhb=>⟨I1.1.keep ?_,I1.2.1.keep ?_,H' hb⟩) I⟩;have:=J1 g.size (.inl rfl);exact n.fr _ this.1 this.2 (by omega);have:=J1 i.size (.inr (.inl rfl));exact n.fr _ this.1 this.2 (by omega);refine⟨by omega,λh=>?_⟩;have:=aC j h;rcases B with rfl|rfl|rfl;exact U _ (by omega) aa h;omega;omega;refine(S8.trans z).trans ⟨by have:=n.le;omega,λc h=>?_,λj B hn=>?_⟩;rcases n.sub c h with h|h;exact .inl h;exact .inr (by omega);rw[n.fr j (by omega) hn (by omega)];exact V.get j B;rw[n.fr g.size (by omega) (U _ (by omega) aa) (by omega)];exact V.get _ (by omega);rw[aj]at I;unfold ztm;rw[if_neg h5,if_pos h6];exact I;have h5:¬zu st.kind=5:=by simpa using h5
  have h6:¬zu st.kind=6:=by simpa using h6
  refine fin Ta f (st.open key) a e O45 S (S8.trans z) (Ab _) rfl ?_;unfold ztm;rw[if_neg h5,if_neg h6];exact⟨rfl,rfl⟩
end
end
section
variable {s:Bs} {f a t:Nat} {k:Int}
theorem TkS.frame{h:zb}{M:Fr}{b2 b3 b4 b5 bc D l:Nat}{rec:zpx}{out:List Tk}{sl:Sl}{bs:List Nat}{g g':zb}(S:TkS h M b2 b3 b4 b5 bc D l rec s out sl bs g)(A:Apart h b2 b3 b4 b5 bc D l)(k:g.size<=g'.size)(f:∀j,j<g.size->g'[j]?=g[j]?):TkS h M b2 b3 b4 b5 bc D l rec s out sl bs g':=by have e:=lt_of_some S.rc;have:=A.lo;have:=A.a3;have:=A.a4;have:=A.a5;have:=A.ac;have:=A.aD;have:=A.al;have m:=S.keep.size;exact⟨⟨by omega,λj i=>(f j (by omega)).trans (S.keep.get j i)⟩,S.c.keep (f _ (by omega)),(f _ (by omega)).trans S.d,(f _ e).trans S.rc,S.r2.keep (f _ (by omega)),S.r3.keep (f _ (by omega)),S.r4.keep (f _ (by omega)),S.r5.keep (f _ (by omega)),S.o.frame (λc b=>f c (S.o.own c b).2.1) (Fr.le.refl _) λc b=>(S.o.own c b).2.2⟩
theorem qbi{o:List Tk}(b:a<s.length)(h:Z1 s a=(k,t,0)):Q4 (f+1) s a o=Q4 f s t (o++[(k,((a:Int),(t:Int)))]):=by rw[Q4,if_pos b,h];rfl
theorem qbj{k e:Int}{o:List Tk}(c:a<s.length)(h:Z1 s a=(k,t,e))(b:¬e=0):Q4 (f+1) s a o=([],t,e):=by rw[Q4,if_pos c,h];simp only;rw[if_neg b]
theorem z6q{o:List Tk}(b:¬a<s.length):Q4 f s a o=(o,a,0):=by
 cases f with
 |zero=>rfl
 |succ f=>rw[Q4,if_neg b]
section
variable {h : zb} {M gl : Fr} {b2 b3 b4 b5 bc D l : Nat} {rec : zpx} {s : Bs} {sl : Sl} {bs : List Nat} {g : zb}
abbrev qlt(b2 b3 b4 b5:Nat)(x9 x8 x0:Value):Env:=[(9,[],x9),(8,[],x8),(5,[],.pointer (Td ⟨b5,0,Te⟩)),(4,[],.pointer (Td ⟨b4,0,Te⟩)),(3,[],.pointer (Td ⟨b3,0,Te⟩)),(2,[],.pointer (Td ⟨b2,0,Te⟩)),(0,[],x0)]
set_option maxRecDepth 100000 in
set_option maxHeartbeats 4000000 in
theorem qlu(A:Apart h b2 b3 b4 b5 bc D l)(hg:GL gl)(hM:Fr.le gl M)(ag:AgM M h)(S:TkS h M b2 b3 b4 b5 bc D l rec s [] sl bs g){x9 x8 x0:Value} (r:∀{v1 v2:Value} {V:zb} {K:Value->zb->Prop},V[l]?=Td (.loop (rec .ready Te))->zao Tp 25 (rfA (codeOf Tryz.f60)) (rfB (codeOf Tryz.f60)) rec l K (putO (putO (qlt b2 b3 b4 b5 x9 x8 x0) (Td 10) [] v1) (Td 11) [] v2) V->YX Tp l #[v1,v2] V K) {Q:zb->Prop} (hN:∀g out sl bs,TkS h M b2 b3 b4 b5 bc D l rec s out sl bs g->yr s=(out,s.length,0)->out.length<=100000->Q g) (hE:∀(g:zb) (t:Nat) (e:Int),¬e=0->yr s=([],t,e)->Keep h.size h g->g[D]?=Td (.deferred (Td []))->g[l]?=Td (.loop (rec .done (Td .ret)))->Blk g b2 #[.slice Te 0 0]->Blk g b3 #[.int .i64 (t:Int)]->Blk g b4 #[.int .i64 e]->Q g):
  XCI Tp 197 #[.func (.yield l) #[] #[],.pointer (Td ⟨bc,0,Te⟩)] g (λ_ g'=>Q g'):=by
 have:=A.lo;have:=A.a3;have:=A.a4;have:=A.a5;have:=A.ac;have:=A.aD;have:=A.al;apply zsg;refine⟨bl s,S.c.cell rfl,λp=>?_,λG=>?_⟩;have u:65536<s.length:=by rw[zf]at p;simp at p;omega
 refine r S.rc (TkS.err A S (by omega) λg' E U w q4 q5 q6=>⟨Tc,rfl,?_⟩);refine hE g' 0 3 (by omega) ?_ E U w q4 q5 q6;unfold yr;rw[if_pos u];have C:s.length<=65536:=by rw[zf]at G;simp at G;omega
 have hR:yr s=Q4 s.length s 0 []:=by unfold yr;rw[if_neg (by omega)]
 refine⟨λk g'=>∃(a f:Nat) (out:List Tk) (ab:Sl) (bs':List Nat),k=(a:Int)/\a<=s.length/\s.length-a<=f/\out.length<=a/\yr s=Q4 f s a out/\TkS h M b2 b3 b4 b5 bc D l rec s out ab bs' g',λk _=>s.length-k.toNat,⟨0,s.length,[],sl,bs,rfl,by omega,by omega,Ab _,hR,S⟩,?_⟩;rintro k g1 ⟨a,f,out,Z,ae,rfl,ha,hf,ho,hT,q⟩;refine⟨bl s,q.c.cell rfl,λx=>⟨bl s,q.c.cell rfl,?_⟩,λF=>?_⟩;have i:a<s.length:=by rw[zf]at x;simp at x;omega
 obtain⟨f,rfl⟩:∃f',f=f'+1:=⟨f-1,by omega⟩;have aa:AgM M g1:=ag.keep q.keep;refine qir hg hM aa C i λm k2=>?_;obtain⟨tk,t,e,b⟩:∃k t e,Z1 s a=(k,t,e):=⟨_,_,_,rfl⟩;have z2:=k2.size;by_cases y:e=0;subst y;have hp:=Jl i (by rw[b]);rw[b]at hp;have af:a<t:=hp.1;have H:t<=s.length:=hp.2;have ev:zsc s a=.tuple #[.agg #[.int .i64 tk,.int .i64 (a:Int),.int .i64 (t:Int)],.int .i64 0]:=by unfold zsc;rw[b,if_pos rfl]
 refine⟨tk,a,t,0,ev,?_⟩;intro n;have k3:Keep m.size m n:=Keep.push _ _ (Ab _);have z3:n.size=m.size+1:=Aj _;have L:Blk n m.size (zsb 0 0 0).toArray:=Blk.new _ _ _;clear_value n;refine qfw L λN E U w=>⟨tk,a,t,w.ld,?_⟩;have O:∀j,j<g1.size->N[j]?=g1[j]?:=λj hj=>by rw[E j (by omega),k3.get j (by omega),k2.get j hj]
 have z:=q.frame A (by omega) O;have ll:=lt_of_some q.rc;refine r z.rc (TkS.round A ag z (by omega) λg5 P Y S5 z5 f5=>⟨Ta,rfl,λJ=>by simp at J,λ_=>?_⟩);refine⟨t,?_,⟨t,f,_,P,Y,rfl,H,by omega,?_,?_,S5⟩,?_⟩;rw[qd,qd];refine(w.keep (f5 m.size (by omega) (by omega) (by omega) λhm=>?_)).cell rfl;have:=(q.o.own m.size hm).2.1;omega;rw[Ag];show out.length+1<=t;omega;rw[hT,qbi i b];show s.length-(t:Int).toNat<s.length-(a:Int).toNat;rw[Ai,Ai];omega;have ev:=zhw b y;refine⟨0,t,t,e,ev,?_⟩;intro n;have k3:Keep m.size m n:=Keep.push _ _ (Ab _);have z3:n.size=m.size+1:=Aj _;have L:Blk n m.size (zsb 0 0 0).toArray:=Blk.new _ _ _;clear_value n;refine qfw L λN E U w=>⟨0,t,t,w.ld,?_⟩;have O:∀j,j<g1.size->N[j]?=g1[j]?:=λj hj=>by rw[E j (by omega),k3.get j (by omega),k2.get j hj]
 have z:=q.frame A (by omega) O;refine r z.rc (TkS.err A z y λg5 w1 w2 w3 w4 w5 w6=>⟨Tc,rfl,λ_=>?_,λJ=>by simp at J⟩);exact hE g5 t e y (by rw[hT,qbj i b y]) w1 w2 w3 w4 w5 w6;have B:¬a<s.length:=by rw[zf]at F;simp at F;omega
 have I:a=s.length:=by omega
 exact hN g1 out Z ae q (by rw[hT,z6q B,I]) (by omega)
end
end
end Go.X
end
section
namespace Go.X
open Go Go.X Go.Proofs Go.RowKit
set_option maxRecDepth 100000 in
set_option maxHeartbeats 4000000 in
section
theorem qbk{gl M:Fr}(hg:GL gl)(Z:Fr.le gl M){h:zb}(ag:AgM M h){s:Bs}{K:Value->zb->Prop} (V:∀(h':zb) (M':Fr) (t:Sl),Later h M h' M'->Rd M' (.row tTk) (yr s).1 [slV t]->K (.tuple #[slV t,.int .i64 ((yr s).2.1:Nat),.int .i64 (yr s).2.2]) h'):
  XC Tp 60 #[.string (bl s)] h K:=by
 apply zov;intro h1 m r q;have k1:Keep h.size h h1:=Keep.push _ _ (Ab _);have k2:Keep h1.size h1 m:=Keep.push _ _ (Ab _);have U:Keep m.size m r:=Keep.push _ _ (Ab _);have D:Keep r.size r q:=Keep.push _ _ (Ab _);have z1:h1.size=h.size+1:=Aj _;have z2:m.size=h1.size+1:=Aj _;have z3:r.size=m.size+1:=Aj _;have z4:q.size=r.size+1:=Aj _;have B1:Blk h1 h.size #[.slice Te 0 0]:=Blk.new _ _ _;have B2:Blk m h1.size #[.int .i64 0]:=Blk.new _ _ _;have B3:Blk r m.size #[.int .i64 0]:=Blk.new _ _ _;have B4:Blk q r.size #[.slice Te 0 0]:=Blk.new _ _ _;clear_value q r m h1;apply zz5;intro b;have B:Keep q.size q b:=Keep.push _ _ (Ab _);have z5:b.size=q.size+1:=Aj _;have B5:Blk b q.size #[.string (bl s)]:=Blk.new _ _ _;clear_value b;refine⟨_,rfl,_,_,rfl,by kernel_rfl,λrec H=>?_⟩;have e5:∀j,j<h.size->b[j]?=h[j]?:=λj i=>by rw[B.get j (by omega),D.get j (by omega),U.get j (by omega),k2.get j (by omega),k1.get j i]
 have A:Apart h h.size h1.size m.size r.size q.size b.size (b.size+1):=⟨by omega,by omega,by omega,by omega,by omega,by omega,rfl⟩;obtain⟨y,l⟩:∃y,y=(b.push (.deferred (Td []))).push (.loop (rec .ready Te)):=⟨_,rfl⟩;have gz:y.size=b.size+2:=by rw[l,Aj,Aj]
 have z:∀j,j<b.size->y[j]?=b[j]?:=λj i=>by rw[l,Array.getElem?_push_lt (by rw[Aj];omega)];rw[Array.getElem_push_lt i,Bo i]
 have gD:y[b.size]?=Td (.deferred (Td [])):=by rw[l,Array.getElem?_push_lt (by rw[Aj];omega),Array.getElem_push_eq]
 have Q:y[b.size+1]?=Td (.loop (rec .ready Te)):=by
  rw[l];have:b.size+1=(b.push (.deferred (Td []))).size:=by rw[Aj]
  rw[this,Array.getElem?_push_size]
 rw[<-l];clear l;have S:TkS h M h.size h1.size m.size r.size q.size b.size (b.size+1) rec s [] ⟨Te,0,0⟩ [] y:= ⟨⟨by omega,λj i=>(z j (by omega)).trans (e5 j i)⟩,B5.keep (z _ (by omega)),gD,Q,B1.keep (by rw[z _ (by omega),B.get _ (by omega),D.get _ (by omega),U.get _ (by omega),k2.get _ (by omega)]),B2.keep (by rw[z _ (by omega),B.get _ (by omega),D.get _ (by omega),U.get _ (by omega)]),B3.keep (by rw[z _ (by omega),B.get _ (by omega),D.get _ (by omega)]),B4.keep (by rw[z _ (by omega),B.get _ (by omega)]),.nil⟩;refine qlu A hg Z ag S (x9:=_) (x8:=_) (x0:=_) H ?_ ?_;intro g out sl bs n C ho;have ll:=lt_of_some n.rc;refine .inl ⟨n.rc,?_⟩;obtain⟨k,f⟩:∃k,k=g.setIfInBounds (b.size+1) (.loop (rec .exhausted Te)):=⟨_,rfl⟩;have z6:k.size=g.size:=by rw[f,AW]
 have p:∀j,j≠b.size+1->k[j]?=g[j]?:=λj i=>by rw[f];exact zk i
 rw[<-f];clear f;refine⟨sl,(n.r5.keep (p _ (by omega))).cell rfl,?_⟩;refine yf qf1 qf2 (n.r2.keep (p _ (by omega))) (by show 0<1;omega) rfl λg7 u1 u3 L=>?_;refine yf qiv qiw (n.r3.keep ((L _ (by omega)).trans (p _ (by omega)))) (by show 0<1;omega) rfl λg8 v1 v3 G=>?_;refine yf qix qiy (n.r4.keep ((G _ (by omega)).trans ((L _ (by omega)).trans (p _ (by omega))))) (by show 0<1;omega) rfl λw w1 w3 N=>?_;have O:∀j,j≠b.size+1->j≠h.size->j≠h1.size->j≠m.size->w[j]?=g[j]?:=λj a1 a2 a3 a4=>by rw[N j a4,G j a3,L j a2,p j a1]
 refine⟨(O _ (by omega) (by omega) (by omega) (by omega)).trans n.d,?_⟩;have u:∀j,j≠b.size->(w.setIfInBounds b.size (.deferred Te))[j]?=w[j]?:=λj i=>zk i;have I:Blk (w.setIfInBounds b.size (.deferred Te)) h.size #[slV sl]:=u1.keep (by rw[u _ (by omega),N _ (by omega),G _ (by omega)]);have F:Blk (w.setIfInBounds b.size (.deferred Te)) h1.size #[.int .i64 (((bl s).size:Nat):Int)]:=v1.keep (by rw[u _ (by omega),N _ (by omega)]);have J:Blk (w.setIfInBounds b.size (.deferred Te)) m.size #[.int .i64 0]:=w1.keep (u _ (by omega));refine⟨sl,I.cell rfl,_,F.cell rfl,0,J.cell rfl,?_⟩;have E:Keep h.size h (w.setIfInBounds b.size (.deferred Te)):=by have:=n.keep.size;refine⟨by rw[AW];omega,λj i=>?_⟩;rw[u j (by omega),O j (by omega) (by omega) (by omega) (by omega)];exact n.keep.get j i
 have P:=n.o.own;have ox:=n.o.frame (h':=w.setIfInBounds b.size (.deferred Te)) (λc x=>by have:=P c x;rw[u c (by omega),O c (by omega) (by omega) (by omega) (by omega)]) (Fr.le.refl M) λc x=>(P c x).2.2;have:=V _ (MxL M (w.setIfInBounds b.size (.deferred Te)) bs) sl (MxL.later ag E λc x=>by have:=P c x;omega) (by rw[C];exact ox.rd (ag.keep E) (λc x=>x) (by omega));rw[C]at this;rw[zf];exact this;intro g t e he C Y gd gr q2 q3 q4;refine .inr ⟨gr,?_⟩;obtain⟨k,f⟩:∃k,k=g.setIfInBounds (b.size+1) (.loop (rec .exhausted (Td .ret))):=⟨_,rfl⟩;have z6:k.size=g.size:=by rw[f,AW]
 have p:∀j,j≠b.size+1->k[j]?=g[j]?:=λj i=>by rw[f];exact zk i
 rw[<-f];clear f;refine⟨(p _ (by omega)).trans gd,?_⟩;have u:∀j,j≠b.size->(k.setIfInBounds b.size (.deferred Te))[j]?=k[j]?:=λj i=>zk i;have I:Blk (k.setIfInBounds b.size (.deferred Te)) h.size #[.slice Te 0 0]:=q2.keep (by rw[u _ (by omega),p _ (by omega)]);have F:Blk (k.setIfInBounds b.size (.deferred Te)) h1.size #[.int .i64 (t:Int)]:=q3.keep (by rw[u _ (by omega),p _ (by omega)]);have J:Blk (k.setIfInBounds b.size (.deferred Te)) m.size #[.int .i64 e]:=q4.keep (by rw[u _ (by omega),p _ (by omega)]);refine⟨⟨Te,0,0⟩,I.cell rfl,_,F.cell rfl,e,J.cell rfl,?_⟩;have E:Keep h.size h (k.setIfInBounds b.size (.deferred Te)):=by have:=Y.size;refine⟨by rw[AW];omega,λj i=>?_⟩;rw[u j (by omega),p j (by omega)];exact Y.get j i
 have:=V _ M ⟨Te,0,0⟩ (Later.same ag E) (by rw[C];exact⟨_,rfl,Te,0,rfl,⟨by simp,by simp⟩,.inl rfl⟩);rw[C]at this;exact this
end
end Go.X
end
section
namespace Go.X
open Go Go.X Go.Proofs Go.RowKit
section
theorem zsj:∀(f:Nat) (s:Bs) (a:Nat) (o:List Tk),(Q4 f s a o).1.length<=o.length+f
 |0,s,a,o=>Nat.le_add_right _ _
 |f+1,s,a,o=>by rw[Q4];split;split;have:=zsj f s (Z1 s a).2.1 (o++[((Z1 s a).1,((a:Int),((Z1 s a).2.1:Int)))]);rw[Ag,CK]at this;omega;simp;simp
end
section
variable {lo b:Nat} {g:zb} {M:Fr} {cs:Array Value}
def z9g(na:NA)(b:Nat):List Nat:=if na.length=0 then []else b::na.flatMap λp=>p.2.kb++p.2.pb
theorem qbl{na:NA}{sl:Sl}(H:NS lo g M na sl b cs){c:Nat}(h:c∈z9g na b):lo<=c:=by unfold z9g at h;split at h;cases h;rename_i h0;rcases Ah.1 h with rfl|h;exact(H.lb (H.cell (n:=0) (by omega)).2.2.1).1;obtain⟨p,f,e⟩:=Cw.1 h;exact((H.nd p f).own (Ay.1 e)).1
theorem zvj{na:NA}(h:0<na.length):z9g na b=b::na.flatMap λp=>p.2.kb++p.2.pb:=by unfold z9g;rw[if_neg (by omega)]
theorem NS.rd{na:NA}{sl:Sl}(H:NS lo g M na sl b cs)(ag:AgM M g)(w:na.length<=4096)(l:∀p∈na,ndW p.1<=1000000):Rd (MxL M g (z9g na b)) (.row tNd) (na.map (·.1)) [slV sl]:=by have r:=H.len;have f:=H.cr.ro.le;refine⟨_,rfl,sl.a,sl.cap,?_,⟨by rw[Ao];omega,by rw[Ao];omega⟩,?_⟩;show slV _=_;unfold slV;rw[Ao,r];by_cases h0:na=[];left;rw[h0];rfl;have h:0<na.length:=Bv.2 h0;obtain⟨h1,m,u,t,s⟩:=H.cell h;refine .inr ⟨b,0,cs,h1,MxL.at (by rw[zvj h];exact Am) m,λi hi=>?_⟩;rw[Ao]at hi;have e:=AE hi;obtain⟨x,q⟩:=H.cr.el i (ndC na[i]) (by rw[Bn,Al hi];rfl);rw[AI,show sz tNd=7 from rfl,q,C4];have I:=H.nd _ e;have k:=l _ e;unfold ndW at k;have n:=I.kk.rd ag (all:=z9g na b) (λc f=>by rw[zvj h];exact Ae _ (Cw.2 ⟨_,e,Ay.2 (.inl f)⟩)) (by omega);have o:=I.pp.rd ag (all:=z9g na b) (λc f=>by rw[zvj h];exact Ae _ (Cw.2 ⟨_,e,Ay.2 (.inr f)⟩)) (by omega);refine⟨[.int .i64 na[i].1.1],[.int .i64 na[i].1.2.1.1,.int .i64 na[i].1.2.1.2,.int .i64 na[i].1.2.2.1.1,.int .i64 na[i].1.2.2.1.2,slV na[i].2.ks,slV na[i].2.ps],rfl,rfl,?_⟩;refine⟨[.int .i64 na[i].1.2.1.1,.int .i64 na[i].1.2.1.2],[.int .i64 na[i].1.2.2.1.1,.int .i64 na[i].1.2.2.1.2,slV na[i].2.ks,slV na[i].2.ps],rfl,⟨_,_,rfl,rfl,rfl⟩,?_⟩;refine⟨[.int .i64 na[i].1.2.2.1.1,.int .i64 na[i].1.2.2.1.2],[slV na[i].2.ks,slV na[i].2.ps],rfl,⟨_,_,rfl,rfl,rfl⟩,?_⟩;exact⟨[slV na[i].2.ks],[slV na[i].2.ps],rfl,n,o⟩
theorem z6r{x:Bs}{l:List Nd}{sl:Sl}(i j:Int)(h:Rd M (.row tNd) l [slV sl]):Yv M [.pair .str (.row tNd),.int .i64,.int .i64] ((bl x,l),i,j) (.tuple #[.agg #[.string (bl x),slV sl],.int .i64 i,.int .i64 j]):=by refine⟨[.agg #[.string (bl x),slV sl],.int .i64 i,.int .i64 j],⟨_,_,rfl,?_,_,_,rfl,Jf _ i,_,rfl,Jf _ j⟩,rfl⟩;exact⟨[.string (bl x),slV sl],rfl,[.string (bl x)],[slV sl],rfl,rfl,h⟩
theorem zga{T:Ty}:Rd M (.row T) [] [slV ⟨Te,0,0⟩]:=⟨_,rfl,Te,0,rfl,⟨by simp,by simp⟩,.inl rfl⟩
theorem qlv:qb Tp 36=Ta:=by kernel_rfl
theorem qlw:qi Tp 36=2:=by kernel_rfl
theorem zhy{x y:Value}(B:Blk g b #[x,y]){u:Bt}{v:Sl}{K:zb->Prop}(h:∀g',(∀j,j≠b->g'[j]?=g[j]?)->g'.size=g.size->Blk g' b #[.string u,slV v]->K g'):
  XRunU Tp (Af 36 (.pointer (Td ⟨b,0,Te⟩)) (.agg #[.string u,slV v])) g K:=by
 refine zei (vs:=[.string u,slV v]) qlv B rfl qlw (Ab _) (λw c=>?_) λg' f i e=>h g' e i f;simp at c;rcases c with rfl|rfl <;> rfl
theorem zsk{l:List Tk}{k:Nat}(b:k<l.length):zw (l.take (k+1))=zw (l.take k)++(if l[k].1≠1 then [l[k]]else []):=by unfold zw;rw[Aw b,List.filter_append];congr 1;by_cases h:l[k].1=1;simp[h];simp[h]
end
section
variable {s:Bs}
theorem z6s(h:(yr s).2.2=0):s.length<=65536/\(yr s).1.length<=s.length:=by unfold yr at h ⊢;split at h;simp at h;rename_i b;rw[if_neg b];have:=zsj s.length s 0 [];rw[AR,AI]at this;exact⟨by omega,this⟩
set_option maxRecDepth 100000 in
set_option maxHeartbeats 4000000 in
theorem z6t{gl:Fr}(hg:GL gl){R:(Bt×List Nd)×Int×Int->Prop}(hR:R ((bl (Ya s).1.1,(Ya s).1.2),(Ya s).2.1,(Ya s).2.2)):
  PC Tp gl 19 [Arg.mk .str (bl s)] [.pair .str (.row tNd),.int .i64,.int .i64] R:=by
 intro h M vs hM ag ha
 match vs,ha with
 |[u1],⟨a1,_⟩=>
  obtain rfl:=Wp (s:=bl s) a1;apply PX.of;apply zn8;intro h1;have k1:Keep h.size h h1:=Keep.push _ _ (Ab _);have z1:h1.size=h.size+1:=Aj _;have B1:Blk h1 h.size #[.string ⟨#[]⟩,.slice Te 0 0]:=Blk.new _ _ _;clear_value h1;have aU:AgM M h1:=ag.keep k1;refine qbk hg hM aU λf q t N rt=>⟨t,_,_,rfl,?_⟩;have B3:=B1.keep (N.keep.get h.size (by omega));have z3:=N.keep.size;have k3:Keep h.size h f:=k1.trans (c:=f) (m:=h.size) ⟨z3,λj A=>N.keep.get j (by omega)⟩ (Ab _);have aS:∀b,b<h.size->q b=M b:=λb r=>N.old b (by omega);have bz:M h.size=Te:=by
   cases e:M h.size with
   |none=>rfl
   |some x=>have:=ag.lt e;omega
  have ar:q h.size=Te:=by rw[N.old _ (by omega)];exact bz
  refine⟨λhx=>?_,λhx=>?_⟩;have hx:¬(yr s).2.2=0:=by simpa using hx
  have Q:Ya s=(([],[]),((yr s).2.1:Int),(yr s).2.2):=by unfold Ya;rw[if_neg hx]
  rw[Q]at hR;refine zhy (u:=⟨#[]⟩) (v:=⟨Te,0,0⟩) B3 λh7 f7 z7 B7=>⟨_,_,B7.ld (cs:=[.string ⟨#[]⟩,slV ⟨Te,0,0⟩]),?_⟩;exact⟨M,_,Later.same ag ⟨by omega,λj A=>by rw[f7 j (by omega)];exact k3.get j A⟩,z6r (x:=[]) (l:=[]) _ _ zga,hR⟩;have hx:(yr s).2.2=0:=by simpa using hx
  obtain⟨hs,aT⟩:=z6s hx;have Q:Ya s=match Jx s 32 (0,0) ⟨zw (yr s).1,0,[]⟩with
   |.inl st=>if st.rest=[]then((s,st.nodes),(s.length:Int),0)else(([],[]),st.here s.length,2)
   |.inr e=>(([],[]),e.1,e.2):=by unfold Ya;rw[if_pos hx];rfl
  have aC:=z0b (qau s);generalize (yr s).1=tl at rt aT Q aC;have rl:=(rowLen rt).1;intro U;have bg:Keep f.size f U:=Keep.push _ _ (Ab _);have bL:U.size=f.size+1:=Aj _;have aY:Blk U f.size (ppC s ⟨Te,0,0⟩ 0 0 ⟨Te,0,0⟩ 0 0).toArray:=Blk.new _ _ _;clear_value U;have az:∀c,f.size<=c->q c=Te:=λc i=>by
   cases e:q c with
   |none=>rfl
   |some x=>have:=N.ag.lt e;omega
  refine⟨λk g=>∃(n:Nat) (rs:Sl) (bs:List Nat),k=(n:Int)/\n<=tl.length/\ORow (f.size+1) g q tTk (zw (tl.take n)) rs bs/\Blk g f.size (ppC s rs 0 0 ⟨Te,0,0⟩ 0 0).toArray/\Keep f.size f g,λk _=>tl.length-k.toNat,⟨0,⟨Te,0,0⟩,[],rfl,by omega,.nil,aY,bg⟩,?_⟩;rintro k g ⟨n,rs,bs,rfl,hn,ro,Bp,kg⟩;have agg:AgM q g:=N.ag.keep kg;have zg:f.size+1<=g.size:=by have:=Bp.lt;omega
  refine⟨λV=>?_,λaV=>?_⟩;have V:n<tl.length:=by have:=of_decide_eq_true V;omega
  obtain⟨tb,o,e1,e2,e3,e4⟩:=qgq agg rt V;have Z:=zsk V;refine⟨_,⟨e1,by omega,by omega⟩,tl[n].1,tl[n].2.1,tl[n].2.2,?_,?_⟩;rw[qd,Ai];exact⟨by rw[qd];exact e2,by rw[qd];exact e3,by rw[qd];exact e4,trivial⟩;intro aa;have bA:Keep g.size g aa:=Keep.push _ _ (Ab _);have bJ:aa.size=g.size+1:=Aj _;have aH:Blk aa g.size (zsb 0 0 0).toArray:=Blk.new _ _ _;clear_value aa;refine qfw aH λz q1 q2 q3=>⟨tl[n].1,by rw[qd];exact q3.cell rfl,?_⟩;have af:Keep g.size g z:=⟨by omega,λj A=>(q1 j (by omega)).trans (bA.get j A)⟩;have B:=ro.frame (λc i=>af.get c (ro.own c i).2.1) (Fr.le.refl q) λc i=>(ro.own c i).2.2;have I:=Bp.keep (af.get _ (by omega));have ae:Keep f.size f z:=kg.trans (c:=z) (m:=f.size) ⟨by omega,λj A=>af.get j (by omega)⟩ (Ab _);have ap:Aa .i64 ((n:Int)+1)=((n+1:Nat):Int):=by rw[w64 (by omega)];omega
  rw[ap];refine⟨λr=>⟨_,rfl,rs,by rw[qd];exact I.cell rfl,tl[n].1,tl[n].2.1,tl[n].2.2,q3.ld,?_⟩,λr=>?_⟩;have r:tl[n].1≠1:=by simpa using r
  rw[if_pos r]at Z;intro C;have S:Keep z.size z C:=Keep.push _ _ (Ab _);have bM:C.size=z.size+1:=Aj _;have aM:Blk C z.size (zsb tl[n].1 tl[n].2.1 tl[n].2.2).toArray:=Blk.new _ _ _;clear_value C;refine⟨by rw[qd];exact S.get f.size (by omega),?_⟩;have au:=B.frame (λc i=>S.get c (B.own c i).2.1) (Fr.le.refl q) λc i=>(B.own c i).2.2;have ay:=I.keep (S.get _ (by omega));have ab:Keep f.size f C:=ae.trans (c:=C) (m:=f.size) ⟨by omega,λj A=>S.get j (by omega)⟩ (Ab _);have aQ:(zw (tl.take n)).length<=n:=by have:(zw (tl.take n)).length<=(tl.take n).length:=List.length_filter_le _ _;rw[AK]at this;omega
  refine ORow.app qc5 (by omega) (N.ag.keep ab) au (by omega) aM (qc6 _ _ _) (by omega) λs' bD bs' ai bG c29 aB=>⟨s',rfl,_,rfl,?_⟩;rw[qd];have bn:f.size∉bs:=λF=>by have:=(ro.own _ F).1;omega
  refine yf qi1 qi2 (ay.keep (aB _ (by omega) bn)) (by show 1<7;omega) rfl λbu u1 u2 u3=>⟨⟨n+1,s',bs',rfl,by omega,?_,u1,?_⟩,?_⟩;rw[Z];exact ai.frame (λc i=>u3 c λe=>by have:=(ai.own c i).1;omega) (Fr.le.refl q) λc i=>(ai.own c i).2.2;refine ab.trans (c:=bu) (m:=f.size) ⟨by omega,λj A=>?_⟩ (Ab _);rw[u3 j (by omega),aB j (by omega) λF=>by have:=(ro.own j F).1;omega];show tl.length-((n+1:Nat):Int).toNat<tl.length-(n:Int).toNat;omega;have r:¬tl[n].1≠1:=by simpa using r
  rw[if_neg r,AQ]at Z;refine⟨⟨n+1,rs,bs,rfl,by omega,by rw[Z];exact B,I,ae⟩,?_⟩;show tl.length-((n+1:Nat):Int).toNat<tl.length-(n:Int).toNat;omega;have aO:n=tl.length:=by have:=of_decide_eq_false aV;omega
  subst aO;rw[A3]at ro;have aQ:(zw tl).length<=tl.length:=List.length_filter_le _ _;have aI:=ro.rd agg (all:=bs) (λc i=>i) (by omega);have ba:AgM (MxL q g bs) g:=MxL.ag agg bs;have an:∀c∈bs,f.size+1<=c:=λc i=>(ro.own c i).1;have ah:∀c,c∉bs->MxL q g bs c=q c:=λc i=>by unfold MxL;rw[if_neg i]
  have bj:Fr.le gl (MxL q g bs):=hM.trans (N.le.trans (zej agg bs));have P:PaS f.size g (MxL q g bs) f.size s ⟨zw tl,0,[]⟩ 0 0 (ppO f.size [] ⟨Te,0,0⟩ 0):=by refine⟨rs,0,[],⟨Te,0,0⟩,0,#[],⟨Bp,aI,.nil,ba,⟨Ab _,?_⟩,?_⟩,rfl,rfl⟩;rw[ah _ λF=>by have:=an _ F;omega];exact az _ (Ab _);rintro(⟨h1,_⟩|⟨p,hp,_⟩);exact h1 rfl;cases hp
  have hT:(⟨zw tl,0,[]⟩:PSt).T<=200000:=by unfold PSt.T;simp;omega
  have be:=qbh (lo:=f.size) (M:=MxL q g bs) (bp:=f.size) (s:=s) hg bj hs 32 (Ab _) (0,0) g _ 0 0 _ P (by simp) hT aC;refine be _ λb aP st' a' e' O' P' S' n' G=>⟨b,rfl,?_⟩;intro a8 aE;have fin:∀(ok:Bool) (E:zb) (y:PSt) (a1 e1:Int) (O1:Nat->Prop),PaS f.size E (MxL q g bs) f.size s y a1 e1 O1->Stp g (ppO f.size [] ⟨Te,0,0⟩ 0) E O1->(ok=Tc->Ya s=(([],[]),a1,e1))->(ok=Ta->Ya s=((s,y.nodes),(s.length:Int),0)/\y.nodes.length<=4096/\y.T<=200000)->a8 ok E:=by
   intro ok E y a1 e1 O1 P1 S1 hf ht;refine aE ok E ?_;have aN:∀c,c<f.size->¬ppO f.size [] ⟨Te,0,0⟩ 0 c:=λc i=>by rintro(h1|⟨h1,_⟩|⟨p,hp,_⟩);omega;exact h1 rfl;cases hp
   have aj:∀j,j<f.size->E[j]?=f[j]?:=λj A=>(S1.fr j (by omega) (aN j A)).trans (kg.get j A);have bE:=S1.le;have Bd:=B3.keep (aj h.size (by omega));have bm:=P1;obtain⟨ak,aZ,D,L,b1,ax,O,w,a6⟩:=bm;have bB:=O.blk.lt;refine⟨λho=>⟨_,rfl,a1,by rw[qd];exact O.blk.cell rfl,_,rfl,e1,by rw[qd];exact O.blk.cell rfl,rfl,rfl,?_⟩,λho=>⟨_,rfl,L,by rw[qd];exact O.blk.cell rfl,?_⟩⟩;have ho:ok=Tc:=by simpa using ho
   refine zhy (u:=⟨#[]⟩) (v:=⟨Te,0,0⟩) Bd λbO aF bC aJ=>?_;have J:=aF f.size (by omega);refine⟨by rw[qd];exact J,by rw[qd];exact J,by rw[qd];exact J,_,_,aJ.ld (cs:=[.string ⟨#[]⟩,slV ⟨Te,0,0⟩]),?_⟩;rw[hf ho]at hR;exact⟨M,_,Later.same ag ⟨by omega,λj A=>by rw[aF j (by omega),aj j (by omega)];exact k3.get j A⟩,z6r (x:=[]) (l:=[]) _ _ zga,hR⟩;have ho:ok=Ta:=by simpa using ho
   obtain⟨bq,bP,bF⟩:=ht ho;refine zhy (u:=bl s) (v:=L) Bd λY am bN a7=>⟨_,_,a7.ld (cs:=[.string (bl s),slV L]),?_⟩;rw[bq]at hR;rw[zf];have br:MxL q g bs h.size=Te:=by rw[ah _ λF=>by have:=an _ F;omega];exact ar
   have aA:NS f.size Y (MxL q g bs) D L b1 ax:=O.ns.frame (by omega) λc i=>am c λe=>by have:=(O.ns.own i).1;omega
   have H:AgM (MxL q g bs) Y:=z6m O.ag λj A F=>am j λe=>F (e ▸ br);have bI:D.length=y.nodes.length:=by rw[<-w,Ao]
   have aG:=aA.rd H (by omega) λp hp=>by
    have:p.1∈y.nodes:=by rw[<-w];exact List.mem_map_of_mem hp
    have:=qfd this;omega
   rw[w]at aG;refine⟨MxL (MxL q g bs) Y (z9g D b1),_,⟨⟨by omega,λj A=>by rw[am j (by omega),aj j (by omega)];exact k3.get j A⟩,?_,λc i=>?_,MxL.ag H _⟩,z6r _ _ aG,hR⟩;exact N.le.trans ((zej agg bs).trans (zej H _));have h1:c∉z9g D b1:=λF=>by have:=qbl aA F;omega
   have e1:MxL (MxL q g bs) Y (z9g D b1) c=MxL q g bs c:=by unfold MxL;rw[if_neg h1]
   rw[e1,ah c λF=>by have:=an c F;omega];exact aS c i
  have aL:=P';obtain⟨ak,aZ,D,L,b1,ax,O,w,a6⟩:=aL;have bH:=(rowLen O.rd).1;refine⟨_,λ_=>rfl,ak,λ_=>by rw[qd];exact O.blk.cell rfl,λi=>?_,λi=>?_⟩;have r:b=Ta/\0<st'.rest.length:=by
   cases b with
   |false=>simp at i
   |true=>simp at i;exact⟨rfl,by omega⟩
  refine Wy P' λg' P2 S2=>⟨Tc,rfl,fin Tc g' st' _ _ O' P2 (S'.trans S2) (λ_=>?_) (λh=>(by cases h))⟩;rw[Q];cases hr:Jx s 32 (0,0) ⟨zw tl,0,[]⟩with
  |inl x=>rw[hr]at G;rw[G.2]at r ⊢;dsimp only;rw[if_neg λe=>by rw[e]at r;simp at r]
  |inr x=>rw[hr]at G;rw[G.1]at r;exact absurd r.1 (by simp)
  refine fin b aP st' a' e' O' P' S' (λr=>?_) (λr=>?_);rw[Q];cases hr:Jx s 32 (0,0) ⟨zw tl,0,[]⟩with
  |inl x=>rw[hr]at G;rw[G.1]at r;cases r
  |inr x=>rw[hr]at G;rw[G.2]
  subst r;have hz:st'.rest=[]:=by
   have:¬0<ak.len:=by simpa using i
   exact Bi.1 (by omega)
  cases hr:Jx s 32 (0,0) ⟨zw tl,0,[]⟩with
  |inl x=>rw[hr]at G Q;have okv:=zr0 s 32 _ _ _ hr;rw[<-G.2]at okv Q;dsimp only at Q;rw[if_pos hz]at Q;exact⟨Q,okv.m (by simp),by have:=okv.t;omega⟩
  |inr x=>rw[hr]at G;exact absurd G.1 (by simp)
end
end Go.X
end
section
namespace Go.X
section
theorem zsl(D:Bt)(h:zb)(R:Value->zb->Prop) (H:let b:=h.push (.cells #[.int .i64 0,.string (⟨#[]⟩:Bt),.slice Te 0 0,.slice Te 0 0] 26);XC Tp 19 #[.string D] b (λc d=>∃e f g i,c=.tuple #[.agg #[.string e,slV f],.int .i64 g,.int .i64 i]/\let j:=d.push (.cells #[.string (⟨#[]⟩:Bt),.slice Te 0 0] 36);XRunU Tp (Af 36 (.pointer (Td ⟨d.size,0,Te⟩)) (.agg #[.string e,slV f])) j (λk=>((i != 0)=Ta->XRunU Tp (Af 26 (.pointer (Td ⟨h.size,0,Te⟩)) (.agg #[.int .i64 0,.string (⟨#[]⟩:Bt),.slice Te 0 0,.slice Te 0 0])) k (λl=>∃m n o p,zd l ⟨h.size,0,Te⟩ 0 [.int .i64 m,.string n,slV o,slV p]/\R (.tuple #[.agg #[.int .i64 m,.string n,slV o,slV p],.int .i64 g,.int .i64 i]) l))/\((i != 0)=Tc->∃q r,zd k ⟨d.size,0,Te⟩ 0 [.string q,slV r]/\XC Tp 59 #[.agg #[.string q,slV r],.int .i64 0,.int .i64 1] k (λs t=>∃u v w x,s=.agg #[.int .i64 u,.string v,slV w,slV x]/\XRunU Tp (Af 26 (.pointer (Td ⟨h.size,0,Te⟩)) (.agg #[.int .i64 u,.string v,slV w,slV x])) t (λy=>∃z A B C,zd y ⟨h.size,0,Te⟩ 0 [.int .i64 z,.string A,slV B,slV C]/\R (.tuple #[.agg #[.int .i64 z,.string A,slV B,slV C],.int .i64 g,.int .i64 0]) y)))))):
  XC Tp 15 #[.string D] h R:=
 XF ⟨[],[],[]⟩ [.cell 2 26,.tmp 3,.tmp 4] 22 Tryz.func15 H
end
end Go.X
end
section
namespace Go.X
open Go Go.X Go.Proofs Go.RowKit
section
variable {s:Bs} {M:Fr}
theorem z6u(h:(Ya s).2.2=0):(yr s).2.2=0:=by unfold Ya at h;split at h;assumption;exact h
theorem qlx{x:Bs×List Nd}{i j:Int}{v:Value}(h:Yv M [.pair .str (.row tNd),.int .i64,.int .i64] ((bl x.1,x.2),i,j) v):∃sl:Sl,v=.tuple #[.agg #[.string (bl x.1),slV sl],.int .i64 i,.int .i64 j]/\Rd M (.row tNd) x.2 [slV sl]:=by
 obtain⟨vs,⟨r,rest,rfl,n,o,b,rfl,l,p,rfl,m⟩,rfl⟩:=h;rw[j4 l,j4 m];obtain⟨cs,rfl,c1,c2,rfl,f,k⟩:=n;have f:c1=[.string (bl x.1)]:=f;subst f;obtain⟨sl,rfl⟩:∃sl:Sl,c2=[slV sl]:=by obtain⟨w,e,a,c,q,_⟩:=k;exact⟨⟨a,_,c⟩,by rw[e,q];rfl⟩
 exact⟨sl,rfl,k⟩
set_option maxRecDepth 100000 in
set_option maxHeartbeats 2000000 in
theorem qi6{gl:Fr}(O:GL gl){h:zb}(J:Fr.le gl M)(ag:AgM M h){K:Value->zb->Prop} (q:∀(h':zb) (bs:List Nat) (sk si:Sl),Keep h.size h h'->OT h' (yu s).1 bs (Zz (yu s).1 sk si)->(∀b∈bs,h.size<=b)->K (.tuple #[.agg #[.int .i64 (yu s).1.kind,.string (yu s).1.text,slV sk,slV si],.int .i64 (yu s).2.1,.int .i64 (yu s).2.2]) h'):
  XC Tp 15 #[.string (bl s)] h K:=by
 apply zsl;intro h1;have P:Keep h.size h h1:=Keep.push _ _ (Ab _);have z1:h1.size=h.size+1:=Aj _;have V:Blk h1 h.size #[.int .i64 0,.string ⟨#[]⟩,.slice Te 0 0,.slice Te 0 0]:=Blk.new _ _ _;clear_value h1;refine(z6t O (s:=s) (R:=λr=>r=((bl (Ya s).1.1,(Ya s).1.2),(Ya s).2.1,(Ya s).2.2)) rfl).go J (ag.keep P) (qc (a:=Arg.mk .str _) (rdStr _) qt) λv i M' r L hv S=>?_;subst S;obtain⟨sl,rfl,rd⟩:=qlx hv;refine⟨_,sl,_,_,rfl,?_⟩;have H:=L.keep;have z3:=H.size;have F:Keep h.size h i:=P.trans (c:=i) (m:=h.size) ⟨z3,λj o=>H.get j (by omega)⟩ (Ab _);have R3:=V.keep (H.get h.size (by omega));intro w;have k8:Keep i.size i w:=Keep.push _ _ (Ab _);have z8:w.size=i.size+1:=Aj _;have Y:Blk w i.size #[.string ⟨#[]⟩,.slice Te 0 0]:=Blk.new _ _ _;clear_value w;refine zhy (u:=bl (Ya s).1.1) (v:=sl) Y λp f9 z9 I=>?_;have t:Keep i.size i p:=⟨by omega,λj o=>(f9 j (by omega)).trans (k8.get j o)⟩;have n:Keep h.size h p:=F.trans (c:=p) (m:=h.size) ⟨t.size,λj o=>t.get j (by omega)⟩ (Ab _);have N:=R3.keep (t.get h.size (by omega));refine⟨λe=>?_,λe=>?_⟩;have e:¬(Ya s).2.2=0:=by simpa using e
 have E:yu s=(.mk 0 (bl []) [] [],(Ya s).2.1,(Ya s).2.2):=by unfold yu;rw[if_neg e]
 rw[E]at q;refine jw (k:=0) (s:=⟨#[]⟩) (sk:=⟨Te,0,0⟩) (si:=⟨Te,0,0⟩) N λg f z B=>⟨_,_,_,_,B.ld (cs:=[.int .i64 0,.string ⟨#[]⟩,slV ⟨Te,0,0⟩,slV ⟨Te,0,0⟩]),?_⟩;obtain⟨bs,ot,A⟩:=(Own.new (lo:=h.size) (hi:=g.size) (b0:=h.size) (k:=0) (s:=bl []) B (Ab _) (Ab _)).ot;exact q g bs ⟨Te,0,0⟩ ⟨Te,0,0⟩ (n.trans (c:=g) (m:=h.size) ⟨by omega,λj o=>f j (by omega)⟩ (Ab _)) ot (λb y=>(A b y).1);have e:(Ya s).2.2=0:=by simpa using e
 obtain⟨lvs,G,e1,Q,e3,U⟩:=z5q e;obtain⟨hs,aa⟩:=z6s (z6u e);have E:yu s=(Q5 s (Ya s).1.2 33 0,(s.length:Int),0):=by unfold yu;rw[if_pos e]
 rw[E]at q;rw[e1]at I;rw[Q];refine⟨_,sl,I.ld (cs:=[.string (bl s),slV sl]),?_⟩;have D:AgM M' p:=L.ag.keep t;refine qc8 O hs G (λx e=>by have:=U x e;unfold ndW at this;omega) 33 0 1 1 rfl (by omega) (by omega) (by omega) p M' sl (J.trans L.le) D rd _ λab bs sk si l ot y=>⟨_,_,sk,si,rfl,?_⟩;have Z:=l.size;refine jw (N.keep (l.get h.size (by omega))) λg f z B=>⟨_,_,sk,si,B.ld (cs:=[_,_,slV sk,slV si]),?_⟩;exact q g bs sk si (n.trans (c:=g) (m:=h.size) ⟨by omega,λj o=>by rw[f j (by omega)];exact l.get j (by omega)⟩ (Ab _)) (ot.frame λc C=>f c (by have:=y c C;omega)) (λc C=>by have:=y c C;omega)
end
section
section
variable {t : Bs} {nodes : List Nd} {lvs : List Nat} {gl : Fr}
theorem qf6(k:GL gl){s:Bs}{R:Tr×Int×Int->Prop}(i:R (yu s)):PC Tp gl 15 [Arg.mk .str (bl s)] [.tree,.int .i64,.int .i64] R:=by
 intro h M vs b ag c
 match vs,c with
 |[u1],⟨a1,_⟩=>obtain rfl:=Wp (s:=bl s) a1;apply PX.of;exact qi6 k b ag λh' bs sk si e ot f=>⟨MxL M h' bs,_,MxL.later ag e f,⟨[_,_,_],⟨_,_,rfl,ot.rdv,_,_,rfl,Jf _ _,_,rfl,Jf _ _⟩,rfl⟩,i⟩
end
end
end Go.X
end
section
namespace Go.X.U
section
def zh7(o:Oper):Option Bool:=match o.op with
 |.fieldAddr _ _ _=>Td Ta
 |.indexAddr _ _ _=>Td Ta
 |.move _=>Td Ta
 |.assign _=>Td Ta
 |.load _ _=>Td Tc
 |.binOp _ _ _ _ _=>Td Ta
 |.call c=>match c.callee with
  |.builtin .len=>Td Ta
  |_=>Te
 |_=>Te
def zdk(o:Oper):Bool:=match zh7 o with
 |some _=>Ta
 |none=>Tc
def yx(o:Oper):Bool:=match zh7 o with
 |some b=>!b
 |none=>Tc
end
end Go.X.U
end
section
namespace Go.X
section
theorem zvk(gl:Fr)(b:Bt)(R:Tr->Prop) (H:R (Tr.mk 4 b [] [])):
  PC Tp gl 28 [Arg.mk .str b] [.tree] R:=
 PF ⟨[],[],[],[]⟩ [.cell 2 26] 5 Tryz.func28 H
end
end Go.X
end
section
namespace Go.X
open Go Go.X Go.Proofs Go.RowKit
section
variable {h:zb} {g:Bool} {M:Fr} {b:Nat}
def trV(k:Int)(s:Bt)(a b:Sl):Value:=.agg #[.int .i64 k,.string s,slV a,slV b]
theorem zxy{f:FuncId}{args:Array Value}(c:g=Ta){Kt:Bool->zb->Prop}(E:XC Tp f args h λv h'=>∃r,v=.bool r/\Kt r h'):
  ∃J:Value->zb->Prop,(g=Ta->XC Tp f args h λv h'=>∃r:Bool,v=.bool r/\J (.bool r) h')/\(g=Tc->∃r:Bool,J (.bool r) h)/\(g=Ta->∀v h',J v h'->∃r:Bool,v=.bool r)/\∀r:Bool,∀h',J (.bool r) h'->Kt r h':=by
 refine⟨λv h'=>∃r,v=.bool r/\Kt r h',λ_=>XC.mono E λv h' ⟨r,e,H⟩=>⟨r,e,r,rfl,H⟩,λb=>(by rw[c]at b;cases b),λ_ v h' ⟨r,e,_⟩=>⟨r,e⟩,λr h' ⟨i,e,H⟩=>?_⟩;injection e with e;subst e;exact H
theorem qi7{h h1:zb}{s:Sl}(f:g=Ta){Kt:Sl->zb->Prop}(E:Kt s h1):
  ∃J:Value->zb->Prop,(g=Ta->J (slV s) h1)/\(g=Tc->∃x:Sl,J (slV x) h)/\(g=Ta->∀v h',J v h'->∃x:Sl,v=slV x)/\∀x:Sl,∀h',J (slV x) h'->Kt x h':=by
 refine⟨λv h'=>∃x,v=slV x/\Kt x h',λ_=>⟨s,rfl,E⟩,λc=>(by rw[f]at c;cases c),λ_ v h' ⟨x,e,_⟩=>⟨x,e⟩,λx h' ⟨b,e,H⟩=>?_⟩;have:x=b:=by unfold slV at e;injection e with e1 e2 e3;cases x;cases b;simp_all
 subst this;exact H
theorem qly(o:M b=Te){h m:Tr}{w1 f:List Value}(h1:Rd M .tree h w1)(n:Rd M .tree m f)(l:w1.length=4)(p:f.length=4):Rd (Mx M b (w1++f).toArray) (.row .tree) [h,m] [slV ⟨Td ⟨b,0,Te⟩,2,2⟩]:=by
 have le:Fr.le M (Mx M b (w1++f).toArray):=λc cs e=>by unfold Mx;by_cases k:c=b;subst k;rw[o]at e;cases e;rw[if_neg k];exact e
 refine⟨_,rfl,_,_,rfl,by simp,.inr ⟨b,0,_,rfl,by unfold Mx;rw[if_pos rfl],λi hi=>?_⟩⟩;have hi:i<2:=hi;rcases(by omega:i=0\/i=1)with rfl|rfl;have:cut (w1++f).toArray (0+0*sz .tree) (sz .tree)=w1:=by show List.take 4 (List.drop 0 (w1++f))=w1;rw[BZ,<-l,CQ]
 rw[this];exact Rd.mono le h1;have:cut (w1++f).toArray (0+1*sz .tree) (sz .tree)=f:=by show List.take 4 (List.drop 4 (w1++f))=f;rw[List.drop_left' l,<-p,A3]
 rw[this];exact Rd.mono le n
theorem qlz{s1 s2:Bt}:Rd (Mx M b #[.string s1,.string s2]) (.row .str) [s1,s2] [slV ⟨Td ⟨b,0,Te⟩,2,2⟩]:=by refine⟨_,rfl,_,_,rfl,by simp,.inr ⟨b,0,_,rfl,by unfold Mx;rw[if_pos rfl],λi hi=>?_⟩⟩;have hi:i<2:=hi;rcases(by omega:i=0\/i=1)with rfl|rfl <;> rfl
theorem zvl{T:Tr}{k:Int}{s:Bt}{a b:Sl}(h:RdV M .tree T (trV k s a b)):Rd M .tree T [.int .i64 k,.string s,slV a,slV b]:=by
 unfold RdV at h;simp only[zhn,if_true]at h;obtain⟨cs,e,c⟩:=h;unfold trV at e;injection e with e;have:cs=[.int .i64 k,.string s,slV a,slV b]:=by have:=congrArg Array.toList e;simpa using this.symm
 rw[<-this];exact c
section
variable {gl : Fr} {b2 b29 : Nat} {k2 k29 : Int} {s2 : Bt} {a2 c2 a29 c29 : Sl} {h : zb} {M : Fr}
end
end
section
variable {v:Tr} {sk si:Sl} {lv i:Nat}
section
variable {gl M : Fr} {b N : Nat} {ln : Bool}
def qda(gl M:Fr)(b N:Nat)(ln:Bool)(F:FuncId)(args:Array Value)(p:Bs):Prop:=
 ∀(l:Bs) (g:zb) (K:Value->zb->Prop),Prn g b ln (N:Int) l->Low gl M b g->l.length+p.length<=140737488355328->(∀g',Prn g' b ln (N:Int) (l++p)->FrP b g g'->K (.tuple #[]) g')->XC Tp F args g K
set_option maxRecDepth 100000 in
set_option maxHeartbeats 4000000 in
theorem z6v{F:FuncId}(hF:zh Tp F=Ta)(hi:Rd M (.row .tree) v.items [slV si])(Z:N<=8)(hv:lv<=90){o c:UInt8}{ps:List Bs}(J:ps.length=v.items.length)(aa:v.items.length<=1000000) (hE:∀(i:Nat) (h:i<ps.length),qda gl M b N ln F (#[.pointer (Td ⟨b,0,Te⟩)]++#[trV v.kind v.text sk si,.int .i64 (i:Int),.int .i64 ((lv+1:Nat):Int)]++#[]) ps[i]):
  qda gl M b N ln 169 #[.pointer (Td ⟨b,0,Te⟩),trV v.kind v.text sk si,.int .i64 (lv:Int),.string (bl [o,c]),.func (.func F) #[.pointer (Td ⟨b,0,Te⟩)] #[]] (o::Xp ln N lv ps++[c]):=by
 intro l g K H L hl hK;have af:=(rowLen hi).1;have I:=H.lt;have e1:(o::Xp ln N lv ps++[c]).length=2+(Ze ln N (lv+1) ps).length+(if ps=[]then []else yj ln N lv:Bs).length:=by unfold Xp;simp only[Aq,Ag,AR];omega
 rw[e1]at hl;apply Xn;intro h1;have k1:Keep g.size g h1:=Keep.push _ _ (Ab _);have B1:h1[g.size]?=Td (.cells #[.int .i64 v.kind,.string v.text,slV sk,slV si] 26 (0,0)):=yb _ _;clear_value h1;have f1:=FrP.ofKeep k1 (DZ I);have H1:=H.keep k1;refine⟨_,rfl,⟨by decide,by rw[zf];simp⟩,?_⟩;rw[add0];have eo:zr (bl [o,c]) (0:Int).toNat=(o.toNat:Int):=by rw[jj];rfl
 have ec:zr (bl [o,c]) (1:Int).toNat=(c.toNat:Int):=by rw[jj];rfl
 rw[eo];refine Qq H1 (by omega) o λu H4 U Y=>⟨_,rfl,?_⟩;have P:FrP b g u:=f1.trans ⟨U,Y⟩;have box:∀g',FrP b u g'->Blk g' g.size #[.int .i64 v.kind,.string v.text,slV sk,slV si]:=λg' f=>⟨_,f.blk ((⟨U,Y⟩:FrP b h1 u).blk B1)⟩;refine⟨si,Blk.cellAdd (o:=0) (k:=3) (box u (FrP.refl _ _)) rfl,?_⟩;refine⟨λi g'=>∃n:Nat,i=(n:Int)/\n<=ps.length/\Prn g' b ln (N:Int) (l++[o]++Ze ln N (lv+1) (ps.take n))/\FrP b u g',λi _=>ps.length-i.toNat,⟨0,rfl,by omega,by simpa[Ze]using H4,FrP.refl _ _⟩,?_⟩;rintro i g' ⟨n,rfl,hn,z,f'⟩;have D:=P.trans f';have L':=L.frp D;have ae:=zxp ln N (lv+1) hn;have q:(l++[o]++Ze ln N (lv+1) (ps.take n)).length=l.length+1+(Ze ln N (lv+1) (ps.take n)).length:=by rw[Ag,Ag];rfl
 refine⟨λr=>?_,λw=>?_⟩;have r:n<ps.length:=by have:=of_decide_eq_true r;omega
 have t:=zxp ln N (lv+1) (ps:=ps) (n:=n+1) r;have C:=zmp ln N (lv+1) r;rw[C]at t;simp only[Ag]at t;intro Q A;have p:∀s,Prn s b ln (N:Int) (l++[o]++Ze ln N (lv+1) (ps.take n)++(if n=0 then []else [44]))->FrP b u s->Q s:=λs x y=>A _ (by have V:=L.frp (P.trans y);rw[w64 (by omega),show(lv:Int)+1=((lv+1:Nat):Int)from by omega];refine qc0 x V Z (by omega) (by rw[Ag,q];omega) λG O S=>⟨rfl,v.kind,v.text,sk,si,(box G (y.trans S)).ld (cs:=[_,_,slV sk,slV si]),hF,?_⟩;refine hE n r _ _ _ O (V.frp S) (by rw[Ag,Ag,q];omega) λg5 H5 f5=>⟨rfl,⟨n+1,by rw[w64 (by omega)];omega,r,?_,y.trans (S.trans f5)⟩,?_⟩;rw[C];simpa[AF]using H5;show ps.length-(Aa .i64 ((n:Int)+1)).toNat<ps.length-(n:Int).toNat;rw[w64 (by omega)];omega);refine⟨λm=>?_,λm=>?_⟩;have h0:n≠0:=by have:=of_decide_eq_true m;omega
 refine⟨_,rfl,?_⟩;rw[add0];refine Qq z (by rw[q];rw[if_neg h0]at t;simp only[Aq,AR]at t;omega) 44 λs x k2 o2=>⟨_,rfl,p s ?_ (f'.trans ⟨k2,o2⟩)⟩;rw[if_neg h0];exact x;have h0:n=0:=by have:=of_decide_eq_false m;omega
 refine p g' ?_ f';rw[if_pos h0,AQ];exact z;have w:n=ps.length:=by have:=of_decide_eq_false w;omega
 subst w;rw[A3]at z q;intro E B;have p:∀s,Prn s b ln (N:Int) (l++[o]++Ze ln N (lv+1) ps++(if ps=[]then []else yj ln N lv))->FrP b u s->E s:=λs x y=>B _ (by refine⟨_,rfl,⟨by decide,by rw[zf];simp⟩,?_⟩;rw[add0,ec];refine Qq x (by rw[Ag,q];omega) c λG O k3 o3=>⟨_,rfl,hK G ?_ (P.trans (y.trans ⟨k3,o3⟩))⟩;unfold Xp;simpa[AF]using O);refine⟨si,Blk.cellAdd (o:=0) (k:=3) (box g' f') rfl,λm=>?_,λm=>?_⟩;have h0:ps≠[]:=λe=>by
  have:=of_decide_eq_true m;have ab:v.items.length=0:=by rw[<-J,e];rfl
  omega
 rw[if_neg h0]at hl;refine qc0 z L' Z (by omega) (by rw[q];omega) λs x y=>⟨rfl,p s ?_ (f'.trans y)⟩;rw[if_neg h0];exact x;have h0:ps=[]:=by have:=of_decide_eq_false m;apply AN;omega
 refine p g' ?_ f';rw[if_pos h0,AQ];exact z
theorem qbm:zh Tp 170=Ta:=by kernel_rfl
theorem z0p:zh Tp 171=Ta:=by kernel_rfl
set_option maxRecDepth 100000 in
theorem qi8(hi:Rd M (.row .tree) v.items [slV si])(h:i<v.items.length){p:Bs}(y:∀(c e:Sl),Rd M (.row .str) v.items[i].keys [slV c]->Rd M (.row .tree) v.items[i].items [slV e]->qda gl M b N ln 97 #[.pointer (Td ⟨b,0,Te⟩),trV v.items[i].kind v.items[i].text c e,.int .i64 (lv:Int)] p):
  qda gl M b N ln 170 #[.pointer (Td ⟨b,0,Te⟩),trV v.kind v.text sk si,.int .i64 (i:Int),.int .i64 (lv:Int)] p:=by
 intro l g K H L w t;have r:=(rowLen hi).1;apply zag;intro h1;have m:Keep g.size g h1:=Keep.push _ _ (Ab _);have s:Blk h1 g.size #[.int .i64 v.kind,.string v.text,slV sk,slV si]:=Blk.new _ _ _;clear_value h1;have f:=FrP.ofKeep m (DZ H.lt);have n:=L.frp f;obtain⟨a,c,e,z,q,A,u⟩:=zd8 n.ag hi h;refine⟨si,Blk.cellAdd (o:=0) (k:=3) s rfl,a,⟨z,by omega,by omega⟩,_,_,c,e,by rw[Ai];exact q,?_⟩;exact y c e A u l h1 _ (H.keep m) n w λg' x f'=>⟨rfl,t g' x (f.trans f')⟩
set_option maxRecDepth 100000 in
theorem qbn(hg:GL gl)(hb:Brn gl)(G:Rd M (.row .str) v.keys [slV sk])(hi:Rd M (.row .tree) v.items [slV si])(h:i<v.items.length)(h2:i<v.keys.length)(s:(lb v.keys[i]).length<=1048576){p:Bs}(hE:∀(e c:Sl),Rd M (.row .str) v.items[i].keys [slV e]->Rd M (.row .tree) v.items[i].items [slV c]->qda gl M b N ln 97 #[.pointer (Td ⟨b,0,Te⟩),trV v.items[i].kind v.items[i].text e c,.int .i64 (lv:Int)] p):
  qda gl M b N ln 171 #[.pointer (Td ⟨b,0,Te⟩),trV v.kind v.text sk si,.int .i64 (i:Int),.int .i64 (lv:Int)] (zf8 ln v.keys[i] p):=by
 intro l g K H L A F;unfold zf8 at A F;simp only[Ag,Aq]at A;have Y:=(rowLen hi).1;have P:=(rowLen G).1;apply Wx;intro h1;have U:Keep g.size g h1:=Keep.push _ _ (Ab _);have E:h1[g.size]?=Td (.cells #[.int .i64 v.kind,.string v.text,slV sk,slV si] 26 (0,0)):=yb _ _;clear_value h1;have S:=FrP.ofKeep U (DZ H.lt);have D:=L.frp S;obtain⟨a,r,x,z,w⟩:=zzv D.ag G h2 (i:=(i:Int)) rfl (L:=sk.len) rfl (Q:=λx=>x=v.keys[i]) rfl;subst w;refine⟨sk,Blk.cellAdd (o:=0) (k:=2) ⟨_,E⟩ rfl,a,r,v.keys[i],z,?_⟩;refine zxq hg hb (H.keep U) D s (by omega) λh6 H6 f6=>⟨rfl,_,rfl,?_⟩;rw[add0];refine Qq H6 (by simp only[Ag];omega) 58 λO t k9 o9=>⟨_,rfl,?_⟩;have I:FrP b h1 O:=f6.trans ⟨k9,o9⟩;intro C q;have f:∀m,Prn m b ln (N:Int) (l++(zmh (lb v.keys[i])).1++[58]++(if ln then [32]else []))->FrP b h1 m->C m:=λm u y=>q _ (by have J:=D.frp y;obtain⟨a',e,c,e1,V,e3,Z⟩:=zd8 J.ag hi h;refine⟨si,Blk.cellAdd (o:=0) (k:=3) ⟨_,y.blk E⟩ rfl,a',⟨e1,by omega,by omega⟩,_,_,e,c,by rw[Ai];exact V,?_⟩;refine hE e c e3 Z _ m _ u J (by simp only[Ag,Aq,AR];omega) λg' H' f'=>⟨rfl,F g' ?_ (S.trans (y.trans f'))⟩;simpa[AF]using H');have B:=t;obtain⟨p9,s9,e9,aa,ab⟩:=B;refine⟨_,rfl,ln,Blk.cellAdd (o:=0) (k:=2) (cs:=#[.pointer p9,slV s9,.bool ln,.int .i64 (N:Int)]) ⟨_,e9⟩ rfl,λn=>?_,λn=>?_⟩;subst n;refine⟨_,rfl,?_⟩;rw[add0];refine Qq t (by simp only[if_true,Aq,AR]at A;simp only[Ag,Aq,AR];omega) 32 λm u k2 o2=>⟨_,rfl,f m u (I.trans ⟨k2,o2⟩)⟩;subst n;refine f O ?_ I;simpa using t
end
end
section
section
variable {gl M : Fr} {b N : Nat} {ln : Bool}
theorem zsm{g:zb}{l:Bs}(H:Prn g b ln (N:Int) l)(s:Bt)(e:l.length+(lb s).length<=140737488355328){K:Value->zb->Prop}(c:∀g',Prn g' b ln (N:Int) (l++lb s)->Keep b g g'->Otk g g'->K (.tuple #[.int .i64 ((lb s).length:Int),.nilIface]) g'):
  XC Tp 85 #[.pointer (Td ⟨b,0,Te⟩),.string s] g K:=by
 have:=Ys H (lb s) e c;rw[Yw]at this;exact this
set_option maxRecDepth 100000 in
set_option maxHeartbeats 2000000 in
theorem qdb(Q:GL gl)(Y:Brn gl)(U:N<=8):∀(n:Nat) (v:Tr) (lv:Nat) (sk si:Sl),n<=1000000->tsz v<=n->Q8 zn v=Ta->Sm v->lv+tdp v<=90->Rd M (.row .str) v.keys [slV sk]->Rd M (.row .tree) v.items [slV si] ->
  qda gl M b N ln 97 #[.pointer (Td ⟨b,0,Te⟩),trV v.kind v.text sk si,.int .i64 (lv:Int)] (jv ln N v lv)
 |0,v,lv,sk,si,_,h,_,_,_,_,_=>by have:=Q2 v;omega
 |n+1,v,lv,sk,si,hn,hz,hok,hsm,hd,hk,hi=>by
  intro l g K H L t r;have f:=hok;rw[y0,Ap]at f;have s:∀(i:Nat) (h:i<v.items.length) (p m:Sl),Rd M (.row .str) v.items[i].keys [slV p]->Rd M (.row .tree) v.items[i].items [slV m]->qda gl M b N ln 97 #[.pointer (Td ⟨b,0,Te⟩),trV v.items[i].kind v.items[i].text p m,.int .i64 ((lv+1:Nat):Int)] (jv ln N v.items[i] (lv+1)):=λi h p m h1 h2=>by
   have I:=AE h;have hs:=yd I;have aa:=zop I;have C:Q8 zn v.items[i]=Ta:=by rw[jk,Av]at f;exact f.2 _ I
   exact qdb Q Y U n v.items[i] (lv+1) p m (by omega) (by omega) C (hsm.item I) (by omega) h1 h2
  have F:v.items.length<=1000000:=by have:=Qd v.items;rw[yh]at hz;omega
  rw[Yy]at t r;apply Xm;intro h1;have Z:Keep g.size g h1:=Keep.push _ _ (Ab _);have G:Blk h1 g.size #[.int .i64 v.kind,.string v.text,slV sk,slV si]:=Blk.new _ _ _;clear_value h1;have B:=FrP.ofKeep Z (DZ H.lt);have E:=H.keep Z;have S:=L.frp B;refine⟨v.kind,Blk.cellAdd (o:=0) (k:=0) G rfl,λq=>?_,λq=>⟨λu=>?_,λu=>⟨λy=>?_,λy=>⟨λA=>?_,λA=>?_⟩⟩⟩⟩;have q:v.kind=1:=eq_of_beq q;rw[if_pos q]at t r;refine⟨_,rfl,?_⟩;rw[add0];exact Ys E [110,117,108,108] t λg' w P J=>⟨_,_,rfl,r g' w (B.trans ⟨P,J⟩)⟩;have z:v.kind≠1:=λe=>by rw[e]at q;cases q
  have u:v.kind=4:=eq_of_beq u;rw[if_neg z,if_pos u]at t r;exact⟨v.text,Blk.cellAdd (o:=0) (k:=1) G rfl,zxq Q Y E S hsm.text t λg' w f'=>⟨rfl,r g' w (B.trans f')⟩⟩;have z:v.kind≠1:=λe=>by rw[e]at q;cases q
  have D:v.kind≠4:=λe=>by rw[e]at u;cases u
  have y:v.kind=5:=eq_of_beq y;rw[if_neg z,if_neg D,if_pos y]at t r;refine⟨v.kind,v.text,sk,si,G.ld (cs:=[_,_,slV sk,slV si]),?_⟩;refine z6v (o:=91) (c:=93) (ps:=v.items.map λx=>jv ln N x (lv+1)) qbm hi U (by omega) (Ao _) F (λi h=>?_) l h1 _ E S t λg' w f'=>⟨rfl,r g' w (B.trans f')⟩;rw[Ao]at h;rw[C4];exact qi8 hi h λp m V a2=>s i h p m V a2;have z:v.kind≠1:=λe=>by rw[e]at q;cases q
  have D:v.kind≠4:=λe=>by rw[e]at u;cases u
  have O:v.kind≠5:=λe=>by rw[e]at y;cases y
  have A:v.kind=6:=eq_of_beq A;rw[if_neg z,if_neg D,if_neg O,if_pos A]at t r;have ab:v.keys.length=v.items.length:=by have:=f.1;unfold zn at this;simp[A]at this;exact this.1.2
  refine⟨v.kind,v.text,sk,si,G.ld (cs:=[_,_,slV sk,slV si]),?_⟩;refine z6v (o:=123) (c:=125) (ps:=List.zipWith (zf8 ln) v.keys (v.items.map λx=>jv ln N x (lv+1))) z0p hi U (by omega) (by rw[List.length_zipWith,Ao];omega) F (λi h=>?_) l h1 _ E S t λg' w f'=>⟨rfl,r g' w (B.trans f')⟩;rw[List.length_zipWith,Ao]at h;rw[List.getElem_zipWith,C4];exact qbn Q Y hk hi (by omega) (by omega) (hsm.key (AE _)) λp m V a2=>s i (by omega) p m V a2;have z:v.kind≠1:=λe=>by rw[e]at q;cases q
  have D:v.kind≠4:=λe=>by rw[e]at u;cases u
  have O:v.kind≠5:=λe=>by rw[e]at y;cases y
  have n6:v.kind≠6:=λe=>by rw[e]at A;cases A
  rw[if_neg z,if_neg D,if_neg O,if_neg n6]at t r;refine⟨_,rfl,v.text,Blk.cellAdd (o:=0) (k:=1) G rfl,?_⟩;rw[add0];exact zsm E v.text t λg' w P J=>⟨_,_,rfl,r g' w (B.trans ⟨P,J⟩)⟩
end
end
end Go.X
end
section
namespace Go.X
section
theorem zhg(gl:Fr)(c:Tr)(R:Bool->Prop) (H:∃a:Bool->Prop,((c.kind != 7)=Ta->PC Tp gl 96 [Arg.mk .tree (Tr.mk c.kind c.text c.keys c.items)] [.bool] a)/\∀b:Bool,((c.kind != 7)=Ta->a b)->R (bif (c.kind != 7)then b else Tc)):
  PC Tp gl 95 [Arg.mk .tree c] [.bool] R:=
 PF ⟨[],[],[],[]⟩ [.tmp 2] 10 Tryz.func95 H
end
section
variable {gl:Fr} {v:Tr} {R:Bool -> Prop}
theorem z6w(f:GL gl)(i:Sm v)(h:R (decide (v.kind≠7)&&zn v)):PC Tp gl 95 [Arg.mk .tree v] [.bool] R:=by
 apply zhg;simp only[Xg];refine⟨λb=>b=zn v,λ_=>z4m f i rfl,λb c=>?_⟩;cases hk:(v.kind != 7)with
 |false=>
  have e:v.kind=7:=by simpa using hk
  have:(decide (v.kind≠7)&&zn v)=Tc:=by simp[e]
  rw[this]at h;simpa[hk]using h
 |true=>
  have e:v.kind≠7:=by simpa using hk
  have c:=c hk;subst c;have:(decide (v.kind≠7)&&zn v)=zn v:=by simp[e]
  rw[this]at h;simpa[hk]using h
theorem zet(J:GL gl)(D:Sm v)(q:R (qa v)):PC Tp gl 33 [Arg.mk .tree v] [.bool] R:=by
 intro h M vs C ag L
 match vs,L with
 |[u],⟨o,_⟩=>
  have o:RdV M .tree v u:=o;have n:=o;obtain⟨sk,si,rfl,V,Z⟩:=yz o;apply PX.of;apply zlc v.kind v.text sk si;intro h1;have s:Later h M h1 M:=Later.push ag _;have s1:h1.size=h.size+1:=Aj _;have f:∀h':zb,Keep h1.size h1 h'->zd h' ⟨h.size,0,Te⟩ 0 [.int .i64 v.kind,.string v.text,slV sk,slV si]:=λh' k=>z3o (h':=h') (by rw[s1]at k;exact k);clear_value h1;refine⟨v.kind,v.text,sk,si,f h1 (Keep.refl _ _),?_⟩;have A:PC Tp gl 93 [Arg.mk .tree v] [.bool] (λr=>r=Zf v):=zw7 D rfl;refine A.go (vs:=[.agg #[.int .i64 v.kind,.string v.text,slV sk,slV si]]) (C.trans s.le) s.ag (qc (RdV.mono s.le n) qt) λw H G r y m E=>?_;refine⟨r,zhq m,v.kind,v.text,sk,si,λ_=>f H y.keep,?_⟩;have c:=s.trans y;refine⟨λw t=>∃b,w=.bool b/\(r=Ta->b=Q8 (λx=>decide (x.kind≠7)&&zn x) v)/\∃z,Later h M t z,λQ=>?_,λl=>⟨Ta,Ta,rfl,λe=>(by rw[e]at l;cases l),G,c⟩,λ_ w t ⟨b,e,_⟩=>⟨b,e⟩,?_⟩;refine(zw8 (F:=95) (by kernel_rfl) (p:=λx=>decide (x.kind≠7)&&zn x) (λx O=>z6w J O rfl) v D (C.trans c.le) y.ag (RdV.mono c.le n)).go λw Y N b S i B=>⟨b,zhq i,b,rfl,λ_=>B,N,c.trans S⟩;rintro b t ⟨U,e,P,z,I⟩;cases e;refine⟨z,_,I,Xe.2 (rdBool _),?_⟩;unfold qa at q;rw[<-E]at q;cases r with
  |false=>exact q
  |true=>rw[cond_true,P rfl];exact q
end
end Go.X
end
section
namespace Go.X
open Go Go.Lib
section
variable {s t:Bs} {r a:Nat}
theorem qi9{T:List Tk}{v:Tr}{m:Nat}(f:s.length<=65536)(L:Lex s 0 s.length T)(l:PV s 32 v (zw T) m)(o:m<=4096):yu s=(v,(s.length:Int),0):=by
 have n:=z5s L f;obtain⟨_,_,h⟩:=zju 32 v _ m l;obtain⟨new,e,k⟩:=h (0,0) ⟨zw T,0,[]⟩ [] (by simp) (by simp;omega);have b:Ya s=((s,new),(s.length:Int),0):=by unfold Ya;rw[n];dsimp only;rw[if_pos rfl,e];dsimp only;rw[if_pos rfl,A5]
 unfold yu;rw[b];dsimp only;rw[if_pos rfl];have:=k.val new (λi y c=>by simp only[AR,AI];exact c) 33 (by omega);simp only[AR]at this;rw[this]
theorem qf7:(Bl 32).all (λk=>decide (zr7 k≠0)||(zjp [48,48,Bb (48+k / 16),qfk (k % 16)]==Td k))=Ta:=by kernel_rfl
theorem qbo(h:z08 r)(i:32<=r)(k:r≠34)(f:r≠92)(m:Bs):∃c t,encodeRune (r:Int)++m=c::t/\c≠34/\c≠92:=by
 obtain⟨_,b,_⟩:=zvd h m;by_cases n:r<128;have e:encodeRune (r:Int)=[(r:Int).toNat.toUInt8]:=by unfold encodeRune;rw[encodeRuneZ_one (by omega) (by omega)];rfl
 have b0:=z0f (x:=(r:Int)) (by omega) (by omega);refine⟨_,m,by rw[e];rfl,λe=>?_,λe=>?_⟩ <;> (rw[e]at b0;simp at b0;omega);have l:=zxm h (by omega);cases he:encodeRune (r:Int)with
 |nil=>rw[he]at b;simp at b
 |cons c t=>have:=l c (by rw[he];exact Am);exact⟨c,t++m,rfl,λe=>(by subst e;simp at this),λe=>(by subst e;simp at this)⟩
theorem qbp(h:z08 r)(m:Bs):zae (z09 r++m)=Td (r,(z09 r).length)/\(z09 r++m).head?≠Td 34/\z09 r≠[]:=by
 unfold z09;by_cases h0:zr7 r≠0;rw[if_pos h0];have i:(r=34\/r=92)\/r=8\/r=12\/r=10\/r=13\/r=9:=by unfold zr7 at h0;by_cases a:r=34\/r=92;exact .inl a;rw[if_neg a]at h0;by_cases b:r=8;exact .inr (.inl b);rw[if_neg b]at h0;by_cases c:r=12;exact .inr (.inr (.inl c));rw[if_neg c]at h0;by_cases d:r=10;exact .inr (.inr (.inr (.inl d)));rw[if_neg d]at h0;by_cases e:r=13;exact .inr (.inr (.inr (.inr (.inl e))));rw[if_neg e]at h0;by_cases f:r=9;exact .inr (.inr (.inr (.inr (.inr f))));rw[if_neg f]at h0;exact absurd rfl h0
 rcases i with(rfl|rfl)|rfl|rfl|rfl|rfl|rfl <;> exact⟨rfl,by simp,by simp⟩;rw[if_neg h0];have n:r≠34:=λe=>h0 (by subst e;decide)
 have l:r≠92:=λe=>h0 (by subst e;decide);by_cases k:32<=r;rw[if_pos k];obtain⟨p,w,y⟩:=zvd h m;obtain⟨c,t,e,q,o⟩:=qbo h k n l m;refine⟨?_,by rw[e];simpa using q,λe=>by rw[e]at w;simp at w⟩;unfold zae;have z:zkl (dec (encodeRune (r:Int)++m))=Tc:=by rw[p];unfold zkl;simp only[CJ,beq_eq_false_iff_ne,ne_eq];by_cases x:r=65533;exact .inr (by have:=y (by omega);omega);exact .inl x
 rw[if_neg (by rw[e];simpa using o),if_neg (by rw[z,p];rintro(h|h);omega;cases h),p];rw[if_neg k];have:=Av.1 qf7 r (A1.2 (by omega));rw[BO]at this;have u:zjp [48,48,Bb (48+r / 16),qfk (r % 16)]=Td r:=by rcases this with h|h;exact absurd (of_decide_eq_true h) h0;exact eq_of_beq h
 refine⟨?_,by simp,by simp⟩;unfold zae;rw[if_pos (show List.head? ([92,117,48,48,Bb (48+r / 16),qfk (r % 16)]++m)=Td 92 from rfl)];unfold qe4;simp only[AD,A5];rw[show qas 117=Te from by decide];dsimp only;rw[if_pos trivial];unfold qe3;have s:zjp (48::48::Bb (48+r / 16)::qfk (r % 16)::m)=Td r:=by unfold zjp at u ⊢;rw[if_pos (by simp)]at u;rw[if_pos (by simp only[Aq];omega)];exact u
 rw[s];dsimp only;rw[if_neg (by omega),if_pos (by omega)];rfl
theorem z6x(rest:Bs):∀(k:Nat) (t:Bs),t.length=k->Z4 t=Ta->zem (za9 t++34::rest)=(t,(za9 t).length+1,Ta):=by
 intro k;induction k using DF with
 |_ k q=>
  intro t u h;by_cases f:t=[];subst f;rw[show za9 ([]:Bs)++34::rest=34::rest from rfl,Jk (by simp),if_pos (show(34::rest).head?=Td 34 from rfl)];rfl;have x:=Bv.2 f;have b:zkl (dec t)=Tc:=by
   rw[Zw f]at h;cases hb:zkl (dec t)with
   |true=>rw[hb]at h;cases h
   |false=>rfl
  have i:Z4 (t.drop (dec t).2)=Ta:=by rw[Zw f,b]at h;simpa using h
  have w:=wo t;have n:=zxn f b;have s:=zu2 f b;have m:=zon t;have c:za9 t=z09 (dec t).1++za9 (t.drop (dec t).2):=by rw[<-n,<-zjv,Cb]
  have l:=q (t.drop (dec t).2).length (by rw[AH];omega) _ rfl i;obtain⟨p,r,o⟩:=qbp m (za9 (t.drop (dec t).2)++34::rest);rw[c,AF,Jk (by intro e;exact o (List.append_eq_nil_iff.1 e).1),if_neg r,p];dsimp only;rw[DR,l,s];dsimp only;rw[Cb,Ag,CP]
def zgb(t:Bs):Bs:=34::za9 t++[34]
theorem zxz(t:Bs):(zgb t).length=(za9 t).length+2:=by unfold zgb;simp
theorem zsn{t s rest:Bs}(c:Z4 t=Ta)(b:s.drop a=zgb t++rest):yq s a=(t,a+(zgb t).length,0):=by
 have e:s.drop (a+1)=za9 t++34::rest:=by rw[<-BU,b];unfold zgb;simp
 unfold yq;rw[b,if_pos (by unfold zgb;rfl),e,z6x rest _ t rfl c];simp only[if_true];rw[zxz,show a+1+((za9 t).length+1)=a+((za9 t).length+2)from by omega]
theorem zx0(b:Z4 t=Ta):(Xh (zgb t)).1=t:=by have:=zsn (s:=zgb t) (a:=0) (rest:=[]) b (by simp);unfold Xh;rw[this];dsimp only;rw[if_neg (by omega)]
theorem z6y{t s rest:Bs}(e:Z4 t=Ta)(b:s.drop a=zgb t++rest):Z1 s a=(8,a+(zgb t).length,0):=by have c:=zsn e b;unfold Z1;rw[b,show zgb t++rest=34::(za9 t++[34]++rest)from rfl];dsimp only;rw[if_neg (by decide),if_neg (by decide),if_pos rfl,c,if_pos rfl]
theorem Qj{s rest:Bs}{c:UInt8}(b:c∈q9)(e:s.drop a=c::rest):Z1 s a=(2+indexByte q9 c,a+1,0):=by unfold Z1;rw[e];dsimp only;rw[if_pos b]
theorem qw{s r:Bs}(h:s.drop a=r)(b:r≠[]):a<s.length:=by rcases A6 a s.length with h1|h1;exact h1;rw[Br h1]at h;exact absurd h.symm b
theorem Lex.step{a b e:Nat}{k:Int}{T:List Tk}(h:Z1 s a=(k,e,0))(c:a<s.length)(L:Lex s e b T):Lex s a b ((k,((a:Int),(e:Int)))::T):=by have:=Lex.cons (s:=s) (i:=a) (j:=b) (T:=T) c (by rw[h]) (by rw[h];exact L);rw[h]at this;exact this
theorem qja{t s rest:Bs}{a d:Nat}(f:Z4 t=Ta)(c:s.drop a=zgb t++rest):PV s (d+1) (.mk 4 (bl t) [] []) [(8,((a:Int),((a+(zgb t).length:Nat):Int)))] 1:=by
 have e:=zxz t;have h:a+(zgb t).length<=s.length:=by have:=congrArg Ct c;rw[AH,Ag]at this;omega
 have b:qp s ((a:Int),((a+(zgb t).length:Nat):Int))=zgb t:=by rw[zbb (by dsimp only;omega) (by dsimp only;omega) (by dsimp only;omega)];unfold Jw;simp only[Ai];rw[c,Db,CQ]
 refine⟨_,.inl ⟨rfl,show zu 8≠0 by decide,show zu 8≠5 by decide,show zu 8≠6 by decide,?_,rfl⟩⟩;dsimp only;rw[b,show zu 8=4 from rfl];unfold Yf;rw[if_neg (by decide),if_neg (by decide),if_pos rfl,zx0 f]
theorem z6z{c:UInt8}(h:ja c=Ta):c∈zcw/\c∈zcx:=by
 have all:(Bl 256).all (λk=>!ja (Bb k)||(xm zcw (Bb k)&&xm zcx (Bb k)))=Ta:=by kernel_rfl
 have:=Av.1 all c.toNat (A1.2 c.toNat_lt);rw[UInt8.ofNat_toNat,h]at this;simp only[Bool.not_true,D7,Ap]at this;exact⟨of_decide_eq_true this.1,of_decide_eq_true this.2⟩
theorem zgc{p:UInt8->Bool}:∀{l:Bs},(cutAt p l).2.2=Ta->∃c,p c=Ta/\l=(cutAt p l).1++c::(cutAt p l).2.1
 |[],h=>by cases h
 |c::l,h=>by unfold cutAt at h ⊢;split;rename_i e;exact⟨c,e,rfl⟩;rename_i e;rw[if_neg e]at h;obtain⟨d,h1,b⟩:=zgc h;exact⟨d,h1,by simp only[AD];rw[<-b]⟩
theorem z7a(h:zeb s=Ta):(∀c∈s,c∈zcw)/\∃c t,s=c::t/\c∈zcx:=by
 unfold zeb at h;simp only[Ap]at h;obtain⟨⟨⟨h1,w⟩,y⟩,H⟩:=h;have u:∀{l:Bs},Jv l=Ta->∀c∈l,c∈zcw:=λ {l} B c i=>(z6z (Av.1 (Yq B) c i)).1;have D:∀c,isE c=Ta->c∈zcw:=λc i=>by unfold isE at i;rw[BO]at i;rcases i with i|i <;> (rw[eq_of_beq i];decide)
 have A:∀c,zjc c=Ta->c∈zcw:=λc i=>by unfold zjc at i;rw[eq_of_beq i];decide
 have C:(∀c∈(Zn s).1,c∈zcw)/\∃c t,(Zn s).1=c::t/\c∈zcx:=by
  have z:∃c t,(Zc s).1=c::t/\c∈zcx:=by
   cases hq:(Zc s).1 with
   |nil=>rw[hq]at w;cases w
   |cons c t=>exact⟨c,t,rfl,(z6z (Av.1 (Yq w) c (by rw[hq];exact Am))).2⟩
  obtain⟨c0,o,n,f⟩:=z;cases hb:(Zc s).2.2 with
  |false=>have:=(Ji (p:=zjc) (l:=(Zn s).1) hb).1;have this:(Zc s).1=(Zn s).1:=this;rw[<-this];exact⟨u w,c0,o,n,f⟩
  |true=>
   obtain⟨c,i,e⟩:=zgc (p:=zjc) (l:=(Zn s).1) hb;have e:(Zn s).1=(Zc s).1++c::(Zc s).2.1:=e;rw[hb]at y;have y:Jv (Zc s).2.1=Ta:=by simpa using y
   refine⟨λx b=>?_,c0,o++c::(Zc s).2.1,by rw[e,n];rfl,f⟩;rw[e]at b;rcases Ay.1 b with b|b;exact u w x b;rcases Ah.1 b with rfl|b;exact A x i;exact u y x b
 have G:(∀c∈zpw s,c∈zcw)/\∃c t,zpw s=c::t/\c∈zcx:=by
  obtain⟨w1,c0,o,n,f⟩:=C;cases hb:(Zn s).2.2 with
  |false=>have:=(Ji (p:=isE) (l:=zpw s) hb).1;have this:(Zn s).1=zpw s:=this;rw[<-this];exact⟨w1,c0,o,n,f⟩
  |true=>
   obtain⟨c,i,e⟩:=zgc (p:=isE) (l:=zpw s) hb;have e:zpw s=(Zn s).1++c::(Zn s).2.1:=e;rw[hb]at h1;have h1:Jv (zkm s)=Ta:=by simpa using h1
   have E:∀x∈(Zn s).2.1,x∈zcw:=by
    unfold zkm at h1;intro x b;split at h1;rename_i m;unfold Q1 at m;rw[Ap]at m;cases hq:(Zn s).2.1 with
    |nil=>rw[hq]at b;cases b
    |cons d r=>rw[hq]at b h1 m;rcases Ah.1 b with rfl|b;have:=m.2;simp at this;subst this;decide;exact u h1 x b
    split at h1;rename_i q;cases hq:(Zn s).2.1 with
    |nil=>rw[hq]at b;cases b
    |cons d r=>rw[hq]at b h1 q;rcases Ah.1 b with rfl|b;simp at q;subst q;decide;exact u h1 x b
    exact u h1 x b
   refine⟨λx b=>?_,c0,o++c::(Zn s).2.1,by rw[e,n];rfl,f⟩;rw[e]at b;rcases Ay.1 b with b|b;exact w1 x b;rcases Ah.1 b with rfl|b;exact D x i;exact E x b
 obtain⟨s1,c0,o,n,f⟩:=G;unfold zpw at s1 n;split at s1;rename_i k;rw[if_pos k]at n;cases hq:s with
 |nil=>rw[hq]at k;cases k
 |cons d r=>
  rw[hq]at s1 k;have F:d=45:=by simpa using k
  subst F;refine⟨λx b=>?_,45,r,rfl,by decide⟩;rcases Ah.1 b with rfl|b;decide;exact s1 x b
 rename_i k;rw[if_neg k]at n;exact⟨s1,c0,o,n,f⟩
end
section
variable {ln:Bool} {lv:Nat}
theorem z7b(ln:Bool)(nd lv:Nat)(ps:List Bs):(Ze ln nd lv ps).length<=(ps.map λp=>p.length+(1+(yj ln nd lv).length)).sum:=by
 cases ps with
 |nil=>exact Ab _
 |cons p ps=>
  have:∀b:List Bs,(b.flatMap λq=>44::(yj ln nd lv++q)).length=(b.map λp=>p.length+(1+(yj ln nd lv).length)).sum:=by
   intro b;induction b with
   |nil=>rfl
   |cons q b c=>rw[List.flatMap_cons,Ag,c,Ar,List.sum_cons];simp;omega
  rw[Ze,Ag,Ag,this,Ar,List.sum_cons];omega
theorem zso{nd lv:Nat}(h:nd<=8)(b:lv<=100):(yj ln nd lv).length<=801:=by unfold yj;have:nd*lv<=800:=Ck (Nat.mul_le_mul h b) (by omega);split;rw[Aq,CI];omega;simp
theorem zoy(t:Bs):(zmh t).1.length<=6*t.length+2:=by unfold zmh;have:=zoo t;split;simp;omega;simp
theorem z7c{ln:Bool}{N:Nat}(r:N<=8):∀(n:Nat) (v:Tr) (lv:Nat),tsz v<=n->Sm v->lv+tdp v<=90->(jv ln N v lv).length+10000000<=tsz v*20000000
 |0,v,lv,h,_,_=>by have:=Q2 v;omega
 |n+1,v,lv,hz,hsm,hd=>by
  have D:=hsm.text;have t:=Q2 v;have f:∀x∈v.items,(jv ln N x (lv+1)).length+10000000<=tsz x*20000000:=λx s=>by have h1:=yd s;have u:=zop s;exact z7c r n x (lv+1) (by omega) (hsm.item s) (by omega)
  have A:=zso (ln:=ln) (lv:=lv) r (by omega);have B:=zso (ln:=ln) (lv:=lv+1) r (by omega);have e:∀l:List Tr,(∀x∈l,(jv ln N x (lv+1)).length+10000000<=tsz x*20000000)->(l.map λx=>(jv ln N x (lv+1)).length+10000000).sum<=w9 l*20000000:=by
   intro l;induction l with
   |nil=>intro _;exact AX _
   |cons x l m=>intro h;have h1:=h x Am;have u:=m λy q=>h y (Ae _ q);rw[Ar,List.sum_cons,w9,Cg];omega
  have w:=e v.items f;have b:∀ps:List Bs,(ps.map λp=>p.length+(1+(yj ln N (lv+1)).length)).sum<=w9 v.items*20000000->∀o c:UInt8,(o::Xp ln N lv ps++[c]).length+10000000<=tsz v*20000000:=λps z o c=>by
   have C:=z7b ln N (lv+1) ps;have:(o::Xp ln N lv ps++[c]).length<=2+(Ze ln N (lv+1) ps).length+(yj ln N lv).length:=by unfold Xp;simp only[Aq,Ag,AR];split <;> simp <;> omega
   rw[yh,Cg];omega
  rw[Yy];split;simp only[Aq,AR];omega;split;have:=zoy (lb v.text);omega;split;refine b _ (Ck ?_ w) 91 93;rw[A8];have:∀l:List Tr,(l.map ((λp:Bs=>p.length+(1+(yj ln N (lv+1)).length)) ∘ λx=>jv ln N x (lv+1))).sum<=(l.map λx=>(jv ln N x (lv+1)).length+10000000).sum:=by
   intro l;induction l with
   |nil=>exact Ab _
   |cons x l m=>simp only[Ar,List.sum_cons,Function.comp];omega
  exact this _;split;refine b _ (Ck ?_ w) 123 125;have:∀(ks:List Bt) (l:List Tr),(∀k∈ks,(lb k).length<=1048576)->((List.zipWith (zf8 ln) ks (l.map λx=>jv ln N x (lv+1))).map λp:Bs=>p.length+(1+(yj ln N (lv+1)).length)).sum<=(l.map λx=>(jv ln N x (lv+1)).length+10000000).sum:=by
   intro ks;induction ks with
   |nil=>intro l _;simp
   |cons k ks m=>
    intro l i;cases l with
    |nil=>simp
    |cons x l=>
     have h1:=m l λy q=>i y (Ae _ q);have u:=i k Am;have F:=zoy (lb k);have E:(zf8 ln k (jv ln N x (lv+1))).length<=(zmh (lb k)).1.length+2+(jv ln N x (lv+1)).length:=by unfold zf8;rw[Ag,Aq,Ag];split <;> simp <;> omega
     simp only[Ar,List.zipWith_cons_cons,List.sum_cons];omega
  exact this v.keys v.items λk i=>hsm.key i;omega
theorem qjb{N:Nat}{v:Tr}(h:okV v=Ta):jv ln N v lv≠[]:=by unfold okV at h;rw[Ap]at h;obtain⟨l,h⟩:=h;unfold zn at h;rw[Yy];by_cases h1:v.kind=1;rw[if_pos h1];simp;rw[if_neg h1]at h ⊢;by_cases b:v.kind=4;rw[if_pos b];rw[b]at h;simp at h;unfold zmh;rw[if_pos h.1.1];simp;rw[if_neg b];by_cases f:v.kind=5;rw[if_pos f];simp;rw[if_neg f];by_cases c:v.kind=6;rw[if_pos c];simp;rw[if_neg c];by_cases k:v.kind=2;rw[if_pos k]at h;simp at h;rcases h.1.1 with e|e <;> (rw[e];simp);rw[if_neg k]at h;by_cases i:v.kind=3;rw[if_pos i]at h;simp only[Ap]at h;have:=h.1.1;unfold zz4 at this;simp only[Ap,beq_iff_eq]at this;intro e;rw[e]at this;exact absurd this.1 (by decide);rw[if_neg i,if_neg b,if_neg f,if_neg c]at h;split at h;rename_i e;simp[e]at l;cases h
end
end Go.X
end
section
namespace Go.X
open Go Go.X Go.Proofs Go.RowKit
section
variable {v:Tr} {ln:Bool} {N lv:Nat} {gl M:Fr}
def zbk(v:Tr):Bt×Int:=if qa v=Ta then(bl (jv Tc 0 v 0),0)else(⟨#[]⟩,1)
theorem zc4(h:qa v=Ta):tsz v<=4096/\tdp v<=32/\Q8 okV v=Ta/\Q8 zn v=Ta:=by unfold qa Zf at h;simp only[Ap,decide_eq_true_eq]at h;refine⟨h.1.1,h.1.2,h.2,?_⟩;exact zam (λx b=>by rw[Ap]at b;exact b.2) v h.2
theorem qbq(h:qa v=Ta):jv ln N v lv≠[]:=by have:=(zc4 h).2.2.1;rw[y0,Ap]at this;exact qjb this.1
theorem qf8(r:GL gl)(s:Brn gl)(h:Sm v)(e:qa v=Ta)(i:N<=8)(u:lv<=32){g:zb}{b:Nat}(o:Fr.le gl M)(ag:AgM M g)(low:∀c cs,M c=Td cs->c<b)(H:Prn g b ln (N:Int) []) {sk si:Sl} (q:Rd M (.row .str) v.keys [slV sk]) (p:Rd M (.row .tree) v.items [slV si]) {K:Value->zb->Prop} (m:∀h',Keep b g h'->K (.string (bl (jv ln N v lv))) h'):
  XC Tp 97 #[.pointer (Td ⟨b,0,Te⟩),trV v.kind v.text sk si,.int .i64 (lv:Int)] g λt h1=>t=.tuple #[]/\XC Tp 87 #[.pointer (Td (Ad ⟨b,0,Te⟩ 0))] h1 K:=by
 obtain⟨w,y,x,n⟩:=zc4 e;have l:=z7c (ln:=ln) i (tsz v) v lv (Ab _) h (by omega);refine qdb r s i 1000000 v lv sk si (Ab _) (by omega) n h (by omega) q p [] g _ H ⟨o,ag,low⟩ (by simp only[AR];omega) λg' f f'=>⟨rfl,?_⟩;rw[add0];rw[A5]at f;exact qfb f (qbq e) λh' k=>m h' (f'.keep.trans k (Ab _))
theorem qdc(s:Bt)(e:Int):Yv M [.str,.int .i64] (s,e) (.tuple #[.string s,.int .i64 e]):=⟨[_,_],⟨_,_,rfl,rdStr _,_,rfl,Jf _ _⟩,rfl⟩
set_option maxRecDepth 100000 in
theorem z0q(z:GL gl)(H:Brn gl)(A:Sm v){R:Bt×Int->Prop}(m:R (zbk v)):PC Tp gl 34 [Arg.mk .tree v] [.str,.int .i64] R:=by
 intro h M vs y ag F
 match vs,F with
 |[u],⟨q,_⟩=>
  have q:RdV M .tree v u:=q;have t:=q;obtain⟨sk,si,rfl,E,G⟩:=yz q;apply PX.of;apply zhd v.kind v.text sk si;intro h1;have f:Later h M h1 M:=Later.push ag _;have s1:h1.size=h.size+1:=Aj _;have l:∀h':zb,Keep h1.size h1 h'->zd h' ⟨h.size,0,Te⟩ 0 [.int .i64 v.kind,.string v.text,slV sk,slV si]:=λh' k=>z3o (h':=h') (by rw[s1]at k;exact k);clear_value h1;refine⟨v.kind,v.text,sk,si,l h1 (Keep.refl _ _),?_⟩;refine(zet z A (R:=λr=>r=qa v) rfl).go (vs:=[.agg #[.int .i64 v.kind,.string v.text,slV sk,slV si]]) (y.trans f.le) f.ag (qc (RdV.mono f.le t) qt) λw p s r b n B=>?_;subst B;refine⟨_,zhq n,λi=>?_,λi=>?_⟩;have i:qa v=Tc:=by simpa using i
  unfold zbk at m;rw[if_neg (by rw[i];simp)]at m;exact⟨s,_,f.trans b,qdc _ _,m⟩;have i:qa v=Ta:=by simpa using i
  unfold zbk at m;rw[if_pos i]at m;intro o;have D:Prn o p.size Tc ((0:Nat):Int) []:=Prn.new p Tc 0;have x:Keep p.size p o:=Keep.push _ _ (Ab _);clear_value o;have I:Later h M o s:=(f.trans b).trans (Later.same b.ag x);refine⟨v.kind,v.text,sk,si,l o (b.keep.trans x b.keep.size),?_⟩;refine qf8 z H A i (N:=0) (lv:=0) (by omega) (by omega) (y.trans (f.trans b).le) I.ag (λc cs e=>b.ag.lt e) D (E.mono (f.trans b).le) (G.mono (f.trans b).le) λJ C=>⟨_,rfl,s,_,?_,qdc _ _,m⟩;exact(f.trans b).trans (Later.same b.ag (x.trans C (Ab _)))
end
end Go.X
end
section
namespace Go.X
section
theorem qy(b:Nat)(c1:Addr)(h:zb)(R:Value->zb->Prop) (H:∃r:Option Nat,zc h c1=Td (.map r)/\XRun Tp (D9 193 (.map r)) h (λF G=>∃l:Option Addr,F=.pointer l/\∃(o:zb->Prop) (k:zb->Nat),o G/\∀p:zb,o p->(XRun Tp (Di (.pointer l) Tc 0) p (λt m=>(t=.tuple #[.bool Tc]/\(Tc=Ta->XRun Tp (DO (.pointer l)) m (λA y=>∃q x:Value,A=.tuple #[q,x]/\YX Tp b #[q] y (λu f=>∃e:Bool,u=.bool e/\((!e)=Ta->R (.tuple #[]) f)/\((!e)=Tc->(o f/\k f<k p)))))/\(Tc=Tc->R (.tuple #[]) m))\/∃z E:Value,t=.tuple #[.bool Ta,z,E]/\(Ta=Ta->XRun Tp (DO (.pointer l)) m (λw C=>∃s D:Value,w=.tuple #[s,D]/\YX Tp b #[s] C (λB i=>∃c:Bool,B=.bool c/\((!c)=Ta->R (.tuple #[]) i)/\((!c)=Tc->(o i/\k i<k p)))))/\(Ta=Tc->R (.tuple #[]) m))))):
  XCI Tp 238 #[.func (.yield b) #[] #[],.pointer (Td c1)] h R:=
 zjy Tryz.mixed ⟨[],[(1,[])],[]⟩ [.func (.yield b) #[] #[],.pointer (Td c1)] (rs:=[]) (n:=14) Tryz.func238 (by kernel_rfl) (by kernel_rfl) (by kernel_rfl) (by kernel_rfl) (Eq.mp (by kernel_rfl) H)
theorem xw(k:Sl)(f:Value)(h:zb)(R:Value->zb->Prop) (H:let c:zb:=CH h (.cells #[.slice k.a k.len k.cap] 23);∃(m:FuncId) (l:Array Value),f=.func (.func m) #[] l/\zh Tp m=Ta/\∀e:zpx,(∀{p:Value} {o:zb} {q:Value->zb->Prop},o[(AU c+1)]?=Td (.loop (e .ready Te))->zao Tp 13 (rfA (codeOf Tryz.f278)) (rfB (codeOf Tryz.f278)) e (AU c+1) q (putO [(6,[],f),(4,[],.slice Te 0 0),(2,[],.pointer (Td ⟨AU h,0,Te⟩)),(0,[],.slice k.a k.len k.cap),(1,[],f)] (Td 7) [] p) o->YX Tp (AU c+1) #[p] o q)->XCI Tp m (#[.func (.yield (AU c+1)) #[] #[]]++l) (CH (CH c (.deferred (Td []))) (.loop (e .ready Te))) λ_ r=>zj0 e (AU c+1) (λi=>∃b:Sl,zc i ⟨AU h,0,Te⟩=Td (.slice b.a b.len b.cap)/\(i)[AU c]?=Td (.deferred (Td []))/\R (.slice b.a b.len b.cap) (Array.setIfInBounds i (AU c) (.deferred Te))) (λi=>(i)[AU c]?=Td (.deferred (Td []))/\R (.slice Te 0 0) (Array.setIfInBounds i (AU c) (.deferred Te))) r):
  XC Tp 278 #[.slice k.a k.len k.cap,f] h R:=
 zj1 Tryz.mixed [.slice k.a k.len k.cap,f] (rs:=[.tmp 4]) (n:=13) Tryz.func278 (by kernel_rfl) (by kernel_rfl) (by kernel_rfl) (by kernel_rfl) H (by kernel_rfl)
theorem xx(q:Value)(r:Value)(n:Addr)(x0:Value)(p:Value)(o:Bt)(rec:zpx)(l:Nat)(K:Value->zb->Prop)(h:zb) (H:(h)[l]?=Td (.loop (rec .ready Te))/\let e:zb:=Array.setIfInBounds h l (.loop (rec .busy Te));∃c:Sl,zc e n=Td (.slice c.a c.len c.cap)/\let i:zb:=CH e (.cells #[.string o] 9);XRun Tp (Au #[23,23] 23 #[.slice c.a c.len c.cap,.slice (Td ⟨AU e,0,Te⟩) 1 1]) i (λm k=>∃b:Sl,m=.slice b.a b.len b.cap/\XRunU Tp (Af 23 (.pointer (Td n)) (.slice b.a b.len b.cap)) k (λf=>(f)[l]?=Td (.loop (rec .busy Te))/\K (.bool Ta) (Array.setIfInBounds f l (.loop (rec .ready Te)))))):
  zao Tp 13 (rfA (codeOf Tryz.f278)) (rfB (codeOf Tryz.f278)) rec l K [(7,[],.string o),(6,[],q),(4,[],r),(2,[],.pointer (Td n)),(0,[],x0),(1,[],p)] h:=
 Eq.mp (by kernel_rfl) H
end
section
theorem Wz(l:FuncId)(k:Array Value)(i:Array Value)(h:zb)(R:Value->zb->Prop) (H:XC Tp 236 #[.func (.func l) k i] h (λb c=>∃d,b=slV d/\XC Tp 237 #[slV d] c (λe f=>e=.tuple #[]/\R (slV d) f))):
  XC Tp 173 #[.func (.func l) k i] h R:=
 XF ⟨[],[],[]⟩ [.tmp 2] 9 Tryz.func173 H
theorem ye(b:Option Nat)(h:zb)(R:Value->zb->Prop) (H:let a:=h.push (.cells #[.map b] 193);R (.func (.func 238) #[] #[.pointer (Td ⟨h.size,0,Te⟩)]) a):
  XC Tp 174 #[.map b] h R:=
 XF ⟨[],[],[]⟩ [.tmp 2] 4 Tryz.func174 H
theorem Jq(i:FuncId)(f:Array Value)(e:Array Value)(h:zb)(R:Value->zb->Prop) (H:XC Tp 278 #[.slice Te 0 0,.func (.func i) f e] h (λb c=>∃d,b=slV d/\R (slV d) c)):
  XC Tp 236 #[.func (.func i) f e] h R:=
 XF ⟨[],[],[]⟩ [.tmp 2] 5 Tryz.func236 H
end
end Go.X
end
section
namespace Go.X
open Go Go.Proofs Go.Shelf Go.RowKit
section
def zoz:Go.Shelf.Ren:=⟨fun|190=>237|125=>193|258=>279|128=>251|129=>252|302=>305|303=>306|304=>307|305=>308|306=>309|307=>310|308=>311|309=>312|310=>313|333=>319|329=>286|330=>287|334=>320|335=>321|336=>322|344=>327|n=>n,fun|31=>23|9=>9|3=>3|46=>177|0=>0|51=>236|53=>238|4=>4|183=>256|182=>255|131=>42|5=>5|218=>281|222=>285|228=>297|229=>298|n=>n,fun|n=>n⟩
theorem zsp:Go.Proofs.Lays.n190 Tp zoz:={
 mixed:=by kernel_rfl
 f125:=LF Tryz.func193
 f128:=LF Tryz.func251
 f129:=LF Tryz.func252
 f190:=LF Tryz.func237
 f258:=LF Tryz.func279
 f302:=LF Tryz.func305
 f303:=LF Tryz.func306
 f304:=LF Tryz.func307
 f305:=LF Tryz.func308
 f306:=LF Tryz.func309
 f307:=LF Tryz.func310
 f308:=LF Tryz.func311
 f309:=LF Tryz.func312
 f310:=LF Tryz.func313
 f329:=LF Tryz.func286
 f330:=LF Tryz.func287
 f333:=LF Tryz.func319
 f334:=LF Tryz.func320
 f335:=LF Tryz.func321
 f336:=LF Tryz.func322
 f344:=LF Tryz.func327
 t0:=Cf
 a0:=CZ
 z0:=CN
 v0:=Cq
 t3:=BH
 a3:=Cx
 z3:=Cm
 v3:=BP
 t4:=BI
 a4:=CC
 z4:=Cu
 v4:=BW
 t5:=Bz
 a5:=Cy
 z5:=Cn
 v5:=BQ
 t9:=BC
 a9:=Cz
 z9:=Co
 v9:=BR
 t31:=Tryz.underlying23
 a31:=Tryz.isAgg23
 z31:=Tryz.sizeOf23
 v31:=Tryz.zeroValue23
 t46:=Tryz.underlying177
 a46:=Tryz.isAgg177
 z46:=Tryz.sizeOf177
 v46:=Tryz.zeroValue177
 t51:=Tryz.underlying236
 a51:=Tryz.isAgg236
 z51:=Tryz.sizeOf236
 v51:=Tryz.zeroValue236
 t53:=Tryz.underlying238
 a53:=Tryz.isAgg238
 z53:=Tryz.sizeOf238
 v53:=Tryz.zeroValue238
 t131:=Tryz.underlying42
 a131:=Tryz.isAgg42
 z131:=Tryz.sizeOf42
 v131:=Tryz.zeroValue42
 t182:=Tryz.underlying255
 a182:=Tryz.isAgg255
 z182:=Tryz.sizeOf255
 v182:=Tryz.zeroValue255
 t183:=Tryz.underlying256
 a183:=Tryz.isAgg256
 z183:=Tryz.sizeOf256
 v183:=Tryz.zeroValue256
 t218:=Tryz.underlying281
 a218:=Tryz.isAgg281
 z218:=Tryz.sizeOf281
 v218:=Tryz.zeroValue281
 t222:=Tryz.underlying285
 a222:=Tryz.isAgg285
 z222:=Tryz.sizeOf285
 v222:=Tryz.zeroValue285
 t228:=Tryz.underlying297
 a228:=Tryz.isAgg297
 z228:=Tryz.sizeOf297
 v228:=Tryz.zeroValue297
 t229:=Tryz.underlying298
 a229:=Tryz.isAgg298
 z229:=Tryz.sizeOf298
 v229:=Tryz.zeroValue298 }
open Go.Sort Go.RowKit in
theorem zbl(blk off cap:Nat)(ss:List (List UInt8))(w:World)(f:Holds encStr w blk off ss.toArray)(b:blk<w.heap.size)(c:ss.length<4611686018427387904):
  Calls Tp 237 #[.slice (Td ⟨blk,off,Te⟩) ss.length cap] w λe w'=>
   e=.returned (.tuple #[])/\∃n os,w'=grow (putRow encStr (Sort.ahead w n) blk off (ss.mergeSort λx y=>decide (x<=y)).toArray) os:=Any.slices_Sort_string zsp blk off cap ss w f b c
open Go.RowKit Go.Sort in
theorem Yz(p:Option Addr)(cap:Nat)(w:World): Calls Tp 237 #[.slice p 0 cap] w λe w'=>e=.returned (.tuple #[])/\w'=w:=Any.slices_Sort_string_none zsp p cap w
end
end Go.X
end
section
namespace Go.X
open Go Go.ChangeMaps
section
variable {h h':zb} {m r:Nat} {P:Program} {t kt et ty:TypeId} {K:Value -> zb -> Prop} {dn:List Value}
def MapW(h:zb)(m:Nat)(l:List (Value×Value)):Prop:=
 ∃c b,h[m]?=Td (.map c b)/\c.toList.map (λe=>(e.key,e.val))=l/\(∀e∈c.toList,e.born<b)/\(c.toList.map (·.born)).Nodup
theorem MapW.keep{l:List (Value×Value)}(H:MapW h m l)(k:h'[m]?=h[m]?):MapW h' m l:=by obtain⟨b,c,h1,e⟩:=H;exact⟨b,c,k.trans h1,e⟩
theorem MapW.lt{l:List (Value×Value)}(H:MapW h m l):m<h.size:=by obtain⟨b,c,h1,e⟩:=H;exact(An.1 h1).1
theorem MapW.new(h:zb):MapW (h.push (.map #[] 0)) h.size []:=⟨#[],0,yb _ _,rfl,by simp,by simp⟩
def zbm(l:List (Bt×Value)):List (Value×Value):=l.map λp=>(AZ p.1,p.2)
theorem MapW.at{l:List (Bt×Value)}(H:MapW h m (zbm l)):MapAt h m l:=by obtain⟨b,c,h1,e,_⟩:=H;exact⟨b,c,h1,e⟩
theorem qbr{z:Value}(T:MapT P t kt et z){l:List (Bt×Value)}(H:MapW h m (zbm l))(k:Bt)(v:Value){K:zb->Prop}
  (E:∀h':zb,MapW h' m (zbm (z1w l k v))->h'.size=h.size->(∀i,i≠m->h'[i]?=h[i]?)->K h'):XRunU P (Cv t (.map (Td m)) (.string k) v) h K:=by
 have q:=H.lt;obtain⟨f,c,h1,A,C,I⟩:=H;intro B d;have M:=QExec.underlying (h:=h) T.map B d;have G:=Qm (P:=P) h1 B d;have F:=X0 T.key Tc k h B d;have b:∀o:Obj,(setObj m o).run P (mk B d h)=.ok () (mk B d (h.setIfInBounds m o)):=by intro o;have:(mk B d h).heap[m]?=Td (.map f c):=h1;simp[setObj,Sem.run,this];rfl
 unfold Cv;rcases J7 k f.toList l 0 A with⟨L,w⟩|⟨j,v0,e,L,w,O,g4,Z,Q⟩;refine⟨d,h.setIfInBounds m (.map (f.push { key:=.string k,val:=v,born:=c }) (c+1)),?_,E _ ⟨f.push { key:=.string k,val:=v,born:=c },c+1,by simp[q],?_,?_,?_⟩ (by simp) (λi hi=>by rw[AB (Ne.symm hi)])⟩;rw[Sem.run_bind,M];simp only[Result.andThen_ok,Sem.run_bind,G,F];rw[Zl T.key k f.toList Te h w B d];simp only[Result.andThen_ok];exact b _;rw[zb2 L];unfold zbm at A ⊢;simp[A];intro e u;simp at u;rcases u with u|rfl;have:=C e (by simpa using u);omega;simp;simp only[Array.toList_push,Bf,Ar,Cp];rw[CV];refine⟨I,by simp,λx S y Y e=>?_⟩;simp at Y;obtain⟨e',p,rfl⟩:=AL.1 S;have:=C e' p;omega;have J:j<f.size:=by have:=(AY.1 w).1;simpa using this
 have n:((f.modify j λe=>{ e with key:=.string k,val:=v }).toList.map (·.born))=f.toList.map (·.born):=by apply Bu;intro i;simp only[Array.toList_modify,Bn,BJ];by_cases r:j=i;subst r;cases f.toList[j]? <;> simp;cases f.toList[i]? <;> simp[r]
 refine⟨d,_,?_,E (h.setIfInBounds m (.map (f.modify j λe=>{ e with key:=.string k,val:=v }) c)) ⟨f.modify j λe=>{ e with key:=.string k,val:=v },c,by simp[q],?_,?_,?_⟩ (by simp) (λi hi=>by rw[AB (Ne.symm hi)])⟩;rw[Sem.run_bind,M];simp only[Result.andThen_ok,Sem.run_bind,G,F];rw[Zl T.key k f.toList _ h Z B d];simp only[Result.andThen_ok,AI];have s:((f[j]?).map (·.key)).getD (.string k)=.string k:=by
  have:f[j]?=Td e:=by simpa using w
  rw[this];exact O
 rw[s];have N:Dk (.string k) (.string k)=pure (.string k):=by unfold Dk;rw[if_pos (by show(k==k)=Ta;rw[zlp];simp)]
 rw[N];exact b _;have:=Q v;unfold zbm;simpa using this;intro e' p;have:e'.born∈((f.modify j λe=>{ e with key:=.string k,val:=v }).toList.map (·.born)):=AL.2 ⟨e',p,rfl⟩;rw[n]at this;obtain⟨V,D,U⟩:=AL.1 this;rw[<-U];exact C V D;rw[n];exact I
def MapIt(h:zb)(r m:Nat)(l:List (Value×Value))(dn:List Value):Prop:=
 ∃k f b i c,h[r]?=Td (.mapIter (Td m) b i c)/\h[m]?=Td (.map k f)/\k.toList.map (λe=>(e.key,e.val))=l/\(∀e∈k.toList,e.born<b)/\b<=c/\b<=f/\(k.toList.map (·.born)).Nodup /\
  ∀e∈k.toList,i.contains e.born=Ta↔e.key∈dn
theorem MapIt.keep{l:List (Value×Value)}(H:MapIt h r m l dn)(k:h'[r]?=h[r]?)(k2:h'[m]?=h[m]?):MapIt h' r m l dn:=by obtain⟨n,e,b,f,c,h1,o,i⟩:=H;exact⟨n,e,b,f,c,k.trans h1,k2.trans o,i⟩
def qdd(h:zb)(r m:Nat)(k v:Value):Prop:=
 ∃(i:Array MapEntry) (b c:Nat) (f:Array Nat) (e:MapEntry),h[r]?=Td (.mapIter (Td m) c (f.push e.born) b)/\h[m]?=Td (.map i b)/\e∈i.toList/\(i.toList.map (·.born)).Nodup/\e.key=k/\e.val=v
theorem zo0(n:P.underlying t=Td (.map kt et)){l:List (Value×Value)}(H:MapW h m l)
  (q:∀h',h'.size=h.size+1->Keep h.size h h'->MapIt h' h.size m l []->K (.pointer (Td ⟨h.size,0,Te⟩)) h'):XRun P (D9 t (.map (Td m))) h K:=by
 have i:=H.lt;obtain⟨o,c,h1,r,f,b⟩:=H;intro B d;have k:=QExec.underlying (h:=h) n B d;have p:=Qm (P:=P) h1 B d;refine⟨.pointer (Td ⟨h.size,0,Te⟩),d,h.push (.mapIter (Td m) c #[] c),?_,q _ (by simp) (Keep.push _ _ (Ab _)) ⟨o,c,c,#[],c,yb _ _,?_,r,f,Ab _,Ab _,b,λe s=>by simp⟩⟩;unfold D9;rw[Sem.run_bind,k];simp only[Result.andThen_ok,Sem.run_bind,p,Sem.run_pure];rfl;rw[Cd,if_neg (by omega)];exact h1
theorem z0r{f:List MapEntry}(h:(f.map (·.born)).Nodup){a b:MapEntry}(i:a∈f)(k:b∈f)(e:a.born=b.born):a=b:=by
 induction f with
 |nil=>cases i
 |cons x f l=>rw[Ar,Ba]at h;rcases Ah.1 i with h1|h1;rcases Ah.1 k with c|c;rw[h1,c];exact(h.1 (AL.2 ⟨b,c,by rw[<-e,h1]⟩)).elim;rcases Ah.1 k with c|c;exact(h.1 (AL.2 ⟨a,h1,by rw[e,c]⟩)).elim;exact l h.2 h1 c
theorem z7d{f:List MapEntry}(h:(f.map (·.key)).Nodup){a b:MapEntry}(i:a∈f)(k:b∈f)(e:a.key=b.key):a=b:=by
 induction f with
 |nil=>cases i
 |cons x f l=>rw[Ar,Ba]at h;rcases Ah.1 i with h1|h1;rcases Ah.1 k with c|c;rw[h1,c];exact(h.1 (AL.2 ⟨b,c,by rw[<-e,h1]⟩)).elim;rcases Ah.1 k with c|c;exact(h.1 (AL.2 ⟨a,h1,by rw[e,c]⟩)).elim;exact l h.2 h1 c
def leftN(h:zb)(r m:Nat):Nat:=match h[r]?,h[m]? with
 |some (.mapIter _ _ seen _),Td (.map es _)=>(es.toList.filter λe=>!seen.contains e.born).length
 |_,_=>0
theorem leftN.keep(b:h'[r]?=h[r]?)(k2:h'[m]?=h[m]?):leftN h' r m=leftN h r m:=by unfold leftN;rw[b,k2]
theorem zsq{α:Type}{p q:α->Bool}(h:∀x,p x=Ta->q x=Ta):∀l:List α,(l.filter p).length<=(l.filter q).length
 |[]=>Ab _
 |x::l=>by have:=zsq h l;rw[Cr,Cr];by_cases b:p x=Ta;rw[if_pos b,if_pos (h x b)];simp;omega;rw[if_neg b];split;simp;omega;exact this
theorem filter_lt{α:Type}{p q:α->Bool}(h:∀x,p x=Ta->q x=Ta){e:α}(h1:p e=Tc)(f:q e=Ta):∀l:List α,e∈l->(l.filter p).length<(l.filter q).length
 |[],b=>by cases b
 |x::l,b=>by rw[Cr,Cr];rcases Ah.1 b with rfl|b;have:=zsq h l;rw[if_neg (by rw[h1];simp),if_pos f];simp;omega;have:=filter_lt h h1 f l b;by_cases c:p x=Ta;rw[if_pos c,if_pos (h x c)];simp;omega;rw[if_neg c];split;simp;omega;exact this
theorem zvm{l:List (Value×Value)}(H:MapIt h r m l dn)(S:(l.map (·.1)).Nodup)(D:r≠m) (y:(∀p∈l,p.1∈dn)->K (.tuple #[.bool Tc]) h) (u:∀k v,(k,v)∈l->k∉dn->∀h',MapIt h' r m l (k::dn)->qdd h' r m k v->h'.size=h.size->(∀j,j≠r->h'[j]?=h[j]?)->leftN h' r m<leftN h r m->K (.tuple #[.bool Ta,k,v]) h'):
  XRun P (Di (.pointer (Td ⟨r,0,Te⟩)) Tc ty) h K:=by
 obtain⟨q,b,f,i,c,h1,C,z,J,Z,N,F,E⟩:=H;intro B d;have O:(q.toList.map (·.key)).Nodup:=by
  have e:q.toList.map (·.key)=l.map (·.1):=by rw[<-z,A8];rfl
  rw[e];exact S
 rcases run_next_at (P:=P) (mk B d h) ty r m f c i q b h1 C J Z with⟨e0,A⟩|⟨e,L,w1,V,A⟩;refine⟨_,d,h,A,y λp M=>?_⟩;rw[<-z]at M;obtain⟨x,o,rfl⟩:=AL.1 M;refine(E x o).1 ?_;have:leftOf q i=#[]:=Array.eq_empty_of_size_eq_zero e0;unfold leftOf at this;rw[Array.filter_eq_empty_iff]at this;have:=this x (by simpa using o);simpa using this;have n:e∈q.toList/\i.contains e.born=Tc:=by unfold leftOf at L;simpa using L
 have U:r<h.size:=(An.1 h1).1;have w:∃I,setBlock w1 r (.mapIter (Td m) f (i.push e.born) b)=mk B I (h.setIfInBounds r (.mapIter (Td m) f (i.push e.born) b)):=by rcases V with rfl|rfl;exact⟨d,rfl⟩;exact⟨d+1,rfl⟩
 obtain⟨I,G⟩:=w;rw[G]at A;have s:(h.setIfInBounds r (.mapIter (Td m) f (i.push e.born) b))[m]?=Td (.map q b):=by rw[AB D];exact C
 have t:(h.setIfInBounds r (.mapIter (Td m) f (i.push e.born) b))[r]?=Td (.mapIter (Td m) f (i.push e.born) b):=by simp[U]
 refine⟨_,I,_,A,u e.key e.val (by rw[<-z];exact AL.2 ⟨e,n.1,rfl⟩) (λQ=>?_) _ ⟨q,b,f,i.push e.born,b,t,s,z,J,N,N,F,λx o=>?_⟩ ⟨q,b,f,i,e,t,s,n.1,F,rfl,rfl⟩ (by simp) (λj Y=>by rw[AB (Ne.symm Y)]) ?_⟩;have:=(E e n.1).2 Q;rw[n.2]at this;cases this;rw[Ah,<-E x o];simp only[Array.contains_eq_mem,Array.mem_push,decide_eq_true_eq];constructor;rintro(h|h);exact .inr h;exact .inl (by rw[z0r F o n.1 h]);rintro(h|h);exact .inr (by rw[z7d O o n.1 h]);exact .inl h;unfold leftN;rw[t,s,h1,C];refine filter_lt (e:=e) (λx o=>?_) ?_ ?_ _ n.1;simp only[Array.contains_eq_mem,Array.mem_push]at o ⊢;simp at o ⊢;exact o.1;simp;rw[n.2];rfl
theorem zo1{k v:Value}(H:qdd h r m k v)(n:K (.tuple #[k,v]) h):XRun P (DO (.pointer (Td ⟨r,0,Te⟩))) h K:=by obtain⟨o,c,b,f,e,h1,p,l,i,rfl,rfl⟩:=H;intro B d;exact⟨_,d,h,run_entry_at (P:=P) (mk B d h) r m b f o c e h1 p l i,n⟩
theorem z7e(i:P.underlying t=Td (.map kt et)){l:List (Value×Value)}(H:MapW h m l):QExec P (C5 #[t] ty #[.map (Td m)]) h (.int .i64 (l.length:Int)):=by
 obtain⟨k,c,h1,e,_⟩:=H;intro B d;have f:=QExec.underlying (h:=h) i B d;have n:=Qm (P:=P) h1 B d;have b:l.length=k.size:=by rw[<-e];simp
 simp[C5,f,n,goInt,b]
end
end Go.X
end
section
namespace Go.X
open Go Go.Lib
section
def jm(xs:List Bt):List Bt:=((xs.map lb).mergeSort λx y=>decide (x<=y)).map bl
theorem Qk{xs ys:List Bt}(h:xs.Perm ys):jm xs=jm ys:=by unfold jm;rw[mergeSort_of_perm (h.map lb)]
theorem y5(xs:List Bt):(jm xs).Perm xs:=by
 have h:=(List.mergeSort_perm (xs.map lb) λx y=>decide (x<=y)).map bl;rw[A8]at h;have e:bl ∘ lb=id:=by funext x;exact Yw x
 rw[e,Eu]at h;exact h
theorem zsr(xs:List Bt):(jm xs).length=xs.length:=(y5 xs).length_eq
end
end Go.X
end
section
namespace Go.X
open Go Go.X Go.Proofs Go.RowKit Go.Sort Go.Shelf
section
variable {h:zb} {s:Sl} {xs:List Bt} {K:Value -> zb -> Prop} {c m:Nat}
theorem XC.of_below{P:Program}{f:FuncId}{args:Array Value}{R:Value->zb->Prop}(H:∀B d,Calls P f args (mk B d h) λe w'=>∃v,e=.returned v/\w'.os=B.os/\w'.tape=B.tape/\w'.output=B.output/\R v w'.heap):XC P f args h R:=by intro B d;refine(H B d).mono ?_;rintro e w' ⟨v,rfl,h1,i,c,b⟩;refine⟨v,w'.drawn,w'.heap,rfl,?_,b⟩;cases w';simp only[mk]at *;subst h1;subst i;subst c;rfl
theorem qf9{base:Nat}(H:Owns h base 9 1 s (xs.map AZ)):s.len=xs.length:=by have:=H.length;simp at this;omega
theorem qga(xs:List Bt):(xs.map lb).map encStr=xs.map AZ:=by rw[A8];refine CX λx _=>?_;show AZ _=_;exact congrArg AZ (Yw x)
theorem z7f{base:Nat}(H:Owns h base 9 1 s (xs.map AZ))(A:xs.length<=1000000):
  XC Tp 237 #[.slice s.a s.len s.cap] h λv h'=>v=.tuple #[]/\Owns h' base 9 1 s ((jm xs).map AZ)/\h.size<=h'.size/\∀i,i<h.size->(∀p,s.a=Td p->i≠p.block)->h'[i]?=h[i]?:=by
 refine XC.of_below λB d=>?_;have l:s.len=xs.length:=qf9 H;have b:(xs.map lb).length=xs.length:=by simp
 have f:(jm xs).map AZ=((xs.map lb).mergeSort λx y=>decide (x<=y)).map encStr:=by unfold jm;rw[A8];rfl
 rcases H.2 with⟨m,h0⟩|⟨g,cap,t,m,o,E,D,I,F,J⟩;have G:xs=[]:=AN (by omega);subst G;rw[h0];refine(Yz s.a s.cap (mk B d h)).mono ?_;rintro e w' ⟨rfl,rfl⟩;exact⟨_,rfl,rfl,rfl,rfl,rfl,by rw[show jm []=[]from List.Perm.eq_nil (y5 [])];exact H,Ab _,λ_ _ _=>rfl⟩;simp only[AO]at m;obtain⟨z,_,rfl⟩:=m;have k:(mk B d h).heap[g]?=Td (.cells t 9 (0,0)):=E;have q:g<(mk B d h).heap.size:=(An.1 k).1;have L:Holds encStr (mk B d h) g 0 (xs.map lb).toArray:=holds_of_block k (by rw[b,qga,<-l];simpa using J);have u:=zbl g 0 s.cap (xs.map lb) (mk B d h) L q (by rw[b];omega);rw[b,<-l]at u;rw[z];refine u.mono ?_;rintro e w' ⟨rfl,n,os,rfl⟩;have c:=grownBy_sorted (w:=mk B d h) (g:=g) (n:=n) (os:=os) ((xs.map lb).mergeSort λx y=>decide (x<=y)).toArray;refine⟨_,rfl,c.os,c.tape,c.output,rfl,?_,c.size,λi hi r=>c.block i hi λe=>r _ rfl (by simpa using e)⟩;have C:=ownsRow_sorted (w:=mk B d h) (base:=base) (n:=n) (os:=os) (ss:=xs.map lb) (ts:=(xs.map lb).mergeSort λx y=>decide (x<=y)) (by simp) o k (by rw[b,<-l];exact D) I (by simpa using F);rw[<-f,b,<-l]at C;show World.ownsRow _ base _ 1 (.slice s.a s.len s.cap) s.len _;rw[z];exact C
theorem ql0:A0.underlying 193=Td (.map 9 26):=by kernel_rfl
theorem z7g:zh Tp 238=Ta:=by kernel_rfl
theorem zx1:∀{xs ys:List Bt},xs.Nodup->(∀x∈xs,x∈ys)->xs.length<=ys.length
 |[],_,_,_=>AX _
 |x::xs,ys,hn,hs=>by
  rw[Ba]at hn;have e:=hs x Am;obtain⟨a,b,rfl⟩:=List.append_of_mem e;have:=zx1 (ys:=a++b) hn.2 λy c=>by have:=hs y (Ae _ c);rw[Ay,Ah]at this;rw[Ay];rcases this with h|rfl|h;exact .inl h;exact absurd c hn.1;exact .inr h
  simp only[Ag,Aq]at this ⊢;omega
structure KyS (h:zb) (m:Nat) (rec:zpx) (ps:List (Bt×Value)) (g:zb) (xs:List Bt) (sl:Sl):Prop where
 keep:Keep h.size h g
 d:g[h.size+1]?=Td (.deferred (Td []))
 rc:g[h.size+2]?=Td (.loop (rec .ready Te))
 box:Blk g h.size #[slV sl]
 o:Owns g (h.size+4) 9 1 sl (xs.map AZ)
 it:MapIt g (h.size+3) m (zbm ps) (xs.reverse.map AZ)
 nd:xs.Nodup
 sub:∀x∈xs,x∈ps.map (·.1)
 gz:h.size+4<=g.size
theorem z7h(ps:List (Bt×Value)):(zbm ps).map (·.1)=(ps.map (·.1)).map AZ:=by unfold zbm;rw[A8,A8];rfl
theorem z7i{ks:List Bt}(h:ks.Nodup):(ks.map AZ).Nodup:=by
 induction ks with
 |nil=>exact Dm
 |cons k ks c=>rw[Ba]at h;rw[Ar,Ba];refine⟨λf=>?_,c h.2⟩;obtain⟨x,b,e⟩:=AL.1 f;injection e with e;exact h.1 (e ▸ b)
section
variable {h : zb} {m : Nat} {rec : zpx} {ps : List (Bt × Value)} {g : zb} {xs : List Bt} {sl : Sl}
set_option maxRecDepth 100000 in
theorem KyS.round(S:KyS h m rec ps g xs sl)(hm:m<h.size)(t:xs.length<=1000000){q:zb}{k:Bt}(D:MapIt q (h.size+3) m (zbm ps) ((k::xs.reverse).map AZ))(z1:q.size=g.size)(J:∀j,j≠h.size+3->q[j]?=g[j]?)(O:k∉xs)(z:k∈ps.map (·.1)) {Y x4 x0 x1:Value} (N:∀g' A,KyS h m rec ps g' (xs++[k]) A->g'[h.size+3]?=q[h.size+3]?->g'[m]?=q[m]?->K (.bool Ta) g'):
  zao Tp 13 (rfA (codeOf Tryz.f278)) (rfB (codeOf Tryz.f278)) rec (h.size+2) K [(7,[],.string k),(6,[],Y),(4,[],x4),(2,[],.pointer (Td ⟨h.size,0,Te⟩)),(0,[],x0),(1,[],x1)] q:=by
 apply xx;have gz:=S.gz;have ky:=S.keep.size;refine⟨by rw[J _ (by omega)];exact S.rc,?_⟩;intro f;have u:∀j,j≠h.size+2->f[j]?=q[j]?:=λj w=>zk w;have Z:f[h.size+2]?=Td (.loop (rec .busy Te)):=set_self (by omega);have z2:f.size=q.size:=AW;clear_value f;have l:∀j,j≠h.size+2->j≠h.size+3->f[j]?=g[j]?:=λj a b=>(u j a).trans (J j b);have H:Blk f h.size #[slV sl]:=S.box.keep (l _ (by omega) (by omega));refine⟨sl,H.cell rfl,?_⟩;intro s;have L:Keep f.size f s:=Keep.push _ _ (Ab _);have z3:s.size=f.size+1:=Aj _;have S3:Blk s f.size #[.string k]:=Blk.new _ _ _;clear_value s;have V:Owns f (h.size+4) 9 1 sl (xs.map AZ):=S.o.keep λp r=>by have:=S.o.base_le p r;exact l _ (by omega) (by omega)
 have G:=V.keepN L;have hl:=qf9 S.o;refine za2 z4n G (src:=⟨Td ⟨f.size,0,Te⟩,1,1⟩) (news:=[.string k]) (n:=s.size) ?_ rfl (by simp[Value.oneCell']) (by simp only;omega) (by simp only;omega) (by omega) λE Q q1 I P q4 q5=>⟨E,rfl,?_⟩;refine .inr ⟨f.size,0,rfl,by omega,λi v B=>?_⟩
 match i,B with
 |0,B=>cases B;exact S3.cell rfl
 have y:∀j,j<h.size+4->Q[j]?=f[j]?:=λj w=>by rw[P j (by omega) λp r=>by have:=G.base_le p r;omega];exact L.get j (by omega)
 refine yf qh1 qh2 (H.keep (y _ (by omega))) (by show 0<1;omega) rfl λC u1 u3 F=>?_;have c:∀j,j<h.size+4->j≠h.size->C[j]?=f[j]?:=λj w h0=>(F j h0).trans (y j w);have l5:C[h.size+2]?=Td (.loop (rec .busy Te)):=by rw[c _ (by omega) (by omega)];exact Z
 refine⟨l5,N _ E ⟨?_,?_,set_self (by omega),?_,?_,?_,?_,?_,?_⟩ ?_ ?_⟩;refine S.keep.trans ⟨by rw[AW];omega,λj w=>?_⟩ (Ab _);rw[zk (by omega),c j (by omega) (by omega),l j (by omega) (by omega)];rw[zk (by omega),c _ (by omega) (by omega),l _ (by omega) (by omega)];exact S.d;exact Blk.keep u1 (zk (by omega));have:Owns C (h.size+4) 9 1 E ((xs++[k]).map AZ):=by rw[Bf];exact I.keep λp r=>by have:=I.base_le p r;exact F _ (by omega)
 exact this.keep λp r=>by have:=this.base_le p r;exact zk (by omega)
 rw[List.reverse_append];refine D.keep ?_ ?_;rw[zk (by omega),c _ (by omega) (by omega),u _ (by omega)];rw[zk (by omega),c _ (by omega) (by omega),u _ (by omega)];rw[CV];exact⟨S.nd,by simp,λa U b M e=>by rw[A4]at M;subst M;subst e;exact O U⟩;intro x t;rw[Ay,A4]at t;rcases t with t|rfl;exact S.sub x t;exact z;rw[AW];omega;rw[zk (by omega),c _ (by omega) (by omega),u _ (by omega)];rw[zk (by omega),c _ (by omega) (by omega),u _ (by omega)]
end
set_option maxRecDepth 100000 in
theorem zvn{ps:List (Bt×Value)}(C:Blk h c #[.map (Td m)])(W:MapW h m (zbm ps))(O:(ps.map (·.1)).Nodup)(hl:ps.length<=1000000) (Y:∀(h':zb) (sl:Sl) (xs:List Bt),Keep h.size h h'->Owns h' h.size 9 1 sl (xs.map AZ)->xs.Perm (ps.map (·.1))->K (.slice sl.a sl.len sl.cap) h'):
  XC Tp 278 #[.slice Te 0 0,.func (.func 238) #[] #[.pointer (Td ⟨c,0,Te⟩)]] h K:=by
 apply xw ⟨Te,0,0⟩;intro h1;have k1:Keep h.size h h1:=Keep.push _ _ (Ab _);have V:h1.size=h.size+1:=Aj _;have U:Blk h1 h.size #[slV ⟨Te,0,0⟩]:=Blk.new _ _ _;clear_value h1;have L:=W.lt;have hc:=C.lt;refine⟨_,_,rfl,z7g,λrec N=>?_⟩;obtain⟨f,b⟩:∃f:zb,f=((h1.push (.deferred (Td []))).push (.loop (rec .ready Te))):=⟨_,rfl⟩;have I:Keep h1.size h1 f:=by rw[b];exact(Keep.push _ _ (Ab _)).trans (Keep.push _ _ (by rw[Aj];omega)) (Ab _)
 have z4:f.size=h1.size+2:=by rw[b,Aj,Aj]
 have J:f[h1.size]?=Td (.deferred (Td [])):=by rw[b,Cd,if_neg (by rw[Aj];omega)];exact yb _ _
 have M:f[h1.size+1]?=Td (.loop (rec .ready Te)):=by rw[b];have:=yb (h1.push (.deferred (Td []))) (.loop (rec .ready Te));rw[Aj]at this;exact this
 rw[<-b];clear b;have l:Keep h.size h f:=k1.trans I (by omega);have G:h1.size=h.size+1:=V;rw[G]at J M N ⊢;apply qy;refine⟨Td m,(C.keep (l.get c hc)).cell rfl,?_⟩;have W4:MapW f m (zbm ps):=W.keep (l.get m L);refine zo0 ql0 W4 λh5 z5 u q=>⟨Td ⟨f.size,0,Te⟩,rfl,λg=>∃xs sl,KyS h m rec ps g xs sl,λg=>leftN g (h.size+3) m,⟨[],⟨Te,0,0⟩,?_⟩,?_⟩;have w:f.size=h.size+3:=by omega
 rw[w]at q;exact⟨l.trans u (by omega),(u.get _ (by omega)).trans J,(u.get _ (by omega)).trans M,(U.ofKeep I).keep (u.get _ (by omega)),Owns.nil _ _ _ _,q,Dm,λx i=>(by cases i),by omega⟩;have w:f.size=h.size+3:=by omega
 rw[w];rintro g ⟨xs,sl,S⟩;have y:((zbm ps).map (·.1)).Nodup:=by rw[z7h];exact z7i O
 have z:xs.length<=1000000:=by have h1:=zx1 S.nd S.sub;rw[Ao]at h1;omega
 refine zvm S.it y (by omega) (λr=>.inl ⟨rfl,(λi=>by cases i),λ_=>.inl ⟨S.rc,?_⟩⟩) λk v B Z g1 E s A P t=>.inr ⟨k,v,rfl,λ_=>?_,λi=>by cases i⟩;have aa:=S.gz;refine⟨sl,?_,?_,Y _ sl xs ?_ ?_ ?_⟩;exact(S.box.keep (zk (by omega))).cell rfl;rw[zk (by omega)];exact S.d;refine S.keep.trans ⟨by rw[AW,AW];exact Ab _,λj hj=>?_⟩ (Ab _);rw[zk (by omega),zk (by omega)];refine(S.o.keep λp H=>?_).base (by omega);have:=S.o.base_le p H;rw[zk (by omega),zk (by omega)];refine(List.perm_ext_iff_of_nodup S.nd O).2 λa=>⟨S.sub a,λha=>?_⟩;obtain⟨p,H,rfl⟩:=AL.1 ha;have:=r (.string p.1,p.2) (AL.2 ⟨p,H,rfl⟩);obtain⟨x,i,e⟩:=AL.1 this;injection e with e;subst e;exact List.mem_reverse.1 i;obtain⟨⟨Q,vv⟩,n,e⟩:=AL.1 B;injection e with G e2;subst G;subst e2;have D:Q∉xs:=λi=>Z (AL.2 ⟨Q,List.mem_reverse.2 i,rfl⟩);refine zo1 s ⟨_,_,rfl,N ?_ ?_⟩;rw[P _ (by omega)];exact S.rc;refine S.round L z E A P D (AL.2 ⟨_,n,rfl⟩) λg' F S' q1 q2=>⟨Ta,rfl,(λi=>by cases i),λ_=>⟨⟨_,F,S'⟩,?_⟩⟩;show leftN g' (h.size+3) m<_;rw[leftN.keep q1 q2];exact t
theorem zss{ps:List (Bt×Value)}(C:Blk h c #[.map (Td m)])(W:MapW h m (zbm ps))(o:(ps.map (·.1)).Nodup)(l:ps.length<=1000000) (q:∀h' sl,Keep h.size h h'->Owns h' h.size 9 1 sl ((jm (ps.map (·.1))).map AZ)->K (.slice sl.a sl.len sl.cap) h'):
  XC Tp 173 #[.func (.func 238) #[] #[.pointer (Td ⟨c,0,Te⟩)]] h K:=by
 apply Wz;apply Jq;refine zvn C W o l λh1 sl xs e k b=>⟨sl,rfl,sl,rfl,?_⟩;have f:xs.length<=1000000:=by rw[b.length_eq,Ao];exact l
 refine XC.mono (z7f k f) ?_;rintro v h2 ⟨rfl,n,z2,r⟩;refine⟨rfl,q h2 sl ⟨Ck e.size z2,λi hi=>?_⟩ (by rw[<-Qk b];exact n)⟩;refine(r i (Dh hi e.size) λp b=>?_).trans (e.get i hi);have:=(k.base_le p b).1;omega
end
end Go.X
end
section
namespace Go.X
open Go Go.X Go.Proofs Go.Lib
section
theorem mapVal:MapT Tp 193 9 26 (.agg #[.int .i64 0,.string ⟨#[]⟩,.slice Te 0 0,.slice Te 0 0]):=⟨by kernel_rfl,by kernel_rfl,⟨Tryz.t26,by kernel_rfl,by kernel_rfl⟩⟩
theorem zst{l:List (Bt×Value)}{k:Bt}(h:k∉l.map (·.1)):zde l k=Te:=by
 induction l with
 |nil=>rfl
 |cons p l b=>simp only[Ar,Ah,not_or]at h;rw[zde,if_neg (λe=>h.1 e.symm),b h.2]
theorem zo2{α β:Type}{xs:List α}{ys:List β}{k:Nat}(b:k<xs.length){u:β}(c:ys.length=k):(xs.take (k+1)).zip (ys++[u])=(xs.take k).zip ys++[(xs[k],u)]:=by rw[Aw b,List.zip_append (by simp;omega)];rfl
set_option maxHeartbeats 1000000 in
theorem zgd{v:Tr}(P:v.keys.Nodup)(hl:v.keys.length=v.items.length)(hi:v.items.length<=1000000000000){h:zb}{M:Fr}{u:Value}(ag:AgM M h)(L:RdV M .tree v u){K:Value->zb->Prop} (I:∀(h':zb) (m:Nat) (us:List Value),Keep h.size h h'->h.size<=m->us.length=v.items.length->(∀i (h1:i<v.items.length) (o:i<us.length),RdV M .tree v.items[i] us[i])->MapW h' m (zbm (v.keys.zip us))->K (.map (Td m)) h'):
  XC Tp 172 #[u] h K:=by
 obtain⟨sk,si,rfl,D,G⟩:=yz L;obtain⟨lk,_,_⟩:=rowLen D;obtain⟨li,_,_⟩:=rowLen G;apply zhe v.kind v.text sk si;intro h1;have U:Keep h.size h h1:=Keep.push _ _ (Ab _);have b1:Blk h1 h.size (wu v.kind v.text sk si).toArray:=Blk.new _ _ _;have Z:h1.size=h.size+1:=Aj _;clear_value h1;refine⟨sk,b1.cellAdd (by rfl),?_⟩;intro c;have H:Keep h1.size h1 c:=Keep.push _ _ (Ab _);have V:MapW c h1.size []:=MapW.new _;have z3:c.size=h1.size+1:=Aj _;clear_value c;have b3:=b1.ofKeep H;have Y:Keep h.size h c:=U.trans H (by omega);refine⟨sk,b3.cellAdd (by rfl),λx g=>∃(k:Nat) (us:List Value),x=(k:Int)/\k<=v.items.length/\us.length=k/\g.size=c.size/\(∀j,j≠h1.size->g[j]?=c[j]?)/\(∀i (h1:i<v.items.length) (o:i<us.length),RdV M .tree v.items[i] us[i])/\MapW g h1.size (zbm ((v.keys.take k).zip us)),λx _=>v.items.length-x.toNat,⟨0,[],rfl,AX _,rfl,rfl,λ_ _=>rfl,λi _ o=>by simp at o,by simpa[zbm]using V⟩,?_⟩;rintro x g ⟨k,us,rfl,hk,l,zg,y,A,z⟩;have B:Keep h.size h g:=⟨by omega,λj s=>by rw[y j (by omega)];exact Y.get j s⟩;have agg:=ag.keep B;refine⟨λp=>?_,λp=>?_⟩;have b:k<v.keys.length:=by rw[lk]at p;simp at p;omega
 have q:k<v.items.length:=by omega
 refine zzv agg D b rfl rfl ?_;have S:Blk g h.size (wu v.kind v.text sk si).toArray:=b3.keep (y _ (by omega));obtain⟨a,F,E,Q,w,N,O⟩:=zd8 agg G q;refine⟨si,S.cellAdd (by rfl),a,⟨Q,by omega,by omega⟩,v.items[k].kind,v.items[k].text,F,E,?_,?_⟩;rw[Ai];exact w;refine qbr mapVal z v.keys[k] _ λg' n J t=>?_;rw[ju q (by omega)];refine⟨⟨k+1,us++[.agg #[.int .i64 v.items[k].kind,.string v.items[k].text,slV F,slV E]],rfl,by omega,by simp;omega,by omega,λj s=>(t j s).trans (y j s),λi h1 o=>?_,?_⟩,by simp only[Ai];omega⟩;rw[List.getElem_append];split;rename_i c;exact A i h1 c;rename_i c;have:i=k:=by simp at o;omega
 subst this;simp only[l,D3,List.getElem_cons_zero];exact qf N O;rw[zo2 b l];have f:zde ((v.keys.take k).zip us) v.keys[k]=Te:=zst λC=>by
  rw[D4 (by simp;omega)]at C;have r:=P;have e:v.keys=v.keys.take k++v.keys[k]::v.keys.drop (k+1):=by rw[<-Bw b,Cb]
  rw[e,CV]at r;exact r.2.2 _ C _ Am rfl
 rw[zb2 f]at n;exact n;have b:k=v.keys.length:=by rw[lk]at p;simp at p;omega
 subst b;rw[A3]at z;exact I g h1.size us B (by omega) (by omega) A z
end
end Go.X
end
section
namespace Go.X
open Go Go.Lib
section
def zgu:List (Bt×Tr)->Bt->Tr
 |[],_=>.mk 0 (bl []) [] []
 |p::l,k=>if p.1=k then p.2 else zgu l k
mutual
def ze:Tr->Tr
 |.mk k s ks xs=>if k=6 then .mk k s (jm ks) ((jm ks).map λq=>zgu (ks.zip (zj2 xs)) q)else .mk k s [] (zj2 xs)
def zj2:List Tr->List Tr
 |[]=>[]
 |x::l=>ze x::zj2 l
end
def Zo(v:Tr):Tr:=if Zx v=Ta then ze v else .mk 0 (bl []) [] []
theorem zj3:∀l:List Tr,zj2 l=l.map ze
 |[]=>rfl
 |x::l=>by rw[zj2,zj3 l];rfl
theorem y8(v:Tr):ze v=if v.kind=6 then .mk v.kind v.text (jm v.keys) ((jm v.keys).map λq=>zgu (v.keys.zip (v.items.map ze)) q)else .mk v.kind v.text [] (v.items.map ze):=by
 cases v with
 |mk k s ks xs=>rw[ze,zj3]
theorem zo3(k:Bt):∀(ks:List Bt) (ys:List Tr),ks.length=ys.length->k∈ks->∃(j:Nat) (h1:j<ks.length) (n:j<ys.length),ks[j]=k/\zgu (ks.zip ys) k=ys[j]/\∀us:List Value,us.length=ks.length->zde (ks.zip us) k=us[j]?
 |[],_,_,h=>by cases h
 |z::ks,[],h,_=>by simp at h
 |z::ks,y::ys,h,hk=>by
  by_cases b:z=k;refine⟨0,by simp,by simp,b,?_,λus c=>?_⟩;rw[B0,zgu,if_pos b];rfl
  match us,c with
  |u::us,_=>rw[B0,zde,if_pos b];rfl
  have f:k∈ks:=by rcases Ah.1 hk with e|e;exact absurd e.symm b;exact e
  obtain⟨j,h1,n,l,i,m⟩:=zo3 k ks ys (by simpa using h) f;refine⟨j+1,by simp;omega,by simp;omega,by simpa using l,?_,λus c=>?_⟩;rw[B0,zgu,if_neg b,i];rfl
  match us,c with
  |u::us,c=>rw[B0,zde,if_neg b,m us (by simpa using c)];rfl
end
end Go.X
end
section
namespace Go.X
open Go Go.X Go.Proofs Go.RowKit
section
variable {ks:List Bt}
theorem Owns.frz{h g:zb}{M M':Fr}(L:Later h M g M'){s:Sl}{base:Nat}(o:Owns g base 9 1 s (ks.map AZ))(D:h.size<=base)(B:ks.length<=1000000):
  ∃m,Later h M g m/\(∀c,c<base->m c=M' c)/\Rd m (.row .str) ks [slV s]:=by
 have t:=qf9 o;rcases o.2 with⟨k,h0⟩|⟨b,cap,f,k,z,y,C,A,E,u⟩;have l:ks=[]:=AN (by omega);subst l;simp only[AO]at k;refine⟨M',L,λ_ _=>rfl,⟨_,rfl,s.a,s.cap,?_,⟨by simp,by simp⟩,.inl rfl⟩⟩;show slV s=_;unfold slV;rw[h0];rfl;simp only[AO]at k;obtain⟨p,_,w⟩:=k;have r:Blk g b f:=⟨_,y⟩;refine⟨MxL M' g [b],⟨L.keep,L.le.trans (zej L.ag _),λx l=>?_,MxL.ag L.ag _⟩,λc w=>?_,⟨_,rfl,s.a,s.cap,?_,⟨by omega,by omega⟩,.inr ⟨b,0,f,p,MxL.at (by simp) r,λi hi=>?_⟩⟩⟩;unfold MxL;rw[if_neg (by simp;omega)];exact L.old x l;unfold MxL;rw[if_neg (by simp;omega)];show slV s=_;unfold slV;rw[t];show cut f (0+i*1) 1=[.string ks[i]];apply Bu;intro q;rw[qz];by_cases n:q<1;have:q=0:=by omega
 subst this;rw[if_pos n];have e:(f.toList.take (s.len*1))[i]?=(ks.map AZ)[i]?:=by rw[u]
 rw[AJ,if_pos (by omega)]at e;rw[show 0+i*1+0=i from by omega,e];simp[hi];rw[if_neg n,BL (by simp;omega)]
structure SrS (h:zb) (M:Fr) (r o lo:Nat) (k:Int) (s:Bt) (sk:Sl) (xs:List Tr) (g:zb) (M':Fr) (so:Sl) (bs:List Nat):Prop where
 L:Later h M g M'
 res:Blk g r #[.int .i64 0,.string ⟨#[]⟩,.slice Te 0 0,.slice Te 0 0]
 out:Blk g o #[.int .i64 k,.string s,slV sk,slV so]
 row:ORow lo g M' .tree xs so bs
 nO:M' o=Te
 nR:M' r=Te
 hr:h.size<=r
 ro:r<o
 ol:o<lo
 lg:lo<=g.size
section
variable {h : zb} {M : Fr} {r o lo : Nat} {k : Int} {s : Bt} {sk : Sl} {xs : List Tr} {g : zb} {M' : Fr} {so : Sl} {bs : List Nat}
theorem SrS.add(S:SrS h M r o lo k s sk xs g M' so bs)(hn:xs.length<=1000000){u:zb}{y:Fr}(m:Later g M' u y){x:Tr}{xk xi:Sl}(P:RdV y .tree x (.agg #[.int .i64 x.kind,.string x.text,slV xk,slV xi])){K:zb->Prop}
  (Z:∀g' N bs',SrS h M r o lo k s sk (xs++[x]) g' y N bs'->(∀j,j<lo->j≠o->g'[j]?=g[j]?)->K g'):
  let f:=u.push (.cells #[.int .i64 x.kind,.string x.text,slV xk,slV xi] 26)
  XRun Tp (Au #[24,24] 24 #[slV so,.slice (Td ⟨u.size,0,Te⟩) 1 1]) f (λv n=>∃z:Sl,v=slV z/\XRunU Tp (Af 24 (.pointer (Td (Ad ⟨o,0,Te⟩ 3))) (slV z)) n K):=by
 intro f;have F:Keep u.size u f:=Keep.push _ _ (Ab _);have ab:f.size=u.size+1:=Aj _;have I:Blk f u.size [.int .i64 x.kind,.string x.text,slV xk,slV xi].toArray:=Blk.new _ _ _;clear_value f;have z1:=m.keep.size;have Q:=S.hr;have O:=S.ro;have D:=S.ol;have aa:=S.lg;have p:Later g M' f y:=m.trans (Later.same m.ag F);have w:=S.row.call p;have rd:Rd y .tree x [.int .i64 x.kind,.string x.text,slV xk,slV xi]:=by
  unfold RdV at P;simp only[zhn,if_true]at P;obtain⟨cs,e,Q⟩:=P;injection e with e;have:cs=[.int .i64 x.kind,.string x.text,slV xk,slV xi]:=by have:=congrArg Array.toList e;simpa using this.symm
  rw[<-this];exact Q
 refine ORow.app zoc (by omega) p.ag w (by omega) I rd hn λY n bs' l af ae C=>⟨Y,rfl,?_⟩;have A:∀c∈bs,lo<=c/\c<g.size/\M' c=Te:=S.row.own;have t:∀j,j<lo->n[j]?=g[j]?:=λj G=>by rw[C j (by omega) (λJ=>by have:=(A j J).1;omega),F.get j (by omega)];exact m.keep.get j (by omega)
 rw[zi];refine yf qlg qlh (S.out.keep (t o D)) (by show 3<4;omega) rfl λE u1 u3 V=>?_;have i:∀j,j<lo->j≠o->E[j]?=g[j]?:=λj G h0=>(V j h0).trans (t j G);have q:∀c∈bs',lo<=c/\c<n.size/\y c=Te:=l.own;have hg:=S.L.keep.size;refine Z E Y bs' ⟨⟨⟨by omega,λj G=>?_⟩,S.L.le.trans m.le,λb hb=>?_,?_⟩,?_,u1,?_,?_,?_,Q,O,D,by omega⟩ i;rw[i j (by omega) (by omega)];exact S.L.keep.get j G;rw[m.old b (by omega)];exact S.L.old b hb;intro c cs e;have B:=p.ag.lt e;have U:c∉bs:=λJ=>by obtain⟨_,h1,h2⟩:=A c J;rw[m.old c h1,h2]at e;cases e
 have H:c≠o:=λh=>by subst h;rw[m.old c (by omega),S.nO]at e;cases e
 rw[V c H,C c B U];exact p.ag c cs e;exact S.res.keep (i r (by omega) (by omega));exact l.frame (λc B=>V c (by have:=(q c B).1;omega)) (Fr.le.refl _) λc B=>(q c B).2.2;rw[m.old o (by omega)];exact S.nO;rw[m.old r (by omega)];exact S.nR
theorem SrS.fin(S:SrS h M r o lo k s sk xs g M' so bs)(P:xs.length<=1000000)(N:Rd M' (.row .str) ks [slV sk]){w:Tr}(H:Tr.mk k s ks xs=w):
  ∃(F:Int) (z:Bt) (D A:Sl),zd g ⟨o,0,Te⟩ 0 [.int .i64 F,.string z,slV D,slV A]/\XRunU Tp (Af 26 (.pointer (Td ⟨r,0,Te⟩)) (.agg #[.int .i64 F,.string z,slV D,slV A])) g λl=>
   ∃(y:Int) (u:Bt) (B C:Sl),zd l ⟨r,0,Te⟩ 0 [.int .i64 y,.string u,slV B,slV C]/\∃x q,Later h M l x/\Yv x [.tree] q (.agg #[.int .i64 y,.string u,slV B,slV C])/\q=w:=by
 refine⟨k,s,sk,so,S.out.ld (cs:=[_,_,slV sk,slV so]),?_⟩;refine jw S.res λp t z2 O=>⟨k,s,sk,so,O.ld (cs:=[_,_,slV sk,slV so]),?_⟩;have Y:=S.hr;have Q:=S.ro;have U:=S.ol;have G:=S.lg;have i:∀c∈bs,lo<=c/\c<g.size/\M' c=Te:=S.row.own;have f:AgM M' p:=λc cs e=>by rw[t c (λh=>by subst h;rw[S.nR]at e;cases e)];exact S.L.ag c cs e
 have n:ORow lo p M' .tree xs so bs:=S.row.frame (λc m=>t c (by have:=(i c m).1;omega)) (Fr.le.refl _) λc m=>(i c m).2.2;have E:Later h M p M':=⟨⟨by have:=S.L.keep.size;omega,λj J=>by rw[t j (by omega)];exact S.L.keep.get j J⟩,S.L.le,S.L.old,f⟩;refine⟨MxL M' p bs,_,⟨E.keep,E.le.trans (zej f bs),λb V=>?_,MxL.ag f bs⟩,Xe.2 (qf (v:=.mk k s ks xs) (N.mono (zej f bs)) (n.rd f (λc m=>m) P)),H⟩;unfold MxL;rw[if_neg (λI=>by have:=(i b I).1;omega)];exact S.L.old b V
end
set_option maxRecDepth 100000 in
set_option maxHeartbeats 2000000 in
theorem zx2:∀(n:Nat) (v:Tr),n<=1000000->tsz v<=n->Q8 zn v=Ta->Sm v->∀(h:zb) (M:Fr) (u:Value),AgM M h->RdV M .tree v u->PX Tp 98 #[u] h M [.tree] (λq=>q=ze v)
 |0,v,_,hz,_,_=>by have:=Q2 v;omega
 |n+1,v,hn,hz,hok,hsm=>by
  intro h M u ag hu;have aL:=hu;obtain⟨sk,si,rfl,rk,ri⟩:=yz hu;have l:=hok;rw[y0,Ap]at l;have aT:v.items.length<=1000000:=by have:=Qd v.items;rw[yh]at hz;omega
  have ih:∀(i:Nat) (hi:i<v.items.length) (h:zb) (M:Fr) (u:Value),AgM M h->RdV M .tree v.items[i] u->PX Tp 98 #[u] h M [.tree] (λq=>q=ze v.items[i]):=λi hi=>by
   have hm:=AE hi;have hs:=yd hm;have ab:Q8 zn v.items[i]=Ta:=by rw[jk,Av]at l;exact l.2 _ hm
   exact zx2 n v.items[i] (by omega) (by omega) ab (hsm.item hm)
  obtain⟨li,_,_⟩:=rowLen ri;apply PX.of;apply zjt v.kind v.text sk si;intro h1;have k1:Keep h.size h h1:=Keep.push _ _ (Ab _);have z1:h1.size=h.size+1:=Aj _;have B1:Blk h1 h.size #[.int .i64 v.kind,.string v.text,slV sk,slV si]:=Blk.new _ _ _;clear_value h1;intro f;have k2:Keep h1.size h1 f:=Keep.push _ _ (Ab _);have z2:f.size=h1.size+1:=Aj _;have R2:Blk f h1.size #[.int .i64 0,.string ⟨#[]⟩,.slice Te 0 0,.slice Te 0 0]:=Blk.new _ _ _;clear_value f;have B2:=B1.ofKeep k2;refine⟨v.kind,B2.cellAdd (o:=0) (k:=0) rfl,v.text,B2.cellAdd (o:=0) (k:=1) rfl,?_⟩;intro h5;have k5:Keep f.size f h5:=Keep.push _ _ (Ab _);have z5:h5.size=f.size+1:=Aj _;have O5:Blk h5 f.size #[.int .i64 0,.string ⟨#[]⟩,.slice Te 0 0,.slice Te 0 0]:=Blk.new _ _ _;clear_value h5;refine jw (sk:=⟨Te,0,0⟩) (si:=⟨Te,0,0⟩) O5 λh6 f6 z6 O6=>?_;have k6:Keep f.size f h6:=⟨by omega,λj G=>by rw[f6 j (by omega)];exact k5.get j G⟩;have J:Keep h.size h h6:=(k1.trans k2 (by omega)).trans k6 (by omega);have B6:=B2.ofKeep k6;have R6:=R2.ofKeep k6;have aJ:=ag.keep J;refine⟨v.kind,B6.cellAdd (o:=0) (k:=0) rfl,λhx=>?_,λhx=>?_⟩;have h6:v.kind≠6:=by simpa using hx
  have hS:ze v=.mk v.kind v.text [] (v.items.map ze):=by rw[y8,if_neg h6]
  refine⟨si,B6.cellAdd (o:=0) (k:=3) rfl,λi g=>∃(m:Nat) (M':Fr) (so:Sl) (bs:List Nat),i=(m:Int)/\m<=v.items.length/\SrS h M h1.size f.size (f.size+1) v.kind v.text ⟨Te,0,0⟩ ((v.items.take m).map ze) g M' so bs,λi _=>v.items.length-i.toNat,⟨0,M,⟨Te,0,0⟩,[],rfl,AX _,⟨Later.same ag J,R6,O6,ORow.nil,ag.none (by omega),ag.none (by omega),by omega,by omega,by omega,by omega⟩⟩,?_⟩;rintro i g ⟨m,M',so,bs,rfl,hm,S⟩;have y:=S.L.ag;refine⟨λO=>?_,λO=>?_⟩;have b:m<v.items.length:=by have:=of_decide_eq_true O;omega
  obtain⟨a,ck,ci,ea,aE,t1,t2⟩:=zd8 y (ri.mono S.L.le) b;refine⟨a,⟨ea,by omega,by omega⟩,v.items[m].kind,v.items[m].text,ck,ci,by rw[Ai];exact aE,?_⟩;intro E;have aO:Keep g.size g E:=Keep.push _ _ (Ab _);have a6:E.size=g.size+1:=Aj _;have aI:Blk E g.size #[.int .i64 0,.string ⟨#[]⟩,.slice Te 0 0,.slice Te 0 0]:=Blk.new _ _ _;clear_value E;refine jw aI λY aV bg aM=>?_;have aC:Keep g.size g Y:=⟨by omega,λj G=>by rw[aV j (by omega)];exact aO.get j G⟩;have ba:=S.out.lt;refine⟨so,(S.out.ofKeep aC).cellAdd (o:=0) (k:=3) rfl,v.items[m].kind,v.items[m].text,ck,ci,aM.ld (cs:=[_,_,slV ck,slV ci]),?_⟩;have an:Later g M' Y M':=Later.same y aC;refine(ih m b _ _ _ an.ag (qf t1 t2)).go λw aB P q C A hq=>?_;subst hq;obtain⟨xk,xi,rfl,y1,y2⟩:=yz (Xe.1 A);have a1:=C.keep.size;have ho:aB[f.size]?=Y[f.size]?:=C.keep.get _ (by omega);refine⟨_,_,xk,xi,rfl,by rw[zi];exact ho,?_⟩;intro bA;refine⟨by rw[zi];exact((Keep.push aB _ (Ab _)).get f.size (by omega)).trans ho,S.add (by rw[Ao,AK];omega) (an.trans C) (qf y1 y2) λg' Z bs' S' _=>⟨⟨m+1,P,Z,bs',by rw[ju b (by omega)],b,?_⟩,?_⟩⟩;rw[Aw b,Bf];exact S';show v.items.length-(Aa .i64 ((m:Int)+1)).toNat<v.items.length-(m:Int).toNat;rw[ju b (by omega)];omega;have b:m=v.items.length:=by have:=of_decide_eq_false O;omega
  subst b;rw[A3]at S;exact S.fin (by rw[Ao];exact aT) zga hS.symm;have N:v.kind=6:=by simpa using hx
  have hS:ze v=.mk v.kind v.text (jm v.keys) ((jm v.keys).map λq=>zgu (v.keys.zip (v.items.map ze)) q):=by rw[y8,if_pos N]
  have r:=l.1;have ah:v.keys.Nodup:=by unfold zn wh at r;simp[N]at r;exact r.1.1.2
  have au:v.keys.length=v.items.length:=by unfold zn at r;simp[N]at r;exact r.1.2
  refine⟨v.kind,v.text,sk,si,B6.ld (cs:=[_,_,slV sk,slV si]),?_⟩;refine zgd ah au (by omega) aJ aL λD m us ar aZ bj aY ai=>⟨Td m,rfl,?_⟩;have bu:=ar.size;apply ye;intro s;have aj:Keep D.size D s:=Keep.push _ _ (Ab _);have bm:s.size=D.size+1:=Aj _;have aF:Blk s D.size #[.map (Td m)]:=Blk.new _ _ _;clear_value s;have U:MapW s m (zbm (v.keys.zip us)):=ai.keep (aj.get m ai.lt);have ax:(v.keys.zip us).map (·.1)=v.keys:=D4 (by omega);refine⟨_,rfl,zss aF U (by rw[ax];exact ah) (by simp;omega) λV sl H ak=>⟨sl,rfl,?_⟩⟩;rw[ax]at ak;have bz:=H.size;have br:(jm v.keys).length=v.keys.length:=zsr _;have z:Keep h6.size h6 V:=(ar.trans aj (by omega)).trans H (by omega);have ap:Keep h.size h V:=J.trans z (by omega);obtain⟨P,C,F,I⟩:=Owns.frz (Later.same ag ap) ak (by omega) (by omega);have aQ:Blk V f.size #[.int .i64 v.kind,.string v.text,slV ⟨Te,0,0⟩,slV ⟨Te,0,0⟩]:=O6.keep (z.get _ (by omega));have ay:P f.size=Te:=by rw[F _ (by omega)];exact ag.none (by omega)
  have aN:P h1.size=Te:=by rw[F _ (by omega)];exact ag.none (by omega)
  rw[zi];refine yf qj2 qj3 aQ (by show 2<4;omega) rfl λt aA be B=>?_;have aG:Later h M t P:=⟨⟨by have:=C.keep.size;omega,λj G=>by rw[B j (by omega)];exact C.keep.get j G⟩,C.le,C.old,λc cs e=>by rw[B c (λh=>by subst h;rw[ay]at e;cases e)];exact C.ag c cs e⟩;have af:MapW t m (zbm (v.keys.zip us)):=U.keep ((B m (by omega)).trans (H.get m U.lt));have ae:=af.lt;refine⟨sl,Blk.cell (o:=2) aA rfl,λi g=>∃(p:Nat) (M':Fr) (so:Sl) (bs:List Nat),i=(p:Int)/\p<=(jm v.keys).length/\SrS h M h1.size f.size t.size v.kind v.text sl (((jm v.keys).take p).map λq=>zgu (v.keys.zip (v.items.map ze)) q) g M' so bs/\Fr.le P M'/\(∀j,j<t.size->j≠f.size->g[j]?=t[j]?),λi _=>(jm v.keys).length-i.toNat,⟨0,P,⟨Te,0,0⟩,[],rfl,AX _,⟨aG,R6.keep ((B _ (by omega)).trans (z.get _ (by omega))),aA,ORow.nil,ay,aN,by omega,by omega,by omega,Ab _⟩,Fr.le.refl _,λ_ _ _=>rfl⟩,?_⟩;obtain⟨a7,_,_⟩:=rowLen I;rintro i g ⟨p,M',so,bs,rfl,hp,S,aa,fg⟩;have y:=S.L.ag;refine⟨λO=>?_,λO=>?_⟩;have b:p<(jm v.keys).length:=by have:=of_decide_eq_true O;omega
  obtain⟨a,aH,x,aU,aS⟩:=zzv y (I.mono aa) b (i:=(p:Int)) rfl (L:=sl.len) rfl (Q:=λx=>x=(jm v.keys)[p]) rfl;subst aS;refine⟨a,aH,(jm v.keys)[p],aU,so,S.out.cellAdd (o:=0) (k:=3) rfl,?_⟩;have aP:(jm v.keys)[p]∈v.keys:=(y5 v.keys).mem_iff.1 (AE b);obtain⟨j,j1,j2,e1,e2,e3⟩:=zo3 (jm v.keys)[p] v.keys (v.items.map ze) (by rw[Ao];exact au) aP;rw[Ao]at j2;have am:j<us.length:=by omega
  obtain⟨ck,ci,eu,t1,t2⟩:=yz (aY j j2 am);have wg:MapW g m (zbm (v.keys.zip us)):=af.keep (fg m ae (by omega));refine⟨v.items[j].kind,v.items[j].text,ck,ci,?_,rfl,?_⟩;have:=J8 mapVal wg.at (jm v.keys)[p] Tc;have eg:zwd (v.keys.zip us) (jm v.keys)[p] (.agg #[.int .i64 0,.string ⟨#[]⟩,.slice Te 0 0,.slice Te 0 0])=us[j]:=by unfold zwd;rw[e3 us (by omega),Al am];rfl
  rw[if_neg (by simp),eg,eu]at this;exact this;refine(ih j j2 _ _ _ y (qf (t1.mono S.L.le) (t2.mono S.L.le))).go λw az M3 q L3 A hq=>?_;subst hq;obtain⟨xk,xi,rfl,y1,y2⟩:=yz (Xe.1 A);have bn:=L3.keep.size;have a8:=S.lg;have ho:az[f.size]?=g[f.size]?:=L3.keep.get _ (by omega);refine⟨_,_,xk,xi,rfl,by rw[zi];exact ho,?_⟩;intro bq;refine⟨by rw[zi];exact((Keep.push az _ (Ab _)).get f.size (by omega)).trans ho,S.add (by rw[Ao,AK];omega) L3 (qf y1 y2) λg' Z bs' S' f'=>⟨⟨p+1,M3,Z,bs',by rw[ju b (by omega)],b,?_,aa.trans L3.le,λj G h0=>(f' j G h0).trans (fg j G h0)⟩,?_⟩⟩;rw[Aw b,Bf,Ar,Cp,e2,C4];exact S';show(jm v.keys).length-(Aa .i64 ((p:Int)+1)).toNat<(jm v.keys).length-(p:Int).toNat;rw[ju b (by omega)];omega;have b:p=(jm v.keys).length:=by have:=of_decide_eq_false O;omega
  subst b;rw[A3]at S;exact S.fin (by rw[Ao];omega) (I.mono aa) hS.symm
end
end Go.X
end
section
namespace Go.X
open Go Go.Lib
section
variable {r s w:Bs} {a N lv:Nat} {ln:Bool} {v:Tr}
def qgb(r:Bs):Prop:=∀c,r.head?=Td c->c=44\/c=93\/c=125\/c=10
theorem zx3:qgb []:=λc h=>by cases h
theorem zeu{c:UInt8}(h:c=44\/c=93\/c=125\/c=10):qgb (c::r):=λd b=>by have b:Td c=Td d:=b;rw[<-Az b];exact h
theorem zhz{p:UInt8->Bool}:∀{w r:Bs},(∀c∈w,p c=Ta)->(∀c,r.head?=Td c->p c=Tc)->Q9 p (w++r)=w.length
 |[],[],_,_=>rfl
 |[],c::r,_,h=>by unfold Q9;rw[A5,List.takeWhile_cons,if_neg (by rw[h c rfl];simp)]
 |c::w,r,h,h2=>by have:=zhz (w:=w) (r:=r) (λd b=>h d (Ae _ b)) h2;unfold Q9 at this ⊢;rw[AD,List.takeWhile_cons,if_pos (h c Am),Aq,this,Aq]
theorem z7j(h:(zj w).2=0)(m:s.drop a=w++r)(n:qgb r):Z1 s a=(9,a+w.length,0)/\∃c t,w=c::t/\c∈zcx:=by
 have i:zeb w=Ta:=by
  unfold zj at h;cases e:Xf w with
  |none=>rw[e]at h;simp at h
  |some x=>exact(zck e).1
 obtain⟨o,c,t,e,f⟩:=z7a i;have b:Q9 (xm zcw) (w++r)=w.length:=zhz (λc f=>by unfold xm;exact decide_eq_true (o c f)) λc f=>by
  have:∀c:UInt8,c=44\/c=93\/c=125\/c=10->xm zcw c=Tc:=by rintro c (rfl|rfl|rfl|rfl) <;> decide
  exact this c (n c f)
 have l:c∉q9/\c∉xj/\c≠34:=by
  have:∀c∈zcx,c∉q9/\c∉xj/\c≠34:=by decide
  exact this c f
 refine⟨?_,c,t,e,f⟩;unfold Z1;rw[m];rw[e,AD]at b ⊢;rw[e]at h;dsimp only;have k:(c::(t++r)).take (c::t).length=c::t:=by rw[<-AD,CQ]
 rw[if_neg l.1,if_neg l.2.1,if_neg l.2.2,if_pos f,b,k,if_pos h]
theorem zx4(h:Qh w≠0)(q:s.drop a=w++r)(p:qgb r):Z1 s a=(Qh w,a+w.length,0):=by
 have n:w=[116,114,117,101]\/w=[102,97,108,115,101]\/w=[110,117,108,108]:=by unfold Qh at h;by_cases h1:w=[116,114,117,101];exact .inl h1;rw[if_neg h1]at h;by_cases o:w=[102,97,108,115,101];exact .inr (.inl o);rw[if_neg o]at h;by_cases m:w=[110,117,108,108];exact .inr (.inr m);rw[if_neg m]at h;exact absurd rfl h
 have f:∀c∈w,xm j8 c=Ta:=by rcases n with rfl|rfl|rfl <;> decide
 have b:Q9 (xm j8) (w++r)=w.length:=zhz f λc k=>by
  have:∀c:UInt8,c=44\/c=93\/c=125\/c=10->xm j8 c=Tc:=by rintro c (rfl|rfl|rfl|rfl) <;> decide
  exact this c (p c k)
 obtain⟨c,t,e,k⟩:∃c t,w=c::t/\(c=116\/c=102\/c=110):=by rcases n with rfl|rfl|rfl;exact⟨_,_,rfl,.inl rfl⟩;exact⟨_,_,rfl,.inr (.inl rfl)⟩;exact⟨_,_,rfl,.inr (.inr rfl)⟩
 have i:c∉q9/\c∉xj/\c≠34/\c∉zcx:=by rcases k with rfl|rfl|rfl <;> decide
 unfold Z1;rw[q];rw[e,AD]at b ⊢;rw[e]at h;dsimp only;have l:(c::(t++r)).take (c::t).length=c::t:=by rw[<-AD,CQ]
 rw[if_neg i.1,if_neg i.2.1,if_neg i.2.2.1,if_neg i.2.2.2,b,l,if_neg h]
theorem zj4(i:∀c∈w,c∈xj)(k:∀c,r.head?=Td c->c∉xj)(h:s.drop a=w++r):∃T,Lex s a (a+w.length) T/\zw T=[]:=by
 cases w with
 |nil=>exact⟨[],.nil,rfl⟩
 |cons c t=>
  have f:=i c Am;have b:Q9 (xm xj) (c::t++r)=(c::t).length:=zhz (λd e=>by unfold xm;exact decide_eq_true (i d e)) λd e=>by unfold xm;exact decide_eq_false (k d e)
  have h1:c∉q9:=by
   have:∀c∈xj,c∉q9:=by decide
   exact this c f
  have tk:Z1 s a=(1,a+(c::t).length,0):=by unfold Z1;rw[h,AD];dsimp only;rw[if_neg h1,if_pos f];rw[AD]at b;rw[b]
  exact⟨_,Lex.step (T:=[]) tk (qw h (by simp)) .nil,rfl⟩
theorem jr(A B:List Tk):zw (A++B)=zw A++zw B:=List.filter_append ..
theorem ql{t:Tk}{T:List Tk}(h:t.1≠1):zw (t::T)=t::zw T:=by unfold zw;rw[Cr,if_pos (decide_eq_true h)]
theorem zev(h:s.drop a=w++r):s.drop (a+w.length)=r:=by rw[<-BU,h,DR]
theorem zms:∀c∈yj ln N lv,c∈xj:=by intro c b;unfold yj at b;split at b;rcases Ah.1 b with rfl|b;decide;rw[(List.mem_replicate.1 b).2];decide;cases b
def xb(ln:Bool)(N lv:Nat)(b:UInt8):List Bs->Bs
 |[]=>yj ln N lv++[b]
 |p::ps=>yj ln N (lv+1)++(p++(if ps=[]then xb ln N lv b []else 44::xb ln N lv b ps))
theorem zmt{ln:Bool}{N lv:Nat}{b:UInt8}:∀{ps:List Bs},ps≠[]->xb ln N lv b ps=Ze ln N (lv+1) ps++(yj ln N lv++[b])
 |[],h=>absurd rfl h
 |[p],_=>by rw[xb,if_pos rfl,xb,Ze];simp
 |p::q::ps,_=>by rw[xb,if_neg (by simp),zmt (ps:=q::ps) (by simp)];rw[Ze,Ze];simp[AF]
theorem zsu{b:UInt8}{ps:List Bs}(h:ps≠[]):Xp ln N lv ps++[b]=xb ln N lv b ps:=by rw[zmt h];unfold Xp;rw[if_neg h,AF]
def OKs(nx:List Bs->Bs×Tr->List Bs)(Fresh:List Bs->Bs×Tr->Prop):List Bs->List (Bs×Tr)->Prop
 |_,[]=>True
 |had,kv::l=>Fresh had kv/\OKs nx Fresh (nx had kv) l
theorem z7k{b:UInt8}(e:b=93\/b=125)(h:s.drop a=xb ln N lv b []++r):∃T,Lex s a (a+(xb ln N lv b []).length) T/\∃c,zw T=[c]/\c.1=2+indexByte q9 b:=by
 rw[xb]at h ⊢;rw[AF]at h;have i:b∈q9:=by rcases e with rfl|rfl <;> decide
 have l:b∉xj:=by rcases e with rfl|rfl <;> decide
 obtain⟨m,n,p⟩:=zj4 zms (r:=[b]++r) (λc k=>by have k:Td b=Td c:=k;rw[<-Az k];exact l) h;have f:=zev h;have tk:=Qj i f;have o:=Lex.step (T:=[]) tk (qw f (by simp)) .nil;refine⟨m++[(2+indexByte q9 b,(((a+(yj ln N lv).length:Nat):Int),((a+(yj ln N lv).length+1:Nat):Int)))],?_,(2+indexByte q9 b,(((a+(yj ln N lv).length:Nat):Int),((a+(yj ln N lv).length+1:Nat):Int))),?_,rfl⟩;have:=n.append o;rw[Ag,<-CP];exact this;rw[jr,p,A5,ql (show(2+indexByte q9 b:Int)≠1 by rcases e with rfl|rfl <;> decide)];rfl
theorem zo4{ln:Bool}{N lv:Nat}{s:Bs}{i:UInt8}(k:i=93\/i=125){K:List Bs->List Bs->Bs×Tr->List Tk->Nat->Prop}{nx:List Bs->Bs×Tr->List Bs}{Fresh:List Bs->Bs×Tr->Prop}{P:Bs×Tr->Bs}:∀(kvs:List (Bs×Tr)) (had:List Bs) (a:Nat) (r:Bs),kvs≠[]->OKs nx Fresh had kvs -> (∀b∈kvs,(∃c t,P b=c::t/\c∉xj)/\∀had a r,Fresh had b->s.drop a=P b++r->qgb r->∃T,Lex s a (a+(P b).length) T/\K had (nx had b) b (zw T) (tsz b.2)) ->
  s.drop a=xb ln N lv i (kvs.map P)++r->∃T,Lex s a (a+(xb ln N lv i (kvs.map P)).length) T/\KidsG K (2+indexByte q9 i) had kvs (zw T) (w9 (kvs.map (·.2)))
 |[],had,a,r,h,_,_,_=>absurd rfl h
 |b::kvs,had,a,r,_,hok,hK,hs=>by
  obtain⟨⟨c0,L,H,q⟩,p⟩:=hK b Am;rw[Ar,xb,AF]at hs;obtain⟨B,E,D⟩:=zj4 zms (λc n=>by rw[H]at n;have n:Td c0=Td c:=n;rw[<-Az n];exact q) hs;have m:=zev hs;rw[AF]at m;have l:qgb ((if kvs.map P=[]then xb ln N lv i []else 44::xb ln N lv i (kvs.map P))++r):=by split;rw[xb];unfold yj;split;exact zeu (.inr (.inr (.inr rfl)));rcases k with rfl|rfl;exact zeu (.inr (.inl rfl));exact zeu (.inr (.inr (.inl rfl)));exact zeu (.inl rfl)
  obtain⟨A,C,k2⟩:=p had _ _ hok.1 m l;have f:=zev m;by_cases y:kvs=[];subst y;rw[Cp,if_pos rfl]at f;obtain⟨z,u,c,F,n⟩:=z7k k f;refine⟨B++(A++z),?_,?_⟩;have:=E.append (C.append u);rw[Ar,Cp,xb,if_pos rfl];simp only[Ag]at this ⊢;rw[show a+((yj ln N (lv+1)).length+((P b).length+(xb ln N lv i []).length))=a+(yj ln N (lv+1)).length+(P b).length+(xb ln N lv i []).length from by omega];exact this;rw[jr,D,A5,jr,F];exact KidsG.last k2 n;have o:kvs.map P≠[]:=λe=>y (List.map_eq_nil_iff.1 e);rw[if_neg o,AD]at f;have tk:=Qj (c:=44) (by decide) f;have w:s.drop (a+(yj ln N (lv+1)).length+(P b).length+1)=xb ln N lv i (kvs.map P)++r:=by rw[<-BU,f];rfl
  obtain⟨z,u,J⟩:=zo4 k kvs (nx had b) _ r y hok.2 (λx I=>hK x (Ae _ I)) w;have G:=Lex.step tk (qw f (by simp)) u;refine⟨B++(A++(2+indexByte q9 44,(((a+(yj ln N (lv+1)).length+(P b).length:Nat):Int),((a+(yj ln N (lv+1)).length+(P b).length+1:Nat):Int)))::z),?_,?_⟩;have:=E.append (C.append G);rw[Ar,xb,if_neg o];simp only[Ag,Aq]at this ⊢;rw[show a+((yj ln N (lv+1)).length+((P b).length+((xb ln N lv i (kvs.map P)).length+1)))=a+(yj ln N (lv+1)).length+(P b).length+1+(xb ln N lv i (kvs.map P)).length from by omega];exact this;rw[jr,D,A5,jr,ql (show(2+indexByte q9 44:Int)≠1 by decide),Ar,w9];exact KidsG.more k2 (show(2+indexByte q9 44:Int)=6 by decide) J
theorem zew(h:okV v=Ta):(v.kind=1/\lb v.text=[]/\v.keys=[]/\v.items=[])\/(v.kind=2/\(lb v.text=[116,114,117,101]\/lb v.text=[102,97,108,115,101])/\v.keys=[]/\v.items=[]) \/ (v.kind=3/\((zj (lb v.text)).2=0/\qm (zj (lb v.text)).1=lb v.text)/\v.keys=[]/\v.items=[])\/(v.kind=4/\Z4 (lb v.text)=Ta/\v.keys=[]/\v.items=[]) \/
  (v.kind=5/\lb v.text=[]/\v.keys=[])\/(v.kind=6/\wh v.keys=Ta/\v.keys.length=v.items.length/\lb v.text=[]):=by
 unfold okV at h;rw[Ap]at h;obtain⟨e,h⟩:=h;have e:v.kind≠7:=of_decide_eq_true e;unfold zn at h;by_cases h1:v.kind=1;rw[if_pos h1]at h;simp only[Ap,beq_iff_eq,List.isEmpty_iff]at h;exact .inl ⟨h1,h.1.1,h.1.2,h.2⟩;rw[if_neg h1]at h;by_cases k:v.kind=2;rw[if_pos k]at h;simp only[Ap,beq_iff_eq,List.isEmpty_iff,BO]at h;exact .inr (.inl ⟨k,h.1.1,h.1.2,h.2⟩);rw[if_neg k]at h;by_cases c:v.kind=3;rw[if_pos c]at h;unfold zz4 at h;simp only[Ap,beq_iff_eq,List.isEmpty_iff,decide_eq_true_eq]at h;exact .inr (.inr (.inl ⟨c,h.1.1,h.1.2,h.2⟩));rw[if_neg c]at h;by_cases b:v.kind=4;rw[if_pos b]at h;simp only[Ap,List.isEmpty_iff]at h;exact .inr (.inr (.inr (.inl ⟨b,h.1.1,h.1.2,h.2⟩)));rw[if_neg b]at h;by_cases f:v.kind=5;rw[if_pos f]at h;simp only[Ap,beq_iff_eq,List.isEmpty_iff]at h;exact .inr (.inr (.inr (.inr (.inl ⟨f,h.1,h.2⟩))));rw[if_neg f]at h;by_cases i:v.kind=6;rw[if_pos i]at h;simp only[Ap,beq_iff_eq,decide_eq_true_eq]at h;exact .inr (.inr (.inr (.inr (.inr ⟨i,h.1.1,h.1.2,h.2⟩))));rw[if_neg i,if_neg e]at h;cases h
theorem zvo{t:Bs}(h:Z4 t=Ta):(zmh t).1=zgb t:=by unfold zmh;rw[if_pos h];rfl
theorem zx5(h:okV v=Ta):∃c t,jv ln N v lv=c::t/\c∉xj:=by
 rw[Yy];rcases zew h with⟨b,_⟩|⟨b,f,_⟩|⟨b,⟨f,_⟩,_⟩|⟨b,f,_⟩|⟨b,_⟩|⟨b,_⟩;rw[b];exact⟨_,_,rfl,by decide⟩;rw[b,if_neg (by decide),if_neg (by decide),if_neg (by decide),if_neg (by decide)];rcases f with e|e <;> (rw[e];exact⟨_,_,rfl,by decide⟩);rw[b,if_neg (by decide),if_neg (by decide),if_neg (by decide),if_neg (by decide)];obtain⟨_,c,t,e,i⟩:=z7j (s:=lb v.text) (a:=0) (r:=[]) f (by simp) zx3;refine⟨c,t,e,?_⟩;have:∀c∈zcx,c∉xj:=by decide
 exact this c i;rw[b,if_neg (by decide),if_pos rfl,zvo f];exact⟨_,_,rfl,by decide⟩;rw[b,if_neg (by decide),if_neg (by decide),if_pos rfl];exact⟨_,_,rfl,by decide⟩;rw[b,if_neg (by decide),if_neg (by decide),if_neg (by decide),if_pos rfl];exact⟨_,_,rfl,by decide⟩
theorem zo5(b:s.drop a=w++r)(e:w≠[]):qp s ((a:Int),((a+w.length:Nat):Int))=w/\Jw s ((a:Int),((a+w.length:Nat):Int))=w:=by
 have f:=qw b (by simp[e]);have h:a+w.length<=s.length:=by have:=congrArg Ct b;rw[AH,Ag]at this;omega
 have i:=Bv.2 e;have c:Jw s ((a:Int),((a+w.length:Nat):Int))=w:=by unfold Jw;simp only[Ai];rw[b,Db,CQ]
 refine⟨?_,c⟩;rw[zbb (by dsimp only;omega) (by dsimp only;omega) (by dsimp only;omega)];exact c
theorem z7l{nx:List Bs->Bs×Tr->List Bs}:∀(l:List (Bs×Tr)) (had:List Bs),OKs nx (λ_ _=>True) had l
 |[],_=>trivial
 |_::l,_=>⟨trivial,z7l l _⟩
theorem zx6:∀(l:List (Bs×Tr)) (had:List Bs),(l.map (·.1)).Nodup->(∀b∈l,b.1∉had)->OKs (λhad b=>had++[b.1]) (λhad b=>b.1∉had) had l
 |[],_,_,_=>trivial
 |b::l,had,hn,hh=>by rw[Ar,Ba]at hn;refine⟨hh b Am,zx6 l _ hn.2 λx c e=>?_⟩;rcases Ay.1 e with h|h;exact hh x (Ae _ c) h;rw[A4]at h;exact hn.1 (h ▸ AL.2 ⟨x,c,rfl⟩)
theorem zx7:∀{ks:List Bt},ks.Nodup->(ks.map lb).Nodup
 |[],_=>Dm
 |k::ks,h=>by
  rw[Ba]at h;rw[Ar,Ba];refine⟨λc=>?_,zx7 h.2⟩;obtain⟨q,b,e⟩:=AL.1 c;have:q=k:=by rw[<-Yw q,e,Yw]
  exact h.1 (this ▸ b)
theorem zo6{k:Int}(e:k≠1)(h:Z1 s a=(k,a+w.length,0))(b:s.drop a=w++r)(c:w≠[]):Lex s a (a+w.length) [(k,((a:Int),((a+w.length:Nat):Int)))]/\zw [(k,((a:Int),((a+w.length:Nat):Int)))]=[(k,((a:Int),((a+w.length:Nat):Int)))]:= ⟨Lex.step (T:=[]) h (qw b (by simp[c])) .nil,by rw[ql e];rfl⟩
set_option maxHeartbeats 1000000 in
theorem zvp{ln:Bool}{N:Nat}:∀(n:Nat) (v:Tr) (lv d:Nat),tsz v<=n->Q8 okV v=Ta->tdp v<=d->∀(s r:Bs) (a:Nat),s.drop a=jv ln N v lv++r->qgb r->∃T,Lex s a (a+(jv ln N v lv).length) T/\PV s d v (zw T) (tsz v)
 |0,v,_,_,h,_,_=>by have:=Q2 v;omega
 |n+1,v,lv,0,_,_,hd=>by rw[zji]at hd;omega
 |n+1,v,lv,d+1,hz,hok,hd=>by
  intro s r a i hr;rw[y0,Ap]at hok;obtain⟨hv,u⟩:=hok;rw[jk,Av]at u;have I:∀x∈v.items,tsz x<=n/\tdp x<=d/\Q8 okV x=Ta:=λx O=>⟨by have:=yd O;omega,by have:=zop O;omega,u x O⟩;have eta:v=.mk v.kind v.text v.keys v.items:=by cases v;rfl
  have G:∀{t:Bt},lb t=[]->t=bl []:=λ {t} h=>by rw[<-Yw t,h]
  rw[Yy]at i ⊢;rcases zew hv with⟨o,p,h1,A⟩|⟨o,p,h1,A⟩|⟨o,⟨p,ai⟩,h1,A⟩|⟨o,p,h1,A⟩|⟨o,p,h1⟩|⟨o,B,Z,p⟩;rw[if_pos o]at i ⊢;have tk:=zx4 (w:=[110,117,108,108]) (by decide) i hr;obtain⟨L,J⟩:=zo6 (by decide) tk i (by simp);refine⟨_,L,?_⟩;rw[J];refine⟨_,.inl ⟨rfl,show zu 12≠0 by decide,show zu 12≠5 by decide,show zu 12≠6 by decide,?_,?_⟩⟩;rw[eta,o,h1,A,G p];rfl;rw[yh,A];rfl;rw[if_neg (by omega),if_neg (by omega),if_neg (by omega),if_neg (by omega)]at i ⊢;have hw:Qh (lb v.text)=10\/Qh (lb v.text)=11:=by rcases p with e|e <;> (rw[e];decide)
  have l:lb v.text≠[]:=by rcases p with e|e <;> (rw[e];simp)
  have tk:=zx4 (w:=lb v.text) (by omega) i hr;obtain⟨L,J⟩:=zo6 (by omega) tk i l;refine⟨_,L,?_⟩;rw[J];have E:zu (Qh (lb v.text))=2:=by rcases hw with e|e <;> (rw[e];decide)
  refine⟨_,.inl ⟨rfl,?_,?_,?_,?_,?_⟩⟩;dsimp only;rw[E];decide;dsimp only;rw[E];decide;dsimp only;rw[E];decide;dsimp only;rw[E,(zo5 i l).1];unfold Yf;rw[if_pos rfl,Yw];rw[eta,o,h1,A];rw[yh,A];rfl;rw[if_neg (by omega),if_neg (by omega),if_neg (by omega),if_neg (by omega)]at i ⊢;obtain⟨tk,c,t,e,_⟩:=z7j p i hr;have l:lb v.text≠[]:=by rw[e];simp
  obtain⟨L,J⟩:=zo6 (by decide) tk i l;refine⟨_,L,?_⟩;rw[J];refine⟨_,.inl ⟨rfl,show zu 9≠0 by decide,show zu 9≠5 by decide,show zu 9≠6 by decide,?_,?_⟩⟩;dsimp only;rw[show zu 9=3 from rfl,(zo5 i l).1];unfold Yf;rw[if_neg (by decide),if_pos rfl,ai,Yw];rw[eta,o,h1,A];rw[yh,A];rfl;rw[if_neg (by omega),if_pos o,zvo p]at i ⊢;have tk:=z6y p i;obtain⟨L,J⟩:=zo6 (by decide) tk i (by unfold zgb;simp);refine⟨_,L,?_⟩;rw[J];have:=qja (d:=d) p i;rw[Yw]at this;rw[show v=.mk 4 v.text [] []from by rw[eta,o,h1,A]];exact this;rw[if_neg (by omega),if_neg (by omega),if_pos o]at i ⊢;have ev:v=.mk 5 (bl []) [] v.items:=by rw[eta,o,h1,G p]
  by_cases z:v.items=[];rw[z]at i ⊢;have i:s.drop a=91::([93]++r):=i;have tk:=Qj (c:=91) (by decide) i;have m:s.drop (a+1)=93::r:=by rw[<-BU,i];rfl
  have M:=Qj (c:=93) (by decide) m;refine⟨_,Lex.step (b:=a+2) tk (qw i (by simp)) (Lex.step (T:=[]) M (qw m (by simp)) .nil),?_⟩;rw[ql (show(2+indexByte q9 91:Int)≠1 by decide),ql (show(2+indexByte q9 93:Int)≠1 by decide)];exact⟨_,.inr (.inl ⟨_,rfl,.inl ⟨show(2+indexByte q9 91:Int)=4 by decide,show(2+indexByte q9 93:Int)=5 by decide,by rw[ev,z]⟩,by rw[yh,z];rfl⟩)⟩;have D:(v.items.map λx=>jv ln N x (lv+1))=(v.items.map λx=>(([]:Bs),x)).map λf=>jv ln N f.2 (lv+1):=by rw[A8];rfl
  have l:(v.items.map λx=>(([]:Bs),x))≠[]:=λe=>z (List.map_eq_nil_iff.1 e);have hw:(91::Xp ln N lv (v.items.map λx=>jv ln N x (lv+1))++[93]:Bs)=91::xb ln N lv 93 ((v.items.map λx=>(([]:Bs),x)).map λf=>jv ln N f.2 (lv+1)):=by rw[AD,zsu (by rw[D];exact λe=>l (List.map_eq_nil_iff.1 e)),D]
  rw[hw]at i ⊢;have tk:=Qj (c:=91) (by decide) i;have m:s.drop (a+1)=xb ln N lv 93 ((v.items.map λx=>(([]:Bs),x)).map λf=>jv ln N f.2 (lv+1))++r:=by rw[<-BU,i];rfl
  obtain⟨T,L,k⟩:=zo4 (.inl rfl) (K:=KA (PV s d)) (nx:=λhad _=>had) (Fresh:=λ_ _=>True) (P:=λf=>jv ln N f.2 (lv+1)) _ [] (a+1) r l (z7l _ _) (λf F=>by obtain⟨x,O,rfl⟩:=AL.1 F;obtain⟨g1,g2,g3⟩:=I x O;have y:=g3;rw[y0,Ap]at y;refine⟨zx5 y.1,λhad b q _ Q V=>?_⟩;obtain⟨T,L,k⟩:=zvp n x (lv+1) d g1 g3 g2 s q b Q V;exact⟨T,L,rfl,k⟩) m;refine⟨_,by rw[Aq,show a+((xb ln N lv 93 ((v.items.map λx=>(([]:Bs),x)).map λf=>jv ln N f.2 (lv+1))).length+1)=a+1+(xb ln N lv 93 ((v.items.map λx=>(([]:Bs),x)).map λf=>jv ln N f.2 (lv+1))).length from by omega];exact Lex.step tk (qw i (by simp)) L,?_⟩;rw[ql (show(2+indexByte q9 91:Int)≠1 by decide)];have em:(v.items.map λx=>(([]:Bs),x)).map (·.2)=v.items:=by rw[A8];exact Eu _
  refine⟨_,.inr (.inr (.inl ⟨_,_,_,rfl,show(2+indexByte q9 91:Int)=4 by decide,k,?_,?_⟩))⟩;rw[em];exact ev;rw[em,yh,Nat.add_comm]
  ·rw[if_neg (by omega),if_neg (by omega),if_neg (by omega),if_pos o]at i ⊢;by_cases z:v.items=[];have Y:v.keys=[]:=by rw[z]at Z;exact AN Z
   have ev:v=.mk 6 (bl []) [] []:=by rw[eta,o,z,Y,G p]
   rw[z,Y]at i ⊢;have i:s.drop a=123::([125]++r):=i;have tk:=Qj (c:=123) (by decide) i;have m:s.drop (a+1)=125::r:=by rw[<-BU,i];rfl
   have M:=Qj (c:=125) (by decide) m;refine⟨_,Lex.step (b:=a+2) tk (qw i (by simp)) (Lex.step (T:=[]) M (qw m (by simp)) .nil),?_⟩;rw[ql (show(2+indexByte q9 123:Int)≠1 by decide),ql (show(2+indexByte q9 125:Int)≠1 by decide)];exact⟨_,.inr (.inl ⟨_,rfl,.inr ⟨show(2+indexByte q9 123:Int)=2 by decide,show(2+indexByte q9 125:Int)=3 by decide,ev⟩,by rw[yh,z];rfl⟩)⟩
   ·obtain⟨kvs,U⟩:∃kvs:List (Bs×Tr),kvs=(v.keys.map lb).zip v.items:=⟨_,rfl⟩;have e1:kvs.map (·.1)=v.keys.map lb:=by rw[U,D4 (by rw[Ao];omega)]
    have e2:kvs.map (·.2)=v.items:=by rw[U,List.map_snd_zip (by rw[Ao];omega)]
    have e3:(kvs.map λf=>bl f.1)=v.keys:=by
     have:(kvs.map λf=>bl f.1)=(kvs.map (·.1)).map bl:=by rw[A8];rfl
     rw[this,e1,A8];have:bl ∘ lb=id:=by funext x;exact Yw x
     rw[this,Eu]
    have l:kvs≠[]:=λe=>z (by rw[<-e2,e];rfl);have D:List.zipWith (zf8 ln) v.keys (v.items.map λx=>jv ln N x (lv+1))=kvs.map λf=>zf8 ln (bl f.1) (jv ln N f.2 (lv+1)):=by
     rw[U];have:∀(ks:List Bt) (xs:List Tr),List.zipWith (zf8 ln) ks (xs.map λx=>jv ln N x (lv+1))=((ks.map lb).zip xs).map λf=>zf8 ln (bl f.1) (jv ln N f.2 (lv+1)):=by
      intro ks;induction ks with
      |nil=>intro xs;rfl
      |cons k ks ih=>
       intro xs;cases xs with
       |nil=>rfl
       |cons x xs=>simp only[Ar,List.zipWith_cons_cons,B0,ih,Yw]
     exact this _ _
    have hw:(123::Xp ln N lv (List.zipWith (zf8 ln) v.keys (v.items.map λx=>jv ln N x (lv+1)))++[125]:Bs)=123::xb ln N lv 125 (kvs.map λf=>zf8 ln (bl f.1) (jv ln N f.2 (lv+1))):=by rw[AD,D,zsu (λe=>l (List.map_eq_nil_iff.1 e))]
    rw[hw]at i ⊢;have tk:=Qj (c:=123) (by decide) i;have m:s.drop (a+1)=xb ln N lv 125 (kvs.map λf=>zf8 ln (bl f.1) (jv ln N f.2 (lv+1)))++r:=by rw[<-BU,i];rfl
    unfold wh at B;rw[Ap,Av]at B;have af:(kvs.map (·.1)).Nodup:=by rw[e1];exact zx7 (of_decide_eq_true B.2)
    obtain⟨T,L,k⟩:=zo4 (.inr rfl) (K:=KO s (PV s d)) (nx:=λhad f=>had++[f.1]) (Fresh:=λhad f=>f.1∉had) (P:=λf=>zf8 ln (bl f.1) (jv ln N f.2 (lv+1))) kvs [] (a+1) r l (zx6 _ _ af (λ_ _=>by simp)) (λf F=>by
     have O:f.2∈v.items:=by rw[<-e2];exact AL.2 ⟨f,F,rfl⟩
     have S:Z4 f.1=Ta:=by
      have:f.1∈v.keys.map lb:=by rw[<-e1];exact AL.2 ⟨f,F,rfl⟩
      obtain⟨q,V,e⟩:=AL.1 this;rw[<-e];exact B.1 q V
     obtain⟨g1,g2,g3⟩:=I _ O;have aa:zf8 ln (bl f.1) (jv ln N f.2 (lv+1))=zgb f.1++58::((if ln then [32]else [])++jv ln N f.2 (lv+1)):=by unfold zf8;rw[yg,zvo S]
     rw[aa];refine⟨⟨_,_,rfl,by decide⟩,λhad b q hf Q V=>?_⟩;rw[AF]at Q;have tq:=z6y S Q;have C:=zev Q;rw[AD]at C;have tc:=Qj (c:=58) (by decide) C;have ab:s.drop (b+(zgb f.1).length+1)=(if ln then [32]else [])++(jv ln N f.2 (lv+1)++q):=by rw[<-BU,C];simp
     have y:=g3;rw[y0,Ap]at y;obtain⟨c0,t0,e0,ae⟩:=zx5 (ln:=ln) (N:=N) (lv:=lv+1) y.1;obtain⟨T1,L1,n1⟩:=zj4 (λc H=>by
      split at H;rw[A4.1 H];decide
      ·cases H) (λc H=>by
      rw[e0]at H;have H:Td c0=Td c:=H;rw[<-Az H];exact ae) ab
     have ah:=zev ab;obtain⟨T2,L2,k2⟩:=zvp n f.2 (lv+1) d g1 g3 g2 s q _ ah V;have sl:=zo5 Q (by unfold zgb;simp);refine⟨(8,((b:Int),((b+(zgb f.1).length:Nat):Int)))::(2+indexByte q9 58,(((b+(zgb f.1).length:Nat):Int),((b+(zgb f.1).length+1:Nat):Int)))::(T1++T2),?_,?_⟩;refine Lex.step tq (qw Q (by unfold zgb;simp)) (Lex.step tc (qw C (by simp)) ?_);have:=L1.append L2;simp only[Ag,Aq]at this ⊢;rw[show b+((zgb f.1).length+((if ln=Ta then [32]else []:Bs).length+(jv ln N f.2 (lv+1)).length+1))=b+(zgb f.1).length+1+(if ln=Ta then [32]else []:Bs).length+(jv ln N f.2 (lv+1)).length from by omega];exact this;rw[ql (show(8:Int)≠1 by decide),ql (show(2+indexByte q9 58:Int)≠1 by decide),jr,n1,A5];exact⟨_,_,_,rfl,rfl,show(2+indexByte q9 58:Int)=7 by decide,by dsimp only;rw[sl.2,zx0 S],by dsimp only;rw[sl.1,sl.2],hf,rfl,k2⟩) m
    refine⟨_,by rw[Aq,show a+((xb ln N lv 125 (kvs.map λf=>zf8 ln (bl f.1) (jv ln N f.2 (lv+1)))).length+1)=a+1+(xb ln N lv 125 (kvs.map λf=>zf8 ln (bl f.1) (jv ln N f.2 (lv+1)))).length from by omega];exact Lex.step tk (qw i (by simp)) L,?_⟩;rw[ql (show(2+indexByte q9 123:Int)≠1 by decide)];refine⟨_,.inr (.inr (.inr ⟨_,_,_,rfl,show(2+indexByte q9 123:Int)=2 by decide,k,?_,?_⟩))⟩;rw[e2,e3,eta,o,G p];rw[e2,yh,Nat.add_comm]
theorem zo7(b:qa v=Ta)(c:(jv ln N v 0).length<=65536):∃n:Int,yu (jv ln N v 0)=(v,n,0):=by unfold qa Zf at b;simp only[Ap,decide_eq_true_eq]at b;obtain⟨T,L,k⟩:=zvp (ln:=ln) (N:=N) (tsz v) v 0 32 (Ab _) b.2 b.1.2 (jv ln N v 0) [] 0 (by simp) zx3;rw[AI]at L;exact⟨_,qi9 c L k b.1.1⟩
end
section
variable {xs ys:List Tr} {α:Type} {v:Tr}
theorem z7m(h:xs.Perm ys):w9 xs=w9 ys:=by
 induction h with
 |nil=>rfl
 |cons x _ c=>rw[w9,w9,c]
 |swap x y l=>simp only[w9];omega
 |trans _ _ a b=>rw[a,b]
theorem z7n(h:xs.Perm ys):Xj xs=Xj ys:=by
 induction h with
 |nil=>rfl
 |cons x _ c=>rw[Xj,Xj,c]
 |swap x y l=>simp only[Xj];omega
 |trans _ _ a b=>rw[a,b]
theorem zx8{xs ys:List Nat}(h:xs.Perm ys):xs.sum=ys.sum:=by
 induction h with
 |nil=>rfl
 |cons x _ c=>rw[List.sum_cons,List.sum_cons,c]
 |swap x y l=>simp only[List.sum_cons];omega
 |trans _ _ a b=>rw[a,b]
theorem zo8{p:α->Bool}{xs ys:List α}(h:xs.Perm ys):xs.all p=ys.all p:=by rw[AM,Av,Av];exact⟨λa x b=>a x (h.mem_iff.2 b),λa x b=>a x (h.mem_iff.1 b)⟩
theorem zap:∀(ks:List Bt) (ys:List Tr),ks.Nodup->ks.length=ys.length->(ks.map λq=>(q,zgu (ks.zip ys) q))=ks.zip ys
 |[],ys,_,_=>by simp
 |k::ks,[],_,h=>by simp at h
 |k::ks,y::ys,hn,h=>by rw[Ba]at hn;rw[Ar,B0];congr 1;rw[zgu,if_pos rfl];rw[<-zap ks ys hn.2 (by simpa using h)];refine CX λq b=>?_;have:k≠q:=λe=>hn.1 (e ▸ b);rw[zgu,if_neg this];congr 2;exact zap ks ys hn.2 (by simpa using h)
structure SrtF (v w:Tr):Prop where
 k:w.kind=v.kind
 t:w.text=v.text
 kp:w.keys.Perm v.keys
 ip:w.items.Perm (v.items.map ze)
 zp:(w.keys.zip w.items).Perm (v.keys.zip (v.items.map ze))
theorem qbs(b:zn v=Ta)(k:v.kind≠6):v.keys=[]:=by unfold zn at b;simp only[k,if_false]at b;by_cases h1:v.kind=1;simp[h1]at b;exact b.1.2;by_cases i:v.kind=2;simp[i]at b;exact b.1.2;by_cases e:v.kind=3;simp[e]at b;exact b.1.2;by_cases c:v.kind=4;simp[c]at b;exact b.1.2;by_cases h:v.kind=5;simp[h]at b;exact b.2;by_cases f:v.kind=7;simp[f]at b;exact b.1.2;simp[h1,i,e,c,h,f]at b
theorem zbc(b:zn v=Ta)(c:v.kind=6):v.keys.Nodup/\v.keys.length=v.items.length:=by unfold zn wh at b;simp[c]at b;exact⟨b.1.1.2,b.1.2⟩
theorem zsv(h:zn v=Ta):SrtF v (ze v):=by
 rw[y8];by_cases b:v.kind=6;rw[if_pos b];obtain⟨i,m⟩:=zbc h b;have k:=zap v.keys (v.items.map ze) i (by rw[Ao];exact m);have c:=(y5 v.keys).map λq=>(q,zgu (v.keys.zip (v.items.map ze)) q);rw[k]at c;have e:∀l:List Bt,l.zip (l.map λq=>zgu (v.keys.zip (v.items.map ze)) q)=l.map λq=>(q,zgu (v.keys.zip (v.items.map ze)) q):=by
  intro l;induction l with
  |nil=>rfl
  |cons x l n=>rw[Ar,B0,n,Ar]
 refine⟨rfl,rfl,y5 _,?_,?_⟩;have:=c.map (·.2);rw[A8,List.map_snd_zip (by rw[Ao];omega)]at this;exact this;show((jm v.keys).zip _).Perm _;rw[e];exact c;rw[if_neg b];have f:=qbs h b;exact⟨rfl,rfl,by rw[f],.refl _,by rw[f]⟩
theorem W0{a:List α}:a.isEmpty=decide (a.length=0):=by cases a <;> simp
theorem zvq{a b:List Bt}(h:a.Perm b):wh a=wh b:=by unfold wh;rw[zo8 h];congr 1;rw[AM,decide_eq_true_eq,decide_eq_true_eq];exact h.nodup_iff
theorem zsw{v w:Tr}(h1:w.kind=v.kind)(f:w.text=v.text)(c:w.keys.length=v.keys.length)(b:w.items.length=v.items.length)(e:wh w.keys=wh v.keys):zn w=zn v:=by unfold zn;rw[h1,f,e,W0,W0,W0,W0,c,b]
theorem zsx(ln:Bool)(nd lv:Nat)(ps:List Bs):(Ze ln nd lv ps).length+(if ps=[]then 0 else 1)=(ps.map λp=>p.length+(1+(yj ln nd lv).length)).sum:=by
 cases ps with
 |nil=>rfl
 |cons p ps=>
  have:∀b:List Bs,(b.flatMap λq=>44::(yj ln nd lv++q)).length=(b.map λp=>p.length+(1+(yj ln nd lv).length)).sum:=by
   intro b;induction b with
   |nil=>rfl
   |cons q b c=>rw[List.flatMap_cons,Ag,c,Ar,List.sum_cons];simp;omega
  rw[Ze,Ag,Ag,this,Ar,List.sum_cons,if_neg (by simp)];omega
theorem zsy{ln:Bool}{nd lv:Nat}{ps b:List Bs}(h:(ps.map Ct).Perm (b.map Ct)):(Xp ln nd lv ps).length=(Xp ln nd lv b).length:=by
 have e:(ps=[])↔(b=[]):=by have:=h.length_eq;rw[Ao,Ao]at this;rw[<-Bi,<-Bi,this]
 have h1:=zsx ln nd (lv+1) ps;have i:=zsx ln nd (lv+1) b;have f:=zx8 (h.map λn=>n+(1+(yj ln nd (lv+1)).length));rw[A8,A8]at f;have f:(ps.map λp=>p.length+(1+(yj ln nd (lv+1)).length)).sum=(b.map λp=>p.length+(1+(yj ln nd (lv+1)).length)).sum:=f;unfold Xp;rw[Ag,Ag];by_cases c:ps=[];rw[if_pos c]at h1 ⊢;rw[if_pos (e.1 c)]at i ⊢;omega;rw[if_neg c]at h1 ⊢;rw[if_neg (λq=>c (e.2 q))]at i ⊢;omega
theorem zj5{α β γ:Type}(f:α->β->γ):∀(a:List α) (b:List β),List.zipWith f a b=(a.zip b).map λp=>f p.1 p.2
 |[],_=>by simp
 |_::_,[]=>by simp
 |x::a,y::b=>by rw[List.zipWith_cons_cons,B0,Ar,zj5 f a b]
structure SrtG (v:Tr):Prop where
 sz:tsz (ze v)=tsz v
 dp:tdp (ze v)=tdp v
 okv:Q8 okV (ze v)=Q8 okV v
 nok:Q8 zn (ze v)=Ta
 tx:∀m,txB m v->txB m (ze v)
 len:∀(ln:Bool) (N lv:Nat),(jv ln N (ze v) lv).length=(jv ln N v lv).length
theorem zx9{f:Tr->Tr}:∀{l:List Tr},(∀x∈l,tsz (f x)=tsz x)->w9 (l.map f)=w9 l
 |[],_=>rfl
 |x::l,h=>by rw[Ar,w9,w9,h x Am,zx9 λy b=>h y (Ae _ b)]
theorem zya{f:Tr->Tr}:∀{l:List Tr},(∀x∈l,tdp (f x)=tdp x)->Xj (l.map f)=Xj l
 |[],_=>rfl
 |x::l,h=>by rw[Ar,Xj,Xj,h x Am,zya λy b=>h y (Ae _ b)]
theorem zj6:∀(n:Nat) (v:Tr),tsz v<=n->Q8 zn v=Ta->SrtG v
 |0,v,h,_=>by have:=Q2 v;omega
 |n+1,v,hz,hok=>by
  rw[y0,Ap,jk,Av]at hok;obtain⟨l,e⟩:=hok;have S:=zsv l;have c:∀x∈v.items,SrtG x:=λx b=>zj6 n x (by have:=yd b;omega) (e x b);have i:zn (ze v)=zn v:=zsw S.k S.t S.kp.length_eq (by rw[S.ip.length_eq,Ao]) (zvq S.kp);refine⟨?_,?_,?_,?_,λm h=>?_,λln N lv=>?_⟩;rw[yh,yh v,z7m S.ip,zx9 λx b=>(c x b).sz];rw[zji,zji v,z7n S.ip,zya λx b=>(c x b).dp];rw[y0,y0 _ v,jk,jk,zo8 S.ip,Eh];have s:okV (ze v)=okV v:=by unfold okV;rw[i,S.k]
  rw[s];congr 1;rw[AM,Av,Av];exact⟨λa x b=>by rw[<-(c x b).okv];exact a x b,λa x b=>by show Q8 okV (ze x)=Ta;rw[(c x b).okv];exact a x b⟩;rw[y0,i,l,Cs,jk,zo8 S.ip,Eh,Av];exact λx b=>(c x b).nok;rw[zmd]at h ⊢;obtain⟨⟨h1,r,q⟩,o⟩:=h;refine⟨⟨by rw[S.t];exact h1,by rw[S.kp.length_eq];exact r,λk e=>q k (S.kp.mem_iff.1 e)⟩,zhs.2 λx b=>?_⟩;obtain⟨y,f,rfl⟩:=AL.1 (S.ip.mem_iff.1 b);exact(c y f).tx m (zhs.1 o y f);rw[Yy,Yy (v:=v),S.k,S.t];split;rfl;split;rfl;split;simp only[Ag,Aq];congr 2;refine zsy ?_;rw[A8,A8];have h1:=S.ip.map λx=>(jv ln N x (lv+1)).length;rw[A8]at h1;refine h1.trans ?_;have:v.items.map ((λx=>(jv ln N x (lv+1)).length) ∘ ze)=v.items.map (Ct ∘ λx=>jv ln N x (lv+1)):=CX λx b=>(c x b).len ln N (lv+1);rw[this];split;simp only[Ag,Aq];congr 2;refine zsy ?_;have conv:∀(ks:List Bt) (xs:List Tr),(List.zipWith (zf8 ln) ks (xs.map λx=>jv ln N x (lv+1))).map Ct=(ks.zip xs).map λp=>(zf8 ln p.1 (jv ln N p.2 (lv+1))).length:=by intro ks xs;rw[zj5,List.zip_map_right,A8,A8];rfl
  rw[conv,conv];have h1:=S.zp.map λp=>(zf8 ln p.1 (jv ln N p.2 (lv+1))).length;refine h1.trans ?_;rw[List.zip_map_right,A8];have:(v.keys.zip v.items).map ((λp=>(zf8 ln p.1 (jv ln N p.2 (lv+1))).length) ∘ Prod.map id ze)=(v.keys.zip v.items).map λp=>(zf8 ln p.1 (jv ln N p.2 (lv+1))).length:=CX λp u=>by have:=(c p.2 (List.of_mem_zip u).2).len ln N (lv+1);show(zf8 ln p.1 (jv ln N (ze p.2) (lv+1))).length=_;unfold zf8;simp only[Ag,Aq,this]
  rw[this];rfl
theorem zgv(h:Zx v=Ta):qa (ze v)=qa v:=by unfold Zx at h;rw[Ap]at h;have S:=zj6 (tsz v) v (Ab _) h.2;have e:∀w:Tr,qa w=(Zf w&&Q8 okV w):=λw=>rfl;rw[e,e,S.okv];unfold Zf;rw[S.sz,S.dp]
theorem Jr(h:qa v=Ta):Zx v=Ta:=by have e:qa v=(Zf v&&Q8 okV v):=rfl;rw[e,Ap]at h;unfold Zx;rw[h.1,Cs];exact zam (λx b=>by unfold okV at b;rw[Ap]at b;exact b.2) v h.2
theorem zs0(h:Sm v):Sm (Zo v):=by unfold Zo;by_cases b:Zx v=Ta;rw[if_pos b];unfold Zx at b;rw[Ap]at b;have S:=zj6 (tsz v) v (Ab _) b.2;exact⟨by rw[S.sz];exact h.sz,S.tx _ h.tx⟩;rw[if_neg b];exact⟨by decide,by rw[zmd];exact⟨⟨by decide,by decide,by decide⟩,trivial⟩⟩
theorem zs1:qa (Zo v)=qa v:=by
 unfold Zo;by_cases b:Zx v=Ta;rw[if_pos b];exact zgv b;rw[if_neg b];cases hr:qa v with
 |true=>exact absurd (Jr hr) b
 |false=>rfl
end
end Go.X
end
section
namespace Go.X
open Go Go.X Go.Proofs Go.RowKit
set_option maxRecDepth 100000 in
section
theorem z7o{gl:Fr}(hg:GL gl){v:Tr}(J:Sm v){R:Tr->Prop}(o:R (Zo v)):PC Tp gl 37 [Arg.mk .tree v] [.tree] R:=by
 intro h M vs Y ag ha
 match vs,ha with
 |[u],⟨C,_⟩=>
  have C:RdV M .tree v u:=C;have y:=C;obtain⟨sk,si,rfl,rk,ri⟩:=yz C;apply PX.of;apply zjs v.kind v.text sk si;intro h1;have k1:Keep h.size h h1:=Keep.push _ _ (Ab _);have z1:h1.size=h.size+1:=Aj _;have Q:Blk h1 h.size #[.int .i64 v.kind,.string v.text,slV sk,slV si]:=Blk.new _ _ _;clear_value h1;intro n;have k2:Keep h1.size h1 n:=Keep.push _ _ (Ab _);have z2:n.size=h1.size+1:=Aj _;have O:Blk n h1.size #[.int .i64 0,.string ⟨#[]⟩,.slice Te 0 0,.slice Te 0 0]:=Blk.new _ _ _;clear_value n;have G:=Q.ofKeep k2;have D:Keep h.size h n:=k1.trans k2 (by omega);have H:Later h M n M:=Later.same ag D;refine⟨v.kind,v.text,sk,si,G.ld (cs:=[_,_,slV sk,slV si]),?_⟩;refine(zux hg J (R:=λr=>r=Zx v) rfl).go (vs:=[.agg #[.int .i64 v.kind,.string v.text,slV sk,slV si]]) Y H.ag (qc y qt) λw h8 E r m p P=>?_;subst P;have z8:=m.keep.size;have F:=O.keep (m.keep.get h1.size (by omega));have B8:=G.keep (m.keep.get h.size (by omega));have I:E h1.size=Te:=by rw[m.old _ (by omega)];exact ag.none (by omega)
  have t:=H.trans m;have stay:∀{g g':zb} {M':Fr},Later h M g M'->M' h1.size=Te->(∀j,j≠h1.size->g'[j]?=g[j]?)->g'.size=g.size->Later h M g' M':=λ {g g' M'} L hn f z=>⟨⟨by have:=L.keep.size;omega,λj V=>by rw[f j (by omega)];exact L.keep.get j V⟩,L.le,L.old,λc cs e=>by rw[f c (λh=>by subst h;rw[hn]at e;cases e)];exact L.ag c cs e⟩;refine⟨_,zhq p,λb=>?_,λb=>?_⟩;have b:Zx v=Tc:=by simpa using b
  unfold Zo at o;rw[if_neg (by rw[b];simp)]at o;refine jw (k:=0) (s:=⟨#[]⟩) (sk:=⟨Te,0,0⟩) (si:=⟨Te,0,0⟩) F λg f z B=>⟨_,_,_,_,B.ld (cs:=[.int .i64 0,.string ⟨#[]⟩,slV ⟨Te,0,0⟩,slV ⟨Te,0,0⟩]),?_⟩;exact⟨E,_,stay t I f z,Xe.2 (qf (v:=.mk 0 (bl []) [] []) zga zga),o⟩;have b:Zx v=Ta:=by simpa using b
  unfold Zo at o;rw[if_pos b]at o;unfold Zx Zf at b;simp only[Ap,decide_eq_true_eq]at b;refine⟨v.kind,v.text,sk,si,B8.ld (cs:=[_,_,slV sk,slV si]),?_⟩;refine(zx2 (tsz v) v (by omega) (Ab _) b.2 J h8 E _ m.ag (RdV.mono m.le y)).go λw aa A q i l S=>?_;subst S;obtain⟨xk,xi,rfl,U,N⟩:=yz (Xe.1 l);have Z:=i.keep.size;refine⟨_,_,xk,xi,rfl,?_⟩;refine jw (F.keep (i.keep.get h1.size (by omega))) λg f z B=>⟨_,_,xk,xi,B.ld (cs:=[_,_,slV xk,slV xi]),?_⟩;have x:A h1.size=Te:=by rw[i.old _ (by omega)];exact I
  exact⟨A,_,stay (t.trans i) x f z,Xe.2 (qf U N),o⟩
end
end Go.X
end
section
namespace Go.X
open Go Go.Lib
section
variable {l:List Tr} {m:Nat}
def zyb(k:Bt):Bt:=bl (107::(zmh (lb k)).1)
def zs2(v:Tr):Bt:=if v.kind=5 then bl [91]else if v.kind=6 then bl [123]else bl (jv Tc 0 v 0)
mutual
def Qc:Tr->Nat->List (Bt×Int)
 |.mk k s ks xs,n=>(if k=6 then Js xs ks n else if k=5 then zbt xs n else [])++[(zs2 (.mk k s ks xs),(n:Int))]
def zbt:List Tr->Nat->List (Bt×Int)
 |[],_=>[]
 |x::l,n=>Qc x n++zbt l (n+(Qc x n).length)
def Js:List Tr->List Bt->Nat->List (Bt×Int)
 |[],_,_=>[]
 |x::l,ks,n=>Qc x n++((zyb ks.head!,(n:Int))::Js l ks.tail (n+(Qc x n).length+1))
end
theorem zo9(v:Tr)(n:Nat):Qc v n=(if v.kind=6 then Js v.items v.keys n else if v.kind=5 then zbt v.items n else [])++[(zs2 v,(n:Int))]:=by cases v;rw[Qc]
mutual
def jg:Tr->Nat
 |.mk k _ _ xs=>(if k=6 then zaq 1 xs else if k=5 then zaq 0 xs else 0)+1
def zaq(d:Nat):List Tr->Nat
 |[]=>0
 |x::l=>jg x+d+zaq d l
end
theorem zvr(v:Tr):jg v=(if v.kind=6 then zaq 1 v.items else if v.kind=5 then zaq 0 v.items else 0)+1:=by cases v;rw[jg]
mutual
theorem xy:∀(v:Tr) (n:Nat),(Qc v n).length=jg v
 |.mk k s ks xs,n=>by rw[Qc,jg,Ag,CK];congr 1;split;exact zyd xs ks n;split;exact zyc xs n;rfl
theorem zyc:∀(l:List Tr) (n:Nat),(zbt l n).length=zaq 0 l
 |[],_=>by rw[zbt,zaq];rfl
 |x::l,n=>by rw[zbt,zaq,Ag,xy x n,zyc l];omega
theorem zyd:∀(l:List Tr) (ks:List Bt) (n:Nat),(Js l ks n).length=zaq 1 l
 |[],_,_=>by rw[Js,zaq];rfl
 |x::l,ks,n=>by rw[Js,zaq,Ag,Aq,xy x n,zyd l];omega
end
theorem zye:∀(l:List Tr) (m:List Tr) (n:Nat),zbt (l++m) n=zbt l n++zbt m (n+(zbt l n).length)
 |[],m,n=>by rw[zbt];rfl
 |x::l,m,n=>by rw[AD,zbt,zbt,zye l m,AF,Ag];congr 3;omega
theorem z7p(h:m<l.length)(n:Nat):zbt (l.take (m+1)) n=zbt (l.take m) n++Qc l[m] (n+(zbt (l.take m) n).length):=by rw[Aw h,zye,zbt,zbt,AQ]
theorem zyf:∀(l:List Tr) (m:List Tr) (ks:List Bt) (n:Nat),Js (l++m) ks n=Js l ks n++Js m (ks.drop l.length) (n+(Js l ks n).length)
 |[],m,ks,n=>by rw[Js];rfl
 |x::l,m,ks,n=>by rw[AD,Js,Js,zyf l m,AF,AD,Ag,Aq,Aq,<-List.drop_tail];congr 4;omega
theorem z7q{ks:List Bt}(h:m<l.length)(b:m<ks.length)(n:Nat):
  Js (l.take (m+1)) ks n=Js (l.take m) ks n++(Qc l[m] (n+(Js (l.take m) ks n).length)++[(zyb ks[m],((n+(Js (l.take m) ks n).length:Nat):Int))]):=by
 rw[Aw h,zyf,Js,Js,AK,CE (by omega)];congr 4;rw[Bw b];rfl
def zge(X:List (Bt×Int)):List (Bt×Int):=X.take 513
theorem zpa(X:List (Bt×Int)):(zge X).length<=513:=by unfold zge;rw[AK];omega
theorem zgf{X:List (Bt×Int)}(h:X.length<=513):zge X=X:=BG h
theorem zex(X:List (Bt×Int))(f:Nat->List (Bt×Int)):zge (zge X++f (zge X).length)=zge (X++f X.length):=by
 by_cases h:X.length<=513;rw[zgf h];have b:(zge X).length=513:=by unfold zge;rw[AK];omega
 unfold zge at b ⊢;rw[C8 (Nat.le_of_eq b.symm),C8 (by omega:513<=X.length),Ec];rfl
theorem zyg{X:List (Bt×Int)}(h:X.length<=513)(p:Bt×Int):(if X.length<=512 then X++[p]else X)=zge (X++[p]):=by
 split;rename_i b;rw[zgf (by simp;omega)];rename_i b;have:X.length=513:=by omega
 unfold zge;rw[C8 (by omega),BG h]
end
end Go.X
end
section
namespace Go.X
section
def bsR(P:Program)(t:TypeId)(n:Nat)(u:Value)(h:zb)(K:Value->zb->Prop):Prop:=
 wpN P (do let x <-Instr.buildSlice t n #[(0,u)];pure (Dr x)) h λnx h'=>match nx with
  |.value v=>K v h'
  |.skip=>K undef h'
  |_=>False
end
end Go.X
end
