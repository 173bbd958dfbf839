/- A part of the proof: nothing is stated here for its own sake. -/
import Derived.Test.YtbploiccompocaaGreatDoorPlD
import Derived.RangeFuncCalls
import Derived.OrdersIn
import Derived.Lib.AppendZerosOnto
import Derived.Lib.Overlaps
open _root_.Go.Addr renaming add->Af
open _root_.Array renaming ext'->Dr,getD_eq_getD_getElem?->Bo,getElem?_append_left->Cs,getElem?_eq_getElem->AP,getElem?_eq_some_iff->Ac,getElem?_push->BG,getElem?_setIfInBounds_ne->AW,getElem?_toList->AN,push->Et,replicate->Bn,size->CC,size_push->Ai,size_setIfInBounds->BX
open _root_.Bool renaming and_eq_true->AI,and_true->CL,eq_iff_iff->AB,false_or->DZ,not_eq_true'->Ce
open _root_.Go.Builtin renaming append_->Au,clear_->DN,copy_->Dc,firstCells->Cm,len_->CE,zeroCells->Bq
open _root_.Go.Code renaming cond->Ej,region->C4
open _root_.Go.Deferred renaming ofValue->DW
open _root_.False renaming elim->Du
open _root_.Go.Instr renaming lookup->D9,mapUpdate->CQ,next->Ey,range->Eu,storeAt->Al
open _root_.Int renaming toNat_natCast->Ad,toNat_of_nonneg->De,toNat_zero->BV
open _root_.Go.IntKind renaming wrap->Aa
open _root_.List renaming all_cons->CK,all_eq_true->AU,append_assoc->AY,append_nil->Bc,cons_append->Be,drop->B0,drop_drop->BS,drop_eq_getElem_cons->AC,drop_eq_nil_of_le->A6,drop_length->BC,drop_take->Ed,drop_zero->AQ,eq_nil_iff_forall_not_mem->CB,eq_nil_of_length_eq_zero->Az,ext_getElem?->Bb,getD_eq_getElem?_getD->Ct,getElem?_append_left->BA,getElem?_append_right->Bl,getElem?_drop->AH,getElem?_eq_getElem->Aj,getElem?_eq_none->Bu,getElem?_eq_some_iff->Ax,getElem?_take->AF,getElem_append_left->CG,getElem_append_right->Cd,getElem_mem->Ao,getElem_of_mem->A7,length->Bm,length_append->Av,length_cons->AR,length_drop->Bg,length_eq_zero_iff->B6,length_erase_of_mem->CF,length_map->Dw,length_nil->CR,length_pos_iff->BB,length_range->DG,length_take->AL,mem_append->Am,mem_append_left->Ap,mem_append_right->Ay,mem_cons->Ag,mem_cons_of_mem->Ah,mem_cons_self->Aq,mem_flatMap->Bj,mem_map->BR,mem_of_getElem?->CM,mem_of_mem_drop->BQ,mem_of_mem_take->Bi,mem_or_eq_of_mem_set->C9,mem_range->BO,mem_singleton->Cn,nil_append->BL,nodup_append->A0,nodup_cons->Cv,nodup_nil->Ea,nodup_range->Dh,range->AZ,size_toArray->DI,take->BJ,take_append_drop->Bp,take_length->AE,take_of_length_le->AM,take_succ_cons->B4,take_take->Ee,take_zero->Cr
open _root_.List.cons renaming injEq->Br
open _root_.Nat renaming add_mul->Bz,add_zero->CX,eq_of_beq_eq_true->Ak,eq_or_lt_of_le->Dn,le_of_ble_eq_true->BE,le_refl->Ae,lt_or_ge->AX,min_eq_left->CU,mul_le_mul_right->AO,mul_one->Cf,one_mul->Dk,sub_zero->BK,succ_mul->Dp,zero_add->AD,zero_le->BP,zero_mul->Da
open _root_.Option renaming bind_some->BW
open _root_.Option.some renaming inj->Aw
open _root_.Go.Region renaming wanted->BF
open _root_.Go.Value renaming agg->Ex,int->Ew,string->A5
open _root_.Go.Value.slice renaming injEq->AJ
set_option linter.unusedVariables false
set_option maxRecDepth 100000
namespace Go.X
end Go.X
namespace Go.Proofs
end Go.Proofs
open Go Go.X Go.Proofs
section
namespace Go.X
open Go Go.Code
section
variable {ro:Option Nat} {n:Nat} {P:Program} {f:FuncId} {args:Array Value} {w:World} {o:Oper} {a:Act} {e:Env} {h:zb}
abbrev rf(ro:Option Nat):Fence:={ Fence.wide with round:=ro }
def zj8(K:Act->World->Prop):Exit->Act->World->Prop
 |.normal,a,w=>K a w
 |_,_,_=>False
theorem Jy{K:Act->World->Prop}:¬LetsOut (zj8 K):=λ⟨_,_,h⟩=>h
theorem z2p{R:Ending->World->Prop}(h:Calls P f args w R):CallsIn (rf ro) n P f args w R:=by
 have h1:CallsIn Fence.wide n P f args w R:=callsIn_wide.2 h
 exact h1
theorem z6v{row:String}{R:Value->World->Prop}(h:Rows P row args w R):RowsIn (rf ro) n P row args w R:=by
 have h1:RowsIn Fence.wide n P row args w R:=λc cs _=>let ⟨v,w',r,s⟩:=h c cs;⟨v,w',r,stepsIn_wide.2 s⟩
 exact h1
def jm(o:Oper):Bool:=match o.op with
 |.defer _=>false
 |_=>true
theorem zry(h:jm o=true):∀c,o.op≠.defer c:=by
 intro c e
 unfold jm at h
 rw[e]at h;cases h
theorem qab(hd:jm o=true){K:Act->World->Prop}{Q:Exit->Act->World->Prop}(h:o.wp P a w K Q):o.wpIn (rf ro) n P a w K Q:=by
 refine⟨λ_ _=>trivial,?_⟩
 rw[Oper.semAt_eq _ _ _ (zry hd)]
 unfold Oper.wp at h
 generalize (execOp a.eval o).run P w=r at *
 cases r with
 |ok x w'=>
  cases x with
  |enter f args=>exact⟨λhx=>(by cases hx),z2p h⟩
  |row row args=>exact⟨λhx=>(by cases hx),z6v h⟩
  |value v=>exact h
  |skip=>exact h
  |defer d=>exact h
  |_=>exact h.elim
 |halt x w'=>cases x <;> first|exact h|exact h.elim
theorem zi2{ro:Option Nat}{n:Nat}{P:Program}{ops:Array Oper}{K:Act->World->Prop}{Q:Exit->Act->World->Prop}: ∀(l l2:List Oper) (a:Act) (w:World),l.all jm=true->wpList P ops (zj8 K) l a w->(∀a w,K a w->wpListIn (rf ro) n P ops Q l2 a w)->wpListIn (rf ro) n P ops Q (l++l2) a w
 |[],l2,a,w,_,h,hK=>hK a w h
 |o::l,l2,a,w,hd,h,hK=>by
  rw[CK,AI]at hd
  rw[Be]
  unfold wpListIn
  unfold wpList at h
  by_cases hw:BF o (yielded ops a.tmps)=true
  ·rw[if_pos hw]at h ⊢
   rcases h with h|⟨_,h⟩
   ·have h1:=qab (ro:=ro) (n:=n) hd.1 h
    have h2:=Oper.wpIn_mono (λa w hq=>zi2 l l2 a w hd.2 hq hK) h1
    refine⟨h2.1,?_⟩
    have h3:=h2.2
    revert h3
    generalize (o.semAt (rf ro).round a.eval).run P w=r
    cases r with
    |ok x w'=>
     cases x with
     |enter f args=>exact λh3=>⟨h3.1,CallsIn.mono h3.2 λe O he=>by cases e <;> first|exact he|exact he.elim|exact(Jy he).elim⟩
     |round l f tmps assign body=>exact λh3=>⟨h3.1,RoundIn.mono h3.2 λe O he=>by cases e <;> first|exact he|exact he.elim|exact(Jy he).elim⟩
     |_=>exact λh3=>h3
    |halt x w'=>cases x <;> first|exact λh3=>h3|exact λh3=>h3.elim
   ·exact(Jy h).elim
  ·rw[if_neg hw]at h ⊢
   exact⟨λ_ _=>trivial,zi2 l l2 _ _ hd.2 h hK⟩
theorem zts{ro:Option Nat}{n:Nat}{P:Program}{md:Region.Mode}{ops:Array Oper}{K:Act->World->Prop}(hd:∀(i:Nat) (o:Oper),ops[i]?=some o->jm o=true):∀(fuel:Nat) (listed:Array Bool) (a:Act) (w:World),wpAny P md ops (zj8 K) fuel listed a w->wpAnyIn (rf ro) n P md ops (zj8 K) fuel listed a w
 |0,_,_,_,h=>h
 |fuel+1,listed,a,w,h=>by
  refine⟨h.1,λi hi=>?_⟩
  have h2:=h.2 i hi
  unfold wpOp at h2
  unfold wpOpIn
  split at h2
  ·rename_i ho
   rw[ho];exact zts hd fuel _ _ _ h2
  ·rename_i o ho
   rw[ho]
   simp only
   by_cases hw:BF o (yielded ops a.tmps)=true
   ·rw[if_pos hw]at h2 ⊢
    rcases h2 with h2|⟨_,h2⟩
    ·exact Oper.wpIn_mono (λa w hq=>zts hd fuel _ a w hq) (qab (hd i o ho) h2)
    ·exact(Jy h2).elim
   ·rw[if_neg hw]at h2 ⊢
    exact⟨λ_ _=>trivial,zts hd fuel _ _ _ h2⟩
def znc(D:List Deferred)(a:Act):Act:={ a with defers:=a.defers++D }
theorem qac{D:List Deferred}{K:Act->World->Prop}{R:Act->World->Prop}(h:o.wp P a w K (zj8 R)):o.wp P (znc D a) w (λa1 w1=>∃a0,a1=znc D a0/\K a0 w1) (zj8 λa1 w1=>∃a0,a1=znc D a0/\R a0 w1):=by
 unfold Oper.wp at h ⊢
 have he:(znc D a).eval=a.eval:=rfl
 rw[he]
 have hp:∀d v,(znc D a).put d v=znc D (a.put d v):=λd v=>by cases d <;> rfl
 generalize (execOp a.eval o).run P w=r at *
 cases r with
 |ok x w'=>
  cases x with
  |enter f args=>exact Calls.mono h λe O he=>by cases e with
    |returned v=>exact⟨_,hp _ _,he⟩
    |panicked ch=>exact he
    |outgrown=>exact(Jy he).elim
  |row row args=>exact Rows.mono h λv O he=>⟨_,hp _ _,he⟩
  |value v=>exact⟨_,hp _ _,h⟩
  |skip=>exact⟨_,hp _ _,h⟩
  |defer d=>exact⟨(Act.put { a with defers:=d::a.defers } o.dst undef),(by cases o.dst <;> rfl),(show K (Act.put { a with defers:=d::a.defers } o.dst undef) w' from h)⟩
  |_=>exact h.elim
 |halt x w'=>cases x <;> first|exact h|exact h.elim
theorem znd{P:Program}{md:Region.Mode}{ops:Array Oper}{D:List Deferred}{K:Act->World->Prop}:∀(fuel:Nat) (listed:Array Bool) (a:Act) (w:World),wpAny P md ops (zj8 K) fuel listed a w->wpAny P md ops (zj8 λa1 w1=>∃a0,a1=znc D a0/\K a0 w1) fuel listed (znc D a) w
 |0,_,a,_,h=>⟨h.1,a,rfl,h.2⟩
 |fuel+1,listed,a,w,h=>by
  refine⟨λhn=>⟨a,rfl,h.1 hn⟩,λi hi=>?_⟩
  have h2:=h.2 i hi
  unfold wpOp at h2 ⊢
  have hy:yielded ops (znc D a).tmps=yielded ops a.tmps:=rfl
  split at h2
  ·exact znd fuel _ _ _ h2
  ·rename_i o ho
   rw[hy]
   by_cases hw:BF o (yielded ops a.tmps)=true
   ·rw[if_pos hw]at h2 ⊢
    rcases h2 with h2|⟨_,h2⟩
    ·exact .inl (Oper.wp_mono (λa1 w1 ⟨a0,e,hq⟩=>by rw[e];exact znd fuel _ a0 w1 hq) (qac h2))
    ·exact(Jy h2).elim
   ·rw[if_neg hw]at h2 ⊢
    have hp:(znc D a).put o.dst undef=znc D (a.put o.dst undef):=by cases o.dst <;> rfl
    rw[hp]
    exact znd fuel _ _ _ h2
def YX(P:Program)(l:Nat)(args:Array Value)(h:zb)(K:Value->zb->Prop):Prop:=
 ∀(m:Nat) (B:World) (d:Nat),∃fn tmps assign body,(Instr.yield l args).run P (mk B d h)=.ok (.round l fn tmps assign body) (mk B d h) /\
  RoundIn (rf none) m P l fn tmps assign body (mk B d h) λe w'=>∃v d' h',e=.returned v/\w'=mk B d' h'/\K v h'
def qcc(o:Oper):Bool:=match o.op with
 |.call c=>match c.callee with
  |.value x=>!(J2 x)
  |_=>false
 |_=>false
def zpv:List Oper->Option (List Oper×Oper×List Oper)
 |[]=>none
 |o::l=>bif qcc o then some ([],o,l)else match zpv l with
  |some (pre,o',post)=>some (o::pre,o',post)
  |none=>none
theorem zzd{l:List Oper}:∀{pre O:List Oper} {o:Oper},zpv l=some (pre,o,O)->l=pre++o::O:=by
 induction l with
 |nil=>intro pre O o h;cases h
 |cons x l ih=>
  intro pre O o h
  rw[zpv]at h
  cases hd:qcc x with
  |true=>
   rw[hd,cond_true]at h
   have h:=Aw h
   have h1:=congrArg Prod.fst h
   have h2:=congrArg (λq=>q.2.1) h
   have h3:=congrArg (λq=>q.2.2) h
   simp only at h1 h2 h3
   rw[<-h1,<-h2,<-h3];rfl
  |false=>
   rw[hd,cond_false]at h
   cases hs:zpv l with
   |none=>rw[hs]at h;cases h
   |some q=>
    obtain⟨aa,o',Z⟩:=q
    rw[hs]at h
    have h:=Aw h
    have h1:=congrArg Prod.fst h
    have h2:=congrArg (λq=>q.2.1) h
    have h3:=congrArg (λq=>q.2.2) h
    simp only at h1 h2 h3
    rw[ih hs,<-h1,<-h2,<-h3];rfl
def ztt(P:Program)(o:Oper)(e:Env)(h:zb)(K:Value->zb->Prop):Prop:=match o.op with
 |.call c=>match c.callee with
  |.value x=>match zam e [] x with
   |some (.func (.yield l) A C)=>bif (bif (Nat.beq A.size 0)then(Nat.beq C.size 0)else false)then(bif known e [] c.args.toList then YX P l (c.args.map (rho e [])) h λv h'=>typed P o.type v λv'=>K v' h' else False)else False
   |_=>False
  |_=>False
 |_=>False
theorem zpw{n m:Nat}{K:Value->zb->Prop}(H:ztt P o e h K)(hs:Sat n e a)(B:World)(d:Nat){next:Act->World->Prop}{Q:Exit->Act->World->Prop}
  (hn:∀v d' h',K v h'->next (a.put o.dst v) (mk B d' h')):o.wpIn (rf none) m P a (mk B d h) next Q:=by
 unfold ztt at H
 split at H
 ·rename_i c ho
  split at H
  ·rename_i x hx
   split at H
   ·rename_i l A C hl
    obtain⟨hA,hC,H⟩:A=#[]/\C=#[]/\(bif known e [] c.args.toList then YX P l (c.args.map (rho e [])) h λv h'=>typed P o.type v λv'=>K v' h' else False):=by
     cases h1:Nat.beq A.size 0 with
     |false=>rw[h1]at H;exact Du H
     |true=>
      cases h2:Nat.beq C.size 0 with
      |false=>rw[h1,h2]at H;exact Du H
      |true=>rw[h1,h2]at H;exact⟨Array.eq_empty_of_size_eq_zero (Ak h1),Array.eq_empty_of_size_eq_zero (Ak h2),H⟩
    subst hA;subst hC
    cases hk:known e [] c.args.toList with
    |false=>rw[hk]at H;exact Du H
    |true=>
     rw[hk]at H
     simp only[cond_true]at H
     obtain⟨fn,tmps,assign,body,h1,h2⟩:=H (m-1) B d
     have hv:a.eval x=.func (.yield l) #[] #[]:=jz hs (c:=[]) trivial hl
     have O:c.args.map a.eval=c.args.map (rho e []):=by
      apply Array.map_congr_left
      intro y hy
      exact xy hs (c:=[]) trivial hk y (by simpa using hy)
     have hr:(o.semAt (rf none).round a.eval).run P (mk B d h)=.ok (.round l fn tmps assign body) (mk B d h):=by
      show(execOp a.eval o).run P (mk B d h)=_
      simp only[execOp,ho,resolve,hx,hv,DW,Sem.run_bind,Sem.run_pure,Result.andThen_ok,invoke]
      rw[O]
      simpa using h1
     refine⟨λ_ _=>trivial,?_⟩
     rw[hr]
     refine⟨λhx=>(by cases hx),h2.mono ?_⟩
     rintro e' w' ⟨v,d',h',rfl,rfl,h3⟩
     exact hn _ _ _ (Zn h3)
   ·exact Du H
  ·exact Du H
 ·exact Du H
def zrz(P:Program)(n:Nat)(tl:List (Nat×Nat))(id:Nat)(ops:Array Oper)(O:Bool)(K:Env->zb->Prop)(e:Env)(h:zb):Prop:=
 match zpv ops.toList with
 |none=>regionF P n tl id ops O K e h
 |some (pre,o,post)=>bif O then False else bif (pre.all jm&&post.all jm)then(match o.guard with
  |none=>bif yu n [] o.dst then wR P n ops (λe1 h1=>ztt P o e1 h1 λv h2=>wR P n ops K post (putO e1 o.dst [] v) h2) pre e h else False
  |some _=>False)else False
theorem zne(hm:P.follows .mixedOrders=true){tl:List (Nat×Nat)}{id:Nat}{ops:Array Oper}{Z:Bool}{K:Env->zb->Prop}
  (H:zrz P n tl id ops Z K e h) (m:Nat) (B:World) (d:Nat) (hs:Sat n e a) {Q:Exit->Act->World->Prop}
  (hQ:∀e' a' d' h',Sat n e' a'->Same (jj ops.toList) a a'->K e' h'->Q .normal a' (mk B d' h')):(C4 id ops Z).wpIn (rf none) m P Q a (mk B d h):=by
 unfold zrz at H
 split at H
 ·exact wpIn_wide.2 (zcu hm H B d hs hQ)
 ·rename_i pre o O ah
  have hl:=zzd ah
  cases Z with
  |true=>exact Du H
  |false=>
   simp only[cond_false]at H
   cases hnd:(pre.all jm&&O.all jm)with
   |false=>rw[hnd]at H;exact Du H
   |true=>
    rw[hnd]at H
    simp only[cond_true]at H
    rw[AI]at hnd
    split at H
    ·rename_i hg
     cases hd:yu n [] o.dst with
     |false=>rw[hd]at H;exact Du H
     |true=>
      rw[hd]at H
      simp only[cond_true]at H
      refine wpIn_region_list ?_
      have ae:∀x∈jj pre,x∈jj ops.toList:=λx hx=>by rw[hl,Z2];exact Ap _ hx
      have aa:∀i,o.dst=some i->i∈jj ops.toList:=λi hi=>by rw[hl,Z2];exact Ay _ (by simp[jj,hi])
      have ac:∀x∈jj O,x∈jj ops.toList:=λx hx=>by
       rw[hl,Z2]
       refine Ay _ ?_
       unfold jj
       split
       ·exact Ah _ hx
       ·exact hx
      rw[hl]
      refine zi2 (K:=λa1 w1=>∃e1 d1 h1,w1=mk B d1 h1/\Sat n e1 a1/\Same (jj ops.toList) a a1/\ztt P o e1 h1 λv h2=>wR P n ops K O (putO e1 o.dst [] v) h2) pre (o::O) a _ hnd.1 (J4 B pre e h a d H hs λe' a' d' h' q1 q2 q3=>⟨e',d',h',rfl,q1,q2.mono ae,q3⟩) ?_
      rintro a1 w1 ⟨e1,d1,h1,rfl,s1,m1,q1⟩
      unfold wpListIn
      have af:BF o (yielded ops a1.tmps)=true:=by simp[BF,hg]
      rw[if_pos af]
      refine zpw q1 s1 B d1 λv d2 h2 q2=>?_
      have s2:Sat n (putO e1 o.dst [] v) (a1.put o.dst v):=s1.putO hd (λ_=>rfl) (λhv=>absurd trivial hv)
      rw[<-Bc O]
      refine zi2 (K:=λa' w'=>Q .normal a' w') O [] _ _ hnd.2 (J4 B O _ _ _ _ q2 s2 λe' a' d' h' r1 r2 r3=>?_) λa w h=>h
      exact hQ e' a' d' h' r1 ((m1.trans (Same.put a1 o.dst v aa)).trans (r2.mono ac)) r3
    ·exact Du H
def WI(P:Program)(n:Nat)(pl:Plan):Code->zjn->Env->zb->Prop
 |.skip,Q,e,h=>Q .normal e h
 |.ret,Q,e,h=>Q .ret e h
 |.exit id,Q,e,h=>Q (.exit id) e h
 |.label _,Q,e,h=>Q .normal e h
 |.goto l,Q,e,h=>Q (.goto l) e h
 |.region id ops draw,Q,e,h=>zrz P n pl.tails id ops draw (λe h=>Q .normal e h) e h
 |.seq x y,Q,e,h=>match z03 pl.joins (wq y)with
  |none=>WI P n pl x (zug (λe h=>WI P n pl y Q e h) Q) e h
  |some J=>z8y J (λe h=>WI P n pl y Q e h) (λK=>WI P n pl x (zug K Q) e h) (W9 (Qw x) e)
 |.cond c x y,Q,e,h=>match zam e [] c with
  |some (.bool b)=>(b=true->WI P n pl x Q e h)/\(b=false->WI P n pl y Q e h)
  |_=>False
 |.block id x,Q,e,h=>WI P n pl x (zsj id Q) e h
 |.loop x,Q,e,h=>match z03 pl.loops (wq x)with
  |some J=>z8z J (λQn e h=>WI P n pl x (zug Qn Q) e h) (W9 (Qw x) e) e h
  |none=>False
 |_,_,_,_=>False
theorem z2q(hm:P.follows .mixedOrders=true){pl:Plan}:∀(c:Code) (Q:zjn) (e:Env) (h:zb),WI P n pl c Q e h ->
  ∀(m:Nat) (B:World) (d:Nat) (a:Act),Sat n e a->c.wpIn (rf none) m P (z81 n B (Qw c) a Q) a (mk B d h):=by
 intro c
 induction c with
 |skip=>exact λQ e h H m B d a hs=>wpIn_skip ⟨e,d,h,rfl,hs,Same.refl _ _,H⟩
 |ret=>exact λQ e h H m B d a hs=>wpIn_ret ⟨e,d,h,rfl,hs,Same.refl _ _,H⟩
 |exit id=>exact λQ e h H m B d a hs=>wpIn_exit ⟨e,d,h,rfl,hs,Same.refl _ _,H⟩
 |label l=>exact λQ e h H m B d a hs=>wpIn_label ⟨e,d,h,rfl,hs,Same.refl _ _,H⟩
 |goto l=>exact λQ e h H m B d a hs=>wpIn_goto ⟨e,d,h,rfl,hs,Same.refl _ _,H⟩
 |region id ops az=>
  exact λQ e h H m B d a hs=>zne hm H m B d hs λe' a' d' h' q1 q2 q3=>⟨e',d',h',rfl,q1,q2,q3⟩
 |seq x y aa Z=>
  intro Q e h H m B d a hs
  simp only[WI]at H
  have hl:∀i∈Qw x,i∈Qw (x.seq y):=λi hi=>Ap _ hi
  have hr:∀i∈Qw y,i∈Qw (x.seq y):=λi hi=>Ay _ hi
  split at H
  ·refine wpIn_seq (wpIn_mono (aa _ _ _ H m B d a hs) ?_)
   rintro ex a1 w1 ⟨e1,d1,h1,rfl,s1,m1,q1⟩
   cases ex with
   |normal=>
    refine wpIn_mono (Z _ _ _ q1 m B d1 a1 s1) ?_
    rintro ex a2 w2 ⟨e2,d2,h2,rfl,s2,m2,q2⟩
    exact⟨e2,d2,h2,rfl,s2,(m1.mono hl).trans (m2.mono hr),q2⟩
   |_=>exact⟨e1,d1,h1,rfl,s1,m1.mono hl,q1⟩
  ·rename_i J hJ
   have H':=H (mkC (xj J) λvs=>λh=>WI P n pl y Q (Yz J vs++W9 (Qw x) e) h) (zl5 λvs h hq=>hq)
   refine wpIn_seq (wpIn_mono (aa _ _ _ H' m B d a hs) ?_)
   rintro ex a1 w1 ⟨e1,d1,h1,rfl,s1,m1,q1⟩
   cases ex with
   |normal=>
    obtain⟨vs,q,hv,hq,hk⟩:=zel q1
    have ak:=zl4 hq
    subst ak
    have ay:Sat n (Yz J vs++W9 (Qw x) e) a1:=zcv hs s1.defers s1.size m1 (wm s1 hv)
    refine wpIn_mono (Z _ _ _ hk m B d1 a1 ay) ?_
    rintro ex a2 w2 ⟨e2,d2,h2,rfl,s2,m2,q2⟩
    exact⟨e2,d2,h2,rfl,s2,(m1.mono hl).trans (m2.mono hr),q2⟩
   |_=>exact⟨e1,d1,h1,rfl,s1,m1.mono hl,q1⟩
 |cond c x y aa Z=>
  intro Q e h H m B d a hs
  simp only[WI]at H
  have hl:∀i∈Qw x,i∈Qw (Ej c x y):=λi hi=>Ap _ hi
  have hr:∀i∈Qw y,i∈Qw (Ej c x y):=λi hi=>Ay _ hi
  split at H
  ·rename_i b hb
   refine wpIn_cond_split (jz hs (c:=[]) trivial hb) (λah=>?_) (λaj=>?_)
   ·refine wpIn_mono (aa _ _ _ (H.1 ah) m B d a hs) ?_
    rintro ex a2 w2 ⟨e2,d2,h2,rfl,s2,m2,q2⟩
    exact⟨e2,d2,h2,rfl,s2,m2.mono hl,q2⟩
   ·refine wpIn_mono (Z _ _ _ (H.2 aj) m B d a hs) ?_
    rintro ex a2 w2 ⟨e2,d2,h2,rfl,s2,m2,q2⟩
    exact⟨e2,d2,h2,rfl,s2,m2.mono hr,q2⟩
  ·exact H.elim
 |block id x ih=>
  intro Q e h H m B d a hs
  refine wpIn_block (wpIn_mono (ih _ _ _ H m B d a hs) ?_)
  rintro ex a1 w1 ⟨e1,d1,h1,rfl,s1,m1,q1⟩
  cases ex with
  |exit i=>
   simp only[zsj]at q1
   simp only[Exit.inBlock]
   by_cases hb:Nat.beq i id=true
   ·rw[if_pos (Ak hb)]
    simp only[hb,cond_true]at q1
    exact⟨e1,d1,h1,rfl,s1,m1,q1⟩
   ·rw[if_neg (λhe=>hb (by rw[he];simp))]
    simp only[hb,cond_false]at q1
    exact⟨e1,d1,h1,rfl,s1,m1,q1⟩
  |_=>exact⟨e1,d1,h1,rfl,s1,m1,q1⟩
 |loop x ih=>
  intro Q e h H m B d a hs
  simp only[WI]at H
  split at H
  ·rename_i J hJ
   obtain⟨I,μ,h0,ac⟩:=H
   obtain⟨ap,p0,an,am,ax⟩:=zel h0
   let F:=zuf (xj J) I μ
   let at_:Act->Option ((zb->Prop)×(zb->Nat)):=λa1=>(zan (λi=>some (zx a1 i)) J).bind λvs=>zoe (xj J) vs F
   refine wpIn_loop (λa1 w1=>∃d1 h1 vs p,w1=mk B d1 h1/\a1.defers=[]/\a1.tmps.size=n/\Same (Qw x) a a1/\zan (λi=>some (zx a1 i)) J=some vs/\zoe (xj J) vs F=some p/\p.1 h1)
    (λa1 w1=>match at_ a1 with|some p=>p.2 w1.heap|none=>0) ⟨d,h,ap,p0,rfl,hs.defers,hs.size,Same.refl _ _,wm hs an,am,ax⟩ ?_
   rintro a1 w1 ⟨d1,h1,vs,p,rfl,al,ai,O,hv,hp,hI⟩
   have s1:Sat n (Yz J vs++W9 (Qw x) e) a1:=zcv hs al ai O hv
   have hb:=zhk hp ac h1 hI
   refine wpIn_mono (ih _ _ _ hb m B d1 a1 s1) ?_
   rintro ex a2 w2 ⟨e2,d2,h2,rfl,s2,m2,q2⟩
   cases ex with
   |normal=>
    obtain⟨au,q,ae,hq,af,ar⟩:=zel q2
    refine⟨⟨d2,h2,au,q,rfl,s2.defers,s2.size,O.trans m2,wm s2 ae,hq,af⟩,?_⟩
    have e1:at_ a1=some p:=by simp only[at_,hv,BW];exact hp
    have e2:at_ a2=some q:=by simp only[at_,wm s2 ae,BW];exact hq
    rw[e1,e2]
    exact ar
   |_=>exact⟨e2,d2,h2,rfl,s2,O.trans m2,q2⟩
  ·exact H.elim
 |_=>exact λQ e h H=>H.elim
def XCI(P:Program)(f:FuncId)(args:Array Value)(h:zb)(R:Value->zb->Prop):Prop:=
 ∀(m:Nat) (B:World) (d:Nat),CallsIn (rf none) m P f args (mk B d h) λe w'=>∃v d' h',e=.returned v/\w'=mk B d' h'/\R v h'
theorem zr0(hm:P.follows .mixedOrders=true)(pl:Plan)(vs:List Value){fn:Func}{rs:List ResultVar}(hf:P.funcs[f]?=some fn)(hb:J8 fn=true)(hr:fn.results.toList=rs)(hn:fn.ntmps=n)
  (hz:Nat.ble vs.length n=true) {R:Value->zb->Prop} (H:WI P n pl (codeOf fn) (qat P rs R) (zwm 0 vs) h):XCI P f vs.toArray h R:=by
 have O:fn.body=some (codeOf fn):=by
  unfold J8 at hb
  unfold codeOf
  split at hb
  ·rename_i c hc;rw[hc]
  ·cases hb
 intro m B d
 subst hn
 refine callsIn_of_wp hf O trivial ?_ rfl
 have aa:vs.length<=fn.ntmps:=BE hz
 have hs:Sat fn.ntmps (zwm 0 vs) { tmps:=vs.toArray++Bn (fn.ntmps-vs.toArray.size) undef,defers:=[] }:=by
  refine⟨rfl,by simp;omega,?_⟩
  refine X4 vs.toArray _ vs 0 λj v hj=>?_
  have Z:j<vs.length:=by
   rcases AX j vs.length with h|h
   ·exact h
   ·rw[Bu h]at hj;cases hj
  simp only[AD,Bo]
  rw[Cs (by simpa using Z)]
  simp[hj]
 refine wpIn_mono (z2q hm (codeOf fn) _ _ _ H m B d _ hs) ?_
 rintro ex a w ⟨e1,d1,h1,rfl,s1,m1,q1⟩
 cases ex with
 |normal=>
  obtain⟨v,hv,hq⟩:=Ye s1 hr q1
  exact⟨s1.defers,v,hq B d1,v,d1,h1,rfl,rfl,hv⟩
 |ret=>
  obtain⟨v,hv,hq⟩:=Ye s1 hr q1
  exact⟨s1.defers,v,hq B d1,v,d1,h1,rfl,rfl,hv⟩
 |_=>exact q1.elim
end
end Go.X
end
section
namespace Go.X.U
section
variable {o:Oper} {ρ:Operand -> Value} {h h':zb} {a b:Act} {P:Program} {ops:Array Oper} {listed:Array Bool} {i n:Nat}
def zav(o:Oper):Option Bool:=match o.op with
 |.fieldAddr _ _ _=>some true
 |.indexAddr _ _ _=>some true
 |.move _=>some true
 |.assign _=>some true
 |.load _ _=>some false
 |.binOp _ _ _ _ _=>some true
 |.call c=>match c.callee with
  |.builtin .len=>some true
  |_=>none
 |_=>none
def zh(o:Oper):Bool:=match zav o with
 |some _=>true
 |none=>false
def zq(o:Oper):Bool:=match zav o with
 |some b=>!b
 |none=>false
def heavyL:Nat->List Oper->List Nat
 |_,[]=>[]
 |k,o::l=>bif zh o then heavyL (k+1) l else k::heavyL (k+1) l
def Je(ops:Array Oper):List Nat->Bool
 |[]=>true
 |[_]=>true
 |i::j::l=>bif Region.waitsFor .any ops j i then Je ops (j::l)else false
def wn(ops:Array Oper)(i:Nat):List Nat->Bool
 |[]=>false
 |j::l=>bif Region.waitsFor .any ops j i then true else wn ops i l
def zhe(ops:Array Oper)(T:List Nat):Nat->Bool
 |0=>false
 |k+1=>bif (match ops[k]? with
  |some o=>bif zq o then !(wn ops k T)else false
  |none=>false)then true else zhe ops T k
def j8(l:List Oper):Bool:=l.all λo=>match o.guard with
 |none=>xf o.op
 |some _=>false
def Jf(ops:Array Oper):Nat->Bool
 |0=>true
 |k+1=>bif (match ops[k]? with
  |some o=>bif xm ops k (tmpsOf o.op.operands.toList) ops.size then(bif zh o then(heavyL 0 ops.toList).all λj=>!(Region.waitsFor .any ops k j)||(match jd ops j with
   |some t=>!(memN (tmpsOf o.op.operands.toList) t)
   |none=>true)else true)else false
  |none=>true)then Jf ops k else false
def mixB(ops:Array Oper):Bool:=bif j8 ops.toList then(bif qo ops ops.size then(bif wy ops ops.size then(bif Je ops (heavyL 0 ops.toList)then Jf ops ops.size else false)else false)else false)else false
def zvo(o:Oper)(ρ:Operand->Value)(h h':zb):Prop:=match o.op with
 |.load _ x=>∀c,ρ x=.pointer (some c)->h'[c.block]?=h[c.block]?
 |_=>True
theorem zze(o:Oper)(ρ:Operand->Value)(h:zb):zvo o ρ h h:=by
 unfold zvo;split
 ·exact λ_ _=>rfl
 ·trivial
theorem zfa{ρ ρ':Operand->Value}(e:∀x∈o.op.operands.toList,ρ x=ρ' x)(H:zvo o ρ h h'):zvo o ρ' h h':=by
 unfold zvo at H ⊢
 split
 ·rename_i t x ho
  rw[ho]at H e
  exact λc hc=>H c (by rw[e x (by simp[Op.operands]),hc])
 ·trivial
def qS(P:Program)(o:Oper)(ρ:Operand->Value)(h:zb)(K:Value->Prop):Prop:=match o.op with
 |.call _=>zeh P (execOp ρ o) K
 |_=>Zw P o ρ none h K
def zpx(ops:Array Oper)(T:List Nat)(e:Env)(h0 h':zb):Nat->Prop
 |0=>True
 |k+1=>match ops[k]? with
  |some o=>bif zq o then(bif wn ops k T then zpx ops T e h0 h' k else(match o.op with
   |.load _ x=>(match zam e [] x with
    |some (.pointer (some c))=>h'[c.block]?=h0[c.block]?/\zpx ops T e h0 h' k
    |_=>False)
   |_=>False))else zpx ops T e h0 h' k
  |none=>zpx ops T e h0 h' k
theorem zlm{ops:Array Oper}{T:List Nat}{e:Env}{h0 h':zb}:∀{m:Nat},zpx ops T e h0 h' m->∀k ok,k<m->ops[k]?=some ok->zq ok=true->wn ops k T=false->∃t x c,ok.op=.load t x/\zam e [] x=some (.pointer (some c))/\h'[c.block]?=h0[c.block]?
 |0,_,k,_,hk,_,_,_=>by omega
 |m+1,H,k,ok,hk,ho,hl,ha=>by
  unfold zpx at H
  rcases AX k m with h1|h1
  ·have H':zpx ops T e h0 h' m:=by
    split at H
    ·rename_i o _
     cases hlo:zq o with
     |false=>rw[hlo]at H;exact H
     |true=>
      rw[hlo]at H
      simp only[cond_true]at H
      cases haw:wn ops m T with
      |true=>rw[haw]at H;exact H
      |false=>
       rw[haw]at H
       simp only[cond_false]at H
       split at H
       ·split at H
        ·exact H.2
        ·exact H.elim
       ·exact H.elim
    ·exact H
   exact zlm H' k ok h1 ho hl ha
  ·have:k=m:=by omega
   subst this
   rw[ho]at H
   simp only[hl,ha,cond_true,cond_false]at H
   split at H
   ·rename_i t x O
    split at H
    ·rename_i c hc
     exact⟨t,x,c,O,hc,H.1⟩
    ·exact H.elim
   ·exact H.elim
def wU(P:Program)(n:Nat)(h:zb)(K:Env->Prop):List Oper->Env->Prop
 |[],e=>K e
 |o::l,e=>bif zh o then(bif yu n [] o.dst then(bif xf o.op then(bif known e [] o.op.operands.toList then qS P o (rho e []) h λv=>wU P n h K l (putO e o.dst [] v)else False)else False)else False)else wU P n h K l e
def wT(P:Program)(n:Nat)(ops:Array Oper)(h0:zb)(K:Env->zb->Prop):List Nat->List Nat->Env->zb->Prop
 |_,[],e,h=>K (clean e) h
 |T,j::l,e,h=>match ops[j]? with
  |some o=>bif yu n [] o.dst then opW P o e [] h λv h'=>(bif zhe ops (j::T) ops.size then zpx ops (j::T) (putO e o.dst [] v) h0 h' ops.size/\wT P n ops h0 K (j::T) l (putO e o.dst [] v) h' else wT P n ops h0 K (j::T) l (putO e o.dst [] v) h')else False
  |none=>False
def qw:Nat->List Oper->(Nat->Value)->Act->Act
 |_,[],_,a=>a
 |k,o::l,f,a=>qw (k+1) l f (bif zh o then a.put o.dst (f k)else a)
theorem y7{a b:Act}:∀{l:List Operand},(∀t∈tmpsOf l,zx a t=zx b t)->∀x∈l,a.eval x=b.eval x
 |[],_,x,hx=>by cases hx
 |y::l,h,x,hx=>by
  rcases Ag.1 hx with rfl|hx
  ·cases x with
   |tmp t=>exact h t (by simp[tmpsOf])
   |const v=>rfl
   |global g=>rfl
   |func f=>rfl
  ·refine y7 (l:=l) (λt ht=>h t ?_) x hx
   cases y <;> simp[tmpsOf,ht]
theorem y8(hs:xf o.op=true)(h:∀t∈tmpsOf o.op.operands.toList,zx a t=zx b t):execOp a.eval o=execOp b.eval o:=
 execOp_congr o (λcs b hb=>by rw[hb]at hs;cases hs) λx hx=>y7 h x (by simpa using hx)
theorem zpy{q:Addr}(e:h'[q.block]?=h[q.block]?):zm h' q=zm h q:=by unfold zm;rw[e]
theorem z6w(q:Addr)(i:Nat):(q.add i).block=q.block:=by unfold Af;split <;> rfl
theorem zln{h h':zb}{q:Addr}(e:h'[q.block]?=h[q.block]?):∀{vs:List Value} {i:Nat},ze h q i vs->ze h' q i vs
 |[],_,_=>trivial
 |_::_,i,⟨h1,h2⟩=>⟨(zpy (q:=q.add i) (by rw[z6w];exact e)).trans h1,zln e h2⟩
theorem Xz(hq:zh o=true){K:Value->Prop}(H:qS P o ρ h K):
  ∃v,K v/\∀h',(zq o=false\/zvo o ρ h h')->QExec P (execOp ρ o) h' (.value v):=by
 unfold qS at H
 cases ho:o.op with
 |load t x=>
  rw[ho]at H
  simp only at H
  unfold Zw at H
  rw[ho]at H
  simp only at H
  unfold zlx at H
  split at H
  ·rename_i q b hp hv
   obtain⟨y,h1,h2⟩:=H
   refine⟨_,h2,λh' hk=>?_⟩
   have hb:h'[q.block]?=h[q.block]?:=by
    rcases hk with hk|hk
    ·unfold zq zav at hk;rw[ho]at hk;cases hk
    ·unfold zvo at hk;rw[ho]at hk;exact hk q hp
   simp only[execOp,ho,hp]
   exact(zco hv (by rw[zpy hb];exact h1.out trivial)).val
  ·rename_i q l hp hv
   obtain⟨vs,h0,⟨h1,h2⟩,_⟩:=Q5 H (wl l)
   refine⟨_,h2,λh' hk=>?_⟩
   have hb:h'[q.block]?=h[q.block]?:=by
    rcases hk with hk|hk
    ·unfold zq zav at hk;rw[ho]at hk;cases hk
    ·unfold zvo at hk;rw[ho]at hk;exact hk q hp
   simp only[execOp,ho,hp]
   exact(zcp hv h0 (zln hb (h1.out trivial))).val
  ·exact H.elim
 |fieldAddr t x i=>
  rw[ho]at H
  simp only at H
  unfold Zw at H;rw[ho]at H
  obtain⟨v,h1,h2⟩:=zy H none
  exact⟨v,h1,λh' _=>h2 trivial h'⟩
 |indexAddr t x i=>
  rw[ho]at H
  simp only at H
  unfold Zw at H;rw[ho]at H
  simp only at H
  cases he:W5 P t with
  |false=>rw[he]at H;exact H.elim
  |true=>
   rw[he]at H
   obtain⟨v,h1,h2⟩:=Zb (xz he) H
   refine⟨v,h1,λh' _=>?_⟩
   simp only[execOp,ho]
   exact(h2 trivial h').val
 |move x=>
  rw[ho]at H
  simp only at H
  unfold Zw at H;rw[ho]at H
  obtain⟨v,h1,h2⟩:=zy H none
  exact⟨v,h1,λh' _=>h2 trivial h'⟩
 |assign x=>
  rw[ho]at H
  simp only at H
  unfold Zw at H;rw[ho]at H
  obtain⟨v,h1,h2⟩:=zy H none
  exact⟨v,h1,λh' _=>h2 trivial h'⟩
 |binOp op t x y t'=>
  rw[ho]at H
  simp only at H
  unfold Zw at H;rw[ho]at H
  simp only at H
  obtain⟨v,h1,h2⟩:=zgo ho H
  exact⟨v,h1,λh' _=>h2 trivial h'⟩
 |call c=>
  rw[ho]at H
  simp only at H
  obtain⟨v,h1,h2⟩:=zy H none
  exact⟨v,h1,λh' _=>h2 trivial h'⟩
 |_=>unfold zh zav at hq;rw[ho]at hq;cases hq
theorem qk(σ:Nat->Value):valid σ []:=by unfold valid;trivial
theorem Q6:∀{l:List Oper} {k:Nat} {f:Nat->Value} {a:Act},(qw k l f a).tmps.size=a.tmps.size/\(qw k l f a).defers=a.defers
 |[],_,_,_=>⟨rfl,rfl⟩
 |o::l,k,f,a=>by
  unfold qw
  have:=Q6 (l:=l) (k:=k+1) (f:=f) (a:=bif zh o then a.put o.dst (f k)else a)
  rw[this.1,this.2]
  cases zh o with
  |true=>exact⟨size_put _ _ _,qh _ _ _⟩
  |false=>exact⟨rfl,rfl⟩
theorem zr{d:Option Nat}{u:Value}{s:Nat}(h:d≠some s):zx (a.put d u) s=zx a s:=by
 cases d with
 |none=>rfl
 |some t=>exact qt λe=>h (by rw[e])
theorem yv{s:Nat}:∀{l:List Oper} {k:Nat} {f:Nat->Value} {a:Act},(∀o∈l,zh o=true->o.dst≠some s)->zx (qw k l f a) s=zx a s
 |[],_,_,_,_=>rfl
 |o::l,k,f,a,h=>by
  unfold qw
  rw[yv λo' O=>h o' (Ah _ O)]
  cases hq:zh o with
  |true=>exact zr (h o Aq hq)
  |false=>rfl
theorem Yy{P:Program}{n:Nat}{h:zb}{K:Env->Prop}:∀{l:List Oper} {k:Nat} {e:Env} {a:Act},wU P n h K l e->Sat n e a->∃(f:Nat->Value) (e':Env),K e'/\Sat n e' (qw k l f a) /\
  ∀i o,l[i]?=some o->zh o=true->xf o.op=true/\yu n [] o.dst=true/\∀h',(zq o=false\/zvo o (qw k (l.take i) f a).eval h h')->QExec P (execOp (qw k (l.take i) f a).eval o) h' (.value (f (k+i)))
 |[],k,e,a,H,hs=>⟨λ_=>undef,e,H,hs,λi o h=>by simp at h⟩
 |o::l,k,e,a,H,hs=>by
  unfold wU at H
  cases hq:zh o with
  |false=>
   rw[hq]at H
   obtain⟨f,e',h1,h2,h3⟩:=Yy (k:=k+1) H hs
   refine⟨f,e',h1,by unfold qw;rw[hq];exact h2,λi o' hi O=>?_⟩
   cases i with
   |zero=>simp at hi;subst hi;rw[hq]at O;cases O
   |succ i=>
    have:=h3 i o' (by simpa using hi) O
    rw[B4]
    unfold qw
    rw[hq,show k+(i+1)=k+1+i by omega];exact this
  |true=>
   rw[hq]at H
   simp only[cond_true]at H
   cases hd:yu n [] o.dst with
   |false=>rw[hd]at H;exact H.elim
   |true=>
    rw[hd]at H
    simp only[cond_true]at H
    cases hns:xf o.op with
    |false=>rw[hns]at H;exact H.elim
    |true=>
     rw[hns]at H
     simp only[cond_true]at H
     cases hk:known e [] o.op.operands.toList with
     |false=>rw[hk]at H;exact H.elim
     |true=>
      rw[hk]at H
      simp only[cond_true]at H
      obtain⟨v,H1,H2⟩:=Xz hq H
      obtain⟨f,e',h1,h2,h3⟩:=Yy (k:=k+1) (a:=a.put o.dst v) H1 (hs.putO hd (λ_=>rfl) λhv=>absurd (qk _) hv)
      have hf:∀(m:List Oper) (j:Nat) (b:Act),qw (k+1+j) m (λx=>if x=k then v else f x) b=qw (k+1+j) m f b:=by
       intro m
       induction m with
       |nil=>intro j b;rfl
       |cons o' m ih=>
        intro j b
        unfold qw
        dsimp only
        rw[if_neg (show¬k+1+j=k by omega),show k+1+j+1=k+1+(j+1)by omega,ih]
      refine⟨λx=>if x=k then v else f x,e',h1,?_,λi o' hi O=>?_⟩
      ·unfold qw
       rw[hq,cond_true]
       dsimp only
       rw[if_pos rfl]
       have:=hf l 0 (a.put o.dst v)
       rw[CX]at this
       rw[this];exact h2
      ·cases i with
       |zero=>
        simp at hi;subst hi
        rw[Cr,CX]
        dsimp only
        rw[if_pos rfl]
        refine⟨hns,hd,λh' hh=>?_⟩
        show QExec P (execOp a.eval o) h' _
        rw[Yv hs (qk _) hns hk]
        exact H2 h' (hh.imp id λr=>zfa (λx hx=>xy hs (qk _) hk x hx) r)
       |succ i=>
        have:=h3 i o' (by simpa using hi) O
        rw[B4]
        unfold qw
        rw[hq,cond_true]
        dsimp only
        rw[if_pos rfl]
        have e2:=hf (l.take i) 0 (a.put o.dst v)
        rw[CX]at e2
        rw[e2,if_neg (show¬k+(i+1)=k by omega),show k+(i+1)=k+1+i by omega]
        exact this
theorem Jg{next:Act->World->Prop}{Q:Exit->Act->World->Prop}{r:Result Next}(hb:b.defers=[])
  (H:o.upon P b (λc w=>c.defers=[]/\∀v,c=b.put o.dst v->next (a.put o.dst v) w) (λ_ _ _=>False) r):o.upon P a next Q r:=by
 have lo:¬LetsOut (λ(_:Exit) (_:Act) (_:World)=>False):=λh=>by
  obtain⟨_,_,h⟩:=h
  exact h
 cases r with
 |ok x w=>
  cases x with
  |value v=>exact H.2 v rfl
  |skip=>exact H.2 undef rfl
  |defer d=>
   have:=H.1
   rw[qh]at this;cases this
  |enter f args=>
   refine Calls.mono (show Calls P f args w _ from H) λe w' he=>?_
   cases e with
   |returned v=>exact he.2 v rfl
   |panicked c=>exact he.elim
   |outgrown=>exact absurd he lo
  |row row args=>exact Rows.mono (show Rows P row args w _ from H) λv w' he=>he.2 v rfl
  |_=>exact H
 |halt x w=>cases x <;> first|exact H.elim|exact H
theorem ye{j:Nat}:∀{l:List Oper} {k:Nat},j∈heavyL k l↔k<=j/\∃o,l[j-k]?=some o/\zh o=false
 |[],k=>by simp[heavyL]
 |o::l,k=>by
  unfold heavyL
  cases hq:zh o with
  |true=>
   rw[cond_true,ye (l:=l)]
   constructor
   ·rintro⟨h1,o',h2,h3⟩
    exact⟨by omega,o',by rw[show j-k=(j-(k+1))+1 by omega];simpa using h2,h3⟩
   ·rintro⟨h1,o',h2,h3⟩
    rcases Dn h1 with e|e
    ·subst e
     simp at h2;subst h2;rw[hq]at h3;cases h3
    ·exact⟨by omega,o',by rw[show j-k=(j-(k+1))+1 by omega]at h2;simpa using h2,h3⟩
  |false=>
   rw[cond_false,Ag,ye (l:=l)]
   constructor
   ·rintro(rfl|⟨h1,o',h2,h3⟩)
    ·exact⟨Ae _,o,by simp,hq⟩
    ·exact⟨by omega,o',by rw[show j-k=(j-(k+1))+1 by omega];simpa using h2,h3⟩
   ·rintro⟨h1,o',h2,h3⟩
    rcases Dn h1 with e|e
    ·exact .inl e.symm
    ·exact .inr ⟨by omega,o',by rw[show j-k=(j-(k+1))+1 by omega]at h2;simpa using h2,h3⟩
theorem y5:∀{l:List Oper} {k:Nat},(heavyL k l).Nodup
 |[],_=>Ea
 |o::l,k=>by
  unfold heavyL
  cases zh o with
  |true=>exact y5
  |false=>exact Cv.2 ⟨λh=>by have:=(ye.1 h).1;omega,y5⟩
theorem yc{ops:Array Oper}:∀{m:Nat},Jf ops m=true->∀k o,k<m->ops[k]?=some o->xm ops k (tmpsOf o.op.operands.toList) ops.size=true/\(zh o=true->∀j∈heavyL 0 ops.toList,Region.waitsFor .any ops k j=true->∀t,jd ops j=some t->t∉tmpsOf o.op.operands.toList)
 |0,_,k,o,hk,_=>by omega
 |m+1,h,k,o,hk,ho=>by
  unfold Jf at h
  split at h
  ·rename_i o' O
   cases hs:xm ops m (tmpsOf o'.op.operands.toList) ops.size with
   |false=>rw[hs]at h;cases h
   |true=>
    rw[hs,cond_true]at h
    rcases AX k m with h1|h1
    ·refine yc (m:=m) ?_ k o h1 ho
     revert h
     cases(bif zh o' then(heavyL 0 ops.toList).all λj=>!(Region.waitsFor .any ops m j)||(match jd ops j with
      |some t=>!(memN (tmpsOf o'.op.operands.toList) t)
      |none=>true)else true) <;> intro h <;> first|exact h|cases h
    ·have:k=m:=by omega
     subst this
     have:o'=o:=Aw (O.symm.trans ho)
     subst this
     refine⟨hs,λhq j hj hw t ht=>?_⟩
     rw[hq,cond_true]at h
     cases hall:(heavyL 0 ops.toList).all λj=>!(Region.waitsFor .any ops k j)||(match jd ops j with
      |some t=>!(memN (tmpsOf o'.op.operands.toList) t)
      |none=>true)with
     |false=>rw[hall]at h;cases h
     |true=>
      have:=AU.1 hall j hj
      rw[hw,ht]at this
      simp only[Bool.not_true,DZ,Ce]at this
      exact Zc this
  ·rename_i O
   rw[cond_true]at h
   rcases AX k m with h1|h1
   ·exact yc h k o h1 ho
   ·have:k=m:=by omega
    subst this
    rw[O]at ho;cases ho
theorem Yc{ops:Array Oper}:∀{l:List Nat},Je ops l=true->∀q i j,l[q]?=some i->l[q+1]?=some j->Region.waitsFor .any ops j i=true
 |[],_,q,i,j,h,_=>by simp at h
 |[_],_,q,i,j,_,h=>by simp at h
 |a::b::l,h,q,i,j,h1,h2=>by
  unfold Je at h
  cases hw:Region.waitsFor .any ops b a with
  |false=>rw[hw]at h;cases h
  |true=>
   rw[hw,cond_true]at h
   cases q with
   |zero=>simp at h1 h2;subst h1;subst h2;exact hw
   |succ q=>exact Yc h q i j (by simpa using h1) (by simpa using h2)
theorem Zd{ops:Array Oper}{i:Nat}:∀{l:List Nat},wn ops i l=true->∃j∈l,Region.waitsFor .any ops j i=true
 |[],h=>by cases h
 |j::l,h=>by
  unfold wn at h
  cases hw:Region.waitsFor .any ops j i with
  |true=>exact⟨j,Aq,hw⟩
  |false=>
   rw[hw,cond_false]at h
   obtain⟨j',h1,h2⟩:=Zd h
   exact⟨j',Ah _ h1,h2⟩
theorem Jh{ops:Array Oper}{T:List Nat}:∀{m:Nat},zhe ops T m=false->∀k o,k<m->ops[k]?=some o->zq o=true->wn ops k T=true
 |0,_,k,o,hk,_,_=>by omega
 |m+1,h,k,o,hk,ho,hl=>by
  unfold zhe at h
  cases hb:(match ops[m]? with
   |some o=>bif zq o then !(wn ops m T)else false
   |none=>false)with
  |true=>rw[hb]at h;cases h
  |false=>
   rw[hb,cond_false]at h
   rcases AX k m with h1|h1
   ·exact Jh h k o h1 ho hl
   ·have:k=m:=by omega
    subst this
    rw[ho]at hb
    simp only[hl,cond_true,Bool.not_eq_false']at hb
    exact hb
theorem Ze{i p:Nat}(hi:i∈Region.ready .any ops listed)(hw:Region.waitsFor .any ops i p=true):listed.getD p false=true:=by
 obtain⟨oj,Z,e,he,hb,aa⟩:=Region.waitsFor_spec hw
 obtain⟨_,o,ho,O⟩:=mem_ready.1 hi
 have:oj=o:=Aw (Z.symm.trans ho)
 subst this
 rw[<-aa];exact O e he hb
theorem yf(inv:HeadInv .any ops n listed){i p:Nat}(hi:listed.getD i false=true)(hw:Region.waitsFor .any ops i p=true):listed.getD p false=true:=by
 obtain⟨oj,O,e,he,hb,Z⟩:=Region.waitsFor_spec hw
 rw[<-Z];exact inv.closed i oj O hi e he hb
theorem Yd{p:Nat->Bool}{N:Nat}(h:∃k,k<N/\p k=false):∃k,k<N/\p k=false/\∀j,j<k->p j=true:=by
 obtain⟨k,h1,h2⟩:=h
 induction k using Nat.strongRecOn with
 |_ k ih=>
  by_cases hm:∃j,j<k/\p j=false
  ·obtain⟨j,h3,h4⟩:=hm
   exact ih j h3 (by omega) h4
  ·exact⟨k,h1,h2,λj hj=>by
    cases hb:p j with
    |true=>rfl
    |false=>exact absurd ⟨j,hj,hb⟩ hm⟩
theorem W7(h:mixB ops=true):j8 ops.toList=true/\qo ops ops.size=true/\wy ops ops.size=true/\Je ops (heavyL 0 ops.toList)=true/\Jf ops ops.size=true:=by
 unfold mixB at h
 cases h1:j8 ops.toList <;> cases h2:qo ops ops.size <;> cases h3:wy ops ops.size <;> cases h4:Je ops (heavyL 0 ops.toList) <;> simp[h1,h2,h3,h4]at h ⊢
 exact h
theorem Zo{l:List Oper}(h:j8 l=true):∀o∈l,o.guard=none/\xf o.op=true:=by
 intro o ho
 have:=AU.1 h o ho
 cases hg:o.guard with
 |none=>rw[hg]at this;exact⟨rfl,this⟩
 |some g=>rw[hg]at this;cases this
theorem Zf:∀{l m:List Oper} {k:Nat} {f:Nat->Value} {a:Act},qw k (l++m) f a=qw (k+l.length) m f (qw k l f a)
 |[],m,k,f,a=>rfl
 |o::l,m,k,f,a=>by
  have e:∀l',qw k (o::l') f a=qw (k+1) l' f (bif zh o then a.put o.dst (f k)else a):=λ_=>rfl
  rw[Be,e,e,Zf,show k+1+l.length=k+(o::l).length by simp;omega]
theorem toL(ho:ops[i]?=some o):ops.toList[i]?=some o:=by rw[AN];exact ho
theorem ofL(ho:ops.toList[i]?=some o):ops[i]?=some o:=by rw[AN]at ho;exact ho
structure StM (P:Program) (n:Nat) (ops:Array Oper) (h0:zb) (K:Env->zb->Prop) (f:Nat->Value) (a0:Act) (listed:Array Bool) (a b:Act) (e:Env) (h:zb) (done todo:List Nat):Prop where
 inv:HeadInv .any ops ops.size listed
 ag:∀s,(∀i o,ops[i]?=some o->zh o=true->listed.getD i false=false->o.dst≠some s)->zx a s=zx b s
 sz:a.tmps.size=n
 ad:a.defers=[]
 sb:Sat n e b
 qv:∀i o t,ops[i]?=some o->zh o=true->o.dst=some t->zx b t=f i/\t<n
 qx:∀i o,ops[i]?=some o->zh o=true->∀h',(zq o=false\/zvo o b.eval h0 h')->QExec P (execOp b.eval o) h' (.value (f i))
 tt:heavyL 0 ops.toList=done.reverse++todo
 ch:∀j,j∈heavyL 0 ops.toList->(listed.getD j false=true↔j∈done)
 wt:wT P n ops h0 K done todo e h
 kp:∀i o,ops[i]?=some o->zq o=true->listed.getD i false=false->zvo o b.eval h0 h
 sm:Same (jj ops.toList) a0 a
theorem Z6{o:Oper}:∀{l:List Oper},o∈l->∀i,o.dst=some i->i∈jj l
 |[],h,_,_=>by cases h
 |x::l,h,i,hi=>by
  unfold jj
  rcases Ag.1 h with rfl|h
  ·rw[hi];exact Aq
  ·have:=Z6 h i hi
   split
   ·exact Ah _ this
   ·exact this
theorem zp{k:Nat}(h:ops[k]?=some o):jd ops k=o.dst:=by simp[jd,h]
theorem zqo{h0:zb}{K:Env->zb->Prop}{Q:Exit->Act->World->Prop}(B:World)(a6:mixB ops=true){f:Nat->Value}{a0:Act}
  (hQ:∀e' a' d' h',Sat n e' a'->Same (jj ops.toList) a0 a'->K e' h'->Q .normal a' (mk B d' h')):
  ∀(N:Nat) (U:List Nat) (listed:Array Bool) (a b:Act) (e:Env) (h:zb) (d:Nat) (done todo:List Nat),U.length=N->U.Nodup->(∀k,k∈U↔k<ops.size/\listed.getD k false=false) ->
   StM P n ops h0 K f a0 listed a b e h done todo->wpAny P .any ops Q N listed a (mk B d h):=by
 obtain⟨bo,aN,bq,ar,am⟩:=W7 a6
 have aZ:∀(i:Nat) (o:Oper),ops[i]?=some o->o.guard=none/\xf o.op=true:=λi o ho=>Zo bo o (by
  obtain⟨aa,e⟩:=Ac.1 ho
  rw[<-e];simp)
 have bp:∀{listed:Array Bool} {a b:Act} {e:Env} {h:zb} {d:Nat} {done todo:List Nat},(∀k,k<ops.size->listed.getD k false=true)->StM P n ops h0 K f a0 listed a b e h done todo->Q .normal a (mk B d h):=by
  intro listed a b e h d done todo ac S
  have aj:todo=[]:=by
   cases todo with
   |nil=>rfl
   |cons j l=>
    have hj:j∈heavyL 0 ops.toList:=by rw[S.tt];simp
    have aa:j<ops.size:=by
     obtain⟨_,o,ho,_⟩:=ye.1 hj
     have:=(Ax.1 ho).1
     simpa using this
    have hd:=(S.ch j hj).1 (ac j aa)
    have hn:=y5 (l:=ops.toList) (k:=0)
    rw[S.tt,A0]at hn
    exact absurd rfl (hn.2.2 j (by simpa using hd) j (by simp))
  have hw:=S.wt
  rw[aj]at hw
  unfold wT at hw
  have hv:∀s,zx a s=zx b s:=λs=>S.ag s λi o ho hq hl=>by
   rw[ac i (Ac.1 ho).1]at hl;cases hl
  have hs:Sat n e a:=⟨S.ad,S.sz,λx hx=>by
   have:=S.sb.all x hx
   have e1:zx a=zx b:=funext hv
   rw[e1];exact this⟩
  exact hQ _ _ _ _ hs.clean S.sm hw
 intro N
 induction N with
 |zero=>
  intro U listed a b e h d done todo hU _ ah S
  have bI:U=[]:=B6.1 hU
  subst bI
  have ac:∀k,k<ops.size->listed.getD k false=true:=λk hk=>by
   cases hb:listed.getD k false with
   |true=>rfl
   |false=>exact absurd ((ah k).2 ⟨hk,hb⟩) (by simp)
  refine⟨?_,bp ac S⟩
  rw[CB]
  intro j hj
  obtain⟨h1,o,ho,_⟩:=mem_ready.1 hj
  have aa:=(Ac.1 ho).1
  have:=ac j aa
  have h2:=getD_both h1
  rw[this]at h2;cases h2
 |succ N ih=>
  intro U listed a b e h d done todo hU aH ah S
  have bM:∃k,k<ops.size/\listed.getD k false=false:=by
   cases U with
   |nil=>cases hU
   |cons k U=>exact⟨k,(ah k).1 Aq⟩
  refine⟨λhr=>?_,λi hi=>?_⟩
  ·exfalso
   obtain⟨k,aC,aQ,bA⟩:=Yd bM
   have:k∈Region.ready .any ops listed:=mem_ready.2 ⟨by rw[<-aQ];simp[S.inv.size,aC],ops[k],AP aC,λx hx hb=>bA _ (qp aN k ops[k] aC (AP aC) x hx hb)⟩
   rw[hr]at this;cases this
  ·obtain⟨a8,o,ho,ac⟩:=mem_ready.1 hi
   have ay:listed.getD i false=false:=getD_both a8
   have aa:i<ops.size:=(Ac.1 ho).1
   obtain⟨hg,bu⟩:=aZ i o ho
   have aG:i<listed.size:=by rw[S.inv.size];exact aa
   have be:(U.erase i).length=N:=by rw[CF ((ah i).2 ⟨aa,ay⟩),hU];rfl
   have al:(U.erase i).Nodup:=aH.erase i
   have an:∀k,k∈U.erase i↔k<ops.size/\(listed.setIfInBounds i true).getD k false=false:=λk=>by
    rw[aH.mem_erase_iff,ah k]
    by_cases hk:i=k
    ·subst hk;simp[aG]
    ·rw[getD_set_ne false hk];exact⟨λhx=>hx.2,λhx=>⟨λe=>hk e.symm,hx⟩⟩
   have ak:=S.inv.set hi aa
   have af:∀k,k≠i->(listed.setIfInBounds i true).getD k false=listed.getD k false:=λk hk=>getD_set_ne false (Ne.symm hk)
   have ae:(listed.setIfInBounds i true).getD i false=true:=by simp[aG]
   obtain⟨au,bO⟩:=yc am i o aa ho
   have aY:∀t∈tmpsOf o.op.operands.toList,zx a t=zx b t:=λt ht=>S.ag t λk ok O hq hl hd=>by
    have hw:=qn au k t (Ac.1 O).1 (by rw[zp O,hd]) ht
    rw[Ze hi hw]at hl;cases hl
   have aS:=y8 bu aY
   unfold wpOp
   rw[ho]
   simp only
   have aP:BF o (yielded ops a.tmps)=true:=by unfold BF;rw[hg]
   rw[if_pos aP]
   left
   unfold Oper.wp
   rw[aS]
   cases hq:zh o with
   |true=>
    have hx:=S.qx i o ho hq h (by
     cases hl:zq o with
     |false=>exact .inl rfl
     |true=>exact .inr (S.kp i o ho hl ay)) B d
    rw[hx,Oper.upon_value]
    have bm:i∉heavyL 0 ops.toList:=λhm=>by
     obtain⟨_,o',bh,aV⟩:=ye.1 hm
     rw[BK]at bh
     have:o'=o:=by
      have h2:ops[i]?=some o':=ofL bh
      exact Aw (h2.symm.trans ho)
     subst this;rw[hq]at aV;cases aV
    refine ih _ _ _ b e h d done todo be al an { S with inv:=ak,ag:=λs hs=>?_,sz:=by rw[size_put];exact S.sz,ad:=by rw[qh];exact S.ad,ch:=λj hj=>?_,kp:=λk ok O hl hk=>?_,sm:=S.sm.trans (Same.put a o.dst _ λt ht=>Z6 (by
     obtain⟨bD,e2⟩:=Ac.1 ho
     rw[<-e2];simp) t ht) }
    ·by_cases hd:o.dst=some s
     ·obtain⟨hv,aA⟩:=S.qv i o s ho hq hd
      rw[hd,yg (by rw[S.sz];exact aA),hv]
     ·rw[zr hd]
      refine S.ag s λk ok O Z aU=>?_
      by_cases ai:k=i
      ·subst ai
       have:ok=o:=Aw (O.symm.trans ho)
       subst this;exact hd
      ·exact hs k ok O Z (by rw[af k ai];exact aU)
    ·have:j≠i:=λe=>bm (e ▸ hj)
     rw[af j this];exact S.ch j hj
    ·by_cases ai:k=i
     ·subst ai;rw[ae]at hk;cases hk
     ·rw[af k ai]at hk;exact S.kp k ok O hl hk
   |false=>
    have aO:i∈heavyL 0 ops.toList:=ye.2 ⟨BP _,o,by rw[BK];exact toL ho,hq⟩
    have aE:=y5 (l:=ops.toList) (k:=0)
    have aD:i∉done:=λhd=>by rw[(S.ch i aO).2 hd]at ay;cases ay
    have aj:∃rest,todo=i::rest:=by
     have ba:i∈todo:=by
      have:=aO
      rw[S.tt,Am]at this
      rcases this with h1|h1
      ·exact absurd (by simpa using h1) aD
      ·exact h1
     cases todo with
     |nil=>cases ba
     |cons j rest=>
      rcases Ag.1 ba with rfl|hr
      ·exact⟨rest,rfl⟩
      ·exfalso
       obtain⟨m,hm,em⟩:=A7 hr
       have hp:∃pr,(j::rest)[m]?=some pr:=⟨_,Aj (by simp;omega)⟩
       obtain⟨pr,bn⟩:=hp
       have hw:=Yc ar (done.reverse.length+m) pr i (by rw[S.tt,Bl (by omega),Nat.add_sub_cancel_left];exact bn) (by
        rw[S.tt,Bl (by omega),show done.reverse.length+m+1-done.reverse.length=m+1 by omega,List.getElem?_cons_succ,Aj hm,em])
       have aF:pr∈j::rest:=CM bn
       have bc:pr∈heavyL 0 ops.toList:=by rw[S.tt];exact Ay _ aF
       have hd:=(S.ch pr bc).1 (Ze hi hw)
       rw[S.tt,A0]at aE
       exact aE.2.2 pr (by simpa using hd) pr aF rfl
    obtain⟨rest,rfl⟩:=aj
    have hW:=S.wt
    unfold wT at hW
    rw[ho]at hW
    simp only at hW
    cases hd:yu n [] o.dst with
    |false=>rw[hd]at hW;exact hW.elim
    |true=>
     rw[hd,cond_true]at hW
     refine Jg (b:=b) S.sb.defers ?_
     refine zhc hW S.sb (qk _) B d λv d' h' hK=>⟨by rw[qh];exact S.sb.defers,λv2 bE=>?_⟩
     have bJ:b.put o.dst v2=b.put o.dst v:=bE.symm
     have az:∀j,j∈heavyL 0 ops.toList->((listed.setIfInBounds i true).getD j false=true↔j∈i::done):=λj hj=>by
      by_cases aT:j=i
      ·subst aT;rw[ae];simp
      ·rw[af j aT,S.ch j hj];simp[aT]
     have aI:zhe ops (i::done) ops.size=false->∀k ok,ops[k]?=some ok->zq ok=true->(listed.setIfInBounds i true).getD k false=true:=λhl k ok O ap=>by
      obtain⟨j,hj,hw⟩:=Zd (Jh hl k ok (Ac.1 O).1 O ap)
      have aL:(listed.setIfInBounds i true).getD j false=true:=by
       rcases Ag.1 hj with rfl|hj
       ·exact ae
       ·exact getD_set_true ((S.ch j (by rw[S.tt];simp[hj])).2 hj)
      exact yf ak aL hw
     have bj:wT P n ops h0 K (i::done) rest (putO e o.dst [] v) h'/\(∀k ok,ops[k]?=some ok->zq ok=true->(listed.setIfInBounds i true).getD k false=false->zvo ok (b.put o.dst v).eval h0 h'):=by
      cases hl:zhe ops (i::done) ops.size with
      |true=>
       rw[hl,cond_true]at hK
       refine⟨hK.2,λk ok O ap hf=>?_⟩
       have bz:wn ops k (i::done)=false:=by
        cases ha:wn ops k (i::done)with
        |false=>rfl
        |true=>
         exfalso
         obtain⟨j,hj,hw⟩:=Zd ha
         have aL:(listed.setIfInBounds i true).getD j false=true:=by
          rcases Ag.1 hj with rfl|hj
          ·exact ae
          ·exact getD_set_true ((S.ch j (by rw[S.tt];simp[hj])).2 hj)
         rw[yf ak aL hw]at hf;cases hf
       obtain⟨t,x,c,bF,hc,hb⟩:=zlm hK.1 k ok (Ac.1 O).1 O ap bz
       unfold zvo
       rw[bF]
       intro c' a7
       have:=jz (S.sb.putO hd (λ_=>rfl) λhv=>absurd (qk _) hv) (c:=[]) (qk _) hc
       rw[this]at a7
       cases a7;exact hb
      |false=>rw[hl,cond_false]at hK;exact⟨hK,λk ok O ap hf=>by rw[aI hl k ok O ap]at hf;cases hf⟩
     have aJ:∀k ok t,ops[k]?=some ok->zh ok=true->ok.dst=some t->o.dst≠some t:=λk ok t O Z aB ax=>by
      have:=ym bq k i t (Ac.1 O).1 aa (by rw[zp O,aB]) (by rw[zp ho,ax])
      subst this
      have:ok=o:=Aw (O.symm.trans ho)
      subst this;rw[hq]at Z;cases Z
     refine ih _ _ _ (b.put o.dst v) (putO e o.dst [] v) h' d' (i::done) rest be al an ⟨ak,λs hs=>?_,by rw[size_put];exact S.sz,by rw[qh];exact S.ad,S.sb.putO hd (λ_=>rfl) λhv=>absurd (qk _) hv,λk ok t O Z aB=>?_,λk ok O Z bB hh=>?_,by rw[S.tt];simp,az,bj.1,bj.2,S.sm.trans (Same.put a o.dst _ λt ht=>Z6 (by
      obtain⟨bD,e2⟩:=Ac.1 ho
      rw[<-e2];simp) t ht)⟩
     ·have bH:∀u,(∀k ok,ops[k]?=some ok->zh ok=true->listed.getD k false=false->ok.dst≠some s)->o.dst≠some s->zx (a.put o.dst u) s=zx (b.put o.dst v) s:=λu h1 h2=>by
       rw[zr h2,zr h2];exact S.ag s h1
      have bL:∀k ok,ops[k]?=some ok->zh ok=true->listed.getD k false=false->ok.dst≠some s:=λk ok O Z aU=>by
       by_cases ai:k=i
       ·subst ai
        have:ok=o:=Aw (O.symm.trans ho)
        subst this;rw[hq]at Z;cases Z
       ·exact hs k ok O Z (by rw[af k ai];exact aU)
      by_cases aM:o.dst=some s
      ·rw[<-bJ,aM]
       have aA:s<n:=by
        rw[aM]at hd
        unfold yu at hd
        simp at hd;exact hd.2
       rw[yg (by rw[S.sz];exact aA),yg (by rw[S.sb.size];exact aA)]
      ·exact bH v2 bL aM
     ·have:=S.qv k ok t O Z aB
      rw[zr (aJ k ok t O Z aB)];exact this
     ·have aQ:=aZ k ok O
      have a1:∀t∈tmpsOf ok.op.operands.toList,zx (b.put o.dst v) t=zx b t:=λt ht=>by
       refine zr λax=>?_
       obtain⟨bG,bC⟩:=yc am k ok (Ac.1 O).1 O
       have hw:=qn bG i t aa (by rw[zp ho,ax]) ht
       exact bC Z i aO hw t (by rw[zp ho,ax]) ht
      rw[y8 (b:=b) aQ.2 a1]
      exact S.qx k ok O Z bB (hh.imp id λr=>zfa (y7 a1) r)
theorem mix_sound{K:Env->zb->Prop}{Q:Exit->Act->World->Prop}(B:World)(ac:mixB ops=true){e:Env}
  (H:wU P n h (λe'=>wT P n ops h K [] (heavyL 0 ops.toList) e' h) ops.toList e) (hs:Sat n e a)
  (hQ:∀e' a' d' h',Sat n e' a'->Same (jj ops.toList) a a'->K e' h'->Q .normal a' (mk B d' h')) (d:Nat):wpAny P .any ops Q ops.size (Bn ops.size false) a (mk B d h):=by
 obtain⟨aA,ah,ap,an,af⟩:=W7 ac
 obtain⟨f,e1,HT,aj,hf⟩:=Yy (k:=0) H hs
 have hl:∀(i:Nat) (o:Oper),ops[i]?=some o->ops.toList[i]?=some o:=λi o ho=>toL ho
 have O:∀i,qw 0 ops.toList f a=qw (0+(ops.toList.take i).length) (ops.toList.drop i) f (qw 0 (ops.toList.take i) f a):=λi=>by
  rw[<-Zf,Bp]
 refine zqo B ac (f:=f) hQ ops.size (AZ ops.size) _ a (qw 0 ops.toList f a) e1 h d [] (heavyL 0 ops.toList) DG Dh (λk=>by rw[BO,getD_replicate_false];simp) ⟨⟨by simp,λj oj _ hl=>(by rw[getD_replicate_false]at hl;cases hl),λt ht aB=>by omega⟩,λs az=>?_,hs.size,hs.defers,aj,λi o t ho hq hd=>?_,λi o ho hq h' hh=>?_,by simp,λj hj=>by rw[getD_replicate_false];simp,HT,λ_ _ _ _ _=>zze _ _ _,Same.refl _ _⟩
 ·refine(yv λo ho hq=>?_).symm
  obtain⟨i,hi,e⟩:=A7 ho
  exact az i o (ofL (by rw[Aj hi,e])) hq (getD_replicate_false _ _)
 ·obtain⟨h1,h2,h3⟩:=hf i o (hl i o ho) hq
  have am:t<n:=by
   rw[hd]at h2
   unfold yu at h2
   simp at h2;exact h2.2
  refine⟨?_,am⟩
  have aa:=(Ac.1 ho).1
  have ak:(ops.toList.take i).length=i:=by simp;omega
  rw[O i,ak,AD]
  have ay:ops.toList.drop i=o::ops.toList.drop (i+1):=by
   have:=(Ax.1 (hl i o ho))
   rw[AC this.1,this.2]
  rw[ay]
  unfold qw
  rw[hq,cond_true,yv λo' ae ax ai=>?_]
  ·rw[hd,yg (by rw[Q6.1,hs.size];exact am)]
  ·obtain⟨m,hm,em⟩:=A7 ae
   have Z:ops[i+1+m]?=some o':=by
    have:ops.toList[i+1+m]?=some o':=by rw[<-AH,Aj hm,em]
    exact ofL this
   have:=ym ap i (i+1+m) t aa (Ac.1 Z).1 (by rw[zp ho,hd]) (by rw[zp Z,ai])
   omega
 ·obtain⟨h1,h2,h3⟩:=hf i o (hl i o ho) hq
  have al:∀t∈tmpsOf o.op.operands.toList,zx (qw 0 ops.toList f a) t=zx (qw 0 (ops.toList.take i) f a) t:=λt ht=>by
   have aa:=(Ac.1 ho).1
   rw[O i]
   refine yv λo' ae ax ai=>?_
   obtain⟨m,hm,em⟩:=A7 ae
   have Z:ops[i+m]?=some o':=by
    have:ops.toList[i+m]?=some o':=by rw[<-AH,Aj hm,em]
    exact ofL this
   obtain⟨au,_⟩:=yc af i o aa ho
   have hw:=qn au (i+m) t (Ac.1 Z).1 (by rw[zp Z,ai]) ht
   obtain⟨oj,ar,x,hx,hb,aC⟩:=Region.waitsFor_spec hw
   have:=qp ah i oj aa ar x hx hb
   omega
  have:=h3 h' (hh.imp id λr=>zfa (y7 al) r)
  rw[AD]at this
  rw[y8 h1 al]
  exact this
end
end Go.X.U
end
section
namespace Go.X
section
variable {P:Program} {n id m i i5:Nat} {ops:Array Oper} {e:Env} {h:zb} {a:Act} {ro:Option Nat} {t:Array Value} {v:Value}
def Qi:Code->Nat->Array Oper
 |.region id ops _,i=>bif Nat.beq id i then ops else #[]
 |.seq x y,i=>bif Nat.beq (Qi x i).size 0 then Qi y i else Qi x i
 |.cond _ x y,i=>bif Nat.beq (Qi x i).size 0 then Qi y i else Qi x i
 |.block _ x,i=>Qi x i
 |.loop x,i=>Qi x i
 |.rangeFunc _ _ x y,i=>bif Nat.beq (Qi x i).size 0 then Qi y i else Qi x i
 |_,_=>#[]
def zi3(P:Program)(n:Nat)(ro:Nat->Array Oper):List Nat->(Env->zb->Prop)->Env->zb->Prop
 |[],K,e,h=>K e h
 |i::l,K,e,h=>wR P n (ro i) (λe' h'=>zi3 P n ro l K e' h') (ro i).toList e h
def slotsOf(e:Env):List Nat->Option (List Value)
 |[]=>some []
 |i::l=>match zek e i,slotsOf e l with
  |some v,some vs=>some (v::vs)
  |_,_=>none
def qa5(l:List Nat)(R:List Value->zb->Prop)(e:Env)(h:zb):Prop:=match slotsOf e l with
 |some vs=>R vs h
 |none=>False
def z6x(P:Program)(n:Nat)(ops:Array Oper)(K:Env->zb->Prop)(e:Env)(h:zb):Prop:=
 bif U.mixB ops then U.wU P n h (λe'=>U.wT P n ops h K [] (U.heavyL 0 ops.toList) e' h) ops.toList e else False
def zpz(P:Program)(n:Nat)(ro:Nat->Array Oper)(ids:List Nat)(b:Nat)(C:zb->Prop)(g:zb->zb)(R:zb->Prop)(e:Env)(h:zb):Prop:=
 zi3 P n ro ids (λe1 h1=>C h1/\z6x P n (ro b) (λ_ h2=>R h2) e1 (g h1)) e h
theorem ztu{K:Env->zb->Prop}(H:z6x P n ops K e h)(B:World)(hs:Sat n e a){R:Act->World->Prop}
  (hQ:∀e' a' d' h',Sat n e' a'->K e' h'->R a' (mk B d' h')) (d:Nat):wpAny P .any ops (zj8 R) ops.size (Bn ops.size false) a (mk B d h):=by
 unfold z6x at H
 cases hB:U.mixB ops with
 |false=>rw[hB]at H;exact H.elim
 |true=>
  rw[hB]at H
  exact U.mix_sound B hB H hs (λe' a' d' h' q1 q2 q3=>hQ e' a' d' h' q1 q3) d
theorem zzf{K:Env->zb->Prop}(H:wR P n ops K ops.toList e h)(B:World)(d:Nat)(hs:Sat n e a){Q:Exit->Act->World->Prop}
  (hQ:∀e' a' d' h',Sat n e' a'->K e' h'->Q .normal a' (mk B d' h')):(C4 id ops false).wp P Q a (mk B d h):=
 wp_region_list (J4 B _ _ _ _ _ H hs λe' a' d' h' q1 q2 q3=>hQ e' a' d' h' q1 q3)
theorem z4k(hd:ops.toList.all jm=true){K:Env->zb->Prop}(H:wR P n ops K ops.toList e h)(B:World)(d:Nat)(hs:Sat n e a){Q:Exit->Act->World->Prop}
  (hQ:∀e' a' d' h',Sat n e' a'->K e' h'->Q .normal a' (mk B d' h')):(C4 id ops false).wpIn (rf ro) m P Q a (mk B d h):=by
 refine wpIn_region_list ?_
 rw[<-Bc ops.toList]
 exact zi2 (K:=λa' w'=>Q .normal a' w') ops.toList [] _ _ hd (J4 B _ _ _ _ _ H hs λe' a' d' h' q1 q2 q3=>hQ e' a' d' h' q1 q3) λa w h=>h
theorem z6y(hm:P.follows .mixedOrders=true)(hd:ops.toList.all jm=true){K:Env->zb->Prop}(H:z6x P n ops K e h)(B:World)(d:Nat)(hs:Sat n e a){Q:Exit->Act->World->Prop}
  (hQ:∀e' a' d' h',Sat n e' a'->K e' h'->Q .normal a' (mk B d' h')):(C4 id ops true).wpIn (rf ro) m P Q a (mk B d h):=by
 have h1:(C4 id ops true).wpIn (rf ro) m P (zj8 λa' w'=>Q .normal a' w') a (mk B d h):=by
  refine wpIn_region_any hm (zts (λi o ho=>?_) _ _ _ _ (ztu H B hs hQ (d+1)))
  rw[AU]at hd
  obtain⟨O,e⟩:=Ac.1 ho
  exact hd o (by rw[<-e];simp)
 exact wpIn_mono h1 λx a' w' hx=>by
  cases x with
  |normal=>exact hx
  |_=>exact hx.elim
theorem z2r(hm:P.follows .mixedOrders=true){K:Env->zb->Prop}(H:z6x P n ops K e h)(B:World)(d:Nat)(hs:Sat n e a)(D:List Deferred){Q:Exit->Act->World->Prop}
  (hQ:∀e' a' d' h',Sat n e' a'->K e' h'->Q .normal (znc D a') (mk B d' h')):(C4 id ops true).wp P Q (znc D a) (mk B d h):=by
 have h1:=wp_region_any (id:=id) (w:=mk B d h) (a:=znc D a) hm (znd (D:=D) _ _ _ _ (ztu (R:=λa' w'=>∃e' d' h',w'=mk B d' h'/\Sat n e' a'/\K e' h') H B hs (λe' a' d' h' q1 q2=>⟨e',d',h',rfl,q1,q2⟩) (d+1)))
 exact wp_mono h1 λx a' w' hx=>by
  cases x with
  |normal=>obtain⟨a0,rfl,e',d',h',rfl,q1,q2⟩:=hx;exact hQ e' a0 d' h' q1 q2
  |_=>exact hx.elim
theorem zp0(hd:a.defers=[])(hz:a.tmps.size=n)(hf:∀x∈e,x.2.1=[]/\zx a x.1=x.2.2):Sat n e a:=
 ⟨hd,hz,λx hx=>by
  obtain⟨h1,h2⟩:=hf x hx
  unfold fact
  rw[h1]
  exact⟨λ_=>h2,λhn=>absurd trivial hn⟩⟩
theorem znf{i j:Nat}{D:List Deferred}(h:j≠i):zx { tmps:=t.setIfInBounds i v,defers:=D } j=zx { tmps:=t,defers:=D } j:=by
 unfold zx
 simp only[Bo]
 rw[AW (Ne.symm h)]
theorem zd2{D:List Deferred}(h:i<t.size):zx { tmps:=t.setIfInBounds i v,defers:=D } i=v:=by
 unfold zx
 simp only[Bo]
 rw[Array.getElem?_setIfInBounds_self_of_lt h];rfl
abbrev Rec:=LoopState->Option Code->Loop
theorem qb4(hm:P.follows .mixedOrders=true){n l p1 p2:Nat}{ro:Nat->Array Oper}{i3 i4 i5 b1:Nat}{fn:FuncId}{tmps:Array Value}{D:Nat}(aj:p1≠p2)(an:p1<n)(am:p2<n)(hz:tmps.size=n)
  (al:(ro i3).toList.all jm=true) (ai:(ro i4).toList.all jm=true) (ak:(ro i5).toList.all jm=true)
  {rec:Rec} (O:rec=λst pe=>{ state:=st,pending:=pe,fn:=fn,tmps:=tmps,params:=#[p1,p2],assign:=.seq (.region i3 (ro i3) false) (.region i4 (ro i4) false),body:=.block b1 (.region i5 (ro i5) true),defers:=D })
  {v1 v2:Value} (he:∀x∈e,x.2.1=[]/\x.1≠p1/\x.1≠p2/\tmps.getD x.1 undef=x.2.2) (hl:h[l]?=some (.loop (rec .ready none))) {K:Value->zb->Prop}
  (H:zpz P n ro [i3,i4] i5 (λh1=>h1[l]?=some (.loop (rec .ready none))) (λh1=>h1.setIfInBounds l (.loop (rec .busy none)))
   (λh2=>h2[l]?=some (.loop (rec .busy none))/\K (.bool true) (h2.setIfInBounds l (.loop (rec .ready none)))) ((p1,[],v1)::(p2,[],v2)::e) h):YX P l #[v1,v2] h K:=by
 intro m B d
 have ah:(mk B d h).heap[l]?=some (.loop (rec .ready none)):=hl
 have hy:=run_yield (P:=P) (w:=mk B d h) (args:=#[v1,v2]) ah (by rw[O];rfl)
 refine⟨_,_,_,_,hy,?_⟩
 rw[O]at hy ⊢
 have key:RoundIn (rf none) m P l fn ((tmps.setIfInBounds p1 v1).setIfInBounds p2 v2) (.seq (.region i3 (ro i3) false) (.region i4 (ro i4) false)) (.block b1 (.region i5 (ro i5) true)) (mk B d h) (λe w'=>∃v d' h',e=.returned v/\w'=mk B d' h'/\K v h'):=by
  refine roundIn_of_wpIn (F:=rf none) trivial ?_
  have hF:(rf none).inRound l=rf (some l):=rfl
  rw[hF]
  have hs:Sat n ((p1,[],v1)::(p2,[],v2)::e) { tmps:=(tmps.setIfInBounds p1 v1).setIfInBounds p2 v2,defers:=[] }:=by
   refine zp0 rfl (by simp[hz]) ?_
   intro x hx
   rcases Ag.1 hx with rfl|hx
   ·exact⟨rfl,by rw[znf aj];exact zd2 (by omega)⟩
   ·rcases Ag.1 hx with rfl|hx
    ·exact⟨rfl,zd2 (by simp;omega)⟩
    ·obtain⟨q1,q2,q3,q4⟩:=he x hx
     exact⟨q1,by rw[znf q3,znf q2];exact q4⟩
  unfold zpz zi3 zi3 zi3 at H
  refine wpIn_seq (z4k al H B d hs λe1 a1 d1 h1 s1 k1=>?_)
  show(C4 i4 (ro i4) false).wpIn (rf (some l)) m P _ a1 (mk B d1 h1)
  refine z4k ai k1 B d1 s1 λe2 a2 d2 h2 s2 k2=>?_
  obtain⟨k3,k4⟩:=k2
  have af:(mk B d2 h2).heap[l]?=some (.loop (rec .ready none)):=k3
  have hb:=run_beginRound (P:=P) af (by rw[O])
  refine⟨_,hb,?_⟩
  have Z:({ rec .ready none with state:=.busy }:Loop)=rec .busy none:=by rw[O]
  rw[Z]
  show(Code.block b1 (.region i5 (ro i5) true)).wpIn (rf (some l)) m P _ a2 (mk B d2 (h2.setIfInBounds l (.loop (rec .busy none))))
  refine wpIn_block (z6y hm ak k4 B d2 s2 λe3 a3 d3 h3 s3 k5=>?_)
  obtain⟨k6,k7⟩:=k5
  have ac:(mk B d3 h3).heap[l]?=some (.loop (rec .busy none)):=k6
  have aa:=run_endRound (P:=P) none ac
  simp only[Exit.inBlock]
  refine⟨_,_,aa,.bool true,d3,h3.setIfInBounds l (.loop (rec .ready none)),rfl,?_,k7⟩
  have ae:({ rec .busy none with state:=if(none:Option Code).isNone then .ready else .done,pending:=none }:Loop)=rec .ready none:=by rw[O];rfl
  rw[ae];rfl
 show RoundIn (rf none) m P l fn (Array.foldl (λ(t:Array Value) (x:Tmp×Value)=>t.setIfInBounds x.1 x.2) tmps (#[p1,p2].zip #[v1,v2])) _ _ _ _
 have zs:Array.foldl (λ(t:Array Value) (x:Tmp×Value)=>t.setIfInBounds x.1 x.2) tmps (#[p1,p2].zip #[v1,v2])=(tmps.setIfInBounds p1 v1).setIfInBounds p2 v2:=by simp
 rw[zs]
 exact key
theorem qad{i1 i2 i5 i7 Z:Nat}{R:List Value->zb->Prop}(H:qa5 [i1,i2,i5,i7,Z] R e h):∃v1 v2 v5 v7 O,zek e i1=some v1/\zek e i2=some v2/\zek e i5=some v5/\zek e i7=some v7/\zek e Z=some O/\R [v1,v2,v5,v7,O] h:=by
 unfold qa5 at H
 split at H
 ·rename_i vs hv
  simp only[slotsOf]at hv
  split at hv
  ·rename_i v1 ai h1 r1
   split at r1
   ·rename_i v2 ah h2 r2
    split at r2
    ·rename_i v5 aj h5 r5
     split at r5
     ·rename_i v7 af h7 r7
      split at r7
      ·rename_i O ae ac aa
       cases aa;cases r7;cases r5;cases r2;cases r1;cases hv
       exact⟨v1,v2,v5,v7,O,h1,h2,h5,h7,ac,H⟩
      ·cases r7
     ·cases r5
    ·cases r2
   ·cases r1
  ·cases hv
 ·exact H.elim
def z6z(P:Program)(n:Nat)(ro:Nat->Array Oper)(i6:Nat)(rs:List ResultVar)(D:Nat)(R:Value->zb->Prop)(e:Env)(h:zb):Prop:=
 z6x P n (ro i6) (λe h1=>h1[D]?=some (.deferred (some []))/\z0k P (h1.setIfInBounds D (.deferred none)) e rs λvs=>R (zjo vs) (h1.setIfInBounds D (.deferred none))) e h
theorem z2s(hm:P.follows .mixedOrders=true){f:FuncId}{fn:Func}{ro:Nat->Array Oper}{rs:List ResultVar}(hf:P.funcs[f]?=some fn)
  (hb:fn.body=some (.seq (.region 0 (ro 0) false) (.seq (.region 1 (ro 1) false) (.seq (.seq (.region 2 (ro 2) false) (.block 0 (.rangeFunc (.tmp 12) #[13,14] (.seq (.region 3 (ro 3) false) (.region 4 (ro 4) false)) (.block 1 (.region 5 (ro 5) true))))) (.seq (.region 6 (ro 6) true) .ret)))))
  (ar:(ro 3).toList.all jm=true) (al:(ro 4).toList.all jm=true) (ap:(ro 5).toList.all jm=true) (hr:fn.results.toList=rs) (hn:fn.ntmps=n) (aE:15<=n) (vs:List Value) (hz:Nat.ble vs.length n=true) {R:Value->zb->Prop}
  (H:zi3 P n ro [0,1,2] (qa5 [1,2,5,7,12] λl h1=>∃v1 v2 v5 v7 g lb,l=[v1,v2,v5,v7,.func (.func g) #[] lb]/\ya P g=true /\
   ∀rec:Rec,(∀{Z aa:Value} {h2:zb} {K:Value->zb->Prop},h2[h1.size+1]?=some (.loop (rec .ready none)) ->
     zpz P n ro [3,4] 5 (λh3=>h3[h1.size+1]?=some (.loop (rec .ready none))) (λh3=>h3.setIfInBounds (h1.size+1) (.loop (rec .busy none)))
      (λh4=>h4[h1.size+1]?=some (.loop (rec .busy none))/\K (.bool true) (h4.setIfInBounds (h1.size+1) (.loop (rec .ready none)))) [(13,[],Z),(14,[],aa),(2,[],v2),(7,[],v7)] h2->YX P (h1.size+1) #[Z,aa] h2 K) ->
    XCI P g (#[.func (.yield (h1.size+1)) #[] #[]]++lb) ((h1.push (.deferred (some []))).push (.loop (rec .ready none))) λ_ h5=>h5[h1.size+1]?=some (.loop (rec .ready none)) /\
     z6z P n ro 6 rs h1.size R [(1,[],v1),(2,[],v2),(5,[],v5),(7,[],v7)] (h5.setIfInBounds (h1.size+1) (.loop (rec .exhausted none)))) (zwm 0 vs) h):XC P f vs.toArray h R:=by
 intro B d
 refine callsIn_wide.1 (callsIn_of_wp_marks (F:=Fence.wide) (n:=1) hf hb trivial ?_ rfl)
 subst hn
 have aG:vs.length<=fn.ntmps:=BE hz
 have hs:Sat fn.ntmps (zwm 0 vs) { tmps:=vs.toArray++Bn (fn.ntmps-vs.toArray.size) undef,defers:=[] }:=by
  refine⟨rfl,by simp;omega,?_⟩
  refine X4 vs.toArray _ vs 0 λj v hj=>?_
  have ak:j<vs.length:=by
   rcases AX j vs.length with h|h
   ·exact h
   ·rw[Bu h]at hj;cases hj
  simp only[AD,Bo]
  rw[Cs (by simpa using ak)]
  simp[hj]
 unfold zi3 zi3 zi3 zi3 at H
 refine wpIn_seq (wpIn_wide.2 (zzf H B d hs λe1 a1 d1 h1 s1 k1=>?_))
 show Code.wpIn Fence.wide 1 P _ _ a1 (mk B d1 h1)
 refine wpIn_seq (wpIn_wide.2 (zzf k1 B d1 s1 λe2 a2 d2 h2 s2 k2=>?_))
 show Code.wpIn Fence.wide 1 P _ _ a2 (mk B d2 h2)
 refine wpIn_seq (wpIn_seq (wpIn_wide.2 (zzf k2 B d2 s2 λe3 a3 d3 h3 s3 k3=>?_)))
 show Code.wpIn Fence.wide 1 P _ _ a3 (mk B d3 h3)
 obtain⟨u1,u2,u5,u7,aF,q1,q2,q5,q7,aB,v1,v2,v5,v7,g,lb,hl,hg,HR⟩:=qad k3
 simp only[Br,and_true]at hl
 obtain⟨rfl,rfl,rfl,rfl,rfl⟩:=hl
 have w1:=j9 s3 q1
 have w2:=j9 s3 q2
 have w5:=j9 s3 q5
 have w7:=j9 s3 q7
 have aD:=j9 s3 aB
 refine wpIn_block (wpIn_rangeFunc λax _=>?_)
 obtain⟨rec,O⟩:∃rec:Rec,rec=λst pe=>{ state:=st,pending:=pe,fn:=ax,tmps:=a3.tmps,params:=#[13,14],assign:=.seq (.region 3 (ro 3) false) (.region 4 (ro 4) false),body:=.block 1 (.region 5 (ro 5) true),defers:=h3.size }:=⟨_,rfl⟩
 have an:=HR rec (λ {Z aa h2 K} hl am=>qb4 hm (by decide) (by omega) (by omega) s3.size ar al ap O (λx hx=>by
  rcases Ag.1 hx with rfl|hx
  ·exact⟨rfl,(by show(2:Nat)≠13;decide),(by show(2:Nat)≠14;decide),w2⟩
  ·rw[Cn]at hx;subst hx;exact⟨rfl,(by show(7:Nat)≠13;decide),(by show(7:Nat)≠14;decide),w7⟩) hl am)
 have ae:a3.eval (.tmp 12)=.func (.func g) #[] lb:=aD
 refine⟨h3.size+1,[{ target:=.collected h3.size,args:=#[] }],mk B d3 ((h3.push (.deferred (some []))).push (.loop (rec .ready none))),{ target:=.fn (.func g) lb,args:=#[.func (.yield (h3.size+1)) #[] #[]] },mk B d3 ((h3.push (.deferred (some []))).push (.loop (rec .ready none))),g,
  #[.func (.yield (h3.size+1)) #[] #[]]++lb,mk B d3 ((h3.push (.deferred (some []))).push (.loop (rec .ready none))),?_,?_,λ_ _=>trivial,?_,λ_=>Ae _,?_⟩
 ·rw[O];exact run_enterLoop_outer _ _ _ _ _
 ·simp only[resolve,ae]
  simp[go_sem,DW]
 ·simp only[invoke]
  exact W6 hg _ _
 ·have hc:=an 0 B d3
  refine CallsIn.mono (F:=Fence.wide) hc ?_
  rintro e' w' ⟨v,d5,h5,rfl,rfl,au,ht⟩
  have ac:(mk B d5 h5).heap[h3.size+1]?=some (.loop (rec .ready none)):=au
  have af:(Instr.endLoop (h3.size+1)).run P (mk B d5 h5)=.ok none (mk B d5 (h5.setIfInBounds (h3.size+1) (.loop (rec .exhausted none)))):=by
   have:=run_endLoop (P:=P) ac (by rw[O];intro hx;cases hx)
   rw[O]at this ⊢
   exact this
  refine⟨none,_,af,?_⟩
  simp only[Exit.inBlock]
  show Code.wpIn Fence.wide 1 P (.seq (.region 6 (ro 6) true) .ret) _ _ (mk B d5 (h5.setIfInBounds (h3.size+1) (.loop (rec .exhausted none))))
  have ay:Sat fn.ntmps [(1,[],u1),(2,[],u2),(5,[],u5),(7,[],u7)] a3:=zp0 s3.defers s3.size λx hx=>by
   simp only[Ag,List.not_mem_nil,or_false]at hx
   rcases hx with rfl|rfl|rfl|rfl
   ·exact⟨rfl,w1⟩
   ·exact⟨rfl,w2⟩
   ·exact⟨rfl,w5⟩
   ·exact⟨rfl,w7⟩
  have ha:({ a3 with defers:=[{ target:=.collected h3.size,args:=#[] }]++a3.defers }:Act)=znc [{ target:=.collected h3.size,args:=#[] }] a3:=by
   unfold znc;rw[s3.defers];rfl
  rw[ha]
  refine wpIn_seq (wpIn_wide.2 (z2r hm ht B d5 ay _ λe6 a6 d6 h6 s6 k6=>?_))
  show Code.wpIn Fence.wide 1 P .ret _ _ (mk B d6 h6)
  refine wpIn_ret ?_
  obtain⟨hD,ah⟩:=k6
  obtain⟨v',aC,aj⟩:=Ye s6 hr ah
  have az:(mk B d6 h6).heap[h3.size]?=some (.deferred (some [])):=hD
  have ai:=run_takeDeferred (P:=P) az
  have aA:(znc [{ target:=.collected h3.size,args:=#[] }] a6).defers=[{ target:=.collected h3.size,args:=#[] }]:=by unfold znc;rw[s6.defers];rfl
  show LeavesInM _ _ _ _ _ _ (znc [{ target:=.collected h3.size,args:=#[] }] a6).defers _ _
  rw[aA]
  exact⟨by simp,.inl ⟨_,_,rfl,ai,v',aj B d6,v',d6,h6.setIfInBounds h3.size (.deferred none),rfl,rfl,aC⟩⟩
end
section
theorem zfb(al:Nat)(c1:Addr)(c2:Addr)(h:zb)(R:Value->zb->Prop)
  (H:∃ak:Sl,zm h c1=some (.slice ak.a ak.len ak.cap)/\∃(aF:Int->zb->Prop) (aJ:Int->zb->Nat),aF 0 h/\∀aj:Int,∀ay:zb,aF aj ay->(((decide ((aj:Int)<((ak.len:Nat):Int)))=true->∃aG:Addr,(ak.a=some aG/\0<=(aj:Int)/\(aj:Int)<((ak.len:Nat):Int))/\∃aC:Bt,zm ay (aG.add ((aj:Int).toNat*1))=some (.string aC)/\∃aA:Int,∃aB:Bt,∃ac:Sl,∃aa:Sl,ze ay c2 0 [.int .i64 aA,.string aB,.slice ac.a ac.len ac.cap,.slice aa.a aa.len aa.cap]/\XC Tp 117 #[.agg #[.int .i64 aA,.string aB,.slice ac.a ac.len ac.cap,.slice aa.a aa.len aa.cap],.string aC] ay (λaI ap=>∃O:Int,aI=.int .i64 O/\((decide ((O:Int)<0))=true->R (.tuple #[]) ap)/\((decide ((O:Int)<0))=false->∃ai:Sl,zm ap (Af c2 3)=some (.slice ai.a ai.len ai.cap)/\∃aE:Addr,(ai.a=some aE/\0<=(O:Int)/\(O:Int)<((ai.len:Nat):Int))/\∃au:Int,∃an:Bt,∃ae:Sl,∃af:Sl,ze ap (aE.add ((O:Int).toNat*4)) 0 [.int .i64 au,.string an,.slice ae.a ae.len ae.cap,.slice af.a af.len af.cap]/\XRunU Tp (Al 25 (.pointer (some c2)) (.agg #[.int .i64 au,.string an,.slice ae.a ae.len ae.cap,.slice af.a af.len af.cap])) ap (λaD=>∃ax:Int,∃ar:Bt,∃Z:Sl,∃ah:Sl,ze aD c2 0 [.int .i64 ax,.string ar,.slice Z.a Z.len Z.cap,.slice ah.a ah.len ah.cap]/\YX Tp al #[.int .i64 O,.agg #[.int .i64 ax,.string ar,.slice Z.a Z.len Z.cap,.slice ah.a ah.len ah.cap]] aD (λaH az=>∃am:Bool,aH=.bool am/\((!am)=true->R (.tuple #[]) az)/\((!am)=false->(aF (Aa .i64 (aj+1)) az/\aJ (Aa .i64 (aj+1)) az<aJ aj ay)))))))/\((decide ((aj:Int)<((ak.len:Nat):Int)))=false->R (.tuple #[]) ay))):
  XCI Tp 116 #[.func (.yield al) #[] #[],.pointer (some c1),.pointer (some c2)] h R:=
 zr0 Tryz.mixed ⟨[],[(1,[(9,.one (.int .i64))])],[]⟩ [.func (.yield al) #[] #[],.pointer (some c1),.pointer (some c2)] (rs:=[]) (n:=29) Tryz.func116 (by kernel_rfl) (by kernel_rfl) (by kernel_rfl) (by kernel_rfl) (Eq.mp (by kernel_rfl) H)
theorem zgf(aj:Int)(ak:Bt)(ae:Sl)(ac:Sl)(O:Sl)(h:zb)(R:List Value->zb->Prop)
  (H:let an:zb:=Et h (.cells #[.int .i64 aj,.string ak,.slice ae.a ae.len ae.cap,.slice ac.a ac.len ac.cap] 25);let am:zb:=Et an (.cells #[.int .i64 0,.string (⟨#[]⟩:Bt),.slice none 0 0,.slice none 0 0] 25);let al:zb:=Et am (.cells #[.slice none 0 0] 64);∃ah:Int,∃ai:Bt,∃aa:Sl,∃Z:Sl,ze al ⟨CC h,0,none⟩ 0 [.int .i64 ah,.string ai,.slice aa.a aa.len aa.cap,.slice Z.a Z.len Z.cap]/\XC Tp 77 #[.agg #[.int .i64 ah,.string ai,.slice aa.a aa.len aa.cap,.slice Z.a Z.len Z.cap],.slice O.a O.len O.cap] al (λar ap=>∃af:Value,ar=af/\R [.slice O.a O.len O.cap,.pointer (some ⟨CC h,0,none⟩),.pointer (some ⟨CC an,0,none⟩),.pointer (some ⟨CC am,0,none⟩),af] ap)):
  zi3 Tp 27 (Qi (codeOf Tryz.f43)) [0,1,2] (qa5 [1,2,5,7,12] R) [(0,[],.agg #[.int .i64 aj,.string ak,.slice ae.a ae.len ae.cap,.slice ac.a ac.len ac.cap]),(1,[],.slice O.a O.len O.cap)] h:=
 Eq.mp (by kernel_rfl) H
theorem zgh(au:Int)(ak:Int)(al:Bt)(ah:Sl)(af:Sl)(x2:Addr)(x7:Addr)(h:zb)(C:zb->Prop)(g:zb->zb)(R:zb->Prop)
  (H:let ar:zb:=Et h (.cells #[.int .i64 0,.string (⟨#[]⟩:Bt),.slice none 0 0,.slice none 0 0] 25);XRunU Tp (Al 25 (.pointer (some ⟨CC h,0,none⟩)) (.agg #[.int .i64 ak,.string al,.slice ah.a ah.len ah.cap,.slice af.a af.len af.cap])) ar (λae=>C ae/\∃O:Sl,zm (g ae) x7=some (.slice O.a O.len O.cap)/\∃aj:Int,∃ai:Bt,∃ac:Sl,∃aa:Sl,ze (g ae) ⟨CC h,0,none⟩ 0 [.int .i64 aj,.string ai,.slice ac.a ac.len ac.cap,.slice aa.a aa.len aa.cap]/\let am:zb:=Et (g ae) (.cells #[.int .i64 au] 3);((am)[(⟨CC h,0,none⟩:Addr).block]?=((g ae))[(⟨CC h,0,none⟩:Addr).block]?/\(am)[(x7:Addr).block]?=((g ae))[(x7:Addr).block]?/\True)/\XRun Tp (Au #[64,64] 64 #[.slice O.a O.len O.cap,.slice (some ⟨CC (g ae),0,none⟩) 1 1]) am (λax ap=>∃Z:Sl,ax=.slice Z.a Z.len Z.cap/\((ap)[(⟨CC h,0,none⟩:Addr).block]?=((g ae))[(⟨CC h,0,none⟩:Addr).block]?/\True)/\XRunU Tp (Al 64 (.pointer (some x7)) (.slice Z.a Z.len Z.cap)) ap (λan=>((an)[(⟨CC h,0,none⟩:Addr).block]?=((g ae))[(⟨CC h,0,none⟩:Addr).block]?/\True)/\XRunU Tp (Al 25 (.pointer (some x2)) (.agg #[.int .i64 aj,.string ai,.slice ac.a ac.len ac.cap,.slice aa.a aa.len aa.cap])) an (λay=>R ay))))):
  zpz Tp 27 (Qi (codeOf Tryz.f43)) [3,4] 5 C g R [(13,[],.int .i64 au),(14,[],.agg #[.int .i64 ak,.string al,.slice ah.a ah.len ah.cap,.slice af.a af.len af.cap]),(2,[],.pointer (some x2)),(7,[],.pointer (some x7))] h:=
 Eq.mp (by kernel_rfl) H
theorem zgi(x1:Sl)(x2:Addr)(x5:Addr)(x7:Addr)(h:zb)(C:zb->Prop)(g:zb->zb)(R:Value->zb->Prop)
  (H:∃Z:Sl,zm h x7=some (.slice Z.a Z.len Z.cap)/\∃aj:Int,∃ah:Bt,∃aa:Sl,∃O:Sl,ze h x2 0 [.int .i64 aj,.string ah,.slice aa.a aa.len aa.cap,.slice O.a O.len O.cap]/\∃ac:Sl,zm h x7=some (.slice ac.a ac.len ac.cap)/\XRunU Tp (Al 25 (.pointer (some x5)) (.agg #[.int .i64 aj,.string ah,.slice aa.a aa.len aa.cap,.slice O.a O.len O.cap])) h (λai=>((ai)[(x7:Addr).block]?=(h)[(x7:Addr).block]?/\True)/\C ai/\∃ak:Int,∃al:Bt,∃af:Sl,∃ae:Sl,ze (g ai) x5 0 [.int .i64 ak,.string al,.slice af.a af.len af.cap,.slice ae.a ae.len ae.cap]/\R (.tuple #[.slice Z.a Z.len Z.cap,.agg #[.int .i64 ak,.string al,.slice af.a af.len af.cap,.slice ae.a ae.len ae.cap],.bool ((((ac.len:Nat):Int):Int)==((x1.len:Nat):Int))]) (g ai))):
  z6x Tp 27 ((Qi (codeOf Tryz.f43)) 6) (λe h1=>C h1/\z0k Tp (g h1) e [.tmp 4,.cell 5 25,.tmp 6] λvs=>R (zjo vs) (g h1)) [(1,[],.slice x1.a x1.len x1.cap),(2,[],.pointer (some x2)),(5,[],.pointer (some x5)),(7,[],.pointer (some x7))] h:=
 Eq.mp (by kernel_rfl) H
end
section
variable {h0 g g' h:zb} {M:Fr} {sp sk si:Sl} {w:Tr}
theorem z7a:ElemT Tp 64 3 (.int .i64 0) 1 8:=⟨by kernel_rfl,⟨Tryz.t3,by kernel_rfl,by kernel_rfl,by kernel_rfl,by kernel_rfl⟩,rfl,by omega⟩
theorem qae:ji Tp 64=true:=by kernel_rfl
theorem qaf:je Tp 64=1:=by kernel_rfl
def zv3(l:List Int):List Value:=l.map (Ew .i64)
structure LI (h0:zb) (M:Fr) (rec:Rec) (sp:Sl) (w x:Tr) (os:List Int) (g:zb):Prop where
 keep:Keep h0.size h0 g
 size:h0.size+7<=g.size
 v:∃sk si,Blk g h0.size (zc w.kind w.text sk si).toArray/\Rd M (.row .str) w.keys [slV sk]/\Rd M (.row .tree) w.items [slV si]
 z:Blk g (h0.size+1) (zc 0 ⟨#[]⟩ ⟨none,0,0⟩ ⟨none,0,0⟩).toArray
 o:∃so,Blk g (h0.size+2) #[slV so]/\Owns g (h0.size+7) 3 1 so (zv3 os)/\so.len=os.length
 c:∃sk si,Blk g (h0.size+3) (zc x.kind x.text sk si).toArray/\Rd M (.row .str) x.keys [slV sk]/\Rd M (.row .tree) x.items [slV si]
 p:Blk g (h0.size+4) #[slV sp]
 d:g[h0.size+5]?=some (.deferred (some []))
 l:g[h0.size+6]?=some (.loop (rec .ready none))
theorem LI.frame{rec:Rec}{w x:Tr}{os:List Int}(I:LI h0 M rec sp w x os g)(k:Keep g.size g g'):LI h0 M rec sp w x os g':=by
 have hs:=I.size
 have hk:=k.size
 obtain⟨sk,si,v1,v2,v3⟩:=I.v
 obtain⟨so,o1,o2,o3⟩:=I.o
 obtain⟨tk,ti,c1,c2,c3⟩:=I.c
 exact⟨⟨by have:=I.keep.size;omega,λi hi=>(k.get i (by omega)).trans (I.keep.get i hi)⟩,by omega,⟨sk,si,v1.ofKeep k,v2,v3⟩,I.z.ofKeep k,⟨so,o1.ofKeep k,o2.keepN k,o3⟩,⟨tk,ti,c1.ofKeep k,c2,c3⟩,I.p.ofKeep k,by rw[k.get _ (by omega)];exact I.d,by rw[k.get _ (by omega)];exact I.l⟩
theorem Ja{l i:Nat}{o:Obj}(hi:i≠l):(h.setIfInBounds l o)[i]?=h[i]?:=AW (Ne.symm hi)
theorem zp1{l:Nat}{o:Obj}(hl:l<h.size):(h.setIfInBounds l o)[l]?=some o:=Array.getElem?_setIfInBounds_self_of_lt hl
set_option maxRecDepth 100000 in
set_option maxHeartbeats 2000000 in
theorem z2t{rec:Rec}{w x:Tr}{os:List Int}(I:LI h0 M rec sp w x os h)(r:Int)(aL:os.length<1000000)(hk:Rd M (.row .str) x.keys [slV sk])(hi:Rd M (.row .tree) x.items [slV si]){K:Value->zb->Prop}
  (hK:∀h',LI h0 M rec sp x x (os++[r]) h'->K (.bool true) h'):
  zpz Tp 27 (Qi (codeOf Tryz.f43)) [3,4] 5 (λh3=>h3[h0.size+6]?=some (.loop (rec .ready none))) (λh3=>h3.setIfInBounds (h0.size+6) (.loop (rec .busy none)))
   (λh4=>h4[h0.size+6]?=some (.loop (rec .busy none))/\K (.bool true) (h4.setIfInBounds (h0.size+6) (.loop (rec .ready none))))
   [(13,[],.int .i64 r),(14,[],.agg #[.int .i64 x.kind,.string x.text,.slice sk.a sk.len sk.cap,.slice si.a si.len si.cap]),(2,[],.pointer (some ⟨h0.size,0,none⟩)),(7,[],.pointer (some ⟨h0.size+2,0,none⟩))] h:=by
 have hs:=I.size
 obtain⟨so,o1,o2,o3⟩:=I.o
 obtain⟨vk,vi,v1,v2,v3⟩:=I.v
 obtain⟨ck,ci,c1,c2,c3⟩:=I.c
 have ai:∀p,so.a=some p->h0.size+7<=p.block/\p.block<h.size:=λp hp=>o2.base_le p hp
 refine zgh r x.kind x.text sk si ⟨h0.size,0,none⟩ ⟨h0.size+2,0,none⟩ h _ _ _ ?_
 intro af
 have aH:af.size=h.size+1:=Ai _
 have aF:Keep h.size h af:=Keep.push _ _ (Ae _)
 have aB:Blk af h.size (zc 0 ⟨#[]⟩ ⟨none,0,0⟩ ⟨none,0,0⟩).toArray:=Blk.new _ _ _
 clear_value af
 refine qa aB rfl _ _ _ _ λam ax aG aE=>?_
 have an:∀i,i<h.size->am[i]?=h[i]?:=λi hi=>(aE i (by omega)).trans (aF.get i hi)
 refine⟨by rw[an _ (by omega)];exact I.l,?_⟩
 generalize hG:am.setIfInBounds (h0.size+6) (.loop (rec .busy none))=G
 have zG:G.size=h.size+1:=by rw[<-hG,BX];omega
 have gG:∀i,i<h.size->i≠h0.size+6->G[i]?=h[i]?:=λi hi hn=>by rw[<-hG,Ja hn];exact an i hi
 have lG:G[h0.size+6]?=some (.loop (rec .busy none)):=by rw[<-hG];exact zp1 (by omega)
 have bG:Blk G h.size (zc x.kind x.text sk si).toArray:=ax.keep (by rw[<-hG,Ja (by omega)])
 have oG:Blk G (h0.size+2) #[slV so]:=o1.keep (gG _ (by omega) (by omega))
 refine⟨so,oG.cell (o:=0) rfl,x.kind,x.text,sk,si,bG.ld (cs:=zc x.kind x.text sk si),?_⟩
 intro O
 have aM:O.size=h.size+2:=by show(G.push _).size=_;rw[Ai,zG]
 have aa:Keep G.size G O:=Keep.push _ _ (Ae _)
 have au:Blk O G.size #[.int .i64 r]:=Blk.new _ _ _
 clear_value O
 refine⟨⟨aa.get _ (by show h.size<_;omega),aa.get _ (by show h0.size+2<_;omega),trivial⟩,?_⟩
 have ar:Owns O (h0.size+7) 3 1 so (zv3 os):=o2.keep λp hp=>by
  have:=ai p hp
  rw[aa.get _ (by omega),gG _ (by omega) (by omega)]
 refine zen z7a ar (src:=⟨some ⟨G.size,0,none⟩,1,1⟩) (news:=[.int .i64 r]) (n:=O.size) ?_ rfl (by simp[Value.oneCell']) (by simp only;omega) (by simp only;omega) (by omega) λs' ae q1 q2 q3 q4 q5=>⟨s',rfl,?_⟩
 ·refine .inr ⟨G.size,0,rfl,by omega,λi v hv=>?_⟩
  match i,hv with
  |0,hv=>cases hv;exact au.cell rfl
 have aj:∀i,i<O.size->(∀p,so.a=some p->i≠p.block)->ae[i]?=O[i]?:=q3
 have al:ae[h.size]?=G[h.size]?:=(aj _ (by omega) λp hp=>by have:=ai p hp;omega).trans (aa.get _ (by omega))
 refine⟨⟨al,trivial⟩,?_⟩
 have Z:∀i,i<h0.size+7->i≠h0.size+6->ae[i]?=h[i]?:=λi hi hn=>(aj i (by omega) λp hp=>by have:=ai p hp;omega).trans ((aa.get _ (by omega)).trans (gG i (by omega) hn))
 have aC:ae[h0.size+6]?=some (.loop (rec .busy none)):=(aj _ (by omega) λp hp=>by have:=ai p hp;omega).trans ((aa.get _ (by omega)).trans lG)
 refine xr (vs:=[slV s']) qae (o1.keep (Z _ (by omega) (by omega))) rfl qaf (by simp) (by simp[Value.oneCell',slV]) λaI ap aN ac=>?_
 have aD:upd #[slV so] 0 [slV s']=#[slV s']:=by simp[upd]
 rw[aD]at ap
 refine⟨⟨(ac _ (by show h.size≠_;omega)).trans al,trivial⟩,?_⟩
 refine qa (v1.keep ((ac _ (by omega)).trans (Z _ (by omega) (by omega)))) rfl _ _ _ _ λak az aJ ah=>?_
 have aA:ak[h0.size+6]?=some (.loop (rec .busy none)):=(ah _ (by omega)).trans ((ac _ (by omega)).trans aC)
 refine⟨aA,hK _ ?_⟩
 have low:∀i,i<h0.size+7->i≠h0.size+6->i≠h0.size->i≠h0.size+2->(ak.setIfInBounds (h0.size+6) (.loop (rec .ready none)))[i]?=h[i]?:=λi hi h1 h2 h3=>(Ja h1).trans ((ah _ h2).trans ((ac _ h3).trans (Z i hi h1)))
 have ay:s'.len=so.len+1:=q1
 refine⟨⟨by rw[BX];have:=I.keep.size;omega,λi hi=>(low i (by omega) (by omega) (by omega) (by omega)).trans (I.keep.get i hi)⟩,by rw[BX];omega,⟨sk,si,az.keep (Ja (by omega)),hk,hi⟩,I.z.keep (low _ (by omega) (by omega) (by omega) (by omega)),⟨s',ap.keep ((Ja (by omega)).trans (ah _ (by omega))),?_,by rw[ay,o3];simp⟩,⟨ck,ci,c1.keep (low _ (by omega) (by omega) (by omega) (by omega)),c2,c3⟩,I.p.keep (low _ (by omega) (by omega) (by omega) (by omega)),(low _ (by omega) (by omega) (by omega) (by omega)).trans I.d,zp1 (by omega)⟩
 have e:zv3 (os++[r])=zv3 os++[.int .i64 r]:=by unfold zv3;rw[List.map_append];rfl
 rw[e]
 refine q2.keep λp hp=>?_
 have:=q2.base_le p hp
 rw[Ja (by omega),ah _ (by omega),ac _ (by omega)]
theorem LI.setC{rec:Rec}{w x y:Tr}{os:List Int}(I:LI h0 M rec sp w x os g)(hz:g'.size=g.size)(hf:∀j,j≠h0.size+3->g'[j]?=g[j]?)(hb:Blk g' (h0.size+3) (zc y.kind y.text sk si).toArray)(hk:Rd M (.row .str) y.keys [slV sk])(hi:Rd M (.row .tree) y.items [slV si]):LI h0 M rec sp w y os g':=by
 have hs:=I.size
 obtain⟨vk,vi,v1,v2,v3⟩:=I.v
 obtain⟨so,o1,o2,o3⟩:=I.o
 refine⟨⟨by have:=I.keep.size;omega,λi hi=>(hf i (by omega)).trans (I.keep.get i hi)⟩,by omega,⟨vk,vi,v1.keep (hf _ (by omega)),v2,v3⟩,I.z.keep (hf _ (by omega)),⟨so,o1.keep (hf _ (by omega)),o2.keep λp hp=>hf _ (by have:=o2.base_le p hp;omega),o3⟩,⟨sk,si,hb,hk,hi⟩,I.p.keep (hf _ (by omega)),(hf _ (by omega)).trans I.d,(hf _ (by omega)).trans I.l⟩
theorem z2u(M:Fr)(xs:List Int):RowC M (.int .i64) xs (zv3 xs):=by
 refine⟨by simp[sz,zv3],λi hi=>?_⟩
 simp only[sz,Cf]
 have O:i<(zv3 xs).length:=by unfold zv3;simpa using hi
 rw[AC O,B4,Cr]
 simp only[zv3,List.getElem_map]
 rfl
theorem qag(ag:AgM M h0)(k:Keep h0.size h0 h){base:Nat}(hb:h0.size<=base){so:Sl}{xs:List Int}(H:Owns h base 3 1 so (zv3 xs))(hl:so.len=xs.length)(hn:xs.length<=140737488355328):∃M',Later h0 M h M'/\RdV M' (.row (.int .i64)) xs (slV so):=by
 rcases Owns.blk H with⟨O,hc⟩|⟨b,cs,e1,e2,e3,e4,e5,e6⟩
 ·refine⟨M,Later.same ag k,?_⟩
  have:xs=[]:=Az (by omega)
  subst this
  rw[zjj rfl]
  exact⟨_,rfl,so.a,so.cap,by rw[slV,O];rfl,⟨by simp,by simp⟩,.inl rfl⟩
 ·refine⟨MxL M h [b],MxL.later ag k (λx hx=>by simp at hx;omega),?_⟩
  rw[zjj rfl,slV,e1,hl]
  refine RowC.rd (cs:=cs) (z2u _ xs) (MxL.at (by simp) e3) ?_ ⟨hn,by omega⟩
  rw[<-e5,hl];rfl
set_option maxRecDepth 100000 in
set_option maxHeartbeats 800000 in
theorem z2v{gl:Fr}(hg:GL gl){v:Tr}(hv:Sm v)(ho:Qk zw v=true){p:List Bt}(hp:SL p){R:List Int×Tr×Bool->Prop}(hR:R ((yj v p).map (λq=>(q.1:Int)),lastT v (yj v p),decide ((yj v p).length=p.length))):
  PC Tp gl 43 [Arg.mk .tree v,Arg.mk (.row .str) p] [.row (.int .i64),.tree,.bool] R:=by
 intro h M vs hM ag ha
 match vs,ha with
 |[u,w],⟨hu,hw,_⟩=>
  have hu:RdV M .tree v u:=hu
  obtain⟨sk,si,rfl,rk,ri⟩:=yp hu
  obtain⟨sp,rfl,hr⟩:=zdg hw
  have hr:Rd M (.row .str) p [slV sp]:=hr
  obtain⟨au,a6,a7⟩:=rowLen hr
  have a1:=hp.n
  apply PX.of
  obtain⟨RR,ap⟩:∃RR:Value->zb->Prop,RR=λv h'=>∃M' r,Later h M h' M'/\zht M' [.row (.int .i64),.tree,.bool] r v/\R r:=⟨_,rfl⟩
  refine XC.mono (R:=RR) ?_ (λv h' hx=>by rw[ap]at hx;exact hx)
  refine z2s (P:=Tp) Tryz.mixed (ro:=Qi (codeOf Tryz.f43)) (n:=27) (rs:=[.tmp 4,.cell 5 25,.tmp 6]) Tryz.func43 (by kernel_rfl) (by kernel_rfl) (by kernel_rfl) (by kernel_rfl) (by kernel_rfl) (by kernel_rfl) (by decide) [.agg #[.int .i64 v.kind,.string v.text,slV sk,slV si],slV sp] (by kernel_rfl) ?_
  refine zgf v.kind v.text sk si sp h _ ?_
  intro h1 h2 h3
  have z1:h1.size=h.size+1:=Ai _
  have z2:h2.size=h1.size+1:=Ai _
  have z3:h3.size=h2.size+1:=Ai _
  have k1:Keep h.size h h1:=Keep.push _ _ (Ae _)
  have k2:Keep h1.size h1 h2:=Keep.push _ _ (Ae _)
  have k3:Keep h2.size h2 h3:=Keep.push _ _ (Ae _)
  have b1:Blk h1 h.size (zc v.kind v.text sk si).toArray:=Blk.new _ _ _
  have b2:Blk h2 h1.size (zc 0 ⟨#[]⟩ ⟨none,0,0⟩ ⟨none,0,0⟩).toArray:=Blk.new _ _ _
  have b3:Blk h3 h2.size #[slV ⟨none,0,0⟩]:=Blk.new _ _ _
  clear_value h1 h2 h3
  refine⟨v.kind,v.text,sk,si,((b1.ofKeep k2).ofKeep k3).ld (cs:=zc v.kind v.text sk si),?_⟩
  apply zix v.kind v.text sk si sp
  intro h4 h5
  have z4:h4.size=h3.size+1:=Ai _
  have z5:h5.size=h4.size+1:=Ai _
  have k4:Keep h3.size h3 h4:=Keep.push _ _ (Ae _)
  have k5:Keep h4.size h4 h5:=Keep.push _ _ (Ae _)
  have b4:Blk h4 h3.size (zc v.kind v.text sk si).toArray:=Blk.new _ _ _
  have b5:Blk h5 h4.size #[slV sp]:=Blk.new _ _ _
  clear_value h4 h5
  have e1:h1.size=h.size+1:=z1
  have e2:h2.size=h.size+2:=by omega
  have e3:h3.size=h.size+3:=by omega
  have e4:h4.size=h.size+4:=by omega
  have e5:h5.size=h.size+5:=by omega
  refine⟨_,rfl,_,_,_,_,_,_,rfl,by kernel_rfl,?_⟩
  rw[e1,e2,e3,e4,e5,show h.size+5+1=h.size+6 from rfl]
  intro rec hY
  have K0:Keep h.size h h5:=(((k1.trans k2 (by omega)).trans k3 (by omega)).trans k4 (by omega)).trans k5 (by omega)
  obtain⟨g6,O⟩:∃g6,(h5.push (.deferred (some []))).push (.loop (rec .ready none))=g6:=⟨_,rfl⟩
  have z6:g6.size=h.size+7:=by rw[<-O,Ai,Ai];omega
  have k6:Keep h5.size h5 g6:=by
   rw[<-O]
   exact(Keep.push h5 (.deferred (some [])) (Ae _)).trans (Keep.push _ _ (by rw[Ai];omega)) (Ae _)
  have I0:LI h M rec sp v v [] g6:=by
   refine⟨K0.trans k6 (by omega),by omega,⟨sk,si,(((b1.ofKeep k2).ofKeep k3).ofKeep k4 |>.ofKeep k5).ofKeep k6,rk,ri⟩,?_,⟨⟨none,0,0⟩,?_,Owns.nil _ _ _ _,rfl⟩,⟨sk,si,?_,rk,ri⟩,?_,?_,?_⟩
   ·rw[<-e1];exact((b2.ofKeep k3).ofKeep k4 |>.ofKeep k5).ofKeep k6
   ·rw[<-e2];exact((b3.ofKeep k4).ofKeep k5).ofKeep k6
   ·rw[<-e3];exact(b4.ofKeep k5).ofKeep k6
   ·rw[<-e4];exact b5.ofKeep k6
   ·rw[<-O,BG,if_neg (by rw[Ai];omega),<-e5];exact wu _ _
   ·rw[<-O]
    have:=wu (h5.push (.deferred (some []))) (.loop (rec .ready none))
    rw[Ai,e5]at this;exact this
  rw[O]
  clear O
  have aD:∀(w:Tr) (done:List (Nat×Tr)) (g:zb),yj v p=done->lastT v done=w->LI h M rec sp w w (done.map λq=>(q.1:Int)) g ->
    (g[h.size+6]?=some (.loop (rec .ready none))/\z6z Tp 27 (Qi (codeOf Tryz.f43)) 6 [.tmp 4,.cell 5 25,.tmp 6] (h.size+5) RR
     [(1,[],.slice sp.a sp.len sp.cap),(2,[],.pointer (some ⟨h.size,0,none⟩)),(5,[],.pointer (some ⟨h.size+1,0,none⟩)),(7,[],.pointer (some ⟨h.size+2,0,none⟩))] (g.setIfInBounds (h.size+6) (.loop (rec .exhausted none)))):=by
   intro w done g ae aj I
   refine⟨I.l,?_⟩
   have hs:=I.size
   obtain⟨so,o1,o2,o3⟩:=I.o
   obtain⟨vk,vi,v1,v2,v3⟩:=I.v
   obtain⟨G,hG⟩:∃G,g.setIfInBounds (h.size+6) (.loop (rec .exhausted none))=G:=⟨_,rfl⟩
   have zG:G.size=g.size:=by rw[<-hG,BX]
   have gG:∀i,i≠h.size+6->G[i]?=g[i]?:=λi hi=>by rw[<-hG];exact Ja hi
   rw[hG]
   unfold z6z
   refine zgi sp ⟨h.size,0,none⟩ ⟨h.size+1,0,none⟩ ⟨h.size+2,0,none⟩ G (λh1=>h1[h.size+5]?=some (.deferred (some []))) (λh1=>h1.setIfInBounds (h.size+5) (.deferred none)) RR ?_
   have oG:Blk G (h.size+2) #[slV so]:=o1.keep (gG _ (by omega))
   refine⟨so,oG.cell (o:=0) rfl,w.kind,w.text,vk,vi,(v1.keep (gG _ (by omega))).ld (cs:=zc w.kind w.text vk vi),so,oG.cell (o:=0) rfl,?_⟩
   refine qa (I.z.keep (gG _ (by omega))) rfl _ _ _ _ λaI aM ba af=>?_
   refine⟨⟨af _ (by show h.size+2≠_;omega),trivial⟩,(af _ (by omega)).trans ((gG _ (by omega)).trans I.d),w.kind,w.text,vk,vi,(aM.keep (Ja (by omega))).ld (cs:=zc w.kind w.text vk vi),?_⟩
   have KF:Keep h.size h (aI.setIfInBounds (h.size+5) (.deferred none)):=⟨by rw[BX];have:=I.keep.size;omega,λi hi=>by rw[Ja (by omega),af _ (by omega),gG _ (by omega)];exact I.keep.get i hi⟩
   have OF:Owns (aI.setIfInBounds (h.size+5) (.deferred none)) (h.size+7) 3 1 so (zv3 (done.map λq=>(q.1:Int))):=o2.keep λq hq=>by
    have:=o2.base_le q hq
    rw[Ja (by omega),af _ (by omega),gG _ (by omega)]
   have am:=zlh v p
   rw[ae]at am
   obtain⟨M',L',aT⟩:=qag ag KF (by omega) OF o3 (by rw[Dw];omega)
   rw[ap]
   refine⟨M',(done.map (λq=>(q.1:Int)),w,decide (done.length=p.length)),L',⟨[slV so,.agg #[.int .i64 w.kind,.string w.text,slV vk,slV vi],.bool (decide (done.length=p.length))],⟨_,_,rfl,aT,_,_,rfl,yd (Rd.mono L'.le v2) (Rd.mono L'.le v3),_,rfl,rdBool _⟩,?_⟩,?_⟩
   ·have aZ:(((so.len:Nat):Int)==((sp.len:Nat):Int))=decide (done.length=p.length):=by
     rw[o3,au,Dw,AB];simp;omega
    rw[aZ];rfl
   ·rw[ae,aj]at hR;exact hR
  show XCI Tp 116 #[.func (.yield (h.size+6)) #[] #[],.pointer (some ⟨h.size+4,0,none⟩),.pointer (some ⟨h.size+3,0,none⟩)] g6 _
  refine zfb (h.size+6) ⟨h.size+4,0,none⟩ ⟨h.size+3,0,none⟩ g6 _ ?_
  refine⟨sp,I0.p.cell (o:=0) rfl,λi g=>∃(k:Nat) (w:Tr) (done:List (Nat×Tr)),i=k/\k<=p.length/\Sm w/\Qk zw w=true/\done.length=k/\yj v p=done++yj w (p.drop k)/\lastT v done=w/\LI h M rec sp w w (done.map λq=>(q.1:Int)) g,λi _=>p.length-i.toNat,⟨0,v,[],rfl,by omega,hv,ho,rfl,by simp,rfl,I0⟩,?_⟩
  rintro i g ⟨k,w,done,rfl,hk,hw,an,am,aa,aE,I⟩
  refine⟨λhc=>?_,λhc=>?_⟩
  ·have Z:k<p.length:=by simp at hc;omega
   have agg:AgM M g:=ag.keep I.keep
   refine zbo agg hr Z rfl rfl ?_
   obtain⟨ck,ci,c1,c2,c3⟩:=I.c
   refine⟨w.kind,w.text,ck,ci,c1.ld (cs:=zc w.kind w.text ck ci),?_⟩
   have aQ:=hp.s _ (Ao Z)
   have aO:PC Tp gl 117 [Arg.mk .tree w,Arg.mk .str p[k]] [.int .i64] (λr=>r=qd w p[k]):=z6u hg aQ rfl
   refine aO.go (vs:=[.agg #[.int .i64 w.kind,.string w.text,slV ck,slV ci],.string p[k]]) hM agg (yo (yd c2 c3) (yo (rdStr _) ww)) λq aG be r az ay ak=>?_
   have ak:r=qd w p[k]:=ak
   subst ak
   have ah:=I.frame az.keep
   have ac:p.drop k=p[k]::p.drop (k+1):=AC Z
   refine⟨qd w p[k],z9s ay,λaB=>?_,λaJ=>?_⟩
   ·have ai:qd w p[k]<0:=by simpa using aB
    rw[ac,zit ai,Bc]at aa
    exact aD w done aG aa aE ah
   ·have aV:¬qd w p[k]<0:=by simpa using aJ
    obtain⟨j,hj,al⟩:∃j:Nat,qd w p[k]=j/\j<w.items.length:=by
     rcases Y5 (qz an) p[k]with e|e
     ·omega
     ·exact e
    have aL:=c1.ofKeep az.keep
    have ar:AgM M aG:=ag.keep ah.keep
    obtain⟨a8,_,_⟩:=rowLen c3
    obtain⟨a,xk,xi,ea,aP,aF,aA⟩:=zfv ar c3 al
    have hm:w.items[j]∈w.items:=Ao al
    rw[hj]
    refine⟨ci,aL.cellAdd (o:=0) (k:=3) rfl,a,⟨ea,by omega,by omega⟩,w.items[j].kind,w.items[j].text,xk,xi,by rw[Ad];exact aP,?_⟩
    refine qa aL rfl _ _ _ _ λaC aH aS aY=>?_
    have ax:LI h M rec sp w w.items[j] (done.map λq=>(q.1:Int)) aC:=ah.setC aS aY aH aF aA
    refine⟨w.items[j].kind,w.items[j].text,xk,xi,aH.ld (cs:=zc w.items[j].kind w.items[j].text xk xi),?_⟩
    have key:∀K:Value->zb->Prop,(∀h',LI h M rec sp w.items[j] w.items[j] ((done.map λq=>(q.1:Int))++[(j:Int)]) h'->K (.bool true) h')->YX Tp (h.size+6) #[.int .i64 (j:Int),.agg #[.int .i64 w.items[j].kind,.string w.items[j].text,.slice xk.a xk.len xk.cap,.slice xi.a xi.len xi.cap]] aC K:=λK hK=>
     @hY _ _ _ K ax.l (z2t (K:=K) ax (j:Int) (by rw[Dw];omega) aF aA hK)
    refine key _ λbc aU=>⟨true,rfl,λhx=>(by cases hx),λ_=>?_⟩
    have aN:=yz Z (by omega)
    rw[aN]
    refine⟨⟨k+1,w.items[j],done++[(j,w.items[j])],rfl,by omega,hw.item hm,yx an hm,by simp[am],?_,by unfold lastT;simp,by rw[List.map_append];exact aU⟩,by simp only[Ad];omega⟩
    rw[aa,ac,zag hj al];simp
  ·have Z:k=p.length:=by simp at hc;omega
   subst Z
   rw[BC]at aa
   have:yj w []=[]:=by simp[yj]
   rw[this,Bc]at aa
   exact aD w done g aa aE I
end
section
variable {gl:Fr} {v:Tr}
theorem z7b(hg:GL gl)(hv:Sm v)(ho:qm v=true){R:Tr->Prop}(hR:R v):PC Tp gl 32 [Arg.mk .tree v] [.tree] R:=by
 intro h M vs hM ag ha
 match vs,ha with
 |[u],⟨hu,_⟩=>
  have hu:RdV M .tree v u:=hu
  have ac:=hu
  obtain⟨sk,si,rfl,rk,ri⟩:=yp hu
  apply PX.of
  apply zd0 v.kind v.text sk si
  intro h1 h2
  have z1:h1.size=h.size+1:=Ai _
  have z2:h2.size=h1.size+1:=Ai _
  have k1:Keep h.size h h1:=Keep.push _ _ (Ae _)
  have k2:Keep h1.size h1 h2:=Keep.push _ _ (Ae _)
  have b1:Blk h1 h.size (zc v.kind v.text sk si).toArray:=Blk.new _ _ _
  have b2:Blk h2 h1.size (zc 0 ⟨#[]⟩ ⟨none,0,0⟩ ⟨none,0,0⟩).toArray:=Blk.new _ _ _
  clear_value h1 h2
  have K2:Keep h.size h h2:=k1.trans k2 (by omega)
  have ae:=ag.keep K2
  refine⟨v.kind,v.text,sk,si,(b1.ofKeep k2).ld (cs:=zc v.kind v.text sk si),?_⟩
  have O:PC Tp gl 42 [Arg.mk .tree v] [.bool] (λr=>r=qm v):=ziz hg hv rfl
  refine O.go (vs:=[.agg #[.int .i64 v.kind,.string v.text,slV sk,slV si]]) hM ae (yo ac ww) λw h3 M3 r L3 aa hr=>?_
  have hr:r=qm v:=hr
  refine⟨r,zay aa,λhx=>?_,λhx=>?_⟩
  ·rw[hr,ho]at hx;cases hx
  ·refine⟨v.kind,v.text,sk,si,((b1.ofKeep k2).ofKeep L3.keep).ld (cs:=zc v.kind v.text sk si),?_⟩
   have K3:Keep h.size h h3:=K2.trans L3.keep (by have:=K2.size;omega)
   refine(ztm (tsz v) v (Ae _) hv (ag.keep K3) ac).mono ?_
   rintro w' h4 ⟨k4,bs,ck,ci,rfl,ot,Z⟩
   have z3:=L3.keep.size
   have z4:=k4.size
   refine⟨v.kind,v.text,ck,ci,rfl,?_⟩
   refine qa (((b2.ofKeep L3.keep).ofKeep k4)) rfl _ _ _ _ λh5 b5 z5 f5=>?_
   have K5:Keep h.size h h5:=⟨by have:=K3.size;omega,λi hi=>by rw[f5 i (by omega),k4.get i (by have:=K3.size;omega)];exact K3.get i hi⟩
   have af:=ot.frame λb hb=>f5 b (by have:=Z b hb;omega)
   have ah:=K3.size
   exact⟨v.kind,v.text,ck,ci,b5.ld (cs:=zc v.kind v.text ck ci),MxL M h5 bs,v,MxL.later ag K5 (λb hb=>by have:=Z b hb;omega),zax.2 af.rdv,hR⟩
theorem zvp{v x:Tr}(h:Zi v=true)(hx:x∈v.items):Zi x=true:=by
 unfold Zi at h ⊢
 simp at h ⊢
 have h1:=yh hx
 have h2:tdp x<=Wz v.items:=by
  have O:∀l:List Tr,x∈l->tdp x<=Wz l:=by
   intro l
   induction l with
   |nil=>intro hm;cases hm
   |cons y l ih=>
    intro hm
    rw[Wz]
    rcases Ag.1 hm with rfl|hm
    ·omega
    ·have:=ih hm;omega
  exact O _ hx
 have h3:=zfy v
 omega
theorem zp2{v x:Tr}(h:qm v=true)(hx:x∈v.items):qm x=true:=by
 unfold qm at h ⊢
 rw[AI]at h ⊢
 exact⟨zvp h.1 hx,yx h.2 hx⟩
theorem zng(h:qm v=true):Qk zw v=true:=by unfold qm at h;rw[AI]at h;exact h.2
theorem zzg(n:Nat):∀(v:Tr) (p:List Bt),p.length<=n->qm v=true->Sm v->qm (lastT v (yj v p))=true/\Sm (lastT v (yj v p)):=by
 induction n with
 |zero=>
  intro v p hp ho hs
  have:p=[]:=Az (by omega)
  subst this
  exact⟨ho,hs⟩
 |succ n ih=>
  intro v p hp ho hs
  match p with
  |[]=>exact⟨ho,hs⟩
  |s::p=>
   rcases Y5 (qz (zng ho)) s with e|⟨k,e,hk⟩
   ·rw[zit (by omega)];exact⟨ho,hs⟩
   ·rw[zag e hk,zlg]
    have hm:=Ao hk
    exact ih v.items[k] p (by simpa using hp) (zp2 ho hm) (hs.item hm)
theorem z7c(hg:GL gl)(hv:Sm v){p:List Bt}(hp:SL p){R:Tr×Bool->Prop}(hR:R (Jx v p)):PC Tp gl 20 [Arg.mk .tree v,Arg.mk (.row .str) p] [.tree,.bool] R:=by
 apply zia
 rw[qj]
 unfold Jx at hR
 refine ziz hg hv ⟨λb=>b=qs p,λ_=>zna hg hp rfl,λb hb=>?_⟩
 cases ho:qm v with
 |false=>
  rw[ho]at hR
  exact⟨λ_=>hR,λhx=>by cases hx⟩
 |true=>
  have O:b=qs p:=hb (by rw[ho];rfl)
  subst O
  cases hr:qs p with
  |false=>
   rw[ho,hr]at hR
   exact⟨λ_=>hR,λhx=>by cases hx⟩
  |true=>
   rw[ho,hr,CL,if_pos rfl]at hR
   refine⟨λhx=>(by cases hx),λ_=>?_⟩
   refine z2v hg hv (zng ho) hp ⟨λhx=>?_,λhx=>?_⟩
   ·have:qb v p=none:=by unfold qb;rw[if_neg (by simpa using hx)]
    rw[this]at hR;exact hR
   ·have:qb v p=some (lastT v (yj v p)):=by unfold qb;rw[if_pos (by simpa using hx)]
    rw[this]at hR
    obtain⟨h1,h2⟩:=zzg p.length v p (Ae _) ho hv
    rw[qj]
    refine z7b hg h2 h1 ?_
    rw[show Tr.mk (lastT v (yj v p)).kind (lastT v (yj v p)).text (lastT v (yj v p)).keys (lastT v (yj v p)).items=lastT v (yj v p)from qj _]
    exact hR
end
section
theorem znh{gl:Fr}(hg:GL gl){v:Tr}(hv:Sm v){p:List Bt}(hp:SL p){R:Tr×Bool->Prop}(hR:R (Jx v p)):PC Tp gl 68 [Arg.mk .tree v,Arg.mk (.row .str) p] [.tree,.bool] R:=by
 have af:=hp.n
 apply zdi
 rw[qj]
 unfold Jx at hR
 refine zgw hg hv (zd1 hp ⟨λhx=>?_,λhx=>?_⟩)
 ·have:(qm v&&qs p)=false:=by
   cases ho:qm v with
   |false=>rfl
   |true=>rw[ho]at hx;simpa using hx
  rw[this]at hR;exact hR
 ·have ho:qm v=true/\qs p=true:=by
   cases ho:qm v with
   |false=>rw[ho]at hx;cases hx
   |true=>rw[ho]at hx;exact⟨rfl,by simpa using hx⟩
  rw[ho.1,ho.2,CL,if_pos rfl]at hR
  refine⟨λi a0 a1 a2 a3 b0 b1 b2 b3=>∃(k:Nat) (w:Tr),i=k/\k<=p.length/\a0=w.kind/\a1=w.text/\a2=w.keys/\a3=w.items/\Sm w/\qm w=true/\qb v p=qb w (p.drop k),λi _ _ _ _ _ _ _ _=>p.length-i.toNat,⟨0,v,rfl,by omega,rfl,rfl,rfl,rfl,hv,ho.1,by simp⟩,?_⟩
  rintro i a0 a1 a2 a3 b0 b1 b2 b3 ⟨k,w,rfl,hk,rfl,rfl,rfl,rfl,hw,aa,hf⟩
  refine⟨λhc=>?_,λhc=>?_⟩
  ·have O:k<p.length:=by simp at hc;omega
   have Z:p.drop k=p[k]::p.drop (k+1):=AC O
   refine⟨p[k],⟨by omega,zge O⟩,?_⟩
   rw[qj]
   have ac:=znb (gl:=gl) hw (s:=p[k]) (by have:=hp.s _ (Ao O);omega) (R:=λr=>r=qd w p[k]) rfl
   refine ac.mono λr hr=>?_
   subst hr
   rcases Y5 (qz (zng aa)) p[k]with e|⟨j,e,hj⟩
   ·refine⟨λ_=>?_,λhx=>by simp[e]at hx⟩
    rw[Z,zah (by omega)]at hf
    rw[hf]at hR;exact hR
   ·refine⟨λhx=>by simp at hx;omega,λ_=>?_⟩
    rw[e]
    have ae:=yz O (by omega)
    rw[ae]
    have hm:=Ao hj
    refine⟨w.items[j],⟨by omega,Yo hj⟩,⟨k+1,w.items[j],rfl,by omega,rfl,rfl,rfl,rfl,hw.item hm,zp2 aa hm,?_⟩,by simp only[Ad];omega⟩
    rw[hf,Z,xq e hj]
  ·have O:k=p.length:=by simp at hc;omega
   subst O
   rw[BC,Zu]at hf
   rw[hf]at hR
   rw[qj]
   refine Xu w hw ?_
   rw[show Tr.mk w.kind w.text w.keys w.items=w from qj w];exact hR
end
section
theorem zfc{gl:Fr}(hg:GL gl){v:Tr}(hv:Sm v)(ho:qm v=true){h:zb}{M:Fr}{u:Value}(hM:Fr.le gl M)(ag:AgM M h)(hu:RdV M .tree v u){K:Value->zb->Prop}
  (hK:∀(h':zb) (bs:List Nat) (sk si:Sl),Keep h.size h h'->OT h' v bs (zc v.kind v.text sk si)->(∀b∈bs,h.size<=b)->K (.agg #[.int .i64 v.kind,.string v.text,slV sk,slV si]) h'):XC Tp 32 #[u] h K:=by
 have ac:=hu
 obtain⟨sk,si,rfl,rk,ri⟩:=yp hu
 apply zd0 v.kind v.text sk si
 intro h1 h2
 have z1:h1.size=h.size+1:=Ai _
 have z2:h2.size=h1.size+1:=Ai _
 have k1:Keep h.size h h1:=Keep.push _ _ (Ae _)
 have k2:Keep h1.size h1 h2:=Keep.push _ _ (Ae _)
 have b1:Blk h1 h.size (zc v.kind v.text sk si).toArray:=Blk.new _ _ _
 have b2:Blk h2 h1.size (zc 0 ⟨#[]⟩ ⟨none,0,0⟩ ⟨none,0,0⟩).toArray:=Blk.new _ _ _
 clear_value h1 h2
 have K2:Keep h.size h h2:=k1.trans k2 (by omega)
 have ae:=ag.keep K2
 refine⟨v.kind,v.text,sk,si,(b1.ofKeep k2).ld (cs:=zc v.kind v.text sk si),?_⟩
 have O:PC Tp gl 42 [Arg.mk .tree v] [.bool] (λr=>r=qm v):=ziz hg hv rfl
 refine O.go (vs:=[.agg #[.int .i64 v.kind,.string v.text,slV sk,slV si]]) hM ae (yo ac ww) λw h3 M3 r L3 aa hr=>?_
 have hr:r=qm v:=hr
 refine⟨r,zay aa,λhx=>?_,λhx=>?_⟩
 ·rw[hr,ho]at hx;cases hx
 ·refine⟨v.kind,v.text,sk,si,((b1.ofKeep k2).ofKeep L3.keep).ld (cs:=zc v.kind v.text sk si),?_⟩
  have K3:Keep h.size h h3:=K2.trans L3.keep (by have:=K2.size;omega)
  refine(ztm (tsz v) v (Ae _) hv (ag.keep K3) ac).mono ?_
  rintro w' h4 ⟨k4,bs,ck,ci,rfl,ot,Z⟩
  have z3:=L3.keep.size
  have z4:=k4.size
  refine⟨v.kind,v.text,ck,ci,rfl,?_⟩
  refine qa (((b2.ofKeep L3.keep).ofKeep k4)) rfl _ _ _ _ λh5 b5 z5 f5=>?_
  have K5:Keep h.size h h5:=⟨by have:=K3.size;omega,λi hi=>by rw[f5 i (by omega),k4.get i (by have:=K3.size;omega)];exact K3.get i hi⟩
  have af:=ot.frame λb hb=>f5 b (by have:=Z b hb;omega)
  have ah:=K3.size
  exact⟨v.kind,v.text,ck,ci,b5.ld (cs:=zc v.kind v.text ck ci),hK h5 bs ck ci K5 af λb hb=>by have:=Z b hb;omega⟩
theorem OT.zero(h:zb):OT h zT [] (zc 0 ⟨#[]⟩ ⟨none,0,0⟩ ⟨none,0,0⟩):=
 OT.mk (k:=0) (s:=⟨#[]⟩) (ks:=[]) (xs:=[]) (sk:=⟨none,0,0⟩) (si:=⟨none,0,0⟩) (bk:=[]) (bb:=[]) (b:=0) (cs:=#[]) (bf:=λ_=>[]) ⟨rfl,by simp,by simp,.inl ⟨rfl,rfl,rfl⟩⟩ ⟨rfl,by simp,by simp⟩ (.inl ⟨rfl,rfl,rfl⟩) (λi hi=>absurd hi (by simp)) (by simp)
end
end Go.X
end
section
namespace Go.X
open Go Go.RowKit
section
variable {h h':zb} {v:Tr} {sk si si' sk':Sl} {bk bb bk' D:List Nat} {b n i k rb:Nat} {cs cs':Array Value} {c cw:List Value} {α:Type} {ks':List Bt}
structure OTp (h:zb) (v:Tr) (sk si:Sl) (bk bb:List Nat) (b:Nat) (cs:Array Value) (bf:Nat->List Nat):Prop where
 keys:OKeys h v.keys bk sk
 hn:si.len=v.items.length/\v.items.length<=140737488355328/\v.items.length<=si.cap
 hz:(v.items=[]/\bb=[]/\si.cap=0)\/(bb=[b]/\si.a=some ⟨b,0,none⟩/\Blk h b cs/\si.cap*4<=cs.size)
 hi:∀i (hx:i<v.items.length),OT h v.items[i] (bf i) (cut cs (i*4) 4)
 nk:bk.Nodup
 d1:∀c∈bk,c∉bb
 d2:∀c∈bk,∀i,i<v.items.length->c∉bf i
 d3:∀c∈bb,∀i,i<v.items.length->c∉bf i
 d4:∀i j,i<v.items.length->j<v.items.length->i≠j->∀c∈bf i,c∉bf j
def zf(v:Tr)(sk si:Sl):List Value:=[.int .i64 v.kind,.string v.text,slV sk,slV si]
theorem OTp.ot{bf:Nat->List Nat}(H:OTp h v sk si bk bb b cs bf):OT h v (bk++(bb++(AZ v.items.length).flatMap bf)) (zf v sk si):=by
 obtain⟨k,s,ks,xs⟩:=v
 refine OT.mk (b:=b) (cs:=cs) H.keys H.hn H.hz H.hi ?_
 rw[A0]
 refine⟨H.nk,?_,λx hx y hy e=>?_⟩
 ·rw[A0]
  refine⟨?_,ziv.2 ⟨λi hi=>(H.hi i hi).nodup,λi j O hj x hx y hy e=>?_⟩,λx hx y hy e=>?_⟩
  ·rcases H.hz with⟨_,e,_⟩|⟨e,_⟩
   ·rw[e];exact Ea
   ·rw[e];simp
  ·subst e;exact H.d4 i j (Nat.lt_trans O hj) hj (by omega) x hx hy
  ·subst e
   obtain⟨i,hi,hy⟩:=Bj.1 hy
   exact H.d3 x hx i (by simpa using hi) hy
 ·subst e
  rcases Am.1 hy with hy|hy
  ·exact H.d1 x hx hy
  ·obtain⟨i,hi,hy⟩:=Bj.1 hy
   exact H.d2 x hx i (by simpa using hi) hy
theorem OT.p{bs:List Nat}{cells:List Value}(H:OT h v bs cells):∃(sk si:Sl) (bk bb:List Nat) (b:Nat) (cs:Array Value) (bf:Nat->List Nat),cells=zf v sk si/\OTp h v sk si bk bb b cs bf/\bs=bk++(bb++(AZ v.items.length).flatMap bf):=by
 cases H with
 | @mk kd s ks xs sk si bk bb b cs bf hk hn hz hi hd=>
  rw[A0]at hd
  obtain⟨ac,Z,aa⟩:=hd
  rw[A0]at Z
  obtain⟨ai,af,ah⟩:=Z
  have nf:=ziv.1 af
  refine⟨sk,si,bk,bb,b,cs,bf,rfl,⟨hk,hn,hz,hi,ac,λc hc hm=>aa c hc c (Ap _ hm) rfl,λc hc i hi hm=>aa c hc c (Ay _ (Bj.2 ⟨i,by simpa using hi,hm⟩)) rfl,λc hc i hi hm=>ah c hc c (Bj.2 ⟨i,by simpa using hi,hm⟩) rfl,λi j hi hj ae c hc hm=>?_⟩,rfl⟩
  rcases Nat.lt_or_gt_of_ne ae with O|O
  ·exact nf.2 i j O hj c hc c hm rfl
  ·exact nf.2 j i O hi c hm c hc rfl
theorem yy{bf:Nat->List Nat}{n c:Nat}:c∈bk++(bb++(AZ n).flatMap bf)↔c∈bk\/c∈bb\/∃i,i<n/\c∈bf i:=by
 simp only[Am,Bj,BO]
theorem zai(h:i+4<=n):cut cs i 4=((cut cs 0 n).drop i).take 4:=by
 unfold cut
 rw[AQ,Ed,Ee,CU (by omega)]
def zzh(v:Tr)(k:Nat)(w:Tr):Tr:=.mk v.kind v.text v.keys (v.items.take k++w::v.items.drop k)
theorem z7d{xs:List α}{w:α}(hk:k<=xs.length)(h:i<(xs.take k++w::xs.drop k).length):
  (i<k/\∃h':i<xs.length,(xs.take k++w::xs.drop k)[i]=xs[i])\/(i=k/\(xs.take k++w::xs.drop k)[i]=w)\/(k<i/\∃h':i-1<xs.length,(xs.take k++w::xs.drop k)[i]=xs[i-1]):=by
 have hl:(xs.take k).length=k:=by rw[AL];omega
 simp only[Av,AR,hl,Bg]at h
 rcases Nat.lt_trichotomy i k with h1|h1|h1
 ·refine .inl ⟨h1,by omega,?_⟩
  rw[CG (by rw[hl];exact h1),List.getElem_take]
 ·refine .inr (.inl ⟨h1,?_⟩)
  subst h1
  rw[Cd (by rw[hl];exact Ae _)]
  simp[hl]
 ·refine .inr (.inr ⟨h1,by omega,?_⟩)
  rw[Cd (by rw[hl];omega)]
  simp only[hl]
  have e:i-k=(i-1-k)+1:=by omega
  simp only[e,List.getElem_cons_succ,List.getElem_drop]
  congr 1;omega
theorem z7e(hc:c.length=n*4)(hw:cw.length=4)(hk:k<=n):
  (∀i,i<k->((c.take (k*4)++cw++c.drop (k*4)).drop (i*4)).take 4=(c.drop (i*4)).take 4)/\((c.take (k*4)++cw++c.drop (k*4)).drop (k*4)).take 4=cw/\∀i,k<i->((c.take (k*4)++cw++c.drop (k*4)).drop (i*4)).take 4=(c.drop ((i-1)*4)).take 4:=by
 have hl:(c.take (k*4)).length=k*4:=by rw[AL];omega
 refine⟨λi hi=>?_,?_,λi hi=>?_⟩
 ·apply Bb
  intro j
  rw[AF,AF]
  split
  ·rw[AH,AH,AY,BA (by rw[hl];omega),AF,if_pos (by omega)]
  ·rfl
 ·rw[AY,List.drop_append,A6 (by rw[hl];exact Ae _),BL,hl,Nat.sub_self,AQ,List.take_append,hw,Nat.sub_self,Cr,Bc,AM (by omega)]
 ·rw[List.drop_append,A6 (by rw[Av,hl,hw];omega),BL,Av,hl,hw,BS]
  congr 2;omega
theorem OTp.ins{bf:Nat->List Nat}(H:OTp h v sk si bk bb b cs bf)(hk:k<=v.items.length){w:Tr}{bw:List Nat}(ow:OT h' w bw cw)
  (hf:∀i,i<v.items.length->∀c∈bf i,h'[c]?=h[c]?) {b':Nat} (e1:si'.a=some ⟨b',0,none⟩) (e2:Blk h' b' cs') (e3:si'.len=v.items.length+1) (e4:v.items.length+1<=si'.cap) (e5:si'.cap*4<=cs'.size) (e6:v.items.length+1<=140737488355328)
  (e7:cut cs' 0 ((v.items.length+1)*4)=(cut cs 0 (v.items.length*4)).take (k*4)++cw++(cut cs 0 (v.items.length*4)).drop (k*4)) (af:∀i,i<v.items.length->b'∉bf i) (ai:b'∉bw) (hw:∀c∈bw,∀i,i<v.items.length->c∉bf i) (ok:OKeys h' ks' bk' sk') (nk:bk'.Nodup) (al:b'∉bk') (aj:∀c∈bk',∀i,i<v.items.length->c∉bf i) (an:∀c∈bk',c∉bw):
  OTp h' (.mk v.kind v.text ks' (v.items.take k++w::v.items.drop k)) sk' si' bk' [b'] b' cs' (λi=>if i<k then bf i else if i=k then bw else bf (i-1)):=by
 have O:(v.items.take k++w::v.items.drop k).length=v.items.length+1:=by simp;omega
 have ah:∀i (hx:i<v.items.length),(cut cs 0 (v.items.length*4)).length=v.items.length*4:=by
  intro i hx
  rcases H.hz with⟨h0,_⟩|⟨_,_,_,ap⟩
  ·rw[h0]at hx;simp at hx
  ·unfold cut;simp;have:=H.hn.2.2;omega
 have ac:(cut cs 0 (v.items.length*4)).length=v.items.length*4:=by
  by_cases h0:0<v.items.length
  ·exact ah 0 h0
  ·have:v.items.length=0:=by omega
   rw[this];unfold cut;simp
 have am:cw.length=4:=ow.len
 obtain⟨c1,c2,c3⟩:=z7e ac am hk
 have aa:∀i,i<v.items.length+1->∀c,c∈(if i<k then bf i else if i=k then bw else bf (i-1))->(∃j,j<v.items.length/\c∈bf j)\/c∈bw:=by
  intro i hi c hc
  split at hc
  ·exact .inl ⟨i,by omega,hc⟩
  ·split at hc
   ·exact .inr hc
   ·exact .inl ⟨i-1,by omega,hc⟩
 refine⟨ok,⟨by show si'.len=(v.items.take k++w::v.items.drop k).length;rw[O];exact e3,by show(v.items.take k++w::v.items.drop k).length<=_;rw[O];exact e6,by show(v.items.take k++w::v.items.drop k).length<=_;rw[O];exact e4⟩,.inr ⟨rfl,e1,e2,e5⟩,λi hx=>?_,nk,λc hc hm=>?_,λc hc i hi hm=>?_,λc hc i hi hm=>?_,λi j hi hj ak c hc hm=>?_⟩
 ·have ae:i<(v.items.take k++w::v.items.drop k).length:=hx
  have au:i<v.items.length+1:=by rw[<-O];exact ae
  rw[zai (n:=(v.items.length+1)*4) (by omega),e7]
  show OT h' (v.items.take k++w::v.items.drop k)[i] _ _
  rcases z7d hk ae with⟨hi,h2,e⟩|⟨hi,e⟩|⟨hi,h2,e⟩
  ·rw[e,if_pos hi,c1 i hi,<-zai (by omega)]
   exact(H.hi i h2).frame (hf i h2)
  ·subst hi
   rw[e,if_neg (by omega),if_pos rfl,c2];exact ow
  ·rw[e,if_neg (by omega),if_neg (by omega),c3 i hi,<-zai (by omega)]
   exact(H.hi (i-1) h2).frame (hf (i-1) h2)
 ·simp at hm;subst hm;exact al hc
 ·have Z:i<v.items.length+1:=by rw[<-O];exact hi
  rcases aa i Z c hm with⟨j,hj,hm⟩|hm
  ·exact aj c hc j hj hm
  ·exact an c hc hm
 ·have Z:i<v.items.length+1:=by rw[<-O];exact hi
  simp at hc;subst hc
  rcases aa i Z c hm with⟨j,hj,hm⟩|hm
  ·exact af j hj hm
  ·exact ai hm
 ·have Z:i<v.items.length+1:=by rw[<-O];exact hi
  have ar:j<v.items.length+1:=by rw[<-O];exact hj
  try simp only at hc hm
  split at hc
  ·split at hm
   ·exact H.d4 i j (by omega) (by omega) ak c hc hm
   ·split at hm
    ·exact hw c hm i (by omega) hc
    ·exact H.d4 i (j-1) (by omega) (by omega) (by omega) c hc hm
  ·split at hc
   ·split at hm
    ·exact hw c hc j (by omega) hm
    ·split at hm
     ·omega
     ·exact hw c hc (j-1) (by omega) hm
   ·split at hm
    ·exact H.d4 (i-1) j (by omega) (by omega) (by omega) c hc hm
    ·split at hm
     ·exact hw c hm (i-1) (by omega) hc
     ·exact H.d4 (i-1) (j-1) (by omega) (by omega) (by omega) c hc hm
theorem z7f{xs:List α}(hk:k<xs.length)(h:i<(xs.take k++xs.drop (k+1)).length):
  (i<k/\∃h':i<xs.length,(xs.take k++xs.drop (k+1))[i]=xs[i])\/(k<=i/\∃h':i+1<xs.length,(xs.take k++xs.drop (k+1))[i]=xs[i+1]):=by
 have hl:(xs.take k).length=k:=by rw[AL];omega
 simp only[Av,hl,Bg]at h
 rcases AX i k with h1|h1
 ·refine .inl ⟨h1,by omega,?_⟩
  rw[CG (by rw[hl];exact h1),List.getElem_take]
 ·refine .inr ⟨h1,by omega,?_⟩
  rw[Cd (by rw[hl];omega)]
  simp only[hl,List.getElem_drop]
  congr 1;omega
theorem z7g(hc:c.length=n*4)(hk:k<n):
  (∀i,i<k->((c.take (k*4)++c.drop ((k+1)*4)).drop (i*4)).take 4=(c.drop (i*4)).take 4)/\∀i,k<=i->((c.take (k*4)++c.drop ((k+1)*4)).drop (i*4)).take 4=(c.drop ((i+1)*4)).take 4:=by
 have hl:(c.take (k*4)).length=k*4:=by rw[AL];omega
 refine⟨λi hi=>?_,λi hi=>?_⟩
 ·apply Bb
  intro j
  rw[AF,AF]
  split
  ·rw[AH,AH,BA (by rw[hl];omega),AF,if_pos (by omega)]
  ·rfl
 ·rw[List.drop_append,A6 (by rw[hl];omega),BL,hl,BS]
  congr 2;omega
theorem OTp.del{bf:Nat->List Nat}(H:OTp h v sk si bk bb b cs bf)(hk:k<v.items.length)
  (hf:∀i,i<v.items.length->∀c∈bf i,h'[c]?=h[c]?) (e1:si'.a=si.a) (e2:Blk h' b cs') (e3:si'.len+1=v.items.length) (e4:si'.cap=si.cap) (e5:cs'.size=cs.size)
  (e7:cut cs' 0 ((v.items.length-1)*4)=(cut cs 0 (v.items.length*4)).take (k*4)++(cut cs 0 (v.items.length*4)).drop ((k+1)*4)) (ok:OKeys h' ks' bk' sk') (aa:∀c∈bk',c∈bk) (nk:bk'.Nodup):
  OTp h' (.mk v.kind v.text ks' (v.items.take k++v.items.drop (k+1))) sk' si' bk' [b] b cs' (λi=>if i<k then bf i else bf (i+1)):=by
 have O:(v.items.take k++v.items.drop (k+1)).length=v.items.length-1:=by simp;omega
 rcases H.hz with⟨h0,_⟩|⟨aj,ha,hb,ai⟩
 ·rw[h0]at hk;simp at hk
 obtain⟨n1,n2,n3⟩:=H.hn
 have af:(cut cs 0 (v.items.length*4)).length=v.items.length*4:=by unfold cut;simp;omega
 obtain⟨c1,c2⟩:=z7g af hk
 have Z:b∈bb:=by rw[aj];simp
 refine⟨ok,⟨by show si'.len=(v.items.take k++v.items.drop (k+1)).length;rw[O];omega,by show(v.items.take k++v.items.drop (k+1)).length<=_;rw[O];omega,by show(v.items.take k++v.items.drop (k+1)).length<=_;rw[O];omega⟩,.inr ⟨rfl,by rw[e1];exact ha,e2,by rw[e4,e5];exact ai⟩,λi hx=>?_,nk,λc hc hm=>?_,λc hc i hi hm=>?_,λc hc i hi hm=>?_,λi j hi hj ah c hc hm=>?_⟩
 ·have ae:i<(v.items.take k++v.items.drop (k+1)).length:=hx
  have al:i<v.items.length-1:=by rw[<-O];exact ae
  rw[zai (n:=(v.items.length-1)*4) (by omega),e7]
  show OT h' (v.items.take k++v.items.drop (k+1))[i] _ _
  rcases z7f hk ae with⟨hi,h2,e⟩|⟨hi,h2,e⟩
  ·rw[e,if_pos hi,c1 i hi,<-zai (by omega)]
   exact(H.hi i h2).frame (hf i h2)
  ·rw[e,if_neg (by omega),c2 i hi,<-zai (by omega)]
   exact(H.hi (i+1) h2).frame (hf (i+1) h2)
 ·simp at hm;subst hm;exact H.d1 c (aa c hc) Z
 ·have ac:i<v.items.length-1:=by rw[<-O];exact hi
  try simp only at hm
  split at hm
  ·exact H.d2 c (aa c hc) i (by omega) hm
  ·exact H.d2 c (aa c hc) (i+1) (by omega) hm
 ·have ac:i<v.items.length-1:=by rw[<-O];exact hi
  simp at hc;subst hc
  try simp only at hm
  split at hm
  ·exact H.d3 c Z i (by omega) hm
  ·exact H.d3 c Z (i+1) (by omega) hm
 ·have ac:i<v.items.length-1:=by rw[<-O];exact hi
  have ak:j<v.items.length-1:=by rw[<-O];exact hj
  try simp only at hc hm
  split at hc
  ·split at hm
   ·exact H.d4 i j (by omega) (by omega) ah c hc hm
   ·exact H.d4 i (j+1) (by omega) (by omega) (by omega) c hc hm
  ·split at hm
   ·exact H.d4 (i+1) j (by omega) (by omega) (by omega) c hc hm
   ·exact H.d4 (i+1) (j+1) (by omega) (by omega) (by omega) c hc hm
structure Doc (h:zb) (rb:Nat) (v:Tr) (D:List Nat):Prop where
 ex:∃cs:Array Value,Blk h rb cs/\cs.size=4/\OT h v D cs.toList
 no:rb∉D
def Plc(h:zb)(D:List Nat)(rb:Nat)(p:Addr)(x:Tr)(T:Tr->Tr):Prop:=
 ∃(b o:Nat) (cs:Array Value) (bx:List Nat),p=⟨b,o,none⟩/\Blk h b cs/\o+4<=cs.size/\OT h x bx (cut cs o 4)/\b∉bx/\(b=rb\/b∈D)/\(∀c∈bx,c∈D)/\rb∉D/\(∀c∈D,c<h.size) /\
  ∀(h':zb) (x':Tr) (cells':List Value) (b':List Nat),(∀c,c≠b->c∉bx->(c=rb\/c∈D)->h'[c]?=h[c]?)->Blk h' b (upd cs o cells')->OT h' x' b' cells'->(∀c∈b',c∈bx\/(c≠rb/\c∉D)) ->
   ∃D',Doc h' rb (T x') D'/\∀c∈D',c∈D\/c∈b'
theorem Doc.plc(H:Doc h rb v D):Plc h D rb ⟨rb,0,none⟩ v id:=by
 obtain⟨⟨cs,hb,ae,ot⟩,O⟩:=H
 have Z:cut cs 0 4=cs.toList:=by unfold cut;rw[AQ,AM (by simp;omega)]
 refine⟨rb,0,cs,D,rfl,hb,by omega,by rw[Z];exact ot,O,.inl rfl,λc hc=>hc,O,ot.lt,λh' x' cells' b' hf aa ho ac=>?_⟩
 have hl:=ho.len
 have hu:upd cs 0 cells'=cells'.toArray:=by
  unfold upd
  rw[Cr,A6 (by simp;omega)];simp
 rw[hu]at aa
 refine⟨b',⟨⟨cells'.toArray,aa,by simpa using hl,ho⟩,λhm=>?_⟩,λc hc=>.inr hc⟩
 rcases ac rb hm with hx|hx
 ·exact O hx
 ·exact hx.1 rfl
theorem Plc.step{p:Addr}{x:Tr}{T:Tr->Tr}(H:Plc h D rb p x T)(hk:k<x.items.length):
  ∃(si:Sl) (a:Addr),zm h (p.add 3)=some (slV si)/\si.a=some a/\si.len=x.items.length/\Plc h D rb (a.add (k*4)) x.items[k] (λy=>T (zrs x k y)):=by
 obtain⟨b,o,cs,bx,rfl,hb,ho,ot,ai,ae,O,ax,ap,ac⟩:=H
 obtain⟨b2,aE,si,ar,e3,ea,el,am,aF,af,au,az,Z,aj⟩:=ot.put1 hk
 refine⟨si,⟨b2,0,none⟩,?_,ea,el,b2,k*4,aE,ar,by rw[zo,AD],am,by omega,au,az,.inr (O b2 af),λc hc=>O c (Z c hc),ax,ap,λh' x' cells' b' hf aB al ah=>?_⟩
 ·rw[zo]
  refine hb.cell ?_
  rw[zu,if_pos (by omega)]at e3
  rw[<-AN];exact e3
 ·have aA:b≠b2:=λe=>ai (e ▸ af)
  obtain⟨bn,ay,aa⟩:=aj h' x' cells' b' (λc hc aD aC=>hf c aC aD (.inr (O c hc))) aB al (λc hc=>(ah c hc).imp id λhx hm=>hx.2 (O c hm))
  obtain⟨D',hD,an⟩:=ac h' (zrs x k x') (cut cs o 4) bn (λc hc ak ac=>hf c (λe=>ak (e ▸ af)) (λhm=>ak (Z c hm)) ac) (by
   rw[zth ho]
   exact hb.keep (hf b aA (λhm=>ai (Z b hm)) ae)) ay λc hc=>by
    rcases aa c hc with hx|hx
    ·exact .inl hx
    ·rcases ah c hx with hy|hy
     ·exact .inl (Z c hy)
     ·exact .inr hy
  refine⟨D',hD,λc hc=>?_⟩
  rcases an c hc with hx|hx
  ·exact .inl hx
  ·rcases aa c hx with hy|hy
   ·exact .inl (O c hy)
   ·exact .inr hy
theorem Plc.keep{p:Addr}{x:Tr}{T:Tr->Tr}(H:Plc h D rb p x T)(k:∀c,c=rb\/c∈D->h'[c]?=h[c]?)(hs:h.size<=h'.size):Plc h' D rb p x T:=by
 obtain⟨b,o,cs,bx,rfl,hb,ho,ot,aj,O,Z,ak,ai,af⟩:=H
 refine⟨b,o,cs,bx,rfl,hb.keep (k b O),ho,ot.frame λc hc=>k c (.inr (Z c hc)),aj,O,Z,ak,λc hc=>by have:=ai c hc;omega,λh2 x' cells' b' hf aa ac ah=>af h2 x' cells' b' (λc hc ae hl=>(hf c hc ae hl).trans (k c hl)) aa ac ah⟩
theorem Doc.keep(H:Doc h rb v D)(k:∀c,c=rb\/c∈D->h'[c]?=h[c]?):Doc h' rb v D:=by
 obtain⟨⟨cs,hb,Z,ot⟩,O⟩:=H
 exact⟨⟨cs,hb.keep (k rb (.inl rfl)),Z,ot.frame λc hc=>k c (.inr hc)⟩,O⟩
theorem Doc.lt(H:Doc h rb v D):∀c,c=rb\/c∈D->c<h.size:=by
 obtain⟨⟨cs,hb,Z,ot⟩,O⟩:=H
 rintro c (rfl|hc)
 ·exact hb.lt
 ·exact ot.lt c hc
end
end Go.X
end
section
namespace Go.X
section
theorem zca(gl:Fr)(R:Bool->Prop)
  (H:PC Tp gl 27 [Arg.mk (.int .i64) 1] [.tree] (λa:Tr=>PC Tp gl 27 [Arg.mk (.int .i64) 2] [.tree] (λb:Tr=>PC Tp gl 29 [Arg.mk (.row .tree) [Tr.mk a.kind a.text a.keys a.items,Tr.mk b.kind b.text b.keys b.items]] [.tree] (λc:Tr=>PC Tp gl 28 [Arg.mk (.row .str) ([(⟨#[97]⟩:Bt)]:List Bt),Arg.mk (.row .tree) [Tr.mk c.kind c.text c.keys c.items]] [.tree] (λd:Tr=>PC Tp gl 27 [Arg.mk (.int .i64) 9] [.tree] (λe:Tr=>PC Tp gl 13 [Arg.mk .tree (Tr.mk d.kind d.text d.keys d.items),Arg.mk (.row (.pair .str (.pair (.row .str) (.pair (.row .str) .tree)))) ([((⟨#[97,100,100]⟩:Bt),(([(⟨#[97]⟩:Bt),(⟨#[49]⟩:Bt)]:List Bt),([],Tr.mk e.kind e.text e.keys e.items))),((⟨#[114,101,109,111,118,101]⟩:Bt),(([(⟨#[97]⟩:Bt),(⟨#[48]⟩:Bt)]:List Bt),([],Tr.mk 0 (⟨#[]⟩:Bt) [] [])))]:List (Bt×(List Bt)×(List Bt)×Tr))] [.tree,.int .i64,.int .i64] (λf:Tr×Int×Int=>PC Tp gl 29 [Arg.mk (.row .tree) [Tr.mk a.kind a.text a.keys a.items]] [.tree] (λg:Tr=>PC Tp gl 13 [Arg.mk .tree (Tr.mk g.kind g.text g.keys g.items),Arg.mk (.row (.pair .str (.pair (.row .str) (.pair (.row .str) .tree)))) ([((⟨#[109,111,118,101]⟩:Bt),(([(⟨#[48]⟩:Bt)]:List Bt),(([(⟨#[48]⟩:Bt),(⟨#[48]⟩:Bt)]:List Bt),Tr.mk 0 (⟨#[]⟩:Bt) [] [])))]:List (Bt×(List Bt)×(List Bt)×Tr))] [.tree,.int .i64,.int .i64] (λi:Tr×Int×Int=>PC Tp gl 29 [Arg.mk (.row .tree) [Tr.mk a.kind a.text a.keys a.items]] [.tree] (λj:Tr=>PC Tp gl 27 [Arg.mk (.int .i64) 2] [.tree] (λk:Tr=>PC Tp gl 13 [Arg.mk .tree (Tr.mk j.kind j.text j.keys j.items),Arg.mk (.row (.pair .str (.pair (.row .str) (.pair (.row .str) .tree)))) ([((⟨#[116,101,115,116]⟩:Bt),(([(⟨#[48]⟩:Bt)]:List Bt),([],Tr.mk k.kind k.text k.keys k.items)))]:List (Bt×(List Bt)×(List Bt)×Tr))] [.tree,.int .i64,.int .i64] (λl:Tr×Int×Int=>PC Tp gl 20 [Arg.mk .tree (Tr.mk f.1.kind f.1.text f.1.keys f.1.items),Arg.mk (.row .str) ([(⟨#[97]⟩:Bt),(⟨#[48]⟩:Bt)]:List Bt)] [.tree,.bool] (λm:Tr×Bool=>R (bif (bif (bif (bif (bif (bif (bif (f.2.2==0)then(f.2.1==2)else false)then m.2 else false)then(m.1.text.toList==(⟨#[57]⟩:Bt).toList)else false)then(i.2.1==0)else false)then(i.2.2==8)else false)then(l.2.1==0)else false)then(l.2.2==9)else false)))))))))))))):
  PC Tp gl 9 [] [.bool] R:=
 PF ⟨[],[(2,8,[],[0,1,7,2,3,4,5,6],[]),(3,13,[],[0,1,4,5,12,2,3,6,7,8,9,10,11],[10,11])],[],[]⟩ [.tmp 0] 94 Tryz.func9 H
theorem zfd(gl:Fr)(l0:List (Bt×(List Bt)×(List Bt)×Tr))(R:Bool->Prop)
  (H:∃(a:Int->Prop) (b:Int->Nat),a 0/\∀c:Int,a c->(((bif (decide (c<l0.length))then(decide (c<40))else false)=true->∃d:Bt×(List Bt)×(List Bt)×Tr,(0<=c/\l0[c.toNat]?=some d)/\PC Tp gl 19 [Arg.mk (.row .str) d.2.1] [.bool] (λe:Bool=>∃f:Bt×(List Bt)×(List Bt)×Tr,(e=true->(0<=c/\l0[c.toNat]?=some f))/\∃g:Bool->Prop,(e=true->PC Tp gl 19 [Arg.mk (.row .str) f.2.2.1] [.bool] g)/\∀i:Bool,(e=true->g i)->∃j:Bt×(List Bt)×(List Bt)×Tr,((bif e then i else false)=true->(0<=c/\l0[c.toNat]?=some j))/\∃k:Bool->Prop,((bif e then i else false)=true->PC Tp gl 10 [Arg.mk .tree (Tr.mk j.2.2.2.kind j.2.2.2.text j.2.2.2.keys j.2.2.2.items),Arg.mk (.int .i64) 200] [.bool] k)/\∀l:Bool,((bif e then i else false)=true->k l)->∃m:Bt×(List Bt)×(List Bt)×Tr,((!(!(bif (bif e then i else false)then l else false)))=true->(0<=c/\l0[c.toNat]?=some m))/\((bif (!(bif (bif e then i else false)then l else false))then true else(decide ((m.1.size:Int)>100)))=true->R false)/\((bif (!(bif (bif e then i else false)then l else false))then true else(decide ((m.1.size:Int)>100)))=false->(a (Aa .i64 (c+1))/\b (Aa .i64 (c+1))<b c))))/\((bif (decide (c<l0.length))then(decide (c<40))else false)=false->R (decide ((l0.length:Int)<=30))))):
  PC Tp gl 11 [Arg.mk (.row (.pair .str (.pair (.row .str) (.pair (.row .str) .tree)))) l0] [.bool] R:=
 PF ⟨[],[],[(2,⟨[(3,.one (.dat (.int .i64)))],[],[],[100192]⟩)],[]⟩ [.tmp 2] 51 Tryz.func11 H
theorem zcb(gl:Fr)(v0:Tr)(l1:List (Bt×(List Bt)×(List Bt)×Tr))(R:(Tr×Int×Int)->Prop)
  (H:PC Tp gl 34 [Arg.mk .tree (Tr.mk v0.kind v0.text v0.keys v0.items)] [.bool] (λa:Bool=>((!a)=true->R (Tr.mk 0 (⟨#[]⟩:Bt) [] [],0,1))/\((!a)=false->PC Tp gl 12 [Arg.mk .tree (Tr.mk v0.kind v0.text v0.keys v0.items)] [.tree] (λb:Tr=>∃(c:Int->Int->Bt->(List Bt)->(List Tr)->Int->Bt->(List Bt)->(List Tr)->Prop) (d:Int->Int->Bt->(List Bt)->(List Tr)->Int->Bt->(List Bt)->(List Tr)->Nat),c 0 b.kind b.text b.keys b.items 0 (⟨#[]⟩:Bt) [] []/\∀e af:Int,∀ae:Bt,∀ah:List Bt,∀ai:List Tr,∀aa:Int,∀ac:Bt,∀Z:List Bt,∀O:List Tr,c e af ae ah ai aa ac Z O->((decide (e<l1.length)=true->∃f:Bt×(List Bt)×(List Bt)×Tr,(0<=e/\l1[e.toNat]?=some f)/\PC Tp gl 35 [Arg.mk .tree (Tr.mk af ae ah ai),Arg.mk (.pair .str (.pair (.row .str) (.pair (.row .str) .tree))) (f.1,(f.2.1,(f.2.2.1,Tr.mk f.2.2.2.kind f.2.2.2.text f.2.2.2.keys f.2.2.2.items)))] [.tree,.int .i64] (λg:Tr×Int=>((g.2 != 0)=true->R (Tr.mk 0 (⟨#[]⟩:Bt) [] [],e,g.2))/\((g.2 != 0)=false->(c (Aa .i64 (e+1)) g.1.kind g.1.text g.1.keys g.1.items aa ac Z O/\d (Aa .i64 (e+1)) g.1.kind g.1.text g.1.keys g.1.items aa ac Z O<d e af ae ah ai aa ac Z O))))/\(decide (e<l1.length)=false->R (Tr.mk af ae ah ai,(l1.length:Int),0))))))):
  PC Tp gl 14 [Arg.mk .tree v0,Arg.mk (.row (.pair .str (.pair (.row .str) (.pair (.row .str) .tree)))) l1] [.tree,.int .i64,.int .i64] R:=
 PF ⟨[],[(8,10,[],[0,1,2,3,4,9,5,6,7,8],[8])],[(6,⟨[(8,.one (.dat (.int .i64)))],[(2,[.dat (.int .i64),.dat .str,.dat (.row .str),.dat (.row .tree)]),(4,[.dat (.int .i64),.dat .str,.own 9 .str,.own 25 .tree])],[],[100512,1000128,1000129,1000130,1000131,1000256,1000257,1000258,1000259]⟩)],[]⟩ [.cell 4 25,.tmp 5,.tmp 6] 42 Tryz.func14 H
theorem zj9(gl:Fr)(o0:Bt×(List Bt)×(List Bt)×Tr)(R:Bool->Prop)
  (H:PC Tp gl 36 [Arg.mk .str o0.1] [.bool,.bool,.bool] (λa:Bool×Bool×Bool=>∀b:Bool->Prop,(∀c:Bool,((c=true->R false)/\(c=false->(a.1=true->PC Tp gl 21 [Arg.mk .tree (Tr.mk o0.2.2.2.kind o0.2.2.2.text o0.2.2.2.keys o0.2.2.2.items)] [.bool] (λd:Bool=>R d))/\(a.1=false->PC Tp gl 38 [Arg.mk .tree (Tr.mk o0.2.2.2.kind o0.2.2.2.text o0.2.2.2.keys o0.2.2.2.items)] [.bool] (λe:Bool=>R e))))->b c)->((!a.2.2)=true->b (!a.2.2))/\((!a.2.2)=false->PC Tp gl 37 [Arg.mk (.row .str) o0.2.1] [.bool] (λf:Bool=>((!f)=true->b (!f))/\((!f)=false->PC Tp gl 37 [Arg.mk (.row .str) o0.2.2.1] [.bool] (λg:Bool=>((!g)=true->b (!g))/\((!g)=false->b (bif (!a.2.1)then(decide ((o0.2.2.1.length:Int)>0))else false)))))))):
  PC Tp gl 17 [Arg.mk (.pair .str (.pair (.row .str) (.pair (.row .str) .tree))) o0] [.bool] R:=
 PF ⟨[],[],[],[(6,⟨[(13,.one (.dat .bool))],[],[1],[100832]⟩)]⟩ [.tmp 2] 40 Tryz.func17 H
theorem zcc(gl:Fr)(o0:Bt×(List Bt)×(List Bt)×Tr)(R:Bool->Prop)
  (H:PC Tp gl 39 [Arg.mk .str o0.1] [.bool,.bool,.bool] (λa:Bool×Bool×Bool=>PC Tp gl 40 [Arg.mk (.row .str) o0.2.1] [.bool] (λb:Bool=>PC Tp gl 40 [Arg.mk (.row .str) o0.2.2.1] [.bool] (λc:Bool=>((bif (bif (bif (!a.2.2)then true else(!b))then true else(!c))then true else(bif (!a.2.1)then(decide ((o0.2.2.1.length:Int)>0))else false))=true->R false)/\((bif (bif (bif (!a.2.2)then true else(!b))then true else(!c))then true else(bif (!a.2.1)then(decide ((o0.2.2.1.length:Int)>0))else false))=false->(a.1=true->PC Tp gl 34 [Arg.mk .tree (Tr.mk o0.2.2.2.kind o0.2.2.2.text o0.2.2.2.keys o0.2.2.2.items)] [.bool] (λd:Bool=>R d))/\(a.1=false->PC Tp gl 41 [Arg.mk .tree (Tr.mk o0.2.2.2.kind o0.2.2.2.text o0.2.2.2.keys o0.2.2.2.items)] [.bool] (λe:Bool=>R e))))))):
  PC Tp gl 18 [Arg.mk (.pair .str (.pair (.row .str) (.pair (.row .str) .tree))) o0] [.bool] R:=
 PF ⟨[],[],[],[]⟩ [.tmp 2] 48 Tryz.func18 H
theorem zcd(gl:Fr)(v0:Tr)(R:Bool->Prop)
  (H:PC Tp gl 65 [Arg.mk .tree (Tr.mk v0.kind v0.text v0.keys v0.items)] [.int .i64] (λa:Int=>∃b:Int->Prop,(decide (a<=4096)=true->PC Tp gl 66 [Arg.mk .tree (Tr.mk v0.kind v0.text v0.keys v0.items)] [.int .i64] b)/\∀c:Int,(decide (a<=4096)=true->b c)->∃d:Bool->Prop,((bif (decide (a<=4096))then(decide (c<=32))else false)=true->PC Tp gl 67 [Arg.mk .tree (Tr.mk v0.kind v0.text v0.keys v0.items),Arg.mk .bool false] [.bool] d)/\∀e:Bool,((bif (decide (a<=4096))then(decide (c<=32))else false)=true->d e)->R (bif (bif (decide (a<=4096))then(decide (c<=32))else false)then e else false))):
  PC Tp gl 34 [Arg.mk .tree v0] [.bool] R:=
 PF ⟨[],[],[],[]⟩ [.tmp 2] 15 Tryz.func34 H
theorem zfe(gl:Fr)(v0:Tr)(o1:Bt×(List Bt)×(List Bt)×Tr)(R:(Tr×Int)->Prop)
  (H:PC Tp gl 18 [Arg.mk (.pair .str (.pair (.row .str) (.pair (.row .str) .tree))) (o1.1,(o1.2.1,(o1.2.2.1,Tr.mk o1.2.2.2.kind o1.2.2.2.text o1.2.2.2.keys o1.2.2.2.items)))] [.bool] (λa:Bool=>((!a)=true->R (Tr.mk 0 (⟨#[]⟩:Bt) [] [],1))/\((!a)=false->PC Tp gl 68 [Arg.mk .tree (Tr.mk v0.kind v0.text v0.keys v0.items),Arg.mk (.row .str) o1.2.1] [.tree,.bool] (λb:Tr×Bool=>PC Tp gl 68 [Arg.mk .tree (Tr.mk v0.kind v0.text v0.keys v0.items),Arg.mk (.row .str) o1.2.2.1] [.tree,.bool] (λc:Tr×Bool=>∀d:Int->Int->Bt->(List Bt)->(List Tr)->Int->Bt->(List Bt)->(List Tr)->Prop,(∀e ae:Int,∀ai:Bt,∀af:List Bt,∀ah:List Tr,∀ac:Int,∀O:Bt,∀Z:List Bt,∀aa:List Tr,(((e != 0)=true->R (Tr.mk 0 (⟨#[]⟩:Bt) [] [],e))/\((e != 0)=false->PC Tp gl 34 [Arg.mk .tree (Tr.mk ac O Z aa)] [.bool] (λf:Bool=>((!f)=true->R (Tr.mk 0 (⟨#[]⟩:Bt) [] [],1))/\((!f)=false->PC Tp gl 12 [Arg.mk .tree (Tr.mk ac O Z aa)] [.tree] (λg:Tr=>R (Tr.mk g.kind g.text g.keys g.items,0))))))->d e ae ai af ah ac O Z aa)->((o1.1.toList==(⟨#[97,100,100]⟩:Bt).toList)=true->PC Tp gl 69 [Arg.mk .tree (Tr.mk v0.kind v0.text v0.keys v0.items),Arg.mk (.row .str) o1.2.1,Arg.mk .tree (Tr.mk o1.2.2.2.kind o1.2.2.2.text o1.2.2.2.keys o1.2.2.2.items)] [.tree,.int .i64] (λi:Tr×Int=>d i.2 0 (⟨#[]⟩:Bt) [] [] i.1.kind i.1.text i.1.keys i.1.items))/\((o1.1.toList==(⟨#[97,100,100]⟩:Bt).toList)=false->((o1.1.toList==(⟨#[114,101,109,111,118,101]⟩:Bt).toList)=true->((!b.2)=true->R (Tr.mk 0 (⟨#[]⟩:Bt) [] [],8))/\((!b.2)=false->PC Tp gl 70 [Arg.mk .tree (Tr.mk v0.kind v0.text v0.keys v0.items),Arg.mk (.row .str) o1.2.1] [.tree,.int .i64] (λj:Tr×Int=>d j.2 0 (⟨#[]⟩:Bt) [] [] j.1.kind j.1.text j.1.keys j.1.items)))/\((o1.1.toList==(⟨#[114,101,109,111,118,101]⟩:Bt).toList)=false->((o1.1.toList==(⟨#[114,101,112,108,97,99,101]⟩:Bt).toList)=true->((!b.2)=true->R (Tr.mk 0 (⟨#[]⟩:Bt) [] [],8))/\((!b.2)=false->PC Tp gl 71 [Arg.mk .tree (Tr.mk v0.kind v0.text v0.keys v0.items),Arg.mk (.row .str) o1.2.1,Arg.mk .tree (Tr.mk o1.2.2.2.kind o1.2.2.2.text o1.2.2.2.keys o1.2.2.2.items)] [.tree] (λk:Tr=>d 0 0 (⟨#[]⟩:Bt) [] [] k.kind k.text k.keys k.items)))/\((o1.1.toList==(⟨#[114,101,112,108,97,99,101]⟩:Bt).toList)=false->((o1.1.toList==(⟨#[116,101,115,116]⟩:Bt).toList)=true->((!b.2)=true->R (Tr.mk 0 (⟨#[]⟩:Bt) [] [],8))/\((!b.2)=false->PC Tp gl 72 [Arg.mk .tree (Tr.mk b.1.kind b.1.text b.1.keys b.1.items),Arg.mk .tree (Tr.mk o1.2.2.2.kind o1.2.2.2.text o1.2.2.2.keys o1.2.2.2.items)] [.bool] (λl:Bool=>((!l)=true->R (Tr.mk 0 (⟨#[]⟩:Bt) [] [],9))/\((!l)=false->d 0 0 (⟨#[]⟩:Bt) [] [] v0.kind v0.text v0.keys v0.items))))/\((o1.1.toList==(⟨#[116,101,115,116]⟩:Bt).toList)=false->((o1.1.toList==(⟨#[109,111,118,101]⟩:Bt).toList)=true->((!c.2)=true->R (Tr.mk 0 (⟨#[]⟩:Bt) [] [],8))/\((!c.2)=false->(decide ((o1.2.1.length:Int)>(o1.2.2.1.length:Int))=true->(0<=(0:Int)/\(0:Int)<=(o1.2.2.1.length:Int)/\(o1.2.2.1.length:Int)<=(o1.2.1.length:Int)))/\∃m:Bool->Prop,(decide ((o1.2.1.length:Int)>(o1.2.2.1.length:Int))=true->PC Tp gl 55 [Arg.mk (.row .str) (B0 (0:Int).toNat (BJ (o1.2.2.1.length:Int).toNat o1.2.1)),Arg.mk (.row .str) o1.2.2.1] [.bool] m)/\∀n:Bool,(decide ((o1.2.1.length:Int)>(o1.2.2.1.length:Int))=true->m n)->((bif (decide ((o1.2.1.length:Int)>(o1.2.2.1.length:Int)))then n else false)=true->R (Tr.mk 0 (⟨#[]⟩:Bt) [] [],1))/\((bif (decide ((o1.2.1.length:Int)>(o1.2.2.1.length:Int)))then n else false)=false->PC Tp gl 55 [Arg.mk (.row .str) o1.2.1,Arg.mk (.row .str) o1.2.2.1] [.bool] (λo:Bool=>((!o)=true->PC Tp gl 70 [Arg.mk .tree (Tr.mk v0.kind v0.text v0.keys v0.items),Arg.mk (.row .str) o1.2.2.1] [.tree,.int .i64] (λp:Tr×Int=>((p.2 != 0)=true->R (Tr.mk 0 (⟨#[]⟩:Bt) [] [],p.2))/\((p.2 != 0)=false->PC Tp gl 69 [Arg.mk .tree (Tr.mk p.1.kind p.1.text p.1.keys p.1.items),Arg.mk (.row .str) o1.2.1,Arg.mk .tree (Tr.mk c.1.kind c.1.text c.1.keys c.1.items)] [.tree,.int .i64] (λq:Tr×Int=>d q.2 0 (⟨#[]⟩:Bt) [] [] q.1.kind q.1.text q.1.keys q.1.items))))/\((!o)=false->d 0 0 (⟨#[]⟩:Bt) [] [] v0.kind v0.text v0.keys v0.items)))))/\((o1.1.toList==(⟨#[109,111,118,101]⟩:Bt).toList)=false->((o1.1.toList==(⟨#[99,111,112,121]⟩:Bt).toList)=true->((!c.2)=true->R (Tr.mk 0 (⟨#[]⟩:Bt) [] [],8))/\((!c.2)=false->PC Tp gl 69 [Arg.mk .tree (Tr.mk v0.kind v0.text v0.keys v0.items),Arg.mk (.row .str) o1.2.1,Arg.mk .tree (Tr.mk c.1.kind c.1.text c.1.keys c.1.items)] [.tree,.int .i64] (λr:Tr×Int=>d r.2 0 (⟨#[]⟩:Bt) [] [] r.1.kind r.1.text r.1.keys r.1.items)))/\((o1.1.toList==(⟨#[99,111,112,121]⟩:Bt).toList)=false->d 0 0 (⟨#[]⟩:Bt) [] [] b.1.kind b.1.text b.1.keys b.1.items))))))))))):
  PC Tp gl 35 [Arg.mk .tree v0,Arg.mk (.pair .str (.pair (.row .str) (.pair (.row .str) .tree))) o1] [.tree,.int .i64] R:=
 PF ⟨[(27,16)],[],[],[(39,⟨[(11,.one (.dat (.int .i64)))],[(4,[.dat (.int .i64),.dat .str,.own 9 .str,.own 25 .tree]),(7,[.dat (.int .i64),.dat .str,.dat (.row .str),.dat (.row .tree)])],[],[100704,1000256,1000257,1000258,1000259,1000448,1000449,1000450,1000451]⟩)]⟩ [.cell 4 25,.tmp 5] 156 Tryz.func35 H
theorem zka(gl:Fr)(O:Bt)(R:(Bool×Bool×Bool)->Prop)
  (H:∀a:Bool->Prop,(∀b:Bool,((b=true->R (true,false,true))/\(b=false->((O.toList==(⟨#[109,111,118,101]⟩:Bt).toList)=true->((O.toList==(⟨#[109,111,118,101]⟩:Bt).toList)=true->R (false,true,true))/\((O.toList==(⟨#[109,111,118,101]⟩:Bt).toList)=false->R (false,false,(O.toList==(⟨#[114,101,109,111,118,101]⟩:Bt).toList))))/\((O.toList==(⟨#[109,111,118,101]⟩:Bt).toList)=false->((O.toList==(⟨#[99,111,112,121]⟩:Bt).toList)=true->R (false,true,true))/\((O.toList==(⟨#[99,111,112,121]⟩:Bt).toList)=false->R (false,false,(O.toList==(⟨#[114,101,109,111,118,101]⟩:Bt).toList))))))->a b)->((O.toList==(⟨#[97,100,100]⟩:Bt).toList)=true->a (O.toList==(⟨#[97,100,100]⟩:Bt).toList))/\((O.toList==(⟨#[97,100,100]⟩:Bt).toList)=false->((O.toList==(⟨#[114,101,112,108,97,99,101]⟩:Bt).toList)=true->a (O.toList==(⟨#[114,101,112,108,97,99,101]⟩:Bt).toList))/\((O.toList==(⟨#[114,101,112,108,97,99,101]⟩:Bt).toList)=false->a (O.toList==(⟨#[116,101,115,116]⟩:Bt).toList)))):
  PC Tp gl 36 [Arg.mk .str O] [.bool,.bool,.bool] R:=
 PF ⟨[],[],[],[(5,⟨[(6,.one (.dat .bool))],[],[],[100384]⟩)]⟩ [.tmp 2,.tmp 3,.tmp 4] 15 Tryz.func36 H
theorem zni(gl:Fr)(v0:Tr)(R:Bool->Prop)
  (H:R (bif (bif (v0.kind==0)then(v0.text.toList==(⟨#[]⟩:Bt).toList)else false)then((Aa .i64 ((v0.keys.length:Int)+(v0.items.length:Int)))==0)else false)):
  PC Tp gl 38 [Arg.mk .tree v0] [.bool] R:=
 PF ⟨[],[],[],[]⟩ [.tmp 2] 21 Tryz.func38 H
theorem zce(gl:Fr)(O:Bt)(R:(Bool×Bool×Bool)->Prop)
  (H:∀a:Bool->Prop,(∀b:Bool,((b=true->R (true,false,true))/\(b=false->((O.toList==(⟨#[114,101,109,111,118,101]⟩:Bt).toList)=true->R (false,false,true))/\((O.toList==(⟨#[114,101,109,111,118,101]⟩:Bt).toList)=false->((O.toList==(⟨#[109,111,118,101]⟩:Bt).toList)=true->((O.toList==(⟨#[109,111,118,101]⟩:Bt).toList)=true->R (false,true,true))/\((O.toList==(⟨#[109,111,118,101]⟩:Bt).toList)=false->R (false,false,false)))/\((O.toList==(⟨#[109,111,118,101]⟩:Bt).toList)=false->((O.toList==(⟨#[99,111,112,121]⟩:Bt).toList)=true->R (false,true,true))/\((O.toList==(⟨#[99,111,112,121]⟩:Bt).toList)=false->R (false,false,false))))))->a b)->((O.toList==(⟨#[97,100,100]⟩:Bt).toList)=true->a (O.toList==(⟨#[97,100,100]⟩:Bt).toList))/\((O.toList==(⟨#[97,100,100]⟩:Bt).toList)=false->((O.toList==(⟨#[114,101,112,108,97,99,101]⟩:Bt).toList)=true->a (O.toList==(⟨#[114,101,112,108,97,99,101]⟩:Bt).toList))/\((O.toList==(⟨#[114,101,112,108,97,99,101]⟩:Bt).toList)=false->a (O.toList==(⟨#[116,101,115,116]⟩:Bt).toList)))):
  PC Tp gl 39 [Arg.mk .str O] [.bool,.bool,.bool] R:=
 PF ⟨[],[],[],[(5,⟨[(6,.one (.dat .bool))],[],[],[100384]⟩)]⟩ [.tmp 2,.tmp 3,.tmp 4] 15 Tryz.func39 H
theorem zd3(gl:Fr)(v0:Tr)(R:Bool->Prop)
  (H:R (bif (bif (bif (v0.kind==0)then(v0.text.toList==(⟨#[]⟩:Bt).toList)else false)then((v0.keys.length:Int)==0)else false)then((v0.items.length:Int)==0)else false)):
  PC Tp gl 41 [Arg.mk .tree v0] [.bool] R:=
 PF ⟨[],[],[],[]⟩ [.tmp 2] 23 Tryz.func41 H
theorem zgj(gl:Fr)(v0:Tr)(R:Bool->Prop)
  (H:∃a:Bool->Prop,((v0.kind != 7)=true->PC Tp gl 47 [Arg.mk .tree (Tr.mk v0.kind v0.text v0.keys v0.items)] [.bool] a)/\∀b:Bool,((v0.kind != 7)=true->a b)->R (bif (v0.kind != 7)then b else false)):
  PC Tp gl 46 [Arg.mk .tree v0] [.bool] R:=
 PF ⟨[],[],[],[]⟩ [.tmp 2] 10 Tryz.func46 H
theorem zat(gl:Fr)(v0:Tr)(O:List Bt)(R:(Tr×Int)->Prop)
  (H:((decide ((Aa .i64 ((O.length:Int)-1))<0))=true->R (Tr.mk 0 (⟨#[]⟩:Bt) [] [],1))/\((decide ((Aa .i64 ((O.length:Int)-1))<0))=false->(0<=(0:Int)/\(0:Int)<=(Aa .i64 ((O.length:Int)-1))/\(Aa .i64 ((O.length:Int)-1))<=(O.length:Int))/\PC Tp gl 68 [Arg.mk .tree (Tr.mk v0.kind v0.text v0.keys v0.items),Arg.mk (.row .str) (B0 (0:Int).toNat (BJ (Aa .i64 ((O.length:Int)-1)).toNat O))] [.tree,.bool] (λa:Tr×Bool=>∃b,(0<=(Aa .i64 ((O.length:Int)-1))/\O[(Aa .i64 ((O.length:Int)-1)).toNat]?=some b)/\PC Tp gl 108 [Arg.mk .tree (Tr.mk a.1.kind a.1.text a.1.keys a.1.items),Arg.mk .str b] [.int .i64] (λc:Int=>(0<=(0:Int)/\(0:Int)<=c/\c<=a.1.items.length/\c=c)/\(0<=(Aa .i64 (c+1))/\(Aa .i64 (c+1))<=(a.1.items.length:Int)/\(a.1.items.length:Int)<=(a.1.items.length:Int))/\((Bm (B0 (0:Int).toNat (BJ c.toNat a.1.items))+Bm (B0 (Aa .i64 (c+1)).toNat (BJ (a.1.items.length:Int).toNat a.1.items)))*72<=140737488355328/\∀d:Int->Bt->(List Bt)->(List Tr)->Int->Bt->(List Bt)->(List Tr)->Prop,(∀ah:Int,∀af:Bt,∀ai:List Bt,∀aj:List Tr,∀ae:Int,∀ac:Bt,∀aa:List Bt,∀Z:List Tr,((0<=(0:Int)/\(0:Int)<=(Aa .i64 ((O.length:Int)-1))/\(Aa .i64 ((O.length:Int)-1))<=(O.length:Int))/\PC Tp gl 71 [Arg.mk .tree (Tr.mk v0.kind v0.text v0.keys v0.items),Arg.mk (.row .str) (B0 (0:Int).toNat (BJ (Aa .i64 ((O.length:Int)-1)).toNat O)),Arg.mk .tree (Tr.mk ae ac aa Z)] [.tree] (λe:Tr=>R (Tr.mk e.kind e.text e.keys e.items,0)))->d ah af ai aj ae ac aa Z)->((a.1.kind==6)=true->(0<=(0:Int)/\(0:Int)<=c/\c<=a.1.keys.length/\c=c)/\(0<=(Aa .i64 (c+1))/\(Aa .i64 (c+1))<=(a.1.keys.length:Int)/\(a.1.keys.length:Int)<=(a.1.keys.length:Int))/\((Bm (B0 (0:Int).toNat (BJ c.toNat a.1.keys))+Bm (B0 (Aa .i64 (c+1)).toNat (BJ (a.1.keys.length:Int).toNat a.1.keys)))*16<=140737488355328/\d 0 (⟨#[]⟩:Bt) [] [] a.1.kind a.1.text ((B0 (0:Int).toNat (BJ c.toNat a.1.keys))++(B0 (Aa .i64 (c+1)).toNat (BJ (a.1.keys.length:Int).toNat a.1.keys))) ((B0 (0:Int).toNat (BJ c.toNat a.1.items))++(B0 (Aa .i64 (c+1)).toNat (BJ (a.1.items.length:Int).toNat a.1.items)))))/\((a.1.kind==6)=false->d 0 (⟨#[]⟩:Bt) [] [] a.1.kind a.1.text a.1.keys ((B0 (0:Int).toNat (BJ c.toNat a.1.items))++(B0 (Aa .i64 (c+1)).toNat (BJ (a.1.items.length:Int).toNat a.1.items))))))))):
  PC Tp gl 70 [Arg.mk .tree v0,Arg.mk (.row .str) O] [.tree,.int .i64] R:=
 PF ⟨[(5,5),(6,10),(8,10),(9,5)],[(4,9,[],[0,1,2,3,8,4,5,6,7],[7])],[],[(9,⟨[],[(4,[.dat (.int .i64),.dat .str,.own 9 .str,.own 25 .tree]),(7,[.dat (.int .i64),.dat .str,.dat (.row .str),.dat (.row .tree)])],[2],[1000256,1000257,1000258,1000259,1000448,1000449,1000450,1000451]⟩)]⟩ [.cell 4 25,.tmp 5] 63 Tryz.func70 H
theorem zd4(gl:Fr)(a0:Tr)(b1:Tr)(R:Bool->Prop)
  (H:PC Tp gl 107 [Arg.mk .tree (Tr.mk a0.kind a0.text a0.keys a0.items)] [.bool] (λa:Bool=>PC Tp gl 107 [Arg.mk .tree (Tr.mk b1.kind b1.text b1.keys b1.items)] [.bool] (λb:Bool=>∃c:Bool->Prop,((bif a then b else false)=true->PC Tp gl 111 [Arg.mk .tree (Tr.mk a0.kind a0.text a0.keys a0.items),Arg.mk .tree (Tr.mk b1.kind b1.text b1.keys b1.items)] [.bool] c)/\∀d:Bool,((bif a then b else false)=true->c d)->R (bif (bif a then b else false)then d else false)))):
  PC Tp gl 72 [Arg.mk .tree a0,Arg.mk .tree b1] [.bool] R:=
 PF ⟨[],[],[],[]⟩ [.tmp 4] 20 Tryz.func72 H
theorem znj(gl:Fr)(a0:Tr)(b1:Tr)(R:Bool->Prop)
  (H:PC Tp gl 42 [Arg.mk .tree (Tr.mk a0.kind a0.text a0.keys a0.items)] [.bool] (λa:Bool=>∃b:Bool->Prop,(a=true->PC Tp gl 42 [Arg.mk .tree (Tr.mk b1.kind b1.text b1.keys b1.items)] [.bool] b)/\∀c:Bool,(a=true->b c)->∃d:Bool->Prop,((bif a then c else false)=true->PC Tp gl 137 [Arg.mk .tree (Tr.mk a0.kind a0.text a0.keys a0.items),Arg.mk .tree (Tr.mk b1.kind b1.text b1.keys b1.items)] [.bool] d)/\∀e:Bool,((bif a then c else false)=true->d e)->R (bif (bif a then c else false)then e else false))):
  PC Tp gl 105 [Arg.mk .tree a0,Arg.mk .tree b1] [.bool] R:=
 PF ⟨[],[],[],[]⟩ [.tmp 4] 16 Tryz.func105 H
theorem zff(gl:Fr)(l0:List Tr)(k1:Int)(v2:Tr)(R:(List Tr)->Prop)
  (H:(0<=(0:Int)/\(0:Int)<=k1/\k1<=l0.length)/\(Bm (B0 (0:Int).toNat (BJ k1.toNat l0))*72<=140737488355328/\((Bm (B0 (0:Int).toNat (BJ k1.toNat l0))+Bm ([Tr.mk v2.kind v2.text v2.keys v2.items]:List Tr))*72<=140737488355328/\(0<=k1/\k1<=l0.length/\(l0.length:Int)<=(l0.length:Int))/\((Bm ((B0 (0:Int).toNat (BJ k1.toNat l0))++[Tr.mk v2.kind v2.text v2.keys v2.items])+Bm (B0 k1.toNat (BJ (l0.length:Int).toNat l0)))*72<=140737488355328/\R (((B0 (0:Int).toNat (BJ k1.toNat l0))++[Tr.mk v2.kind v2.text v2.keys v2.items])++(B0 k1.toNat (BJ (l0.length:Int).toNat l0))))))):
  PC Tp gl 110 [Arg.mk (.row .tree) l0,Arg.mk (.int .i64) k1,Arg.mk .tree v2] [.row .tree] R:=
 PF ⟨[],[],[],[]⟩ [.tmp 6] 22 Tryz.func110 H
theorem zd5(gl:Fr)(a0:Tr)(b1:Tr)(R:Bool->Prop)
  (H:((bif (bif (a0.kind != b1.kind)then true else(!(a0.text.toList==b1.text.toList)))then true else((a0.items.length:Int) != (b1.items.length:Int)))=true->R false)/\((bif (bif (a0.kind != b1.kind)then true else(!(a0.text.toList==b1.text.toList)))then true else((a0.items.length:Int) != (b1.items.length:Int)))=false->∃(a:Int->Prop) (b:Int->Nat),a 0/\∀c:Int,a c->((decide (c<a0.items.length)=true->∀d:Int->Prop,(∀e:Int,((decide (e<0)=true->R false)/\(decide (e<0)=false->∃f,(0<=c/\a0.items[c.toNat]?=some f)/\∃g,(0<=e/\b1.items[e.toNat]?=some g)/\PC Tp gl 111 [Arg.mk .tree (Tr.mk f.kind f.text f.keys f.items),Arg.mk .tree (Tr.mk g.kind g.text g.keys g.items)] [.bool] (λi:Bool=>((!i)=true->R false)/\((!i)=false->(a (Aa .i64 (c+1))/\b (Aa .i64 (c+1))<b c)))))->d e)->((a0.kind==6)=true->∃j,(0<=c/\a0.keys[c.toNat]?=some j)/\PC Tp gl 126 [Arg.mk .tree (Tr.mk b1.kind b1.text b1.keys b1.items),Arg.mk .str j] [.int .i64] (λk:Int=>d k))/\((a0.kind==6)=false->d c))/\(decide (c<a0.items.length)=false->R true)))):
  PC Tp gl 111 [Arg.mk .tree a0,Arg.mk .tree b1] [.bool] R:=
 PF ⟨[(8,6),(11,10)],[],[(4,⟨[(5,.one (.dat (.int .i64)))],[],[2,3],[100320]⟩)],[(9,⟨[(6,.one (.dat (.int .i64)))],[],[],[100384]⟩)]⟩ [.tmp 4] 62 Tryz.func111 H
theorem zgk(gl:Fr)(v0:Tr)(O:Bt)(R:Int->Prop)
  (H:∃(a:Int->Prop) (b:Int->Nat),a 0/\∀c:Int,a c->((decide (c<v0.keys.length)=true->∃d,(0<=c/\v0.keys[c.toNat]?=some d)/\((d.toList==O.toList)=true->R c)/\((d.toList==O.toList)=false->(a (Aa .i64 (c+1))/\b (Aa .i64 (c+1))<b c)))/\(decide (c<v0.keys.length)=false->R (-1)))):
  PC Tp gl 126 [Arg.mk .tree v0,Arg.mk .str O] [.int .i64] R:=
 PF ⟨[],[],[(2,⟨[(5,.one (.dat (.int .i64)))],[],[2],[100320]⟩)],[]⟩ [.tmp 4] 21 Tryz.func126 H
theorem zkb(gl:Fr)(v0:Tr)(O:Bt)(R:Int->Prop)
  (H:((v0.kind==6)=true->PC Tp gl 144 [Arg.mk (.row .str) v0.keys,Arg.mk .str O] [.int .i64] (λa:Int=>R a))/\((v0.kind==6)=false->PC Tp gl 145 [Arg.mk .str O] [.int .i64,.bool] (λb:Int×Bool=>((bif (bif b.2 then(v0.kind==5)else false)then(decide (b.1<v0.items.length))else false)=true->R b.1)/\((bif (bif b.2 then(v0.kind==5)else false)then(decide (b.1<v0.items.length))else false)=false->R (-1))))):
  PC Tp gl 134 [Arg.mk .tree v0,Arg.mk .str O] [.int .i64] R:=
 PF ⟨[],[],[],[]⟩ [.tmp 4] 33 Tryz.func134 H
end
section
theorem za3(b:Int)(c:Bt)(d:Sl)(e:Sl)(l1:Sl)(h:zb)(R:Value->zb->Prop)
  (H:let f:=h.push (.cells #[.int .i64 b,.string c,slV d,slV e] 25);let g:=f.push (.cells #[.int .i64 0,.string (⟨#[]⟩:Bt),.slice none 0 0,.slice none 0 0] 25);∃i j k l,ze g ⟨h.size,0,none⟩ 0 [.int .i64 i,.string j,slV k,slV l]/\XC Tp 21 #[.agg #[.int .i64 i,.string j,slV k,slV l]] g (λm n=>∃o,m=.bool o/\((!o)=true->XRunU Tp (Al 25 (.pointer (some ⟨f.size,0,none⟩)) (.agg #[.int .i64 0,.string (⟨#[]⟩:Bt),.slice none 0 0,.slice none 0 0])) n (λp=>∃q r s t,ze p ⟨f.size,0,none⟩ 0 [.int .i64 q,.string r,slV s,slV t]/\R (.tuple #[.agg #[.int .i64 q,.string r,slV s,slV t],.int .i64 0,.int .i64 1]) p))/\((!o)=false->∃u v w x,ze n ⟨h.size,0,none⟩ 0 [.int .i64 u,.string v,slV w,slV x]/\XC Tp 32 #[.agg #[.int .i64 u,.string v,slV w,slV x]] n (λy z=>∃A B C D,y=.agg #[.int .i64 A,.string B,slV C,slV D]/\let E:=z.push (.cells #[.int .i64 A,.string B,slV C,slV D] 59);∃(F:Int->zb->Prop) (G:Int->zb->Nat),F 0 E/\∀I:Int,∀J:zb,F I J->((decide (I<l1.len)=true->∃L,(l1.a=some L/\0<=I/\I<l1.len)/\∃M N O P Q S T,ze J (L.add (I.toNat*7)) 0 [.string M,slV N,slV O,.int .i64 P,.string Q,slV S,slV T]/\let U:=J.push (.cells #[.string (⟨#[]⟩:Bt),.slice none 0 0,.slice none 0 0,.int .i64 0,.string (⟨#[]⟩:Bt),.slice none 0 0,.slice none 0 0] 38);XRunU Tp (Al 38 (.pointer (some ⟨J.size,0,none⟩)) (.agg #[.string M,slV N,slV O,.int .i64 P,.string Q,slV S,slV T])) U (λV=>∃W X Y Z aa ab ac,ze V ⟨J.size,0,none⟩ 0 [.string W,slV X,slV Y,.int .i64 Z,.string aa,slV ab,slV ac]/\XC Tp 33 #[.pointer (some ⟨z.size,0,none⟩),.agg #[.string W,slV X,slV Y,.int .i64 Z,.string aa,slV ab,slV ac]] V (λad ae=>∃af,ad=.int .i64 af/\((af != 0)=true->XRunU Tp (Al 25 (.pointer (some ⟨f.size,0,none⟩)) (.agg #[.int .i64 0,.string (⟨#[]⟩:Bt),.slice none 0 0,.slice none 0 0])) ae (λag=>∃ah ai aj ak,ze ag ⟨f.size,0,none⟩ 0 [.int .i64 ah,.string ai,slV aj,slV ak]/\R (.tuple #[.agg #[.int .i64 ah,.string ai,slV aj,slV ak],.int .i64 I,.int .i64 af]) ag))/\((af != 0)=false->(F (Aa .i64 (I+1)) ae/\G (Aa .i64 (I+1)) ae<G I J)))))/\(decide (I<l1.len)=false->∃al,some ⟨z.size,0,none⟩=some al/\∃am an ao ap,ze J (Af al 0) 0 [.int .i64 am,.string an,slV ao,slV ap]/\XRunU Tp (Al 25 (.pointer (some ⟨f.size,0,none⟩)) (.agg #[.int .i64 am,.string an,slV ao,slV ap])) J (λaq=>∃ar au av aw,ze aq ⟨f.size,0,none⟩ 0 [.int .i64 ar,.string au,slV av,slV aw]/\R (.tuple #[.agg #[.int .i64 ar,.string au,slV av,slV aw],.int .i64 (l1.len:Int),.int .i64 0]) aq))))))):
  XC Tp 13 #[.agg #[.int .i64 b,.string c,.slice d.a d.len d.cap,.slice e.a e.len e.cap],.slice l1.a l1.len l1.cap] h R:=
 XF ⟨[],[(5,[(21,.one (.int .i64))])],[]⟩ [.cell 4 25,.tmp 5,.tmp 6] 41 Tryz.func13 H
theorem zfg(d0:Option Addr)(b:Bt)(c:Sl)(d:Sl)(e:Int)(f:Bt)(g:Sl)(i:Sl)(h:zb)(R:Value->zb->Prop)
  (H:let j:=h.push (.cells #[.string b,slV c,slV d,.int .i64 e,.string f,slV g,slV i] 38);∃k l m n o p q,ze j ⟨h.size,0,none⟩ 0 [.string k,slV l,slV m,.int .i64 n,.string o,slV p,slV q]/\XC Tp 17 #[.agg #[.string k,slV l,slV m,.int .i64 n,.string o,slV p,slV q]] j (λr s=>∃t,r=.bool t/\((!t)=true->R (.int .i64 1) s)/\((!t)=false->∀u:Value->zb->Prop,(∀v:Value,∀w:zb,(∃x y z A B C D,ze w ⟨h.size,0,none⟩ 0 [.string x,slV y,slV z,.int .i64 A,.string B,slV C,slV D]/\z8k Tp v #[.agg #[.string x,slV y,slV z,.int .i64 A,.string B,slV C,slV D]] (λE F=>XC Tp E F w (λG I=>∃J,G=.int .i64 J/\((J != 0)=true->R (.int .i64 J) I)/\((J != 0)=false->∃L,d0=some L/\∃M N O P,ze I (Af L 0) 0 [.int .i64 M,.string N,slV O,slV P]/\XC Tp 21 #[.agg #[.int .i64 M,.string N,slV O,slV P]] I (λQ S=>∃T,Q=.bool T/\((!T)=true->R (.int .i64 1) S)/\((!T)=false->R (.int .i64 0) S))))))->u v w)->∃U,zm s (Af ⟨h.size,0,none⟩ 0)=some (.string U)/\((U.toList==(⟨#[114,101,109,111,118,101]⟩:Bt).toList)=true->u (.func (.func 60) #[.pointer d0] #[]) s)/\((U.toList==(⟨#[114,101,109,111,118,101]⟩:Bt).toList)=false->((U.toList==(⟨#[114,101,112,108,97,99,101]⟩:Bt).toList)=true->u (.func (.func 61) #[.pointer d0] #[]) s)/\((U.toList==(⟨#[114,101,112,108,97,99,101]⟩:Bt).toList)=false->((U.toList==(⟨#[109,111,118,101]⟩:Bt).toList)=true->u (.func (.func 62) #[.pointer d0] #[]) s)/\((U.toList==(⟨#[109,111,118,101]⟩:Bt).toList)=false->((U.toList==(⟨#[99,111,112,121]⟩:Bt).toList)=true->u (.func (.func 63) #[.pointer d0] #[]) s)/\((U.toList==(⟨#[99,111,112,121]⟩:Bt).toList)=false->((U.toList==(⟨#[116,101,115,116]⟩:Bt).toList)=true->u (.func (.func 64) #[.pointer d0] #[]) s)/\((U.toList==(⟨#[116,101,115,116]⟩:Bt).toList)=false->u (.func (.func 59) #[.pointer d0] #[]) s)))))))):
  XC Tp 33 #[.pointer d0,.agg #[.string b,.slice c.a c.len c.cap,.slice d.a d.len d.cap,.int .i64 e,.string f,.slice g.a g.len g.cap,.slice i.a i.len i.cap]] h R:=
 XF ⟨[],[],[(15,[(5,.one (.raw))])]⟩ [.tmp 4] 46 Tryz.func33 H
theorem zd6(d0:Option Addr)(b:Bt)(c:Sl)(d:Sl)(e:Int)(f:Bt)(g:Sl)(i:Sl)(h:zb)(R:Value->zb->Prop)
  (H:let j:=h.push (.cells #[.string b,slV c,slV d,.int .i64 e,.string f,slV g,slV i] 38);∃k,zm j (Af ⟨h.size,0,none⟩ 1)=some (slV k)/\∃l m n o,ze j (Af ⟨h.size,0,none⟩ 3) 0 [.int .i64 l,.string m,slV n,slV o]/\XC Tp 32 #[.agg #[.int .i64 l,.string m,slV n,slV o]] j (λp q=>∃r s t u,p=.agg #[.int .i64 r,.string s,slV t,slV u]/\Keep j.size j q/\XC Tp 101 #[.pointer d0,slV k,.agg #[.int .i64 r,.string s,slV t,slV u]] q (λv w=>∃x,v=.int .i64 x/\R (.int .i64 x) w))):
  XC Tp 59 #[.pointer d0,.agg #[.string b,.slice c.a c.len c.cap,.slice d.a d.len d.cap,.int .i64 e,.string f,.slice g.a g.len g.cap,.slice i.a i.len i.cap]] h R:=
 XF ⟨[(1,2000)],[],[]⟩ [.tmp 4] 12 Tryz.func59 H
theorem Xv(d0:Option Addr)(b:Bt)(c:Sl)(d:Sl)(e:Int)(f:Bt)(g:Sl)(i:Sl)(h:zb)(R:Value->zb->Prop)
  (H:let j:=h.push (.cells #[.string b,slV c,slV d,.int .i64 e,.string f,slV g,slV i] 38);∃k,zm j (Af ⟨h.size,0,none⟩ 1)=some (slV k)/\XC Tp 102 #[.pointer d0,slV k] j (λl m=>∃n:Option Addr,l=.pointer n/\(n.isNone=true->R (.int .i64 8) m)/\(n.isNone=false->∃o,zm m (Af ⟨h.size,0,none⟩ 1)=some (slV o)/\XC Tp 103 #[.pointer d0,slV o] m (λp q=>∃r,p=.int .i64 r/\R (.int .i64 r) q)))):
  XC Tp 60 #[.pointer d0,.agg #[.string b,.slice c.a c.len c.cap,.slice d.a d.len d.cap,.int .i64 e,.string f,.slice g.a g.len g.cap,.slice i.a i.len i.cap]] h R:=
 XF ⟨[],[],[]⟩ [.tmp 4] 14 Tryz.func60 H
theorem Wy(d0:Option Addr)(b:Bt)(c:Sl)(d:Sl)(e:Int)(f:Bt)(g:Sl)(i:Sl)(h:zb)(R:Value->zb->Prop)
  (H:let j:=h.push (.cells #[.string b,slV c,slV d,.int .i64 e,.string f,slV g,slV i] 38);∃k,zm j (Af ⟨h.size,0,none⟩ 1)=some (slV k)/\XC Tp 102 #[.pointer d0,slV k] j (λl m=>∃n:Option Addr,l=.pointer n/\(n.isNone=true->R (.int .i64 8) m)/\(n.isNone=false->∃o p q r,ze m (Af ⟨h.size,0,none⟩ 3) 0 [.int .i64 o,.string p,slV q,slV r]/\XC Tp 32 #[.agg #[.int .i64 o,.string p,slV q,slV r]] m (λs t=>∃u v w x,s=.agg #[.int .i64 u,.string v,slV w,slV x]/\∃y,n=some y/\XRunU Tp (Al 25 (.pointer (some y)) (.agg #[.int .i64 u,.string v,slV w,slV x])) t (λz=>R (.int .i64 0) z))))):
  XC Tp 61 #[.pointer d0,.agg #[.string b,.slice c.a c.len c.cap,.slice d.a d.len d.cap,.int .i64 e,.string f,.slice g.a g.len g.cap,.slice i.a i.len i.cap]] h R:=
 XF ⟨[],[],[]⟩ [.tmp 4] 17 Tryz.func61 H
theorem zcf(d0:Option Addr)(b:Bt)(c:Sl)(d:Sl)(e:Int)(f:Bt)(g:Sl)(i:Sl)(h:zb)(R:Value->zb->Prop)
  (H:let j:=h.push (.cells #[.string b,slV c,slV d,.int .i64 e,.string f,slV g,slV i] 38);∃k,zm j (Af ⟨h.size,0,none⟩ 2)=some (slV k)/\XC Tp 102 #[.pointer d0,slV k] j (λl m=>∃n:Option Addr,l=.pointer n/\∃o,zm m (Af ⟨h.size,0,none⟩ 2)=some (slV o)/\(n.isNone=true->R (.int .i64 8) m)/\(n.isNone=false->∃p,zm m (Af ⟨h.size,0,none⟩ 1)=some (slV p)/\∃q,(decide ((p.len:Int)>=(o.len:Int))=true->zm m (Af ⟨h.size,0,none⟩ 1)=some (slV q))/\((none:Option Value)=none\/∃v,(some (.int .i64 (o.len:Int)):Option Value)=some v)/\(decide ((p.len:Int)>=(o.len:Int))=true->(0<=(0:Int)/\(0:Int)<=(o.len:Int)/\(o.len:Int)<=(q.cap:Int)/\(q.cap:Int)<=(q.cap:Int)))/\∃r,(decide ((p.len:Int)>=(o.len:Int))=true->zm m (Af ⟨h.size,0,none⟩ 2)=some (slV r))/\∃s,(decide ((p.len:Int)>=(o.len:Int))=true->XC Tp 104 #[.slice (Qv q.a 1 ((0:Int).toNat) ((q.cap:Int).toNat)) ((o.len:Int).toNat-(0:Int).toNat) ((q.cap:Int).toNat-(0:Int).toNat),slV r] m (λt u=>t=.bool s/\u=m))/\((bif (decide ((p.len:Int)>=(o.len:Int)))then s else false)=true->∃w,zm m (Af ⟨h.size,0,none⟩ 1)=some (slV w)/\(decide ((w.len:Int)>(o.len:Int))=true->R (.int .i64 1) m)/\(decide ((w.len:Int)>(o.len:Int))=false->R (.int .i64 0) m))/\((bif (decide ((p.len:Int)>=(o.len:Int)))then s else false)=false->∃x,n=some x/\∃y z A B,ze m x 0 [.int .i64 y,.string z,slV A,slV B]/\XC Tp 32 #[.agg #[.int .i64 y,.string z,slV A,slV B]] m (λC D=>∃E F G I,C=.agg #[.int .i64 E,.string F,slV G,slV I]/\let J:=D.push (.cells #[.int .i64 0,.string (⟨#[]⟩:Bt),.slice none 0 0,.slice none 0 0] 25);XRunU Tp (Al 25 (.pointer (some ⟨D.size,0,none⟩)) (.agg #[.int .i64 E,.string F,slV G,slV I])) J (λL=>∃M,zm L (Af ⟨h.size,0,none⟩ 2)=some (slV M)/\XC Tp 103 #[.pointer d0,slV M] L (λN O=>∃P,N=.int .i64 P/\((P != 0)=true->R (.int .i64 P) O)/\((P != 0)=false->∃Q,zm O (Af ⟨h.size,0,none⟩ 1)=some (slV Q)/\∃S T U V,ze O ⟨D.size,0,none⟩ 0 [.int .i64 S,.string T,slV U,slV V]/\XC Tp 101 #[.pointer d0,slV Q,.agg #[.int .i64 S,.string T,slV U,slV V]] O (λW X=>∃Y,W=.int .i64 Y/\R (.int .i64 Y) X))))))))):
  XC Tp 62 #[.pointer d0,.agg #[.string b,.slice c.a c.len c.cap,.slice d.a d.len d.cap,.int .i64 e,.string f,.slice g.a g.len g.cap,.slice i.a i.len i.cap]] h R:=
 XF ⟨[],[],[]⟩ [.tmp 4] 55 Tryz.func62 H
theorem zcg(d0:Option Addr)(b:Bt)(c:Sl)(d:Sl)(e:Int)(f:Bt)(g:Sl)(i:Sl)(h:zb)(R:Value->zb->Prop)
  (H:let j:=h.push (.cells #[.string b,slV c,slV d,.int .i64 e,.string f,slV g,slV i] 38);∃k,zm j (Af ⟨h.size,0,none⟩ 2)=some (slV k)/\XC Tp 102 #[.pointer d0,slV k] j (λl m=>∃n:Option Addr,l=.pointer n/\(n.isNone=true->R (.int .i64 8) m)/\(n.isNone=false->∃o,zm m (Af ⟨h.size,0,none⟩ 1)=some (slV o)/\∃p,n=some p/\∃q r s t,ze m p 0 [.int .i64 q,.string r,slV s,slV t]/\XC Tp 32 #[.agg #[.int .i64 q,.string r,slV s,slV t]] m (λu v=>∃w x y z,u=.agg #[.int .i64 w,.string x,slV y,slV z]/\Keep m.size m v/\XC Tp 101 #[.pointer d0,slV o,.agg #[.int .i64 w,.string x,slV y,slV z]] v (λA B=>∃C,A=.int .i64 C/\R (.int .i64 C) B))))):
  XC Tp 63 #[.pointer d0,.agg #[.string b,.slice c.a c.len c.cap,.slice d.a d.len d.cap,.int .i64 e,.string f,.slice g.a g.len g.cap,.slice i.a i.len i.cap]] h R:=
 XF ⟨[(4,2000)],[],[]⟩ [.tmp 4] 20 Tryz.func63 H
theorem zch(d0:Option Addr)(b:Bt)(c:Sl)(d:Sl)(e:Int)(f:Bt)(g:Sl)(i:Sl)(h:zb)(R:Value->zb->Prop)
  (H:let j:=h.push (.cells #[.string b,slV c,slV d,.int .i64 e,.string f,slV g,slV i] 38);∃k,zm j (Af ⟨h.size,0,none⟩ 1)=some (slV k)/\XC Tp 102 #[.pointer d0,slV k] j (λl m=>∃n:Option Addr,l=.pointer n/\(n.isNone=true->R (.int .i64 8) m)/\(n.isNone=false->∃o,n=some o/\∃p q r s,ze m o 0 [.int .i64 p,.string q,slV r,slV s]/\∃t u v w,ze m (Af ⟨h.size,0,none⟩ 3) 0 [.int .i64 t,.string u,slV v,slV w]/\∃x,(∀y:zb,Keep m.size m y->XC Tp 105 #[.agg #[.int .i64 p,.string q,slV r,slV s],.agg #[.int .i64 t,.string u,slV v,slV w]] y (λz A=>z=.bool x/\Keep y.size y A))/\∀B:zb,Keep m.size m B->((!x)=true->R (.int .i64 9) B)/\((!x)=false->R (.int .i64 0) B)))):
  XC Tp 64 #[.pointer d0,.agg #[.string b,.slice c.a c.len c.cap,.slice d.a d.len d.cap,.int .i64 e,.string f,.slice g.a g.len g.cap,.slice i.a i.len i.cap]] h R:=
 XF ⟨[(4,1000)],[],[]⟩ [.tmp 4] 21 Tryz.func64 H
theorem zgl(d0:Option Addr)(aN:Sl)(b:Int)(c:Bt)(d:Sl)(e:Sl)(h:zb)(R:Value->zb->Prop)
  (H:let f:=h.push (.cells #[.int .i64 b,.string c,slV d,slV e] 25);(((aN.len:Int)==0)=true->∃g i j k,ze f ⟨h.size,0,none⟩ 0 [.int .i64 g,.string i,slV j,slV k]/\∃l,d0=some l/\XRunU Tp (Al 25 (.pointer (some (Af l 0))) (.agg #[.int .i64 g,.string i,slV j,slV k])) f (λm=>R (.int .i64 0) m))/\(((aN.len:Int)==0)=false->∃n,(aN.a=some n/\0<=(Aa .i64 ((aN.len:Int)-1))/\(Aa .i64 ((aN.len:Int)-1))<(aN.len:Int))/\∃o,zm f (n.add ((Aa .i64 ((aN.len:Int)-1)).toNat*1))=some (.string o)/\((none:Option Value)=none\/∃v,(some (.int .i64 (Aa .i64 ((aN.len:Int)-1))):Option Value)=some v)/\(0<=(0:Int)/\(0:Int)<=(Aa .i64 ((aN.len:Int)-1))/\(Aa .i64 ((aN.len:Int)-1))<=(aN.cap:Int)/\(aN.cap:Int)<=(aN.cap:Int))/\XC Tp 102 #[.pointer d0,.slice (Qv aN.a 1 ((0:Int).toNat) ((aN.cap:Int).toNat)) ((Aa .i64 ((aN.len:Int)-1)).toNat-(0:Int).toNat) ((aN.cap:Int).toNat-(0:Int).toNat)] f (λp q=>∃r:Option Addr,p=.pointer r/\(r.isNone=true->R (.int .i64 8) q)/\(r.isNone=false->∃s,r=some s/\∃t,zm q (Af s 0)=some (.int .i64 t)/\((t==5)=true->∃u w x y,ze q ⟨h.size,0,none⟩ 0 [.int .i64 u,.string w,slV x,slV y]/\XC Tp 133 #[.pointer r,.string o,.agg #[.int .i64 u,.string w,slV x,slV y]] q (λz A=>∃B,z=.int .i64 B/\R (.int .i64 B) A))/\((t==5)=false->∃C,r=some C/\∃D,zm q (Af C 0)=some (.int .i64 D)/\((D != 6)=true->R (.int .i64 8) q)/\((D != 6)=false->∃E,r=some E/\∃F G I J,ze q E 0 [.int .i64 F,.string G,slV I,slV J]/\XC Tp 134 #[.agg #[.int .i64 F,.string G,slV I,slV J],.string o] q (λL M=>∃N,L=.int .i64 N/\(decide (N>=0)=true->∃O,r=some O/\∃P,zm M (Af O 3)=some (slV P)/\∃Q S T U,ze M ⟨h.size,0,none⟩ 0 [.int .i64 Q,.string S,slV T,slV U]/\∃V,(P.a=some V/\0<=N/\N<P.len)/\XRunU Tp (Al 25 (.pointer (some (V.add (N.toNat*4)))) (.agg #[.int .i64 Q,.string S,slV T,slV U])) M (λW=>R (.int .i64 0) W))/\(decide (N>=0)=false->∃X,r=some X/\∃Y,zm M (Af X 2)=some (slV Y)/\∃Z,r=some Z/\∃aa,zm M (Af Z 3)=some (slV aa)/\∃ab ac ad ae,ze M ⟨h.size,0,none⟩ 0 [.int .i64 ab,.string ac,slV ad,slV ae]/\∃af,r=some af/\∃ag,r=some ag/\(let ah:=M.push (.cells #[.string o] 9);(ah)[(⟨h.size,0,none⟩:Addr).block]?=(M)[(⟨h.size,0,none⟩:Addr).block]?/\(ah)[((Af Z 3):Addr).block]?=(M)[((Af Z 3):Addr).block]?/\(ah)[((Af X 2):Addr).block]?=(M)[((Af X 2):Addr).block]?/\(XRun Tp (Au #[22,22] 22 #[slV Y,.slice (some ⟨M.size,0,none⟩) 1 1]) ah (λai aj=>∃ak,ai=slV ak/\(aj)[(⟨h.size,0,none⟩:Addr).block]?=(M)[(⟨h.size,0,none⟩:Addr).block]?/\(aj)[((Af Z 3):Addr).block]?=(M)[((Af Z 3):Addr).block]?/\let al:=aj.push (.cells #[.int .i64 ab,.string ac,slV ad,slV ae] 25);(al)[((Af Z 3):Addr).block]?=(M)[((Af Z 3):Addr).block]?/\XRun Tp (Au #[23,23] 23 #[slV aa,.slice (some ⟨aj.size,0,none⟩) 1 1]) al (λam an=>∃ao,am=slV ao/\XRunU Tp (Al 22 (.pointer (some (Af af 2))) (slV ak)) an (λap=>XRunU Tp (Al 23 (.pointer (some (Af ag 3))) (slV ao)) ap (λaq=>R (.int .i64 0) aq)))))/\(let ar:=ah.push (.cells #[.int .i64 ab,.string ac,slV ad,slV ae] 25);(ar)[((Af Z 3):Addr).block]?=(M)[((Af Z 3):Addr).block]?/\(ar)[((Af X 2):Addr).block]?=(M)[((Af X 2):Addr).block]?/\XRun Tp (Au #[22,22] 22 #[slV Y,.slice (some ⟨M.size,0,none⟩) 1 1]) ar (λau av=>∃aw,au=slV aw/\(av)[((Af Z 3):Addr).block]?=(M)[((Af Z 3):Addr).block]?/\XRun Tp (Au #[23,23] 23 #[slV aa,.slice (some ⟨ah.size,0,none⟩) 1 1]) av (λax ay=>∃az,ax=slV az/\XRunU Tp (Al 22 (.pointer (some (Af af 2))) (slV aw)) ay (λaA=>XRunU Tp (Al 23 (.pointer (some (Af ag 3))) (slV az)) aA (λaB=>R (.int .i64 0) aB))))))/\(let aC:=M.push (.cells #[.int .i64 ab,.string ac,slV ad,slV ae] 25);(aC)[((Af Z 3):Addr).block]?=(M)[((Af Z 3):Addr).block]?/\(aC)[((Af X 2):Addr).block]?=(M)[((Af X 2):Addr).block]?/\let aD:=aC.push (.cells #[.string o] 9);(aD)[((Af Z 3):Addr).block]?=(M)[((Af Z 3):Addr).block]?/\(aD)[((Af X 2):Addr).block]?=(M)[((Af X 2):Addr).block]?/\XRun Tp (Au #[22,22] 22 #[slV Y,.slice (some ⟨aC.size,0,none⟩) 1 1]) aD (λaE aF=>∃aG,aE=slV aG/\(aF)[((Af Z 3):Addr).block]?=(M)[((Af Z 3):Addr).block]?/\XRun Tp (Au #[23,23] 23 #[slV aa,.slice (some ⟨M.size,0,none⟩) 1 1]) aF (λaH aI=>∃aJ,aH=slV aJ/\XRunU Tp (Al 22 (.pointer (some (Af af 2))) (slV aG)) aI (λaL=>XRunU Tp (Al 23 (.pointer (some (Af ag 3))) (slV aJ)) aL (λaM=>R (.int .i64 0) aM))))))))))))):
  XC Tp 101 #[.pointer d0,.slice aN.a aN.len aN.cap,.agg #[.int .i64 b,.string c,.slice d.a d.len d.cap,.slice e.a e.len e.cap]] h R:=
 XF ⟨[(14,7),(16,6000)],[],[]⟩ [.tmp 6] 83 Tryz.func101 H
theorem zi4(d0:Option Addr)(O:Sl)(h:zb)(R:Value->zb->Prop)
  (H:∃b,d0=some b/\∃(c:Option Addr->Int->zb->Prop) (d:Option Addr->Int->zb->Nat),c (some (Af b 0)) 0 h/\∀e:Option Addr,∀f:Int,∀g:zb,c e f g->((decide (f<O.len)=true->∃i,(O.a=some i/\0<=f/\f<O.len)/\∃j,zm g (i.add (f.toNat*1))=some (.string j)/\∃k,e=some k/\∃l m n o,ze g k 0 [.int .i64 l,.string m,slV n,slV o]/\XC Tp 134 #[.agg #[.int .i64 l,.string m,slV n,slV o],.string j] g (λp q=>∃r,p=.int .i64 r/\(decide (r<0)=true->R (.pointer none) q)/\(decide (r<0)=false->∃s,e=some s/\∃t,zm q (Af s 3)=some (slV t)/\∃u,(t.a=some u/\0<=r/\r<t.len)/\(c (some (u.add (r.toNat*4))) (Aa .i64 (f+1)) q/\d (some (u.add (r.toNat*4))) (Aa .i64 (f+1)) q<d e f g))))/\(decide (f<O.len)=false->R (.pointer e) g))):
  XC Tp 102 #[.pointer d0,.slice O.a O.len O.cap] h R:=
 XF ⟨[],[(3,[(5,.one (.ptr)),(14,.one (.int .i64))])],[]⟩ [.tmp 4] 33 Tryz.func102 H
theorem zci(d0:Option Addr)(O:Sl)(h:zb)(R:Value->zb->Prop)
  (H:(((O.len:Int)==0)=true->R (.int .i64 1) h)/\(((O.len:Int)==0)=false->∃b,(O.a=some b/\0<=(Aa .i64 ((O.len:Int)-1))/\(Aa .i64 ((O.len:Int)-1))<(O.len:Int))/\∃c,zm h (b.add ((Aa .i64 ((O.len:Int)-1)).toNat*1))=some (.string c)/\((none:Option Value)=none\/∃v,(some (.int .i64 (Aa .i64 ((O.len:Int)-1))):Option Value)=some v)/\(0<=(0:Int)/\(0:Int)<=(Aa .i64 ((O.len:Int)-1))/\(Aa .i64 ((O.len:Int)-1))<=(O.cap:Int)/\(O.cap:Int)<=(O.cap:Int))/\XC Tp 102 #[.pointer d0,.slice (Qv O.a 1 ((0:Int).toNat) ((O.cap:Int).toNat)) ((Aa .i64 ((O.len:Int)-1)).toNat-(0:Int).toNat) ((O.cap:Int).toNat-(0:Int).toNat)] h (λd e=>∃f:Option Addr,d=.pointer f/\∃g,f=some g/\∃i j k l,ze e g 0 [.int .i64 i,.string j,slV k,slV l]/\XC Tp 134 #[.agg #[.int .i64 i,.string j,slV k,slV l],.string c] e (λm n=>∃o,m=.int .i64 o/\∃p,f=some p/\∃q,zm n (Af p 3)=some (slV q)/\XC Tp 135 #[slV q,.int .i64 o,.int .i64 (Aa .i64 (o+1))] n (λr s=>∃t,r=slV t/\∃u,f=some u/\XRunU Tp (Al 23 (.pointer (some (Af u 3))) (slV t)) s (λw=>∃x,f=some x/\∃y,zm w (Af x 0)=some (.int .i64 y)/\((y==6)=true->∃z,f=some z/\∃A,zm w (Af z 2)=some (slV A)/\XC Tp 136 #[slV A,.int .i64 o,.int .i64 (Aa .i64 (o+1))] w (λB C=>∃D,B=slV D/\∃E,f=some E/\XRunU Tp (Al 22 (.pointer (some (Af E 2))) (slV D)) C (λF=>R (.int .i64 0) F)))/\((y==6)=false->R (.int .i64 0) w))))))):
  XC Tp 103 #[.pointer d0,.slice O.a O.len O.cap] h R:=
 XF ⟨[],[],[]⟩ [.tmp 4] 56 Tryz.func103 H
theorem zi5(v0:Option Addr)(O:Bt)(b:Int)(c:Bt)(d:Sl)(e:Sl)(h:zb)(R:Value->zb->Prop)
  (H:let f:=h.push (.cells #[.int .i64 b,.string c,slV d,slV e] 25);XC Tp 145 #[.string O] f (λg i=>∃j k,g=.tuple #[.int .i64 j,.bool k]/\∀l:Int->zb->Prop,(∀m:Int,∀n:zb,(∃o,v0=some o/\∃p,zm n (Af o 3)=some (slV p)/\∃q r s t,ze n ⟨h.size,0,none⟩ 0 [.int .i64 q,.string r,slV s,slV t]/\∃u,v0=some u/\let v:=n.push (.cells #[.int .i64 q,.string r,slV s,slV t] 25);Keep n.size n v/\XC Tp 164 #[slV p,.int .i64 m,.slice (some ⟨n.size,0,none⟩) 1 1] v (λw x=>∃y,w=slV y/\XRunU Tp (Al 23 (.pointer (some (Af u 3))) (slV y)) x (λz=>R (.int .i64 0) z)))->l m n)->((O.toList==(⟨#[45]⟩:Bt).toList)=true->∃A,v0=some A/\∃B,zm i (Af A 3)=some (slV B)/\l (B.len:Int) i)/\((O.toList==(⟨#[45]⟩:Bt).toList)=false->∃C,((!(!k))=true->v0=some C)/\∃D,((!(!k))=true->zm i (Af C 3)=some (slV D))/\((bif (!k)then true else(decide (j>D.len)))=true->R (.int .i64 8) i)/\((bif (!k)then true else(decide (j>D.len)))=false->l j i)))):
  XC Tp 133 #[.pointer v0,.string O,.agg #[.int .i64 b,.string c,.slice d.a d.len d.cap,.slice e.a e.len e.cap]] h R:=
 XF ⟨[(6,5000)],[],[(6,[(7,.one (.int .i64))])]⟩ [.tmp 6] 45 Tryz.func133 H
theorem xu(s0:Sl)(i1:Int)(j2:Int)(h:zb)(R:Value->zb->Prop)
  (H:((some (.int .i64 (s0.len:Int)):Option Value)=none\/∃v,(some (.int .i64 j2):Option Value)=some v)/\(0<=i1/\i1<=j2/\j2<=s0.len/\(s0.len:Int)<=(s0.cap:Int))/\((i1==j2)=true->R (slV s0) h)/\((i1==j2)=false->((none:Option Value)=none\/∃v,(some (.int .i64 i1):Option Value)=some v)/\(0<=(0:Int)/\(0:Int)<=i1/\i1<=s0.cap/\(s0.cap:Int)<=(s0.cap:Int))/\((none:Option Value)=none\/∃v,(none:Option Value)=some v)/\(0<=j2/\j2<=s0.len/\(s0.len:Int)<=(s0.cap:Int)/\(s0.cap:Int)<=(s0.cap:Int))/\XRun Tp (Au #[23,23] 23 #[.slice (Qv s0.a 4 ((0:Int).toNat) ((s0.cap:Int).toNat)) (i1.toNat-(0:Int).toNat) ((s0.cap:Int).toNat-(0:Int).toNat),.slice (Qv s0.a 4 j2.toNat ((s0.cap:Int).toNat)) ((s0.len:Int).toNat-j2.toNat) ((s0.cap:Int).toNat-j2.toNat)]) h (λb c=>∃d,b=slV d/\((none:Option Value)=none\/∃v,(some (.int .i64 (s0.len:Int)):Option Value)=some v)/\(0<=(d.len:Int)/\(d.len:Int)<=(s0.len:Int)/\(s0.len:Int)<=(d.cap:Int)/\(d.cap:Int)<=(d.cap:Int))/\XRun Tp (DN #[23] 0 #[.slice (Qv d.a 4 ((d.len:Int).toNat) ((d.cap:Int).toNat)) ((s0.len:Int).toNat-(d.len:Int).toNat) ((d.cap:Int).toNat-(d.len:Int).toNat)]) c (λe f=>e=.tuple #[]/\R (slV d) f)))):
  XC Tp 135 #[.slice s0.a s0.len s0.cap,.int .i64 i1,.int .i64 j2] h R:=
 XF ⟨[(5,6)],[],[]⟩ [.tmp 6] 33 Tryz.func135 H
theorem Qj(s0:Sl)(i1:Int)(j2:Int)(h:zb)(R:Value->zb->Prop)
  (H:((some (.int .i64 (s0.len:Int)):Option Value)=none\/∃v,(some (.int .i64 j2):Option Value)=some v)/\(0<=i1/\i1<=j2/\j2<=s0.len/\(s0.len:Int)<=(s0.cap:Int))/\((i1==j2)=true->R (slV s0) h)/\((i1==j2)=false->((none:Option Value)=none\/∃v,(some (.int .i64 i1):Option Value)=some v)/\(0<=(0:Int)/\(0:Int)<=i1/\i1<=s0.cap/\(s0.cap:Int)<=(s0.cap:Int))/\((none:Option Value)=none\/∃v,(none:Option Value)=some v)/\(0<=j2/\j2<=s0.len/\(s0.len:Int)<=(s0.cap:Int)/\(s0.cap:Int)<=(s0.cap:Int))/\XRun Tp (Au #[22,22] 22 #[.slice (Qv s0.a 1 ((0:Int).toNat) ((s0.cap:Int).toNat)) (i1.toNat-(0:Int).toNat) ((s0.cap:Int).toNat-(0:Int).toNat),.slice (Qv s0.a 1 j2.toNat ((s0.cap:Int).toNat)) ((s0.len:Int).toNat-j2.toNat) ((s0.cap:Int).toNat-j2.toNat)]) h (λb c=>∃d,b=slV d/\((none:Option Value)=none\/∃v,(some (.int .i64 (s0.len:Int)):Option Value)=some v)/\(0<=(d.len:Int)/\(d.len:Int)<=(s0.len:Int)/\(s0.len:Int)<=(d.cap:Int)/\(d.cap:Int)<=(d.cap:Int))/\XRun Tp (DN #[22] 0 #[.slice (Qv d.a 1 ((d.len:Int).toNat) ((d.cap:Int).toNat)) ((s0.len:Int).toNat-(d.len:Int).toNat) ((d.cap:Int).toNat-(d.len:Int).toNat)]) c (λe f=>e=.tuple #[]/\R (slV d) f)))):
  XC Tp 136 #[.slice s0.a s0.len s0.cap,.int .i64 i1,.int .i64 j2] h R:=
 XF ⟨[(5,6)],[],[]⟩ [.tmp 6] 33 Tryz.func136 H
theorem xw(s0:Sl)(i1:Int)(v2:Sl)(h:zb)(R:Value->zb->Prop)
  (H:((none:Option Value)=none\/∃v,(none:Option Value)=some v)/\(0<=i1/\i1<=s0.len/\(s0.len:Int)<=(s0.cap:Int)/\(s0.cap:Int)<=(s0.cap:Int))/\(((v2.len:Int)==0)=true->R (.slice s0.a s0.len s0.cap) h)/\(((v2.len:Int)==0)=false->((i1==s0.len)=true->XRun Tp (Au #[23,23] 23 #[.slice s0.a s0.len s0.cap,.slice v2.a v2.len v2.cap]) h (λb c=>∃d:Sl,b=.slice d.a d.len d.cap/\R (.slice d.a d.len d.cap) c))/\((i1==s0.len)=false->((decide ((Aa .i64 ((s0.len:Int)+(v2.len:Int)))>(s0.cap:Int)))=true->((none:Option Value)=none\/∃v,(some (.int .i64 i1):Option Value)=some v)/\(0<=(0:Int)/\(0:Int)<=i1/\i1<=s0.cap/\(s0.cap:Int)<=(s0.cap:Int))/\XRun Tp (Au #[23,3] 23 #[.slice (Qv s0.a 4 ((0:Int).toNat) ((s0.cap:Int).toNat)) (i1.toNat-(0:Int).toNat) ((s0.cap:Int).toNat-(0:Int).toNat),.int .i64 (Aa .i64 ((Aa .i64 ((s0.len:Int)+(v2.len:Int)))-i1))]) h (λe f=>∃g:Sl,e=.slice g.a g.len g.cap/\((none:Option Value)=none\/∃v,(none:Option Value)=some v)/\(0<=i1/\i1<=g.len/\(g.len:Int)<=(g.cap:Int)/\(g.cap:Int)<=(g.cap:Int))/\XRun Tp (Dc #[23,23] 3 #[.slice (Qv g.a 4 i1.toNat ((g.cap:Int).toNat)) ((g.len:Int).toNat-i1.toNat) ((g.cap:Int).toNat-i1.toNat),.slice v2.a v2.len v2.cap]) f (λi j=>∃k,i=.int .i64 k/\((none:Option Value)=none\/∃v,(none:Option Value)=some v)/\(0<=(Aa .i64 (i1+(v2.len:Int)))/\(Aa .i64 (i1+(v2.len:Int)))<=(g.len:Int)/\(g.len:Int)<=(g.cap:Int)/\(g.cap:Int)<=(g.cap:Int))/\((none:Option Value)=none\/∃v,(none:Option Value)=some v)/\(0<=i1/\i1<=s0.len/\(s0.len:Int)<=(s0.cap:Int)/\(s0.cap:Int)<=(s0.cap:Int))/\XRun Tp (Dc #[23,23] 3 #[.slice (Qv g.a 4 ((Aa .i64 (i1+(v2.len:Int))).toNat) ((g.cap:Int).toNat)) ((g.len:Int).toNat-(Aa .i64 (i1+(v2.len:Int))).toNat) ((g.cap:Int).toNat-(Aa .i64 (i1+(v2.len:Int))).toNat),.slice (Qv s0.a 4 i1.toNat ((s0.cap:Int).toNat)) ((s0.len:Int).toNat-i1.toNat) ((s0.cap:Int).toNat-i1.toNat)]) j (λl m=>∃n,l=.int .i64 n/\R (.slice g.a g.len g.cap) m))))/\((decide ((Aa .i64 ((s0.len:Int)+(v2.len:Int)))>(s0.cap:Int)))=false->((none:Option Value)=none\/∃v,(some (.int .i64 (Aa .i64 ((s0.len:Int)+(v2.len:Int)))):Option Value)=some v)/\(0<=(0:Int)/\(0:Int)<=(Aa .i64 ((s0.len:Int)+(v2.len:Int)))/\(Aa .i64 ((s0.len:Int)+(v2.len:Int)))<=(s0.cap:Int)/\(s0.cap:Int)<=(s0.cap:Int))/\((none:Option Value)=none\/∃v,(none:Option Value)=some v)/\(0<=(Aa .i64 (i1+(v2.len:Int)))/\(Aa .i64 (i1+(v2.len:Int)))<=((Aa .i64 ((s0.len:Int)+(v2.len:Int))).toNat-(0:Int).toNat:Int)/\(((Aa .i64 ((s0.len:Int)+(v2.len:Int))).toNat-(0:Int).toNat:Int):Int)<=((s0.cap:Int).toNat-(0:Int).toNat:Int)/\((s0.cap:Int).toNat-(0:Int).toNat:Int)<=((s0.cap:Int).toNat-(0:Int).toNat:Int))/\qba Tp 196 #[.slice v2.a v2.len v2.cap,.slice (Qv (Qv s0.a 4 ((0:Int).toNat) ((s0.cap:Int).toNat)) 4 ((Aa .i64 (i1+(v2.len:Int))).toNat) (((s0.cap:Int).toNat-(0:Int).toNat:Int).toNat)) ((((Aa .i64 ((s0.len:Int)+(v2.len:Int))).toNat-(0:Int).toNat:Int):Int).toNat-(Aa .i64 (i1+(v2.len:Int))).toNat) (((s0.cap:Int).toNat-(0:Int).toNat:Int).toNat-(Aa .i64 (i1+(v2.len:Int))).toNat)] h (λo p=>∃q,o=.bool q/\((!q)=true->((none:Option Value)=none\/∃v,(none:Option Value)=some v)/\(0<=(Aa .i64 (i1+(v2.len:Int)))/\(Aa .i64 (i1+(v2.len:Int)))<=((Aa .i64 ((s0.len:Int)+(v2.len:Int))).toNat-(0:Int).toNat:Int)/\(((Aa .i64 ((s0.len:Int)+(v2.len:Int))).toNat-(0:Int).toNat:Int):Int)<=((s0.cap:Int).toNat-(0:Int).toNat:Int)/\((s0.cap:Int).toNat-(0:Int).toNat:Int)<=((s0.cap:Int).toNat-(0:Int).toNat:Int))/\((none:Option Value)=none\/∃v,(none:Option Value)=some v)/\(0<=i1/\i1<=((Aa .i64 ((s0.len:Int)+(v2.len:Int))).toNat-(0:Int).toNat:Int)/\(((Aa .i64 ((s0.len:Int)+(v2.len:Int))).toNat-(0:Int).toNat:Int):Int)<=((s0.cap:Int).toNat-(0:Int).toNat:Int)/\((s0.cap:Int).toNat-(0:Int).toNat:Int)<=((s0.cap:Int).toNat-(0:Int).toNat:Int))/\XRun Tp (Dc #[23,23] 3 #[.slice (Qv (Qv s0.a 4 ((0:Int).toNat) ((s0.cap:Int).toNat)) 4 ((Aa .i64 (i1+(v2.len:Int))).toNat) (((s0.cap:Int).toNat-(0:Int).toNat:Int).toNat)) ((((Aa .i64 ((s0.len:Int)+(v2.len:Int))).toNat-(0:Int).toNat:Int):Int).toNat-(Aa .i64 (i1+(v2.len:Int))).toNat) (((s0.cap:Int).toNat-(0:Int).toNat:Int).toNat-(Aa .i64 (i1+(v2.len:Int))).toNat),.slice (Qv (Qv s0.a 4 ((0:Int).toNat) ((s0.cap:Int).toNat)) 4 i1.toNat (((s0.cap:Int).toNat-(0:Int).toNat:Int).toNat)) ((((Aa .i64 ((s0.len:Int)+(v2.len:Int))).toNat-(0:Int).toNat:Int):Int).toNat-i1.toNat) (((s0.cap:Int).toNat-(0:Int).toNat:Int).toNat-i1.toNat)]) p (λr s=>∃t,r=.int .i64 t/\((none:Option Value)=none\/∃v,(none:Option Value)=some v)/\(0<=i1/\i1<=((Aa .i64 ((s0.len:Int)+(v2.len:Int))).toNat-(0:Int).toNat:Int)/\(((Aa .i64 ((s0.len:Int)+(v2.len:Int))).toNat-(0:Int).toNat:Int):Int)<=((s0.cap:Int).toNat-(0:Int).toNat:Int)/\((s0.cap:Int).toNat-(0:Int).toNat:Int)<=((s0.cap:Int).toNat-(0:Int).toNat:Int))/\XRun Tp (Dc #[23,23] 3 #[.slice (Qv (Qv s0.a 4 ((0:Int).toNat) ((s0.cap:Int).toNat)) 4 i1.toNat (((s0.cap:Int).toNat-(0:Int).toNat:Int).toNat)) ((((Aa .i64 ((s0.len:Int)+(v2.len:Int))).toNat-(0:Int).toNat:Int):Int).toNat-i1.toNat) (((s0.cap:Int).toNat-(0:Int).toNat:Int).toNat-i1.toNat),.slice v2.a v2.len v2.cap]) s (λu w=>∃x,u=.int .i64 x/\R (.slice (Qv s0.a 4 ((0:Int).toNat) ((s0.cap:Int).toNat)) ((Aa .i64 ((s0.len:Int)+(v2.len:Int))).toNat-(0:Int).toNat) ((s0.cap:Int).toNat-(0:Int).toNat)) w)))/\((!q)=false->((none:Option Value)=none\/∃v,(none:Option Value)=some v)/\(0<=(s0.len:Int)/\(s0.len:Int)<=((Aa .i64 ((s0.len:Int)+(v2.len:Int))).toNat-(0:Int).toNat:Int)/\(((Aa .i64 ((s0.len:Int)+(v2.len:Int))).toNat-(0:Int).toNat:Int):Int)<=((s0.cap:Int).toNat-(0:Int).toNat:Int)/\((s0.cap:Int).toNat-(0:Int).toNat:Int)<=((s0.cap:Int).toNat-(0:Int).toNat:Int))/\XRun Tp (Dc #[23,23] 3 #[.slice (Qv (Qv s0.a 4 ((0:Int).toNat) ((s0.cap:Int).toNat)) 4 ((s0.len:Int).toNat) (((s0.cap:Int).toNat-(0:Int).toNat:Int).toNat)) ((((Aa .i64 ((s0.len:Int)+(v2.len:Int))).toNat-(0:Int).toNat:Int):Int).toNat-(s0.len:Int).toNat) (((s0.cap:Int).toNat-(0:Int).toNat:Int).toNat-(s0.len:Int).toNat),.slice v2.a v2.len v2.cap]) p (λy z=>∃A,y=.int .i64 A/\((none:Option Value)=none\/∃v,(none:Option Value)=some v)/\(0<=i1/\i1<=((Aa .i64 ((s0.len:Int)+(v2.len:Int))).toNat-(0:Int).toNat:Int)/\(((Aa .i64 ((s0.len:Int)+(v2.len:Int))).toNat-(0:Int).toNat:Int):Int)<=((s0.cap:Int).toNat-(0:Int).toNat:Int)/\((s0.cap:Int).toNat-(0:Int).toNat:Int)<=((s0.cap:Int).toNat-(0:Int).toNat:Int))/\XC Tp 197 #[.slice (Qv (Qv s0.a 4 ((0:Int).toNat) ((s0.cap:Int).toNat)) 4 i1.toNat (((s0.cap:Int).toNat-(0:Int).toNat:Int).toNat)) ((((Aa .i64 ((s0.len:Int)+(v2.len:Int))).toNat-(0:Int).toNat:Int):Int).toNat-i1.toNat) (((s0.cap:Int).toNat-(0:Int).toNat:Int).toNat-i1.toNat),.int .i64 (v2.len:Int)] z (λB C=>B=.tuple #[]/\R (.slice (Qv s0.a 4 ((0:Int).toNat) ((s0.cap:Int).toNat)) ((Aa .i64 ((s0.len:Int)+(v2.len:Int))).toNat-(0:Int).toNat) ((s0.cap:Int).toNat-(0:Int).toNat)) C)))))))):
  XC Tp 164 #[.slice s0.a s0.len s0.cap,.int .i64 i1,.slice v2.a v2.len v2.cap] h R:=
 XF ⟨[(11,8),(15,8)],[],[]⟩ [.tmp 6] 95 Tryz.func164 H
theorem znk(b:Int)(c:Bt)(d:Sl)(e:Sl)(f:Int)(g:Bt)(i:Sl)(j:Sl)(h:zb)(R:Value->zb->Prop)
  (H:let k:=h.push (.cells #[.int .i64 b,.string c,slV d,slV e] 25);let l:=k.push (.cells #[.int .i64 f,.string g,slV i,slV j] 25);∀m:Bool->zb->Prop,(∀n:Bool,∀o:zb,((n=true->R (.bool false) o)/\(n=false->∃p,zm o (Af ⟨h.size,0,none⟩ 0)=some (.int .i64 p)/\((p != 6)=true->∃q,zm o (Af ⟨h.size,0,none⟩ 3)=some (slV q)/\∃r,zm o (Af ⟨k.size,0,none⟩ 3)=some (slV r)/\XC Tp 165 #[slV q,slV r,.func (.func 137) #[] #[]] o (λs t=>∃u,s=.bool u/\R (.bool u) t))/\((p != 6)=false->∃v w x y,ze o ⟨h.size,0,none⟩ 0 [.int .i64 v,.string w,slV x,slV y]/\∃z A B C,ze o ⟨k.size,0,none⟩ 0 [.int .i64 z,.string A,slV B,slV C]/\XC Tp 125 #[.agg #[.int .i64 v,.string w,slV x,slV y]] o (λD E=>∃F:Option Nat,D=.map F/\Keep o.size o E/\XC Tp 125 #[.agg #[.int .i64 z,.string A,slV B,slV C]] E (λG I=>∃J:Option Nat,G=.map J/\XC Tp 166 #[.map F,.map J,.func (.func 137) #[] #[]] I (λL M=>∃N,L=.bool N/\R (.bool N) M))))))->m n o)->∃O,zm l (Af ⟨h.size,0,none⟩ 0)=some (.int .i64 O)/\∃P,zm l (Af ⟨k.size,0,none⟩ 0)=some (.int .i64 P)/\((O != P)=true->m (O != P) l)/\((O != P)=false->∃Q,zm l (Af ⟨h.size,0,none⟩ 1)=some (.string Q)/\∃S,zm l (Af ⟨k.size,0,none⟩ 1)=some (.string S)/\((!(Q.toList==S.toList))=true->m (!(Q.toList==S.toList)) l)/\((!(Q.toList==S.toList))=false->∃T,zm l (Af ⟨h.size,0,none⟩ 3)=some (slV T)/\∃U,zm l (Af ⟨k.size,0,none⟩ 3)=some (slV U)/\m ((T.len:Int) != (U.len:Int)) l))):
  XC Tp 137 #[.agg #[.int .i64 b,.string c,.slice d.a d.len d.cap,.slice e.a e.len e.cap],.agg #[.int .i64 f,.string g,.slice i.a i.len i.cap,.slice j.a j.len j.cap]] h R:=
 XF ⟨[(7,2000)],[],[(4,[(5,.one (.bool))])]⟩ [.tmp 4] 37 Tryz.func137 H
theorem zgm(b:Int)(c:Bt)(d:Sl)(e:Sl)(h:zb)(R:Value->zb->Prop)
  (H:let f:=h.push (.cells #[.int .i64 b,.string c,slV d,slV e] 25);∃g,zm f (Af ⟨h.size,0,none⟩ 2)=some (slV g)/\let i:=f.push (.map #[] 0);∃j,zm i (Af ⟨h.size,0,none⟩ 2)=some (slV j)/\∃(k:Int->zb->Prop) (l:Int->zb->Nat),k 0 i/\∀m:Int,∀n:zb,k m n->((decide (m<j.len)=true->∃o,(j.a=some o/\0<=m/\m<j.len)/\∃p,zm n (o.add (m.toNat*1))=some (.string p)/\∃q,zm n (Af ⟨h.size,0,none⟩ 3)=some (slV q)/\∃r,(q.a=some r/\0<=m/\m<q.len)/\∃s t u v,ze n (r.add (m.toNat*4)) 0 [.int .i64 s,.string t,slV u,slV v]/\XRunU Tp (CQ 137 (.map (some f.size)) (.string p) (.agg #[.int .i64 s,.string t,slV u,slV v])) n (λw=>(k (Aa .i64 (m+1)) w/\l (Aa .i64 (m+1)) w<l m n)))/\(decide (m<j.len)=false->R (.map (some f.size)) n))):
  XC Tp 125 #[.agg #[.int .i64 b,.string c,.slice d.a d.len d.cap,.slice e.a e.len e.cap]] h R:=
 XF ⟨[],[(3,[(13,.one (.int .i64))])],[]⟩ [.tmp 2] 27 Tryz.func125 H
theorem yn(O:Sl)(Z:Sl)(aa:FuncId)(ac:Array Value)(ae:Array Value)(h:zb)(R:Value->zb->Prop)
  (H:(((O.len:Int) != (Z.len:Int))=true->R (.bool false) h)/\(((O.len:Int) != (Z.len:Int))=false->∃(b:Int->zb->Prop) (c:Int->zb->Nat),b 0 h/\∀d:Int,∀e:zb,b d e->((decide (d<O.len)=true->∃f,(O.a=some f/\0<=d/\d<O.len)/\∃g i j k,ze e (f.add (d.toNat*4)) 0 [.int .i64 g,.string i,slV j,slV k]/\let l:=e.push (.cells #[.int .i64 0,.string (⟨#[]⟩:Bt),.slice none 0 0,.slice none 0 0] 25);XRunU Tp (Al 25 (.pointer (some ⟨e.size,0,none⟩)) (.agg #[.int .i64 g,.string i,slV j,slV k])) l (λm=>∃n,(Z.a=some n/\0<=d/\d<Z.len)/\∃o p q r,ze m (n.add (d.toNat*4)) 0 [.int .i64 o,.string p,slV q,slV r]/\let s:=m.push (.cells #[.int .i64 0,.string (⟨#[]⟩:Bt),.slice none 0 0,.slice none 0 0] 25);XRunU Tp (Al 25 (.pointer (some ⟨m.size,0,none⟩)) (.agg #[.int .i64 o,.string p,slV q,slV r])) s (λt=>∃u v w x,ze t ⟨e.size,0,none⟩ 0 [.int .i64 u,.string v,slV w,slV x]/\∃y z A B,ze t ⟨m.size,0,none⟩ 0 [.int .i64 y,.string z,slV A,slV B]/\ya Tp aa=true/\XC Tp aa (ac++#[.agg #[.int .i64 u,.string v,slV w,slV x],.agg #[.int .i64 y,.string z,slV A,slV B]]++ae) t (λC D=>∃E,C=.bool E/\((!E)=true->R (.bool false) D)/\((!E)=false->(b (Aa .i64 (d+1)) D/\c (Aa .i64 (d+1)) D<c d e))))))/\(decide (d<O.len)=false->R (.bool true) e)))):
  XC Tp 165 #[.slice O.a O.len O.cap,.slice Z.a Z.len Z.cap,.func (.func aa) ac ae] h R:=
 XF ⟨[],[(4,[(17,.one (.int .i64))])],[]⟩ [.tmp 6] 32 Tryz.func165 H
theorem zkc(b:Int)(c:Bt)(d:Sl)(e:Sl)(h:zb)(R:Value->zb->Prop)
  (H:let f:=h.push (.cells #[.int .i64 b,.string c,slV d,slV e] 25);∃g i j k,ze f ⟨h.size,0,none⟩ 0 [.int .i64 g,.string i,slV j,slV k]/\XC Tp 44 #[.agg #[.int .i64 g,.string i,slV j,slV k]] f (λl m=>∃n,l=.bool n/\∃o p q r,(n=true->ze m ⟨h.size,0,none⟩ 0 [.int .i64 o,.string p,slV q,slV r])/\∃s:Value->zb->Prop,(n=true->XC Tp 45 #[.agg #[.int .i64 o,.string p,slV q,slV r],.func (.func 46) #[] #[]] m (λt u=>∃v,t=.bool v/\s (.bool v) u))/\(n=false->∃w,s (.bool w) m)/\(n=true->∀x y,s x y->∃z,x=.bool z)/\∀A:Bool,∀B,s (.bool A) B->R (.bool (bif n then A else false)) B)):
  XC Tp 21 #[.agg #[.int .i64 b,.string c,.slice d.a d.len d.cap,.slice e.a e.len e.cap]] h R:=
 XF ⟨[],[],[]⟩ [.tmp 2] 9 Tryz.func21 H
theorem qc(aH:Option Nat)(aG:Option Nat)(aD:FuncId)(aF:Array Value)(aE:Array Value)(h:zb)(R:Value->zb->Prop)
  (H:∃b,QExec Tp (CE #[137] 3 #[.map aH]) h (.int .i64 b)/\∃c,QExec Tp (CE #[137] 3 #[.map aG]) h (.int .i64 c)/\((b != c)=true->R (.bool false) h)/\((b != c)=false->XRun Tp (Eu 137 (.map aH)) h (λd e=>∃f:Option Addr,d=.pointer f/\∃(g:zb->Prop) (i:zb->Nat),g e/\∀j:zb,g j->(XRun Tp (Ey (.pointer f) false 0) j (λk l=>(k=.tuple #[.bool false]/\(false=true->XRun Tp (Instr.entry (.pointer f)) l (λm n=>∃o p:Value,m=.tuple #[o,p]/\let q:=n.push (.cells #[.int .i64 0,.string (⟨#[]⟩:Bt),.slice none 0 0,.slice none 0 0] 25);XRunU Tp (Al 25 (.pointer (some ⟨n.size,0,none⟩)) p) q (λr=>∃s t u v w,QExec Tp (D9 137 (.map aG) o true) r (.tuple #[.agg #[.int .i64 s,.string t,slV u,slV v],.bool w])/\let x:=r.push (.cells #[.int .i64 0,.string (⟨#[]⟩:Bt),.slice none 0 0,.slice none 0 0] 25);XRunU Tp (Al 25 (.pointer (some ⟨r.size,0,none⟩)) (.agg #[.int .i64 s,.string t,slV u,slV v])) x (λy=>∃z A B C,((!(!w))=true->ze y ⟨n.size,0,none⟩ 0 [.int .i64 z,.string A,slV B,slV C])/\∃D E F G,((!(!w))=true->ze y ⟨r.size,0,none⟩ 0 [.int .i64 D,.string E,slV F,slV G])/\∃I:Value->zb->Prop,((!(!w))=true->ya Tp aD=true/\XC Tp aD (aF++#[.agg #[.int .i64 z,.string A,slV B,slV C],.agg #[.int .i64 D,.string E,slV F,slV G]]++aE) y (λJ L=>∃M,J=.bool M/\I (.bool M) L))/\((!(!w))=false->∃N,I (.bool N) y)/\((!(!w))=true->∀O P,I O P->∃Q,O=.bool Q)/\∀S:Bool,∀T,I (.bool S) T->((bif (!w)then true else(!S))=true->R (.bool false) T)/\((bif (!w)then true else(!S))=false->(g T/\i T<i j))))))/\(false=false->R (.bool true) l))\/∃U V:Value,k=.tuple #[.bool true,U,V]/\(true=true->XRun Tp (Instr.entry (.pointer f)) l (λW X=>∃Y Z:Value,W=.tuple #[Y,Z]/\let aa:=X.push (.cells #[.int .i64 0,.string (⟨#[]⟩:Bt),.slice none 0 0,.slice none 0 0] 25);XRunU Tp (Al 25 (.pointer (some ⟨X.size,0,none⟩)) Z) aa (λab=>∃ac ad ae af ag,QExec Tp (D9 137 (.map aG) Y true) ab (.tuple #[.agg #[.int .i64 ac,.string ad,slV ae,slV af],.bool ag])/\let ah:=ab.push (.cells #[.int .i64 0,.string (⟨#[]⟩:Bt),.slice none 0 0,.slice none 0 0] 25);XRunU Tp (Al 25 (.pointer (some ⟨ab.size,0,none⟩)) (.agg #[.int .i64 ac,.string ad,slV ae,slV af])) ah (λai=>∃aj ak al am,((!(!ag))=true->ze ai ⟨X.size,0,none⟩ 0 [.int .i64 aj,.string ak,slV al,slV am])/\∃an ao ap aq,((!(!ag))=true->ze ai ⟨ab.size,0,none⟩ 0 [.int .i64 an,.string ao,slV ap,slV aq])/\∃ar:Value->zb->Prop,((!(!ag))=true->ya Tp aD=true/\XC Tp aD (aF++#[.agg #[.int .i64 aj,.string ak,slV al,slV am],.agg #[.int .i64 an,.string ao,slV ap,slV aq]]++aE) ai (λau av=>∃aw,au=.bool aw/\ar (.bool aw) av))/\((!(!ag))=false->∃ax,ar (.bool ax) ai)/\((!(!ag))=true->∀ay az,ar ay az->∃aA,ay=.bool aA)/\∀aB:Bool,∀aC,ar (.bool aB) aC->((bif (!ag)then true else(!aB))=true->R (.bool false) aC)/\((bif (!ag)then true else(!aB))=false->(g aC/\i aC<i j))))))/\(true=false->R (.bool true) l)))))):
  XC Tp 166 #[.map aH,.map aG,.func (.func aD) aF aE] h R:=
 XF ⟨[],[(4,[])],[]⟩ [.tmp 6] 38 Tryz.func166 H
theorem Qu(O:Sl)(Z:Sl)(h:zb)(R:Value->zb->Prop)
  (H:(((O.len:Int) != (Z.len:Int))=true->R (.bool false) h)/\(((O.len:Int) != (Z.len:Int))=false->∃(b:Int->zb->Prop) (c:Int->zb->Nat),b 0 h/\∀d:Int,∀e:zb,b d e->((decide (d<O.len)=true->∃f,(O.a=some f/\0<=d/\d<O.len)/\∃g,zm e (f.add (d.toNat*1))=some (.string g)/\∃i,(Z.a=some i/\0<=d/\d<Z.len)/\∃j,zm e (i.add (d.toNat*1))=some (.string j)/\((!(g.toList==j.toList))=true->R (.bool false) e)/\((!(g.toList==j.toList))=false->(b (Aa .i64 (d+1)) e/\c (Aa .i64 (d+1)) e<c d e)))/\(decide (d<O.len)=false->R (.bool true) e)))):
  XC Tp 104 #[.slice O.a O.len O.cap,.slice Z.a Z.len Z.cap] h R:=
 XF ⟨[],[(4,[(13,.one (.int .i64))])],[]⟩ [.tmp 4] 26 Tryz.func104 H
end
section
variable {gl M:Fr} {v:Tr} {h:zb} {D:List Nat} {rb:Nat}
theorem znl(hg:GL gl){s:Bt}(hs:(lb s).length<=1048576){R:Int->Prop}(h:R (qd v s)):PC Tp gl 134 [Arg.mk .tree v,Arg.mk .str s] [.int .i64] R:=by
 apply zkb
 unfold qd at h
 refine⟨λh6=>?_,λh6=>?_⟩
 ·have Z:v.kind=6:=by simpa using h6
  rw[if_pos Z]at h
  exact zaz h
 ·have Z:v.kind≠6:=by simpa using h6
  rw[if_neg Z]at h
  have hi:=zi1 hg (l:=lb s) hs (R:=λr=>r=Ql (lb s)) rfl
  rw[zaq]at hi
  refine hi.mono λr hr=>?_
  subst hr
  refine⟨λhx=>?_,λhx=>?_⟩
  ·have O:((Ql (lb s)).2=true/\v.kind=5)/\(Ql (lb s)).1<v.items.length:=by simpa using hx
   rw[if_pos O.1.2,if_pos ⟨O.1.1,O.2⟩]at h;exact h
  ·by_cases h5:v.kind=5
   ·rw[if_pos h5,if_neg (λhc=>by simp[hc.1,h5,hc.2]at hx)]at h;exact h
   ·rw[if_neg h5]at h;exact h
theorem Y7(ag:AgM M h)(bs:List Nat):Fr.le M (MxL M h bs):=by
 intro b c e
 unfold MxL
 split
 ·obtain⟨T,m,e'⟩:=ag b c e
  rw[e']
 ·exact e
theorem Plc.ld{p:Addr}{x:Tr}{T:Tr->Tr}(H:Plc h D rb p x T):∃(sk si:Sl) (bx:List Nat),ze h p 0 (zf x sk si)/\OT h x bx (zf x sk si)/\(∀c∈bx,c∈D)/\p.spot=none/\(p.block=rb\/p.block∈D)/\p.block∉bx:=by
 obtain⟨b,o,cs,bx,rfl,hb,ho,ot,aa,O,Z,af,ae,ac⟩:=H
 obtain⟨sk,si,e⟩:=ot.cells
 have e':cut cs o 4=zf x sk si:=e
 rw[e']at ot
 exact⟨sk,si,bx,zj7 hb (vs:=zf x sk si) (o:=o) (i:=0) e',ot,Z,rfl,O,aa⟩
theorem Plc.keepK{h h':zb}{p:Addr}{x:Tr}{T:Tr->Tr}(H:Plc h D rb p x T)(Z:rb<h.size)(k:Keep h.size h h'):Plc h' D rb p x T:=by
 have hD:∀c∈D,c<h.size:=by
  obtain⟨b,o,cs,bx,_,_,_,_,_,_,_,_,O,_⟩:=H
  exact O
 exact H.keep (λc hc=>k.get c (by
  rcases hc with rfl|hc
  ·exact Z
  ·exact hD c hc)) k.size
set_option maxHeartbeats 1000000 in
theorem z7h(hg:GL gl)(hv:Sm v)(ho:Qk zw v=true){p:List Bt}(hp:SL p){u2:Value}(hM:Fr.le gl M)(ag:AgM M h)(hD:Doc h rb v D)(ar:RdV M (.row .str) p u2){K:Value->zb->Prop}
  (ax:qb v p=none->∀h',Keep h.size h h'->K (.pointer none) h')
  (aj:∀x,qb v p=some x->Sm x->Qk zw x=true->∀h' pa,Keep h.size h h'->Plc h' D rb pa x (λy=>Qh v p y)->K (.pointer (some pa)) h'):
  XC Tp 102 #[.pointer (some ⟨rb,0,none⟩),u2] h K:=by
 obtain⟨sp,rfl,rp⟩:=zdg ar
 obtain⟨ah,aF,aG⟩:=rowLen rp
 have aA:=hp.n
 have aE:=hD.lt rb (.inl rfl)
 apply zi4 (some ⟨rb,0,none⟩) sp
 refine⟨⟨rb,0,none⟩,rfl,λpl i g=>∃(k:Nat) (pa:Addr) (x:Tr) (T:Tr->Tr),i=(k:Int)/\k<=p.length/\pl=some pa/\Keep h.size h g/\Plc g D rb pa x T/\Sm x/\Qk zw x=true/\qb v p=qb x (p.drop k)/\(qb v p≠none->∀y,T (Qh x (p.drop k) y)=Qh v p y),λ_ i _=>p.length-i.toNat,⟨0,_,v,id,rfl,by omega,rfl,Keep.refl _ _,?_,hv,ho,by simp,λ_ y=>by simp⟩,?_⟩
 ·rw[zo];exact hD.plc
 rintro pl i g ⟨k,pa,x,T,rfl,hk,rfl,kg,plc,hx,ae,hf,hT⟩
 have zg:=kg.size
 refine⟨λhc=>?_,λhc=>?_⟩
 ·have O:k<p.length:=by rw[ah]at hc;simp at hc;omega
  have ac:p.drop k=p[k]::p.drop (k+1):=AC O
  rw[ac]at hf hT
  have agg:=ag.keep kg
  refine zbo agg rp O rfl rfl ?_
  obtain⟨sk,si,bx,an,ot,aB,_⟩:=Plc.ld plc
  refine⟨pa,rfl,x.kind,x.text,sk,si,an,?_⟩
  have ay:PC Tp gl 134 [Arg.mk .tree x,Arg.mk .str p[k]] [.int .i64] (λr=>r=qd x p[k]):=znl hg (hp.s _ (Ao O)) rfl
  refine ay.go (vs:=[.agg #[.int .i64 x.kind,.string x.text,slV sk,slV si],.string p[k]]) (hM.trans (Y7 agg bx)) (MxL.ag agg bx) (yo ot.rdv (yo (rdStr _) ww)) λw am aD r Z al hr=>?_
  have hr:r=qd x p[k]:=hr
  subst hr
  have aC:=Z.keep.size
  have ai:Keep h.size h am:=kg.trans Z.keep zg
  refine⟨qd x p[k],z9s al,λau=>?_,λak=>?_⟩
  ·refine ax ?_ am ai
   rw[hf,zah (by simpa using au)]
  ·rcases Y5 (qz ae) p[k]with e|⟨j,e,hj⟩
   ·rw[e]at ak;simp at ak
   ·have af:=Plc.keepK plc (by omega) Z.keep
    obtain⟨xi,aa,f1,f2,f3,f4⟩:=af.step hj
    rw[e]
    refine⟨pa,rfl,xi,f1,aa,⟨f2,by omega,by omega⟩,?_⟩
    rw[yz O (by omega),Ad]
    have hm:=Ao hj
    rw[xq e hj]at hf
    refine⟨⟨k+1,aa.add (j*4),x.items[j],_,rfl,by omega,rfl,ai,f4,hx.item hm,yx ae hm,hf,λaz y=>?_⟩,by simp only[Ad];omega⟩
    have:=hT az y
    rw[zgu e hj]at this
    exact this
 ·have O:k=p.length:=by rw[ah]at hc;simp at hc;omega
  subst O
  rw[BC,Zu]at hf
  refine aj x hf hx ae g pa kg ?_
  have ap:T=λy=>Qh v p y:=funext λy=>by
   have:=hT (by rw[hf];exact λh=>by cases h) y
   rw[BC]at this
   exact this
  rw[<-ap];exact plc
end
end Go.X
end
section
namespace Go.X
open Go Go.RowKit
section
variable {cs:Array Value} {o n b k:Nat} {h:zb} {P:Program} {t e ty:TypeId} {z:Value} {K:Value -> zb -> Prop}
theorem w9(h:o+n<=cs.size):(cut cs o n).length=n:=by unfold cut;simp;omega
theorem znm(H:Blk h b cs):Arr h.size h (some ⟨b,o,none⟩) (cut cs o n):=by
 refine .inr ⟨b,o,rfl,H.lt,λi v hv=>H.cell ?_⟩
 rw[zu]at hv
 split at hv
 ·rw[<-AN];exact hv
 ·cases hv
theorem zi6(H:Blk h b cs){vs:List Value}(hl:o+vs.length<=cs.size)(h1:∀u∈vs,u.oneCell'=true)(B:World)(d:Nat):
  ∃h',(storeCells ⟨b,o,none⟩ vs 0).run P (mk B d h)=.ok () (mk B d h')/\Blk h' b (upd cs o vs)/\h'.size=h.size/\∀j,j≠b->h'[j]?=h[j]?:=by
 obtain⟨T,e⟩:=H
 obtain⟨h',r1,r2,r3,r4⟩:=zou (P:=P) e hl h1 B d
 exact⟨h',r1,⟨T,r2⟩,r3,r4⟩
theorem z4l{sz bytes:Nat}(T:ElemT P t e z sz bytes){s:Sl}(ha:s.a=some ⟨b,0,none⟩)(hb:Blk h b cs)(hc:s.cap*sz<=cs.size)(hl:s.len<=s.cap)(h1:∀u∈cut cs 0 (s.len*sz),u.oneCell'=true)(hk:k<s.len)
  (hK:∀h':zb,Blk h' b (upd cs (k*sz) (cut cs ((k+1)*sz) ((s.len-(k+1))*sz)))->h'.size=h.size->(∀j,j≠b->h'[j]?=h[j]?)->K (.slice s.a (s.len-1) s.cap) h'):
  XRun P (Au #[t,t] ty #[.slice s.a k s.cap,.slice (Qv s.a sz (k+1) s.cap) (s.len-(k+1)) (s.cap-(k+1))]) h K:=by
 intro B d
 have m1:s.len*sz<=s.cap*sz:=AO _ hl
 have m2:(k+1)*sz+(s.len-(k+1))*sz=s.len*sz:=by rw[<-Bz];congr 1;omega
 have m3:(k+1)*sz=k*sz+sz:=Dp _ _
 have ac:(cut cs ((k+1)*sz) ((s.len-(k+1))*sz)).length=(s.len-(k+1))*sz:=w9 (by omega)
 have O:∀u∈cut cs ((k+1)*sz) ((s.len-(k+1))*sz),u.oneCell'=true:=λu hu=>h1 u (by
  unfold cut at hu ⊢
  rw[AQ,List.take_drop,m2]at *
  exact BQ hu)
 have aa:Arr h.size h (Qv s.a sz (k+1) s.cap) (cut cs ((k+1)*sz) ((s.len-(k+1))*sz)):=by
  unfold Qv
  by_cases Z:s.cap=k+1
  ·have h0:s.len-(k+1)=0:=by omega
   rw[h0,Da];exact .inl (by unfold cut;simp)
  ·rw[if_neg Z,ha]
   have:(Option.map (λx=>Af x ((k+1)*sz)) (some (⟨b,0,none⟩:Addr)))=some ⟨b,(k+1)*sz,none⟩:=by simp[zo]
   rw[this];exact znm hb
 have hS:=zc5 (P:=P) (s:=⟨Qv s.a sz (k+1) s.cap,s.len-(k+1),s.cap-(k+1)⟩) aa ac T.pos O T.slice B d
 obtain⟨h',r1,r2,r3,r4⟩:=zi6 (P:=P) hb (o:=k*sz) (vs:=cut cs ((k+1)*sz) ((s.len-(k+1))*sz)) (by rw[ac];omega) O B d
 have hr:=x8 (P:=P) (ty:=ty) T (s:=⟨s.a,k,s.cap⟩) (h':=h') hS (by simp only;omega) (λp hp=>by
  simp only at hp ⊢
  rw[ha]at hp
  cases hp
  rw[zo,AD];exact r1) (λhn=>by simp only at hn;rw[ha]at hn;cases hn)
 refine⟨_,d,h',hr,?_⟩
 have:=hK h' r2 r3 r4
 rw[show k+(s.len-(k+1))=s.len-1 by omega]
 exact this
theorem zp3{sz n k:Nat}(hn:n*sz<=cs.size)(hk:k<n){c2:Array Value}(h2:∀q,q<(n-1)*sz->c2.toList[q]?=(upd cs (k*sz) (cut cs ((k+1)*sz) ((n-(k+1))*sz))).toList[q]?):
  cut c2 0 ((n-1)*sz)=(cut cs 0 (n*sz)).take (k*sz)++(cut cs 0 (n*sz)).drop ((k+1)*sz):=by
 have m2:(k+1)*sz+(n-(k+1))*sz=n*sz:=by rw[<-Bz];congr 1;omega
 have m3:(k+1)*sz=k*sz+sz:=Dp _ _
 have m4:(n-1)*sz=k*sz+(n-(k+1))*sz:=by rw[<-Bz];congr 1;omega
 have aa:(cut cs ((k+1)*sz) ((n-(k+1))*sz)).length=(n-(k+1))*sz:=w9 (by omega)
 have hu:k*sz+(cut cs ((k+1)*sz) ((n-(k+1))*sz)).length<=cs.size:=by rw[aa];omega
 have O:(cut cs 0 (n*sz)).length=n*sz:=w9 (by omega)
 apply Bb
 intro q
 rw[zu]
 split
 ·rename_i hq
  rw[AD,h2 q hq,jw hu,aa]
  split
  ·rename_i Z
   rw[BA (by rw[AL,O];omega),AF,if_pos Z,zu,if_pos (by omega),AD]
  ·rename_i Z
   rw[if_pos (by omega),Bl (by rw[AL,O];omega),AL,O,CU (by omega),AH,zu,zu,if_pos (by omega),if_pos (by omega)]
   congr 1;omega
 ·rename_i hq
  rw[Bu]
  rw[Av,AL,Bg,O];omega
theorem ztv{sz bytes:Nat}(T:ElemT P t e z sz bytes)(Z:∀v∈(Bq z.cells 1).toList,v.oneCell'=true)(O:(Bq z.cells 1).toList.length=1*sz){a:Option Addr}{n cap:Nat}(ha:a=some ⟨b,0,none⟩)(hb:Blk h b cs)(hc:cap*sz<=cs.size)(hn:n+1<=cap)
  (hK:∀(h':zb) (cs':Array Value),Blk h' b cs'->cs'.size=cs.size->(∀q,q<n*sz->cs'.toList[q]?=cs.toList[q]?)->h'.size=h.size->(∀j,j≠b->h'[j]?=h[j]?)->K (.tuple #[]) h'):
  XRun P (DN #[t] ty #[.slice (Qv a sz n cap) (n+1-n) (cap-n)]) h K:=by
 have e1:Qv a sz n cap=some ⟨b,n*sz,none⟩:=by
  unfold Qv
  rw[if_neg (by omega),ha];simp[zo]
 have e2:n+1-n=1:=by omega
 rw[e1,e2]
 obtain⟨X,hX⟩:=hb
 have m1:(n+1)*sz<=cap*sz:=AO _ hn
 have m2:(n+1)*sz=n*sz+sz:=Dp _ _
 refine zws T hX (n:=1) (by rw[Dk];omega) Z O (λh' q1 q2 q3=>?_) (by omega)
 have hl:n*sz+(Bq z.cells 1).toList.length<=cs.size:=by rw[O];omega
 refine hK h' (upd cs (n*sz) (Bq z.cells 1).toList) ⟨X,by rw[q1];unfold upd;rw[O]⟩ (y0 hl) (λq hq=>?_) q2 q3
 rw[jw hl,if_pos hq]
end
section
variable {P:Program} {t e ty:TypeId} {z:Value} {h:zb} {b m:Nat} {cs:Array Value} {K:Value -> zb -> Prop} {vs:List Value}
theorem znn{sz bytes:Nat}(T:ElemT P t e z sz bytes){b o aa af:Nat}(hb:Blk h b cs){b2 o2 Z ac:Nat}{O:Array Value}(ah:Blk h b2 O)(hm:m=Nat.min Z aa)(h2:o2+m*sz<=O.size)(ae:o+m*sz<=cs.size)(h1:∀u∈cut O o2 (m*sz),u.oneCell'=true)
  (hK:∀h':zb,Blk h' b (upd cs o (cut O o2 (m*sz)))->h'.size=h.size->(∀j,j≠b->h'[j]?=h[j]?)->K (.int .i64 (m:Int)) h'):
  XRun P (Dc #[t,t] ty #[.slice (some ⟨b,o,none⟩) aa af,.slice (some ⟨b2,o2,none⟩) Z ac]) h K:=by
 intro B d
 obtain⟨i,hi,hz,ai,aj⟩:=T.info
 have hl:(cut O o2 (m*sz)).length=m*sz:=w9 h2
 have hf:=run_firstCells_some (P:=P) (mk B d h) sz m ⟨b2,o2,none⟩ Z ac (cut O o2 (m*sz)) hl (λj u hu=>by
  rw[zo]
  rw[zu]at hu
  split at hu
  ·exact ah.cell (by rw[<-AN];exact hu)
  ·cases hu)
 obtain⟨h',r1,r2,r3,r4⟩:=zi6 (P:=P) hb (o:=o) (vs:=cut O o2 (m*sz)) (by rw[hl];exact ae) h1 B d
 refine⟨.int .i64 (m:Int),d,h',?_,hK h' r2 r3 r4⟩
 simp[Dc,run_underlying T.slice,Builtin.lenOf,sizeOf,typeInfo,hi,ai,<-hm,hf,r1,goInt]
structure RowO (h:zb) (s:Sl) (b:Nat) (cs:Array Value) (sz:Nat):Prop where
 le:s.len<=s.cap
 at_:(s.len=0/\s.cap=0)\/(s.a=some ⟨b,0,none⟩/\Blk h b cs/\s.cap*sz<=cs.size)
structure RowN (h h':zb) (s':Sl) (b b':Nat) (cs':Array Value) (sz n:Nat) (cells:List Value):Prop where
 a:s'.a=some ⟨b',0,none⟩
 len:s'.len=n
 cap:n<=s'.cap
 blk:Blk h' b' cs'
 size:s'.cap*sz<=cs'.size
 cut:cut cs' 0 (n*sz)=cells
 new:b'=b\/h.size<=b'
 grow:h.size<=h'.size
 old:∀j,j<h.size->j≠b'->h'[j]?=h[j]?
theorem z7i{n m:Nat}(hl:n+vs.length<=cs.size)(hm:m=n+vs.length):cut (upd cs n vs) 0 m=cut cs 0 n++vs:=by
 subst hm
 have O:(cut cs 0 n).length=n:=w9 (by omega)
 apply Bb
 intro q
 rw[zu]
 split
 ·rename_i hq
  rw[AD,jw hl]
  split
  ·rename_i h1
   rw[BA (by rw[O];exact h1),zu,if_pos h1,AD]
  ·rename_i h1
   rw[Bl (by rw[O];omega),O]
 ·rename_i hq
  rw[Bu]
  rw[Av,O];omega
theorem zno{sz bytes:Nat}(T:ElemT P t e z sz bytes){s:Sl}(H:RowO h s b cs sz){bv cv:Nat}(hv:Blk h bv vs.toArray)(Z:vs.length=sz)(h1:∀u∈vs,u.oneCell'=true)(hb:(s.len+1)*bytes<=140737488355328)(hm:s.len+1<=140737488355328)
  (hK:∀(s':Sl) (h':zb) (b':Nat) (cs':Array Value),RowN h h' s' b b' cs' sz (s.len+1) (cut cs 0 (s.len*sz)++vs)->K (.slice s'.a s'.len s'.cap) h'):
  XRun P (Au #[t,t] ty #[.slice s.a s.len s.cap,.slice (some ⟨bv,0,none⟩) 1 cv]) h K:=by
 intro B d
 have ac:Arr h.size h (some ⟨bv,0,none⟩) vs:=by
  have:=znm hv (o:=0) (n:=vs.length)
  rw[show cut vs.toArray 0 vs.length=vs by unfold cut;simp]at this
  exact this
 have hS:∀B d,Src P sz t (.slice (some ⟨bv,0,none⟩) 1 cv) 1 vs (mk B d h):=λB d=>zc5 (P:=P) (s:=⟨some ⟨bv,0,none⟩,1,cv⟩) ac (by simp[Z]) T.pos h1 T.slice B d
 have m0:(s.len+1)*sz=s.len*sz+sz:=Dp _ _
 by_cases hr:s.len+1<=s.cap
 ·rcases H.at_ with⟨_,h0⟩|⟨ha,aa,hc⟩
  ·omega
  have m1:(s.len+1)*sz<=s.cap*sz:=AO _ hr
  obtain⟨h',r1,r2,r3,r4⟩:=zi6 (P:=P) aa (o:=s.len*sz) (vs:=vs) (by rw[Z];omega) h1 B d
  have ae:=x8 (P:=P) (ty:=ty) T (s:=s) (h':=h') (hS B d) hr (λp hp=>by
   rw[ha]at hp
   cases hp
   rw[zo,AD];exact r1) (λhn=>by rw[ha]at hn;cases hn)
  refine⟨_,d,h',ae,hK ⟨s.a,s.len+1,s.cap⟩ h' b _ ⟨ha,rfl,hr,r2,by rw[y0 (by rw[Z];omega)];exact hc,z7i (by rw[Z];omega) (by rw[Z];exact m0),.inl rfl,by omega,λj hj af=>r4 j af⟩⟩
 ·have O:Arr h.size h s.a (cut cs 0 (s.len*sz))/\(cut cs 0 (s.len*sz)).length=s.len*sz:=by
   rcases H.at_ with⟨h0,_⟩|⟨ha,aa,hc⟩
   ·rw[h0,Da];exact⟨.inl (by unfold cut;simp),by unfold cut;simp⟩
   ·have m1:s.len*sz<=s.cap*sz:=AO _ H.le
    rw[ha];exact⟨znm aa,w9 (by omega)⟩
  obtain⟨c,blk,q1,q2,q3,q4,q5⟩:=Yf (P:=P) (ty:=ty) (base:=0) T O.2 (λB d=>Zr O.1 O.2 T.pos B d) hS hb hm (BP _) (by omega) B d
  refine⟨_,d+1,_,q1,hK ⟨some ⟨h.size,0,none⟩,s.len+1,c⟩ _ h.size blk ⟨rfl,rfl,q2,Blk.new _ _ _,by rw[q4];exact Ae _,by unfold cut;rw[AQ];exact q5,.inr (Ae _),by simp,λj hj af=>by rw[BG,if_neg (by omega)]⟩⟩
end
end Go.X
end
section
namespace Go.X
section
variable {h:zb} {b k c m bv:Nat} {cs c2:Array Value} {K:Value -> zb -> Prop} {vs X:List Value}
theorem zp4:(∀v∈(Bq (Ex #[.int .i64 0,.string ⟨#[]⟩,.slice none 0 0,.slice none 0 0]).cells 1).toList,v.oneCell'=true)/\(Bq (Ex #[.int .i64 0,.string ⟨#[]⟩,.slice none 0 0,.slice none 0 0]).cells 1).toList.length=1*4:=by decide +kernel
theorem ztw:(∀v∈(Bq (A5 ⟨#[]⟩).cells 1).toList,v.oneCell'=true)/\(Bq (A5 ⟨#[]⟩).cells 1).toList.length=1*1:=by decide +kernel
theorem zr1{s:Sl}(ha:s.a=some ⟨b,0,none⟩)(hb:Blk h b cs)(hc:s.cap*4<=cs.size)(hl:s.len<=s.cap)(h1:∀u∈cut cs 0 (s.len*4),u.oneCell'=true)(hk:k<s.len)(Z:s.len<=140737488355328)
  (hK:∀(h':zb) (cs':Array Value),Blk h' b cs'->cs'.size=cs.size->h'.size=h.size->(∀j,j≠b->h'[j]?=h[j]?)->cut cs' 0 ((s.len-1)*4)=(cut cs 0 (s.len*4)).take (k*4)++(cut cs 0 (s.len*4)).drop ((k+1)*4)->K (.slice s.a (s.len-1) s.cap) h'):
  XC Tp 135 #[slV s,.int .i64 (k:Int),.int .i64 ((k+1:Nat):Int)] h K:=by
 apply xu s (k:Int) ((k+1:Nat):Int)
 refine⟨.inr ⟨_,rfl⟩,⟨by omega,by omega,by omega,by omega⟩,λhx=>?_,λ_=>⟨.inl rfl,⟨by omega,by omega,by omega,by omega⟩,.inl rfl,⟨by omega,by omega,by omega,by omega⟩,?_⟩⟩
 ·simp at hx;omega
 ·simp only[Ad,BV,BK,Z9]
  refine z4l elemTree ha hb hc hl h1 hk λh2 b2 z2 f2=>⟨⟨s.a,s.len-1,s.cap⟩,rfl,.inr ⟨_,rfl⟩,⟨by simp only;omega,by simp only;omega,by simp only;omega,by simp only;omega⟩,?_⟩
  simp only[Ad]
  have m1:s.len*4<=s.cap*4:=AO _ hl
  have O:(upd cs (k*4) (cut cs ((k+1)*4) ((s.len-(k+1))*4))).size=cs.size:=y0 (by rw[w9 (by omega)];omega)
  have e:s.len=s.len-1+1:=by omega
  rw[show s.len-(s.len-1)=s.len-1+1-(s.len-1)by omega]
  refine ztv elemTree zp4.1 zp4.2 ha b2 (by rw[O];exact hc) (by omega) λh3 c3 b3 s3 q3 z3 f3=>⟨rfl,?_⟩
  exact hK h3 c3 b3 (by rw[s3,O]) (by omega) (λj hj=>(f3 j hj).trans (f2 j hj)) (zp3 (by omega) hk q3)
theorem zvq{s:Sl}(ha:s.a=some ⟨b,0,none⟩)(hb:Blk h b cs)(hc:s.cap*1<=cs.size)(hl:s.len<=s.cap)(h1:∀u∈cut cs 0 (s.len*1),u.oneCell'=true)(hk:k<s.len)(Z:s.len<=140737488355328)
  (hK:∀(h':zb) (cs':Array Value),Blk h' b cs'->cs'.size=cs.size->h'.size=h.size->(∀j,j≠b->h'[j]?=h[j]?)->cut cs' 0 ((s.len-1)*1)=(cut cs 0 (s.len*1)).take (k*1)++(cut cs 0 (s.len*1)).drop ((k+1)*1)->K (.slice s.a (s.len-1) s.cap) h'):
  XC Tp 136 #[slV s,.int .i64 (k:Int),.int .i64 ((k+1:Nat):Int)] h K:=by
 apply Qj s (k:Int) ((k+1:Nat):Int)
 refine⟨.inr ⟨_,rfl⟩,⟨by omega,by omega,by omega,by omega⟩,λhx=>?_,λ_=>⟨.inl rfl,⟨by omega,by omega,by omega,by omega⟩,.inl rfl,⟨by omega,by omega,by omega,by omega⟩,?_⟩⟩
 ·simp at hx;omega
 ·simp only[Ad,BV,BK,Z9]
  refine z4l elemStr ha hb hc hl h1 hk λh2 b2 z2 f2=>⟨⟨s.a,s.len-1,s.cap⟩,rfl,.inr ⟨_,rfl⟩,⟨by simp only;omega,by simp only;omega,by simp only;omega,by simp only;omega⟩,?_⟩
  simp only[Ad]
  have m1:s.len*1<=s.cap*1:=AO _ hl
  have O:(upd cs (k*1) (cut cs ((k+1)*1) ((s.len-(k+1))*1))).size=cs.size:=y0 (by rw[w9 (by omega)];omega)
  rw[show s.len-(s.len-1)=s.len-1+1-(s.len-1)by omega]
  refine ztv elemStr ztw.1 ztw.2 ha b2 (by rw[O];exact hc) (by omega) λh3 c3 b3 s3 q3 z3 f3=>⟨rfl,?_⟩
  exact hK h3 c3 b3 (by rw[s3,O]) (by omega) (λj hj=>(f3 j hj).trans (f2 j hj)) (zp3 (by omega) hk q3)
theorem zi7{a:Option Addr}(ha:a=some ⟨b,0,none⟩)(h:k<c):Qv a 4 k c=some ⟨b,k*4,none⟩:=by
 unfold Qv
 rw[if_neg (by omega),ha];simp[zo]
theorem ztx{P vs X:List Value}{k q:Nat}(hP:P.length=k*4)(hv:vs.length=4):(P++vs++X)[q]?=if q<k*4 then P[q]? else if q<(k+1)*4 then vs[q-k*4]? else X[q-(k+1)*4]?:=by
 split
 ·rw[AY,BA (by omega)]
 ·split
  ·rw[AY,Bl (by omega),hP,BA (by omega)]
  ·rw[Bl (by rw[Av];omega),Av,hP,hv]
   congr 1;omega
theorem zvr(hv:vs.length=4)(hl:(k+1)*4+X.length<=c2.size)(hm:m=(k+1)*4+X.length):cut (upd (upd c2 ((k+1)*4) X) (k*4) vs) 0 m=cut c2 0 (k*4)++vs++X:=by
 subst hm
 have hs:=y0 hl
 have hP:(cut c2 0 (k*4)).length=k*4:=w9 (by omega)
 apply Bb
 intro q
 rw[zu,ztx hP hv]
 split
 ·rw[AD,jw (by rw[hs,hv];omega),hv]
  split
  ·rw[jw hl,if_pos (by omega),zu,if_pos (by assumption),AD]
  ·by_cases h2:q<(k+1)*4
   ·rw[if_pos (by omega),if_pos h2]
   ·rw[if_neg (by omega),if_neg h2,jw hl,if_neg (by omega),if_pos (by omega)]
 ·rw[if_neg (by omega),if_neg (by omega),Bu (by omega)]
theorem zvs(hv:vs.length=4)(hl:(k+1)*4+X.length<=c2.size)(hm:m=(k+1)*4+X.length):cut (upd (upd c2 (k*4) vs) ((k+1)*4) X) 0 m=cut c2 0 (k*4)++vs++X:=by
 subst hm
 have O:k*4+vs.length<=c2.size:=by omega
 have hs:=y0 O
 have hP:(cut c2 0 (k*4)).length=k*4:=w9 (by omega)
 apply Bb
 intro q
 rw[zu,ztx hP hv]
 split
 ·rw[AD,jw (by rw[hs];omega)]
  by_cases h1:q<k*4
  ·rw[if_pos (by omega),if_pos h1,jw O,if_pos h1,zu,if_pos h1,AD]
  ·rw[if_neg h1]
   by_cases h2:q<(k+1)*4
   ·rw[if_pos h2,if_pos h2,jw O,if_neg h1,if_pos (by omega)]
   ·rw[if_neg h2,if_neg h2,if_pos (by omega)]
 ·rw[if_neg (by omega),if_neg (by omega),Bu (by omega)]
theorem zr2{vs cs:Array Value}(hv:Blk h bv vs)(hb:Blk h b cs)(ac:0<cs.size)(O:bv≠b){o l c:Nat}(hK:K (.bool false) h):
  qba Tp 196 #[.slice (some ⟨bv,0,none⟩) 1 1,.slice (some ⟨b,o,none⟩) l c] h K:=by
 intro B d
 obtain⟨T1,e1⟩:=hv
 obtain⟨T2,e2⟩:=hb
 refine⟨.bool false,d,h,?_,hK⟩
 obtain⟨i,hi,hz,Z,aa⟩:=elemTree.info
 rw[run_callFunc_extern Tryz.func196 (by kernel_rfl) (by kernel_rfl) (by kernel_rfl) (e:=Extern.SlicesOverlaps.overlaps #[23,23] #[4]) (by kernel_rfl),
  Lib.run_overlaps_apart (mk B d h) 23 4 25 elemTree.slice 4 (λw=>by simp[Go.sizeOf,typeInfo,hi,Z]) ⟨bv,0,none⟩ ⟨b,o,none⟩ 1 1 l c O T1 T2 vs.size cs.size (by
   show(match h[bv]? with
    |some (.cells c elem _)=>some (elem,c.size)
    |_=>none)=_
   rw[e1]) (by
   show(match h[b]? with
    |some (.cells c elem _)=>some (elem,c.size)
    |_=>none)=_
   rw[e2]) (by omega) (by
   show(match h[bv]? with
    |some (.cells _ _ (lo,hi))=>decide (lo<=0)&&decide (0<hi)
    |_=>false)=_
   rw[e1];simp) (by
   show(match h[bv]? with
    |some (.cells _ _ (lo,hi))=>decide (lo<=vs.size)&&decide (vs.size<hi)
    |_=>false)=_
   rw[e1];simp)]
 rfl
set_option maxHeartbeats 1000000 in
theorem zzi{s:Sl}(H:RowO h s b cs 4)(h1:∀u∈cut cs 0 (s.len*4),u.oneCell'=true)(hv:Blk h bv vs.toArray)(Z:vs.length=4)(af:∀u∈vs,u.oneCell'=true)(O:bv≠b)(aD:(s.len+1)*72<=140737488355328)(hk:k<=s.len)
  (hK:∀(s':Sl) (h':zb) (b':Nat) (cs':Array Value),RowN h h' s' b b' cs' 4 (s.len+1) ((cut cs 0 (s.len*4)).take (k*4)++vs++(cut cs 0 (s.len*4)).drop (k*4))->K (slV s') h'):
  XC Tp 164 #[slV s,.int .i64 (k:Int),.slice (some ⟨bv,0,none⟩) 1 1] h K:=by
 have aF:=H.le
 apply xw s (k:Int) ⟨some ⟨bv,0,none⟩,1,1⟩
 simp only
 have w1:Aa .i64 (((s.len:Nat):Int)+((1:Nat):Int))=((s.len+1:Nat):Int):=yz (n:=s.len+1) (by omega) (by omega)
 have w2:Aa .i64 ((k:Int)+((1:Nat):Int))=((k+1:Nat):Int):=yz (n:=k+1) (by omega) (by omega)
 refine⟨.inl trivial,⟨by omega,by omega,by omega,by omega⟩,λhx=>by simp at hx,λ_=>⟨λhx=>?_,λhx=>?_⟩⟩
 ·have ak:k=s.len:=by simp at hx;omega
  subst ak
  refine zno elemTree H hv Z af (by omega) (by omega) λs' h' b' cs' N=>⟨s',rfl,?_⟩
  refine hK s' h' b' cs' ?_
  have ae:(cut cs 0 (s.len*4)).length<=s.len*4:=by unfold cut;simp;omega
  rw[AM ae,A6 ae,Bc]
  exact N
 ·have ak:k<s.len:=by(have:k≠s.len:=by simp at hx;omega);omega
  rcases H.at_ with⟨h0,_⟩|⟨ha,hb,hc⟩
  ·omega
  have ae:(cut cs 0 (s.len*4)).length=s.len*4:=w9 (by omega)
  have t1:(cut cs 0 (s.len*4)).take (k*4)=cut cs 0 (k*4):=by
   unfold cut;rw[AQ,Ee,CU (by omega)]
  have t2:(cut cs 0 (s.len*4)).drop (k*4)=cut cs (k*4) ((s.len-k)*4):=by
   unfold cut;rw[AQ,Ed];congr 1;omega
  rw[w1,w2]
  have ac:∀u∈cut cs (k*4) ((s.len-k)*4),u.oneCell'=true:=λu hu=>h1 u (BQ (t2 ▸ hu))
  refine⟨λhg=>?_,λhg=>?_⟩
  ·have ar:s.cap<s.len+1:=by simp at hg;omega
   simp only[Ad,BV,BK,Z9]
   have w3:Aa .i64 (((s.len+1:Nat):Int)-(k:Int))=((s.len+1-k:Nat):Int):=by rw[w64 (by omega)];omega
   rw[w3]
   refine⟨.inr ⟨_,rfl⟩,⟨by omega,by omega,by omega,by omega⟩,?_⟩
   intro B d
   obtain⟨i,hi,hz,an,al⟩:=elemTree.info
   have aj:(Cm i.size k (.slice s.a k s.cap)).run Tp (mk B d h).drew=.ok (cut cs 0 (k*4)).toArray (mk B d h).drew:=by
    rw[an]
    exact Zr (s:=⟨s.a,k,s.cap⟩) (n:=h.size) (by rw[ha];exact znm hb) (w9 (by simp only;omega)) (by omega) B (d+1)
   have hr:=Lib.run_append_grow_zeros (P:=Tp) (mk B d h) 23 3 23 25 i _ .i64 .i64 elemTree.slice (by kernel_rfl) hi hz s.a k s.cap (cut cs 0 (k*4)) aj (s.len+1-k) (by omega) (by rw[an];omega) (by omega) (by omega) (by rw[al];omega) (by rw[al];exact growslice_fits (by omega) (by omega))
   have au:=grownCap_ge (mk B d h) (k+(s.len+1-k)) s.cap 25
   generalize grownCap (mk B d h) (k+(s.len+1-k)) s.cap 25=c at *
   rw[show k+(s.len+1-k)=s.len+1 by omega]at hr au
   refine⟨_,d+1,_,hr,⟨some ⟨h.size,0,none⟩,s.len+1,c⟩,rfl,.inl trivial,⟨by omega,by simp only;omega,by simp only;omega,by simp only;omega⟩,?_⟩
   simp only
   generalize ap:(cut cs 0 (k*4)).toArray++Bq (Ex #[.int .i64 0,.string ⟨#[]⟩,.slice none 0 0,.slice none 0 0]).cells (s.len+1-k)++Bq (Ex #[.int .i64 0,.string ⟨#[]⟩,.slice none 0 0,.slice none 0 0]).cells (c-(s.len+1))=blk
   have am:∀m,(Bq (Ex #[.int .i64 0,.string ⟨#[]⟩,.slice none 0 0,.slice none 0 0]).cells m).size=m*4:=λm=>by rw[size_zeroCells,elemTree.zero]
   have hP:(cut cs 0 (k*4)).length=k*4:=w9 (by omega)
   have aB:blk.size=c*4:=by
    rw[<-ap,Array.size_append,Array.size_append,am,am];simp only[DI,hP];omega
   have aA:cut blk 0 (k*4)=cut cs 0 (k*4):=by
    rw[<-ap]
    unfold cut
    rw[AQ,Array.toList_append,Array.toList_append,AY]
    rw[show((BJ (k*4) (B0 0 cs.toList)).toArray).toList=cut cs 0 (k*4)from rfl,List.take_append,AM (by omega),hP,Nat.sub_self,Cr,Bc];rfl
   have bN:Blk (h.push (.cells blk 25)) h.size blk:=Blk.new _ _ _
   have kN:Keep h.size h (h.push (.cells blk 25)):=Keep.push _ _ (Ae _)
   show XRun Tp _ (h.push (.cells blk 25)) _
   have sN:(h.push (.cells blk 25)).size=h.size+1:=Ai _
   generalize h.push (.cells blk 25)=hN at *
   rw[zi7 (a:=some ⟨h.size,0,none⟩) rfl (show k<c by omega),zi7 (a:=some ⟨h.size,0,none⟩) rfl (show k+1<c by omega),zi7 ha (show k<s.cap by omega)]
   have ay:=hv.ofKeep kN
   have cv:cut vs.toArray 0 (1*4)=vs:=by unfold cut;rw[AQ];exact AM (by simp[Z])
   refine znn elemTree bN ay (m:=1) (by show _=min _ _;omega) (by simp[Z]) (by omega) (by rw[cv];exact af) λh8 b8 z8 f8=>⟨1,rfl,.inl trivial,⟨by omega,by omega,by omega,by omega⟩,.inl trivial,⟨by omega,by omega,by omega,by omega⟩,?_⟩
   rw[cv]at b8
   have aE:=hb.lt
   have az:Blk h8 b cs:=(hb.ofKeep kN).keep (f8 b (by omega))
   have s8:(upd blk (k*4) vs).size=blk.size:=y0 (by omega)
   have hX:(cut cs (k*4) ((s.len-k)*4)).length=(s.len-k)*4:=w9 (by omega)
   refine znn elemTree b8 az (m:=s.len-k) (by show _=min _ _;omega) (by omega) (by rw[s8];omega) ac λah aa ax ai=>⟨((s.len-k:Nat):Int),rfl,?_⟩
   refine hK ⟨some ⟨h.size,0,none⟩,s.len+1,c⟩ ah h.size _ ⟨rfl,rfl,au,aa,by rw[y0 (by rw[s8,hX];omega),s8,aB];exact Ae _,?_,.inr (Ae _),by omega,λj hj O=>by rw[ai j O,f8 j O];exact kN.get j hj⟩
   rw[t1,t2,zvs Z (by rw[hX];omega) (by rw[hX];omega),aA]
  ·have ar:s.len+1<=s.cap:=by simp at hg;omega
   simp only[Ad,BV,BK,Z9,Int.cast_ofNat_Int,Int.sub_zero]
   rw[zi7 ha (show k<s.cap by omega),zi7 ha (show k+1<s.cap by omega)]
   refine⟨.inr ⟨_,rfl⟩,⟨by omega,by omega,by omega,by omega⟩,.inl trivial,⟨by omega,by omega,by omega,by omega⟩,?_⟩
   refine zr2 hv hb (by omega) O ⟨false,rfl,λ_=>⟨.inl trivial,⟨by omega,by omega,by omega,by omega⟩,.inl trivial,⟨by omega,by omega,by omega,by omega⟩,?_⟩,λhx=>by cases hx⟩
   have hX:(cut cs (k*4) ((s.len-k)*4)).length=(s.len-k)*4:=w9 (by omega)
   refine znn elemTree hb hb (m:=s.len-k) (by show _=min _ _;omega) (by omega) (by omega) ac λh8 b8 z8 f8=>⟨((s.len-k:Nat):Int),rfl,.inl trivial,⟨by omega,by omega,by omega,by omega⟩,?_⟩
   have s8:(upd cs ((k+1)*4) (cut cs (k*4) ((s.len-k)*4))).size=cs.size:=y0 (by rw[hX];omega)
   have aC:Blk h8 bv vs.toArray:=hv.keep (f8 bv O)
   have cv:cut vs.toArray 0 (1*4)=vs:=by unfold cut;rw[AQ];exact AM (by simp[Z])
   refine znn elemTree b8 aC (m:=1) (by show _=min _ _;omega) (by simp[Z]) (by rw[s8];omega) (by rw[cv];exact af) λah aa ax ai=>⟨1,rfl,?_⟩
   rw[cv]at aa
   refine hK ⟨s.a,s.len+1,s.cap⟩ ah b _ ⟨ha,rfl,ar,aa,by rw[y0 (by rw[s8];omega),s8];exact hc,?_,.inl rfl,by omega,λj hj O=>(ai j O).trans (f8 j O)⟩
   rw[t1,t2,zvr Z (by rw[hX];omega) (by rw[hX];omega)]
end
section
variable {h:zb} {cs0 cs:Array Value} {o:Nat} {a b c d v:Value} {sk si:Sl} {bk bb:List Nat}
structure PlcP (h:zb) (D:List Nat) (rb:Nat) (p:Addr) (x:Tr) (T:Tr->Tr) (pb o:Nat) (cs0:Array Value) (sk si:Sl) (bk bb:List Nat) (b:Nat) (cs:Array Value) (bf:Nat->List Nat):Prop where
 ad:p=⟨pb,o,none⟩
 blk:Blk h pb cs0
 fit:o+4<=cs0.size
 cell:cut cs0 o 4=zf x sk si
 tr:OTp h x sk si bk bb b cs bf
 pin:pb=rb\/pb∈D
 nk:pb∉bk
 nb:pb∉bb
 nf:∀i,i<x.items.length->pb∉bf i
 ik:∀c∈bk,c∈D
 ib:∀c∈bb,c∈D
 jf:∀i,i<x.items.length->∀c∈bf i,c∈D
 rn:rb∉D
 lt:∀c∈D,c<h.size
 put:∀(h':zb) (x':Tr) (cells':List Value) (b':List Nat),(∀c,c≠pb->c∉bk->c∉bb->(∀i,i<x.items.length->c∉bf i)->(c=rb\/c∈D)->h'[c]?=h[c]?)->Blk h' pb (upd cs0 o cells')->OT h' x' b' cells'->(∀c∈b',(c∈bk\/c∈bb\/∃i,i<x.items.length/\c∈bf i)\/(c≠rb/\c∉D)) ->
   ∃D',Doc h' rb (T x') D'/\∀c∈D',c∈D\/c∈b'
theorem Plc.parts{D:List Nat}{rb:Nat}{p:Addr}{x:Tr}{T:Tr->Tr}(H:Plc h D rb p x T):∃pb o cs0 sk si bk bb b cs bf,PlcP h D rb p x T pb o cs0 sk si bk bb b cs bf:=by
 obtain⟨pb,o,cs0,bx,rfl,hb,ho,ot,aa,Z,O,ai,ah,ae⟩:=H
 obtain⟨sk,si,bk,bb,b,cs,bf,e,P,rfl⟩:=ot.p
 refine⟨pb,o,cs0,sk,si,bk,bb,b,cs,bf,rfl,hb,ho,e,P,Z,λhm=>aa (yy.2 (.inl hm)),λhm=>aa (yy.2 (.inr (.inl hm))),λi hi hm=>aa (yy.2 (.inr (.inr ⟨i,hi,hm⟩))),λc hc=>O c (yy.2 (.inl hc)),λc hc=>O c (yy.2 (.inr (.inl hc))),λi hi c hc=>O c (yy.2 (.inr (.inr ⟨i,hi,hc⟩))),ai,ah,λh' x' cells' b' hf aj ac af=>?_⟩
 exact ae h' x' cells' b' (λc h1 h2 h3=>hf c h1 (λhm=>h2 (yy.2 (.inl hm))) (λhm=>h2 (yy.2 (.inr (.inl hm)))) (λi hi hm=>h2 (yy.2 (.inr (.inr ⟨i,hi,hm⟩)))) h3) aj ac λc hc=>(af c hc).imp yy.2 id
theorem zp5(hf:o+4<=cs0.size)(e:cut cs0 o 4=[a,b,c,d]):upd cs0 (o+3) [v]=upd cs0 o [a,b,c,v]:=by
 apply Dr
 apply Bb
 intro q
 rw[jw (by simp;omega),jw (by simp;omega)]
 simp only[AR,CR]
 have hq:∀j,j<4->cs0.toList[o+j]?=[a,b,c,d][j]?:=λj hj=>by rw[<-e,zu,if_pos hj]
 by_cases h1:q<o
 ·rw[if_pos (by omega),if_pos h1]
 ·rw[if_neg h1]
  by_cases h2:q<o+3
  ·rw[if_pos h2,if_pos (by omega)]
   have:=hq (q-o) (by omega)
   rw[show o+(q-o)=q by omega]at this
   rw[this]
   rcases(show q-o=0\/q-o=1\/q-o=2 by omega)with e|e|e <;> rw[e] <;> rfl
  ·rw[if_neg h2]
   by_cases h3:q<o+4
   ·rw[if_pos (by omega),if_pos (by omega),show q-(o+3)=0 by omega,show q-o=3 by omega];rfl
   ·rw[if_neg (by omega),if_neg (by omega)]
theorem zzj(hf:o+4<=cs0.size)(e:cut cs0 o 4=[a,b,c,d]):upd cs0 (o+2) [v]=upd cs0 o [a,b,v,d]:=by
 apply Dr
 apply Bb
 intro q
 rw[jw (by simp;omega),jw (by simp;omega)]
 simp only[AR,CR]
 have hq:∀j,j<4->cs0.toList[o+j]?=[a,b,c,d][j]?:=λj hj=>by rw[<-e,zu,if_pos hj]
 by_cases h1:q<o
 ·rw[if_pos (by omega),if_pos h1]
 ·rw[if_neg h1]
  by_cases h2:q<o+2
  ·rw[if_pos h2,if_pos (by omega)]
   have:=hq (q-o) (by omega)
   rw[show o+(q-o)=q by omega]at this
   rw[this]
   rcases(show q-o=0\/q-o=1 by omega)with e|e <;> rw[e] <;> rfl
  ·rw[if_neg h2]
   by_cases h3:q<o+3
   ·rw[if_pos (by omega),if_pos (by omega),show q-(o+2)=0 by omega,show q-o=2 by omega];rfl
   ·rw[if_neg (by omega)]
    by_cases h4:q<o+4
    ·rw[if_pos (by omega),show q=o+3 by omega,hq 3 (by omega),show o+3-o=3 by omega];rfl
    ·rw[if_neg (by omega)]
theorem OTp.one{v:Tr}{b:Nat}{bf:Nat->List Nat}(H:OTp h v sk si bk bb b cs bf):∀u∈cut cs 0 (si.len*4),u.oneCell'=true:=by
 intro u hu
 rw[H.hn.1]at hu
 obtain⟨q,hq⟩:=List.getElem?_of_mem hu
 rw[zu]at hq
 split at hq
 ·rename_i O
  have hi:q / 4<v.items.length:=by omega
  refine(H.hi (q / 4) hi).one u (CM (i:=q % 4) ?_)
  rw[zu,if_pos (by omega),show q / 4*4+q % 4=0+q by omega];exact hq
 ·cases hq
theorem OTp.row{v:Tr}{b:Nat}{bf:Nat->List Nat}(H:OTp h v sk si bk bb b cs bf){h':zb}(k:∀c∈bb,h'[c]?=h[c]?):RowO h' si b cs 4:=by
 refine⟨by have:=H.hn;omega,?_⟩
 rcases H.hz with⟨h0,_,h2⟩|⟨O,ha,hb,hc⟩
 ·exact .inl ⟨by rw[H.hn.1,h0];rfl,h2⟩
 ·exact .inr ⟨ha,hb.keep (k b (by rw[O];simp)),hc⟩
end
end Go.X
end
section
namespace Go.X
open Go Go.Lib
section
variable {v w t:Tr} {m:Nat}
def Yp(p:List Bt):List Bt:=p.take (p.length-1)
def zgn(p:List Bt):Bt:=p.getD (p.length-1) ⟨#[]⟩
theorem znp(q:List Bt)(s:Bt):Yp (q++[s])=q/\zgn (q++[s])=s:=by
 unfold Yp zgn
 simp
theorem zty{p:List Bt}(h:p≠[]):p=Yp p++[zgn p]:=by
 rcases List.eq_nil_or_concat p with rfl|⟨q,s,rfl⟩
 ·exact absurd rfl h
 ·rw[List.concat_eq_append,(znp q s).1,(znp q s).2]
theorem Xw{p:List Bt}(h:p.length-1<p.length):p[p.length-1]=zgn p:=by
 unfold zgn;rw[Ct,Aj h];rfl
def ztz(x:Tr)(s:Bt):Option Nat:=if lb s=[45]then some x.items.length else if(Ql (lb s)).2=true/\(Ql (lb s)).1<=x.items.length then some (Ql (lb s)).1.toNat else none
theorem z7j{x:Tr}{s:Bt}{k:Nat}(h:ztz x s=some k):k<=x.items.length:=by
 unfold ztz at h
 split at h
 ·cases h;exact Ae _
 ·split at h
  ·rename_i hc
   have:=zaf hc.1
   cases h;omega
  ·cases h
def zgx(x:Tr)(j:Nat):Tr:=.mk x.kind x.text (if x.kind=6 then x.keys.take j++x.keys.drop (j+1)else x.keys) (x.items.take j++x.items.drop (j+1))
def z7k(x:Tr)(s:Bt)(w:Tr):Tr:=.mk x.kind x.text (x.keys++[s]) (x.items++[w])
def zi8(v:Tr):Bool:=decide (v.kind=0/\lb v.text=[]/\v.keys=[]/\v.items=[])
abbrev OpT:=Bt×List Bt×List Bt×Tr
def zvt:Bs:=[97,100,100]
def Q4:Bs:=[114,101,109,111,118,101]
def xx:Bs:=[114,101,112,108,97,99,101]
def zd7:Bs:=[109,111,118,101]
def zd8:Bs:=[99,111,112,121]
def za4:Bs:=[116,101,115,116]
def qq(s:Bs):Bool×Bool×Bool:=if s=zvt\/s=xx\/s=za4 then(true,false,true)else if s=zd7\/s=zd8 then(false,true,true)else(false,false,decide (s=Q4))
def ja(o:OpT):Bool:=(qq (lb o.1)).2.2&&(qs o.2.1&&(qs o.2.2.1&&(((qq (lb o.1)).2.1||decide (o.2.2.1=[]))&&(bif (qq (lb o.1)).1 then qy o.2.2.2 else zi8 o.2.2.2))))
mutual
def xa:Tr->Tr->Bool
 |.mk k s ks xs,b=>decide (k=b.kind)&&(decide (s=b.text)&&(decide (xs.length=b.items.length)&&(if k=6 then zp7 ks xs b else zp6 xs b.items)))
def zp6:List Tr->List Tr->Bool
 |[],[]=>true
 |x::l,y::m=>xa x y&&zp6 l m
 |_,_=>false
def zp7:List Bt->List Tr->Tr->Bool
 |_,[],_=>true
 |[],_::_,_=>false
 |k::ks,x::xs,b=>(match b.items[(idxOfS b.keys k).toNat]? with
  |some y=>decide (0<=idxOfS b.keys k)&&xa x y
  |none=>false)&&zp7 ks xs b
end
def zi9(v:Tr)(p:List Bt)(w:Tr):Option Tr:=if p=[]then some w else match qb v (Yp p)with
 |none=>none
 |some x=>if x.kind=5 then(match ztz x (zgn p)with
   |some k=>some (Qh v (Yp p) (zzh x k w))
   |none=>none)
  else if x.kind≠6 then none else if 0<=qd x (zgn p)then some (Qh v (Yp p) (zrs x (qd x (zgn p)).toNat w))else some (Qh v (Yp p) (z7k x (zgn p) w))
def zgy(v:Tr)(p:List Bt):Tr:=match qb v (Yp p)with
 |none=>v
 |some x=>Qh v (Yp p) (zgx x (qd x (zgn p)).toNat)
def zd9:Option Tr->Tr×Int
 |some t=>(t,0)
 |none=>(zT,8)
def doR(v:Tr)(o:OpT):Tr×Int:=
 if lb o.1=Q4 then(match qb v o.2.1 with
  |none=>(zT,8)
  |some _=>if o.2.1=[]then(zT,1)else(zgy v o.2.1,0))
 else if lb o.1=xx then(match qb v o.2.1 with
  |none=>(zT,8)
  |some _=>(Qh v o.2.1 o.2.2.2,0))
 else if lb o.1=zd7 then(match qb v o.2.2.1 with
  |none=>(zT,8)
  |some y=>if o.2.2.1=o.2.1.take o.2.2.1.length/\o.2.2.1.length<=o.2.1.length then(if o.2.2.1.length<o.2.1.length then(zT,1)else(v,0))else zd9 (zi9 (zgy v o.2.2.1) o.2.1 y))
 else if lb o.1=zd8 then(match qb v o.2.2.1 with
  |none=>(zT,8)
  |some y=>zd9 (zi9 v o.2.1 y))
 else if lb o.1=za4 then(match qb v o.2.1 with
  |none=>(zT,8)
  |some x=>if xa x o.2.2.2 then(v,0)else(zT,9))
 else zd9 (zi9 v o.2.1 o.2.2.2)
def wj(v:Tr)(o:OpT):Tr×Int:=if ja o then(if(doR v o).2=0 then(if qy (doR v o).1 then((doR v o).1,0)else(zT,1))else(zT,(doR v o).2))else(zT,1)
def Zj:Tr->List OpT->Nat->Tr×Int×Int
 |v,[],i=>(v,i,0)
 |v,o::l,i=>if(wj v o).2=0 then Zj (wj v o).1 l (i+1)else(zT,i,(wj v o).2)
def qi(v:Tr)(l:List OpT):Tr×Int×Int:=if qy v then Zj v l 0 else(zT,0,1)
theorem jh:∀{p:List Bt} {v x:Tr},qb v p=some x->tsz x<=tsz v/\(∀m,txB m v->txB m x)/\∀q,Qk q v=true->Qk q x=true
 |[],v,x,h=>by rw[Zu]at h;cases h;exact⟨Ae _,λ_ h=>h,λ_ h=>h⟩
 |s::p,v,x,h=>by
  have hl:(yj v (s::p)).length=(s::p).length:=by
   unfold qb at h
   split at h
   ·assumption
   ·cases h
  obtain⟨k,hk,e1,_,_⟩:=Yn hl
  rw[xq e1 hk]at h
  obtain⟨h1,h2,h3⟩:=jh h
  have hm:v.items[k]∈v.items:=Ao hk
  have:=yh hm
  exact⟨by omega,λm hv=>h2 m (Q2 hv hm),λq hq=>h3 q (yx hq hm)⟩
theorem Jz{p:List Bt}{v x:Tr}(h:qb v p=some x):(yj v p).length=p.length:=by
 unfold qb at h
 split at h
 ·assumption
 ·cases h
theorem znq{w:Tr}:∀{p:List Bt} {v x:Tr},qb v p=some x->tsz (Qh v p w)+tsz x=tsz v+tsz w
 |[],v,x,h=>by rw[Zu]at h;cases h;rw[Qh];omega
 |s::p,v,x,h=>by
  obtain⟨k,hk,e1,_,_⟩:=Yn (Jz h)
  rw[xq e1 hk]at h
  have h1:=znq (w:=w) h
  rw[zgu e1 hk]
  have h2:=zgv v.items k hk (Qh v.items[k] p w)
  rw[jy,jy v]
  show 1+Qx (v.items.set _ _)+_=_
  omega
theorem za5(l:List Tr)(k:Nat):Qx (l.take k)+Qx (l.drop k)=Qx l:=by
 rw[<-w6,Bp]
theorem z7l(x:Tr)(k:Nat)(w:Tr):tsz (zzh x k w)=tsz x+tsz w:=by
 have:=za5 x.items k
 rw[jy,jy x]
 show 1+Qx (x.items.take k++w::x.items.drop k)=_
 rw[w6,Qx];omega
theorem z7m(x:Tr)(s:Bt)(w:Tr):tsz (z7k x s w)=tsz x+tsz w:=by
 rw[jy,jy x]
 show 1+Qx (x.items++[w])=_
 rw[w6,Qx,Qx];omega
theorem z7n(x:Tr)(k:Nat)(w:Tr):tsz (zrs x k w)<=tsz x+tsz w:=by
 rw[jy,jy x]
 show 1+Qx (x.items.set k w)<=_
 rcases AX k x.items.length with h|h
 ·have:=zgv x.items k h w;omega
 ·rw[List.set_eq_of_length_le h];omega
theorem z7o(x:Tr)(j:Nat):tsz (zgx x j)<=tsz x:=by
 have h1:=za5 x.items j
 have h2:Qx (x.items.drop (j+1))<=Qx (x.items.drop j):=by
  rw[show x.items.drop (j+1)=(x.items.drop j).drop 1 by rw[BS]]
  cases x.items.drop j with
  |nil=>simp
  |cons y l=>simp[Qx]
 rw[jy,jy x]
 show 1+Qx (x.items.take j++x.items.drop (j+1))<=_
 rw[w6];omega
theorem zt0{x:Tr}(h:txB m x){ks:List Bt}{xs:List Tr}(hk:ks.length<=m)(Z:∀k∈ks,k.size<=m)(O:∀y∈xs,txB m y):txB m (.mk x.kind x.text ks xs):=by
 have:=(Jv m x).1 h
 exact(Jv m _).2 ⟨⟨this.1.1,hk,Z⟩,zae.2 O⟩
theorem z7p{x w:Tr}(h:txB m x)(hw:txB m w)(k:Nat):txB m (zzh x k w):=by
 have h':=(Jv m x).1 h
 refine zt0 h h'.1.2.1 h'.1.2.2 λy hy=>?_
 rcases Am.1 hy with hy|hy
 ·exact Q2 h (Bi hy)
 ·rcases Ag.1 hy with rfl|hy
  ·exact hw
  ·exact Q2 h (BQ hy)
theorem z7q{x w:Tr}(h:txB m x)(hw:txB m w)(k:Nat):txB m (zrs x k w):=by
 have h':=(Jv m x).1 h
 refine zt0 h h'.1.2.1 h'.1.2.2 λy hy=>?_
 rcases C9 hy with hy|rfl
 ·exact Q2 h hy
 ·exact hw
theorem z7r{x w:Tr}{s:Bt}(h:txB m x)(hw:txB m w)(hl:x.keys.length+1<=m)(hs:s.size<=m):txB m (z7k x s w):=by
 have h':=(Jv m x).1 h
 refine zt0 h (by simpa using hl) (λk hk=>?_) λy hy=>?_
 ·rcases Am.1 hk with hk|hk
  ·exact h'.1.2.2 k hk
  ·simp at hk;subst hk;exact hs
 ·rcases Am.1 hy with hy|hy
  ·exact Q2 h hy
  ·simp at hy;subst hy;exact hw
theorem z7s{x:Tr}(h:txB m x)(j:Nat):txB m (zgx x j):=by
 have h':=(Jv m x).1 h
 unfold zgx
 refine zt0 h ?_ (λk hk=>?_) λy hy=>?_
 ·have:=h'.1.2.1
  split
  ·simp;omega
  ·exact this
 ·split at hk
  ·rcases Am.1 hk with hk|hk
   ·exact h'.1.2.2 k (Bi hk)
   ·exact h'.1.2.2 k (BQ hk)
  ·exact h'.1.2.2 k hk
 ·rcases Am.1 hy with hy|hy
  ·exact Q2 h (Bi hy)
  ·exact Q2 h (BQ hy)
theorem zfh(v:Tr)(p:List Bt):tsz (zgy v p)<=tsz v:=by
 unfold zgy
 split
 ·exact Ae _
 ·rename_i x hx
  have h1:=znq (w:=zgx x (qd x (zgn p)).toNat) hx
  have h2:=z7o x (qd x (zgn p)).toNat
  omega
theorem znr(h:txB m v)(p:List Bt):txB m (zgy v p):=by
 unfold zgy
 split
 ·exact h
 ·rename_i x hx
  exact ze8 (z7s ((jh hx).2.1 m h) _) _ v h
theorem xc(h:zw v=true)(h6:v.kind=6):v.keys.length=v.items.length:=by
 unfold zw at h
 simp[h6]at h
 exact h.1.2
theorem z7t{p:List Bt}(h:zi9 v p w=some t):tsz t<=tsz v+tsz w:=by
 unfold zi9 at h
 split at h
 ·cases h;omega
 ·split at h
  ·cases h
  ·rename_i x hx
   have hs:=λy=>znq (w:=y) hx
   split at h
   ·split at h
    ·rename_i k _
     cases h
     have:=hs (zzh x k w);rw[z7l]at this;omega
    ·cases h
   ·split at h
    ·cases h
    ·split at h
     ·cases h
      have:=hs (zrs x (qd x (zgn p)).toNat w);have:=z7n x (qd x (zgn p)).toNat w;omega
     ·cases h
      have:=hs (z7k x (zgn p) w);rw[z7m]at this;omega
theorem z7u{p:List Bt}(h:zi9 v p w=some t)(hv:txB 1048576 v)(hw:txB 1048576 w)(ho:Qk zw v=true)(hs:tsz v<=1000000)(hp:∀s∈p,s.size<=1048576):txB 1048576 t:=by
 unfold zi9 at h
 split at h
 ·cases h;exact hw
 ·rename_i Z
  split at h
  ·cases h
  ·rename_i x hx
   obtain⟨f1,f2,f3⟩:=jh hx
   have O:=f2 _ hv
   split at h
   ·split at h
    ·rename_i k _
     cases h
     exact ze8 (z7p O hw k) _ v hv
    ·cases h
   ·split at h
    ·cases h
    ·rename_i h6
     split at h
     ·cases h
      exact ze8 (z7q O hw _) _ v hv
     ·cases h
      refine ze8 (z7r O hw ?_ (hp _ ?_)) _ v hv
      ·have:=xc (qz (f3 _ ho)) (by omega)
       have h2:=Zt x.items
       rw[jy]at f1
       omega
      ·rw[zty Z];simp[(znp _ _).2]
end
end Go.X
end
section
namespace Go.X
section
theorem Q9(x:Tr)(sk si:Sl):∀u∈zf x sk si,u.oneCell'=true:=by
 intro u hu
 simp[zf]at hu
 rcases hu with rfl|rfl|rfl|rfl <;> simp[Value.oneCell',slV]
structure Turn (h h':zb) (rb:Nat) (D bw D':List Nat):Prop where
 size:h.size<=h'.size
 old:∀c,c<h.size->c≠rb->c∉D->h'[c]?=h[c]?
 own:∀c∈D',c∈D\/c∈bw\/h.size<=c
set_option maxHeartbeats 2000000 in
theorem zzk{gl:Fr}(hg:GL gl){x w:Tr}{s:Bt}(hs:(lb s).length<=1048576){h:zb}{M:Fr}{rb:Nat}{D:List Nat}{p:Addr}{T:Tr->Tr}(hM:Fr.le gl M)(ag:AgM M h)(H:Plc h D rb p x T)(aY:rb<h.size){bw:List Nat}{wk wi:Sl}(ow:OT h w bw (zf w wk wi))(af:∀c∈bw,c≠rb/\c∉D)(hx:x.items.length<=1000000000){K:Value->zb->Prop}
  (ar:ztz x s=none->∀h',Keep h.size h h'->K (.int .i64 8) h')
  (aI:∀k,ztz x s=some k->∀h' D',Doc h' rb (T (zzh x k w)) D'->Turn h h' rb D bw D'->K (.int .i64 0) h'):
  XC Tp 133 #[.pointer (some p),.string s,.agg #[.int .i64 w.kind,.string w.text,slV wk,slV wi]] h K:=by
 obtain⟨pb,o,cs0,sk,si,bk,bb,b,cs,bf,P⟩:=Plc.parts H
 have aE:=P.ad
 subst aE
 have aQ:pb<h.size:=P.blk.lt
 apply zi5 (some ⟨pb,o,none⟩) s w.kind w.text wk wi
 intro h1
 have z1:h1.size=h.size+1:=Ai _
 have k1:Keep h.size h h1:=Keep.push _ _ (Ae _)
 have b1:Blk h1 h.size (zf w wk wi).toArray:=Blk.new _ _ _
 clear_value h1
 have hi:=zi1 (gl:=gl) hg (l:=lb s) hs (R:=λr=>r=Ql (lb s)) rfl
 rw[zaq]at hi
 refine hi.go (vs:=[.string s]) hM (ag.keep k1) (yo (rdStr _) ww) λv h3 M3 r L3 aB hr=>?_
 have hr:r=Ql (lb s):=hr
 subst hr
 have z3:=L3.keep.size
 have k3:Keep h.size h h3:=k1.trans L3.keep (by omega)
 have b3:Blk h3 h.size (zf w wk wi).toArray:=b1.ofKeep L3.keep
 obtain⟨us,⟨x1,a7,rfl,r1,x2,rfl,r2⟩,rfl⟩:=aB
 rw[zjj rfl]at r1 r2
 obtain rfl:x1=.int .i64 (Ql (lb s)).1:=by simpa[Rd]using r1
 obtain rfl:x2=.bool (Ql (lb s)).2:=by simpa[Rd]using r2
 refine⟨(Ql (lb s)).1,(Ql (lb s)).2,rfl,λK8 aV=>?_⟩
 have aa:=P.tr.hn.1
 have ae:zm h3 (Af ⟨pb,o,none⟩ 3)=some (slV si):=by
  refine(P.blk.ofKeep k3).cellAdd ?_
  have:(cut cs0 o 4)[3]?=some (slV si):=by rw[P.cell];rfl
  rw[zu,if_pos (by omega)]at this
  rw[<-AN];exact this
 have ah:∀k:Nat,ztz x s=some k->k<=x.items.length->K8 (k:Int) h3:=by
  intro k aM hk
  refine aV (k:Int) h3 ⟨⟨pb,o,none⟩,rfl,si,ae,w.kind,w.text,wk,wi,b3.ld (cs:=zf w wk wi),⟨pb,o,none⟩,rfl,?_⟩
  intro Z
  have ba:Z.size=h3.size+1:=Ai _
  have aC:Keep h3.size h3 Z:=Keep.push _ _ (Ae _)
  have aU:Blk Z h3.size (zf w wk wi).toArray:=Blk.new _ _ _
  refine⟨aC,?_⟩
  clear_value Z
  have kk:Keep h.size h Z:=k3.trans aC (by omega)
  obtain⟨b0,aH,aL⟩:∃b0,RowO Z si b0 cs 4/\((b0=b/\b∈bb)\/b0=Z.size):=by
   have ay:=OTp.row P.tr (h':=Z) (λc hc=>kk.get c (P.lt c (P.ib c hc)))
   rcases P.tr.hz with⟨h0,_,h2⟩|⟨aS,_⟩
   ·exact⟨Z.size,⟨ay.le,.inl ⟨by rw[aa,h0];rfl,h2⟩⟩,.inr rfl⟩
   ·exact⟨b,ay,.inl ⟨rfl,by rw[aS];simp⟩⟩
  have aD:h3.size≠b0:=by
   rcases aL with⟨e,hm⟩|e
   ·have:=P.lt b (P.ib b hm);omega
   ·omega
  refine zzi aH (OTp.one P.tr) aU rfl (Q9 w wk wi) aD (by omega) (by omega) λs' aG b' cs' N=>⟨s',rfl,?_⟩
  rw[aa]at N
  have aj:(b'=b/\b∈bb)\/Z.size<=b':=by
   rcases N.new with e|e
   ·rcases aL with⟨e2,hm⟩|e2
    ·exact .inl ⟨by rw[e,e2],hm⟩
    ·exact .inr (by omega)
   ·exact .inr e
  have al:∀c,c<h.size->c∉bb->c≠b':=λc hc hn e=>by
   rcases aj with⟨e2,hm⟩|e2
   ·exact hn (by rw[e,e2];exact hm)
   ·omega
  have aA:∀c,c<h.size->c∉bb->aG[c]?=h[c]?:=λc hc hn=>by
   rw[N.old c (by omega) (al c hc hn)];exact kk.get c hc
  have be:=N.grow
  have aZ:Blk aG pb cs0:=P.blk.keep (aA pb aQ P.nb)
  rw[zo]
  refine xr (vs:=[slV s']) zlk aZ rfl zll (by have:=P.fit;show o+3+1<=_;omega) (by simp[Value.oneCell',slV]) λai aP a8 ax=>?_
  rw[zp5 P.fit P.cell]at aP
  have ac:∀c,c<h.size->c∉bb->c≠pb->ai[c]?=h[c]?:=λc hc hn hp=>(ax c hp).trans (aA c hc hn)
  have aF:∀c,c∉D->c∉bb:=λc hc hm=>hc (P.ib c hm)
  have aN:∀c,c≠rb->c∉D->c≠pb:=λc h1 h2 e=>by
   rcases P.pin with e2|e2
   ·exact h1 (by rw[e,e2])
   ·exact h2 (by rw[e];exact e2)
  have au:OT ai w bw (zf w wk wi):=ow.frame λc hc=>ac c (ow.lt c hc) (aF c (af c hc).2) (aN c (af c hc).1 (af c hc).2)
  have am:∀i,i<x.items.length->∀c∈bf i,c∉bb:=λi O c hc hm=>P.tr.d3 c hm i O hc
  have ak:∀c,c∈D->c∉bb->c≠b':=λc hc hn=>al c (P.lt c hc) hn
  have ap:Blk ai b' cs':=N.blk.keep (ax b' (by
   rcases aj with⟨e,hm⟩|e
   ·rw[e];exact λe2=>P.nb (e2 ▸ hm)
   ·omega))
  have aO:=(P.tr.ins hk au (λi O c hc=>ac c (P.lt c (P.jf i O c hc)) (am i O c hc) (λe=>P.nf i O (e ▸ hc))) N.a ap N.len N.cap N.size (by omega) N.cut
   (λi O hm=>ak b' (P.jf i O b' hm) (am i O b' hm) rfl) (λhm=>by
    rcases aj with⟨e,a6⟩|e
    ·exact(af b' hm).2 (by rw[e];exact P.ib b a6)
    ·have:=ow.lt b' hm;omega) (λc hc i O hm=>(af c hc).2 (P.jf i O c hm))
   (P.tr.keys.frame λc hc=>ac c (P.lt c (P.ik c hc)) (P.tr.d1 c hc) (λe=>P.nk (e ▸ hc))) P.tr.nk (λhm=>ak b' (P.ik b' hm) (P.tr.d1 b' hm) rfl) P.tr.d2 (λc hc hm=>(af c hm).2 (P.ik c hc))).ot
  obtain⟨D',aT,aJ⟩:=P.put ai (zzh x k w) _ _ (λc e1 e2 e3 e4 e5=>ac c (by
   rcases e5 with rfl|e5
   ·exact aY
   ·exact P.lt c e5) e3 e1) aP aO (λc hc=>by
    rcases yy.1 hc with hc|hc|⟨i,O,hc⟩
    ·exact .inl (.inl hc)
    ·simp at hc
     rcases aj with⟨e,hm⟩|e
     ·exact .inl (.inr (.inl (by rw[hc,e];exact hm)))
     ·exact .inr ⟨by omega,λhm=>by have:=P.lt c hm;omega⟩
    ·have a1:i<x.items.length+1:=by simpa[CU hk,show k+(x.items.length-k+1)=x.items.length+1 by omega]using O
     try simp only at hc
     split at hc
     ·exact .inl (.inr (.inr ⟨i,by omega,hc⟩))
     ·split at hc
      ·exact .inr (af c hc)
      ·exact .inl (.inr (.inr ⟨i-1,by omega,hc⟩)))
  refine aI k aM ai D' aT ⟨by omega,λc h1 h2 h3=>ac c h1 (aF c h3) (aN c h2 h3),λc hc=>?_⟩
  rcases aJ c hc with hc|hc
  ·exact .inl hc
  ·rcases yy.1 hc with hc|hc|⟨i,O,hc⟩
   ·exact .inl (P.ik c hc)
   ·simp at hc
    rcases aj with⟨e,hm⟩|e
    ·exact .inl (by rw[hc,e];exact P.ib b hm)
    ·exact .inr (.inr (by omega))
   ·have a1:i<x.items.length+1:=by simpa[CU hk,show k+(x.items.length-k+1)=x.items.length+1 by omega]using O
    try simp only at hc
    split at hc
    ·exact .inl (P.jf i (by omega) c hc)
    ·split at hc
     ·exact .inr (.inl hc)
     ·exact .inl (P.jf (i-1) (by omega) c hc)
 have he:(s.toList==((⟨#[45]⟩:Bt):Bt).toList)=decide (lb s=[45]):=by
  rw[AB];simp[ByteArray.toList_eq,lb]
 unfold ztz at ah ar
 refine⟨λhq=>?_,λhq=>?_⟩
 ·rw[he]at hq
  have an:lb s=[45]:=by simpa using hq
  refine⟨⟨pb,o,none⟩,rfl,si,ae,?_⟩
  rw[aa]
  exact ah _ (by rw[if_pos an]) (Ae _)
 ·rw[he]at hq
  have an:¬lb s=[45]:=by simpa using hq
  rw[if_neg an]at ah ar
  refine⟨⟨pb,o,none⟩,λ_=>rfl,si,λ_=>ae,λhc=>?_,λhc=>?_⟩
  ·refine ar ?_ h3 k3
   rw[if_neg]
   rintro⟨c1,c2⟩
   rw[c1,aa]at hc
   simp at hc;omega
  ·have az:(Ql (lb s)).2=true/\(Ql (lb s)).1<=x.items.length:=by
    cases h2:(Ql (lb s)).2 with
    |false=>rw[h2]at hc;simp at hc
    |true=>rw[h2,aa]at hc;simp at hc;exact⟨rfl,by omega⟩
   have bc:=zaf az.1
   have:=ah (Ql (lb s)).1.toNat (by rw[if_pos az]) (by omega)
   rw[De (by omega)]at this
   exact this
end
section
theorem PlcP.del{h:zb}{D:List Nat}{rb:Nat}{p:Addr}{x:Tr}{T:Tr->Tr}{pb o:Nat}{cs0:Array Value}{sk si:Sl}{bk bb:List Nat}{b:Nat}{cs:Array Value}{bf:Nat->List Nat}(P:PlcP h D rb p x T pb o cs0 sk si bk bb b cs bf)(af:rb<h.size){j:Nat}(hj:j<x.items.length)
  {hz:zb} {O:Array Value} {ks':List Bt} {sk' si':Sl} {bk':List Nat} (e1:si'.a=si.a) (e2:Blk hz b O) (e3:si'.len+1=x.items.length) (e4:si'.cap=si.cap) (e5:O.size=cs.size)
  (e7:cut O 0 ((x.items.length-1)*4)=(cut cs 0 (x.items.length*4)).take (j*4)++(cut cs 0 (x.items.length*4)).drop ((j+1)*4))
  (ok:OKeys hz ks' bk' sk') (Z:∀c∈bk',c∈bk) (nk:bk'.Nodup) (bz:Blk hz pb (upd cs0 o (zf (.mk x.kind x.text ks' (x.items.take j++x.items.drop (j+1))) sk' si')))
  (fz:∀c,c<h.size->c∉bk->c∉bb->c≠pb->hz[c]?=h[c]?):∃D',Doc hz rb (T (.mk x.kind x.text ks' (x.items.take j++x.items.drop (j+1)))) D'/\∀c∈D',c∈D:=by
 have hb:b∈bb:=by
  rcases P.tr.hz with⟨h0,_⟩|⟨ae,_⟩
  ·rw[h0]at hj;simp at hj
  ·rw[ae];simp
 have ot:=(P.tr.del hj (λi hi c hc=>fz c (P.lt c (P.jf i hi c hc)) (λhm=>P.tr.d2 c hm i hi hc) (λhm=>P.tr.d3 c hm i hi hc) (λe=>P.nf i hi (e ▸ hc))) e1 e2 e3 e4 e5 e7 ok Z nk).ot
 have ac:∀c,c∈(AZ (x.items.take j++x.items.drop (j+1)).length).flatMap (λi=>if i<j then bf i else bf (i+1))->∃i,i<x.items.length/\c∈bf i:=by
  intro c hc
  obtain⟨i,hi,hc⟩:=Bj.1 hc
  have ah:i<x.items.length-1:=by
   have:i<(x.items.take j++x.items.drop (j+1)).length:=by simpa using hi
   simp only[Av,AL,Bg]at this;omega
  split at hc
  ·exact⟨i,by omega,hc⟩
  ·exact⟨i+1,by omega,hc⟩
 obtain⟨D',hD,aa⟩:=P.put hz _ _ _ (λc q1 q2 q3 q4 q5=>fz c (by
  rcases q5 with rfl|q5
  ·exact af
  ·exact P.lt c q5) q2 q3 q1) bz ot (λc hc=>by
  rw[Am,Am]at hc
  rcases hc with hc|hc|hc
  ·exact .inl (.inl (Z c hc))
  ·simp at hc;exact .inl (.inr (.inl (by rw[hc];exact hb)))
  ·exact .inl (.inr (.inr (ac c hc))))
 refine⟨D',hD,λc hc=>?_⟩
 rcases aa c hc with hc|hc
 ·exact hc
 ·rw[Am,Am]at hc
  rcases hc with hc|hc|hc
  ·exact P.ik c (Z c hc)
  ·simp at hc;rw[hc];exact P.ib b hb
  ·obtain⟨i,hi,hc⟩:=ac c hc
   exact P.jf i hi c hc
end
section
variable {M:Fr} {h:zb} {o:Nat} {cs0:Array Value}
theorem zns{t:Ty}{xs:List (El t)}{s:Sl}(H:Rd M (.row t) xs [slV s]){n:Nat}(hn:n<=xs.length):RdV M (.row t) (xs.take n) (.slice s.a n s.cap):=by
 obtain⟨w,e,a,c,q,hb,hx⟩:=H
 simp only[Br,and_true]at e
 subst e
 simp only[slV,AJ]at q
 obtain⟨rfl,_,rfl⟩:=q
 rw[zjj rfl]
 have hl:(xs.take n).length=n:=by rw[AL];omega
 refine⟨_,rfl,s.a,s.cap,by rw[hl],⟨by omega,by omega⟩,?_⟩
 rcases hx with h0|⟨b,o,cs,e1,e2,e3⟩
 ·exact .inl (by rw[h0];simp)
 ·refine .inr ⟨b,o,cs,e1,e2,λi hi=>?_⟩
  rw[List.getElem_take]
  exact e3 i (by omega)
theorem zt1{b o:Nat}{vs:List Value}(H:Blk h b (upd cs0 o vs))(hf:o+vs.length<=cs0.size){i:Nat}{v:Value}(hv:vs[i]?=some v):zm h ⟨b,o+i,none⟩=some v:=by
 refine H.cell ?_
 have hi:=(Ax.1 hv).1
 rw[<-AN,jw hf,if_neg (by omega),if_pos (by omega),Nat.add_sub_cancel_left];exact hv
theorem zzl{a b:List Value}(hf:o+a.length<=cs0.size)(hl:b.length=a.length):upd (upd cs0 o a) o b=upd cs0 o b:=by
 apply Dr
 apply Bb
 intro q
 rw[jw (by rw[y0 hf];omega),jw hf,jw (by omega)]
 split
 ·rfl
 ·split
  ·rfl
  ·rw[if_neg (by omega)]
set_option maxHeartbeats 2000000 in
theorem zp8{gl:Fr}(hg:GL gl){v:Tr}(hv:Sm v)(ho:Qk zw v=true){p:List Bt}(hp:SL p){rb:Nat}{D:List Nat}{u2:Value}(hM:Fr.le gl M)(ag:AgM M h)(hD:Doc h rb v D)(bD:RdV M (.row .str) p u2)
  (aB:p≠[]->∀(hl:p.length-1<p.length),∃x,qb v (p.take (p.length-1))=some x/\0<=qd x p[p.length-1]) (aU:∀x,qb v (p.take (p.length-1))=some x->x.items.length<=1000000000) {K:Value->zb->Prop}
  (h0:p=[]->K (.int .i64 1) h)
  (hy:∀x (j:Nat) (hl:p.length-1<p.length),qb v (p.take (p.length-1))=some x->qd x p[p.length-1]=j->j<x.items.length->∀h' D',Doc h' rb (Qh v (p.take (p.length-1)) (zgx x j)) D'->Turn h h' rb D [] D'->K (.int .i64 0) h'):
  XC Tp 103 #[.pointer (some ⟨rb,0,none⟩),u2] h K:=by
 obtain⟨sp,rfl,rp⟩:=zdg bD
 obtain⟨aE,bT,bV⟩:=rowLen rp
 have bQ:=hp.n
 have b9:=hD.lt rb (.inl rfl)
 apply zci (some ⟨rb,0,none⟩) sp
 refine⟨λhz=>h0 (Az (by rw[aE]at hz;simp at hz;simp[hz])),λhz=>?_⟩
 have be:p≠[]:=λe=>by rw[aE,e]at hz;simp at hz
 have bL:0<p.length:=BB.2 be
 have hl:p.length-1<p.length:=by omega
 have w1:Aa .i64 (((sp.len:Nat):Int)-1)=((p.length-1:Nat):Int):=by rw[aE,w64 (by omega)];omega
 rw[w1]
 refine zbo ag rp hl rfl rfl ⟨.inr ⟨_,rfl⟩,⟨by omega,by omega,by omega,by omega⟩,?_⟩
 simp only[Ad,BV,BK,Z9]
 obtain⟨x0,ba,cc⟩:=aB be hl
 have bh:=zns rp (n:=p.length-1) (by omega)
 refine z7h hg hv ho ⟨by rw[AL];omega,λq hq=>hp.s q (Bi hq)⟩ hM ag hD bh (λhn=>by rw[ba]at hn;cases hn) λx an hx bc h4 pa k4 plc=>?_
 obtain rfl:x0=x:=Aw (ba.symm.trans an)
 have z4:=k4.size
 have aT:=ag.keep k4
 have bY:=aU _ an
 obtain⟨a8,aZ,bx,bj,ot,bZ,_⟩:=Plc.ld plc
 refine⟨some pa,rfl,pa,rfl,x0.kind,x0.text,a8,aZ,bj,?_⟩
 have bH:PC Tp gl 134 [Arg.mk .tree x0,Arg.mk .str p[p.length-1]] [.int .i64] (λr=>r=qd x0 p[p.length-1]):=znl hg (hp.s _ (Ao hl)) rfl
 refine bH.go (vs:=[.agg #[.int .i64 x0.kind,.string x0.text,slV a8,slV aZ],.string p[p.length-1]]) (hM.trans (Y7 aT bx)) (MxL.ag aT bx) (yo ot.rdv (yo (rdStr _) ww)) λw O bS r aH aQ hr=>?_
 have hr:r=qd x0 p[p.length-1]:=hr
 subst hr
 obtain⟨j,ej,hj⟩:∃j:Nat,qd x0 p[p.length-1]=j/\j<x0.items.length:=by
  rcases Y5 (qz bc) p[p.length-1]with e|h
  ·omega
  ·exact h
 have bP:=aH.keep.size
 have bF:Keep h.size h O:=k4.trans aH.keep z4
 have aI:=Plc.keepK plc (by omega) aH.keep
 obtain⟨pb,o,cs0,sk,si,bk,bb,b,cs,bf,P⟩:=Plc.parts aI
 have a6:=P.ad
 subst a6
 have aP:=P.tr.hn.1
 have bI:=P.tr.hn.2.2
 obtain⟨ae,bq,bB,bm⟩:bb=[b]/\si.a=some ⟨b,0,none⟩/\Blk O b cs/\si.cap*4<=cs.size:=by
  rcases P.tr.hz with⟨e,_⟩|e
  ·rw[e]at hj;simp at hj
  ·exact e
 have aA:zm O (Af ⟨pb,o,none⟩ 3)=some (slV si):=by
  refine P.blk.cellAdd ?_
  have:(cut cs0 o 4)[3]?=some (slV si):=by rw[P.cell];rfl
  rw[zu,if_pos (by omega)]at this
  rw[<-AN];exact this
 refine⟨qd x0 p[p.length-1],z9s aQ,⟨pb,o,none⟩,rfl,si,aA,?_⟩
 rw[ej,yz hj (by omega)]
 have aj:pb≠b:=λe=>P.nb (by rw[e,ae];simp)
 refine zr1 bq bB bm (by omega) (OTp.one P.tr) (k:=j) (by omega) (by omega) λbG bp bn aS bU aY aG=>⟨⟨si.a,si.len-1,si.cap⟩,rfl,⟨pb,o,none⟩,rfl,?_⟩
 have aC:Blk bG pb cs0:=P.blk.keep (aY pb aj)
 have bJ:=P.fit
 rw[zo]
 refine xr (vs:=[slV ⟨si.a,si.len-1,si.cap⟩]) zlk aC rfl zll (by show o+3+1<=_;omega) (by simp[Value.oneCell',slV]) λZ ai ca aO=>?_
 rw[zp5 P.fit P.cell]at ai
 have az:Blk Z b bp:=bn.keep (aO b aj.symm)
 have ac:∀c,c≠b->c≠pb->Z[c]?=O[c]?:=λc h1 h2=>(aO c h2).trans (aY c h1)
 rw[aP]at aG
 have ax:∀(hz:zb) (D':List Nat),Z.size<=hz.size->(∀c,c<O.size->c∉bk->c∉bb->c≠pb->hz[c]?=O[c]?)->(∀c∈D',c∈D)->Turn h hz rb D [] D':=λhz D' hs hf aa=>
  ⟨by omega,λc h1 h2 h3=>by
   rw[hf c (by omega) (λhm=>h3 (P.ik c hm)) (λhm=>h3 (P.ib c hm)) (λe=>by
    rcases P.pin with e2|e2
    ·exact h2 (by rw[e,e2])
    ·exact h3 (by rw[e];exact e2))]
   exact bF.get c h1,λc hc=>.inl (aa c hc)⟩
 have bz:zm Z (Af ⟨pb,o,none⟩ 0)=some (.int .i64 x0.kind):=by
  rw[zo]
  exact zt1 (i:=0) ai (by show o+4<=_;omega) rfl
 have bE:zm Z (Af ⟨pb,o,none⟩ 2)=some (slV sk):=by
  rw[zo]
  exact zt1 (i:=2) ai (by show o+4<=_;omega) rfl
 refine⟨⟨pb,o,none⟩,rfl,x0.kind,bz,λh6=>?_,λh6=>?_⟩
 ·have al:x0.kind=6:=by simpa using h6
  have aN:x0.keys.length=x0.items.length:=by
   have:=qz bc
   unfold zw at this
   simp[al]at this
   exact this.1.2
  obtain⟨l1,l2,l3,l4⟩:=P.tr.keys
  obtain⟨kb,ah,rfl,ka,aL,bM,au⟩:∃kb ah,bk=[kb]/\sk.a=some ⟨kb,0,none⟩/\Blk O kb ah/\sk.cap<=ah.size/\cut ah 0 x0.keys.length=x0.keys.map A5:=by
   rcases l4 with⟨e,_⟩|e
   ·rw[e]at aN;simp at aN;omega
   ·exact e
  have ay:kb≠b:=λe=>P.tr.d1 kb (by simp) (by rw[e,ae];simp)
  have af:pb≠kb:=λe=>P.nk (by rw[e];simp)
  have ap:Blk Z kb ah:=aL.keep (ac kb ay af.symm)
  refine⟨⟨pb,o,none⟩,rfl,sk,bE,?_⟩
  refine zvq ka ap (by omega) (by omega) (λu hu=>by
   rw[Cf,l1,au]at hu
   obtain⟨q,_,rfl⟩:=BR.1 hu
   simp[Value.oneCell']) (k:=j) (by omega) (by omega) λbA a1 bo bO b8 aJ a7=>⟨⟨sk.a,sk.len-1,sk.cap⟩,rfl,⟨pb,o,none⟩,rfl,?_⟩
  have aV:Blk bA pb _:=ai.keep (aJ pb af)
  rw[zo]
  refine xr (vs:=[slV ⟨sk.a,sk.len-1,sk.cap⟩]) ztl aV rfl z4h (by rw[y0 (by show o+4<=_;omega)];show o+2+1<=_;omega) (by simp[Value.oneCell',slV]) λak aM cb aF=>?_
  have bu:=ziu (cs:=cs0) (o:=o) (vs:=[.int .i64 x0.kind,.string x0.text,slV sk,slV ⟨si.a,si.len-1,si.cap⟩]) (by show o+4<=_;omega)
  rw[zzj (by rw[y0 (by show o+4<=_;omega)];omega) bu,zzl (cs0:=cs0) (o:=o) (a:=[.int .i64 x0.kind,.string x0.text,slV sk,slV ⟨si.a,si.len-1,si.cap⟩]) (b:=[.int .i64 x0.kind,.string x0.text,slV ⟨sk.a,sk.len-1,sk.cap⟩,slV ⟨si.a,si.len-1,si.cap⟩]) (by show o+4<=_;omega) rfl]at aM
  have ar:∀c,c<O.size->c∉[kb]->c∉bb->c≠pb->ak[c]?=O[c]?:=λc _ h1 h2 h3=>by
   rw[aF c h3,aJ c (λe=>h1 (by rw[e];simp))]
   exact ac c (λe=>h2 (by rw[e,ae];simp)) h3
  rw[Cf,Cf,Cf,Cf,l1,au]at a7
  have bC:OKeys ak (x0.keys.take j++x0.keys.drop (j+1)) [kb] ⟨sk.a,sk.len-1,sk.cap⟩:=by
   have am:(x0.keys.take j++x0.keys.drop (j+1)).length=x0.keys.length-1:=by simp;omega
   refine⟨by show sk.len-1=_;rw[am,l1],by rw[am];omega,by show _<=sk.cap;rw[am];omega,.inr ⟨kb,a1,rfl,ka,bo.keep (aF kb af.symm),by show sk.cap<=_;omega,?_⟩⟩
   rw[am,a7];simp[List.map_take,List.map_drop]
  obtain⟨D',aD,aa⟩:=PlcP.del P (by omega) hj (si':=⟨si.a,si.len-1,si.cap⟩) rfl ((az.keep (aJ b ay.symm)).keep (aF b aj.symm)) (by show si.len-1+1=_;omega) rfl aS aG bC (λc hc=>hc) (by simp) aM ar
  refine hy x0 j hl an ej hj ak D' ?_ (ax ak D' (by omega) ar aa)
  have:zgx x0 j=.mk x0.kind x0.text (x0.keys.take j++x0.keys.drop (j+1)) (x0.items.take j++x0.items.drop (j+1)):=by unfold zgx;rw[if_pos al]
  rw[this];exact aD
 ·have al:¬x0.kind=6:=by simpa using h6
  have fz:∀c,c<O.size->c∉bk->c∉bb->c≠pb->Z[c]?=O[c]?:=λc _ _ h2 h3=>ac c (λe=>h2 (by rw[e,ae];simp)) h3
  obtain⟨D',aD,aa⟩:=PlcP.del P (by omega) hj (si':=⟨si.a,si.len-1,si.cap⟩) rfl az (by show si.len-1+1=_;omega) rfl aS aG (P.tr.keys.frame λc hc=>ac c (λe=>P.tr.d1 c hc (by rw[e,ae];simp)) (λe=>P.nk (e ▸ hc))) (λc hc=>hc) P.tr.nk ai fz
  refine hy x0 j hl an ej hj Z D' ?_ (ax Z D' (Ae _) fz aa)
  have:zgx x0 j=.mk x0.kind x0.text x0.keys (x0.items.take j++x0.items.drop (j+1)):=by unfold zgx;rw[if_neg al]
  rw[this];exact aD
end
section
variable {h g:zb} {bk bb:List Nat} {sk si wk wi:Sl} {bv cv b:Nat} {K:Value -> zb -> Prop} {cs:Array Value} {w:Tr}
theorem zzm{ks:List Bt}(H:OKeys h ks bk sk){s:Bt}(hv:Blk h bv #[.string s])(hn:ks.length<=1048576)
  (hK:∀(sk':Sl) (h':zb) (kb:Nat),OKeys h' (ks++[s]) [kb] sk'->(kb∈bk\/h.size<=kb)->h.size<=h'.size->(∀c,c<h.size->c∉bk->h'[c]?=h[c]?)->K (.slice sk'.a sk'.len sk'.cap) h'):
  XRun Tp (Au #[22,22] 22 #[.slice sk.a sk.len sk.cap,.slice (some ⟨bv,0,none⟩) 1 cv]) h K:=by
 obtain⟨l1,l2,l3,l4⟩:=H
 obtain⟨b,cs,Z,hb,O⟩:∃b cs,RowO h sk b cs 1/\(b∈bk\/h.size<=b)/\cut cs 0 (sk.len*1)=ks.map A5:=by
  rcases l4 with⟨rfl,rfl,h0⟩|⟨b,cs,rfl,e1,e2,e3,e4⟩
  ·refine⟨h.size,#[],⟨by omega,.inl ⟨l1,h0⟩⟩,.inr (Ae _),?_⟩
   rw[l1];rfl
  ·exact⟨b,cs,⟨by omega,.inr ⟨e1,e2,by omega⟩⟩,.inl (by simp),by rw[l1,Cf];exact e4⟩
 have aa:∀c∈bk,c<h.size:=by
  intro c hc
  rcases l4 with⟨_,rfl,_⟩|⟨b,cs,rfl,_,e2,_⟩
  ·cases hc
  ·simp at hc;subst hc;exact e2.lt
 refine zno (vs:=[.string s]) elemStr Z hv rfl (λu hu=>by simp at hu;subst hu;simp[Value.oneCell']) (by omega) (by omega) λs' h' b' cs' N=>?_
 rw[O]at N
 have hl:(ks++[s]).length=sk.len+1:=by simp[l1]
 refine hK s' h' b' ⟨by rw[hl];exact N.len,by rw[hl];omega,by rw[hl];exact N.cap,.inr ⟨b',cs',rfl,N.a,N.blk,by have:=N.size;omega,?_⟩⟩ ?_ N.grow λc hc hn=>N.old c hc λe=>?_
 ·rw[hl]
  have:=N.cut
  rw[Cf]at this
  rw[this];simp
 ·rcases N.new with e|e
  ·rw[e];exact hb
  ·exact .inr e
 ·rcases N.new with e2|e2
  ·rcases hb with e3|e3
   ·exact hn (by rw[e,e2];exact e3)
   ·omega
  ·omega
theorem znt{x:Tr}{bf:Nat->List Nat}(H:OTp g x sk si bk bb b cs bf)(kb:∀c∈bb,h[c]?=g[c]?)(hv:Blk h bv (zf w wk wi).toArray)(hn:x.items.length<=1000000000)
  (hK:∀(si':Sl) (h':zb) (b':Nat) (cs':Array Value),si'.a=some ⟨b',0,none⟩->si'.len=x.items.length+1->x.items.length+1<=si'.cap->Blk h' b' cs'->si'.cap*4<=cs'.size->cut cs' 0 ((x.items.length+1)*4)=cut cs 0 (x.items.length*4)++zf w wk wi ->
   ((b'=b/\b∈bb)\/h.size<=b')->h.size<=h'.size->(∀c,c<h.size->c∉bb->h'[c]?=h[c]?)->K (.slice si'.a si'.len si'.cap) h'):
  XRun Tp (Au #[23,23] 23 #[.slice si.a si.len si.cap,.slice (some ⟨bv,0,none⟩) 1 cv]) h K:=by
 have O:=H.hn.1
 obtain⟨b0,aa,af⟩:∃b0,RowO h si b0 cs 4/\((b0=b/\b∈bb)\/b0=h.size):=by
  have ac:=OTp.row H (h':=h) kb
  rcases H.hz with⟨h0,_,h2⟩|⟨ae,_⟩
  ·exact⟨h.size,⟨ac.le,.inl ⟨by rw[O,h0];rfl,h2⟩⟩,.inr rfl⟩
  ·exact⟨b,ac,.inl ⟨rfl,by rw[ae];simp⟩⟩
 refine zno (vs:=zf w wk wi) elemTree aa hv rfl (Q9 w wk wi) (by omega) (by omega) λs' h' b' cs' N=>?_
 rw[O]at N
 have Z:(b'=b/\b∈bb)\/h.size<=b':=by
  rcases N.new with e|e
  ·rcases af with⟨e2,hm⟩|e2
   ·exact .inl ⟨by rw[e,e2],hm⟩
   ·exact .inr (by omega)
  ·exact .inr e
 refine hK s' h' b' cs' N.a N.len N.cap N.blk N.size N.cut Z N.grow λc hc hn=>N.old c hc λe=>?_
 rcases Z with⟨e2,hm⟩|e2
 ·exact hn (by rw[e,e2];exact hm)
 ·omega
theorem zzn:je Tp 22=1:=by kernel_rfl
theorem znu:je Tp 25=4:=by kernel_rfl
theorem znv:ji Tp 25=true:=by kernel_rfl
set_option maxHeartbeats 2000000 in
theorem z7v{D:List Nat}{rb:Nat}{x w:Tr}{s:Bt}{T:Tr->Tr}{pb o:Nat}{cs0:Array Value}{bf:Nat->List Nat}(P:PlcP g D rb ⟨pb,o,none⟩ x T pb o cs0 sk si bk bb b cs bf)(au:rb<g.size){bw:List Nat}(ow:OT g w bw (zf w wk wi))(O:∀c∈bw,c≠rb/\c∉D)(hx:x.items.length<=1000000000)
  {gF:zb} {sk' si':Sl} {kb b':Nat} {cs':Array Value} (hs:g.size<=gF.size) (hf:∀c,c<g.size->c∉bk->c∉bb->gF[c]?=g[c]?) (ok:OKeys gF (x.keys++[s]) [kb] sk') (Z:kb∈bk\/g.size<=kb)
  (e1:si'.a=some ⟨b',0,none⟩) (e2:si'.len=x.items.length+1) (e3:x.items.length+1<=si'.cap) (e4:Blk gF b' cs') (e5:si'.cap*4<=cs'.size) (e6:cut cs' 0 ((x.items.length+1)*4)=cut cs 0 (x.items.length*4)++zf w wk wi) (aa:(b'=b/\b∈bb)\/g.size<=b') (aA:kb≠b') (hK:∀h' D',Doc h' rb (T (z7k x s w)) D'->Turn g h' rb D bw D'->K (.int .i64 0) h'):
  XRunU Tp (Al 22 (.pointer (some (Af ⟨pb,o,none⟩ 2))) (.slice sk'.a sk'.len sk'.cap)) gF (λh1=>XRunU Tp (Al 23 (.pointer (some (Af ⟨pb,o,none⟩ 3))) (.slice si'.a si'.len si'.cap)) h1 (λh2=>K (.int .i64 0) h2)):=by
 have ae:pb<g.size:=P.blk.lt
 have aE:=P.fit
 have ac:∀c,c<g.size->c∉bk->c≠kb:=λc hc hn e=>by
  rcases Z with h|h
  ·exact hn (e ▸ h)
  ·omega
 have ai:∀c,c<g.size->c∉bb->c≠b':=λc hc hn e=>by
  rcases aa with⟨h1,h2⟩|h
  ·exact hn (by rw[e,h1];exact h2)
  ·omega
 have bF:Blk gF pb cs0:=P.blk.keep (hf pb ae P.nk P.nb)
 rw[zo,zo]
 refine xr (vs:=[slV sk']) ztl bF rfl zzn (by show o+2+1<=_;omega) (by simp[Value.oneCell',slV]) λh1 b1 z1 f1=>?_
 rw[zzj P.fit P.cell]at b1
 refine xr (vs:=[slV si']) zlk b1 rfl zll (by rw[y0 (by show o+4<=_;omega)];show o+3+1<=_;omega) (by simp[Value.oneCell',slV]) λh2 b2 z2 f2=>?_
 have az:=ziu (cs:=cs0) (o:=o) (vs:=[.int .i64 x.kind,.string x.text,slV sk',slV si]) (by show o+4<=_;omega)
 rw[zp5 (by rw[y0 (by show o+4<=_;omega)];omega) az,zzl (cs0:=cs0) (o:=o) (a:=[.int .i64 x.kind,.string x.text,slV sk',slV si]) (b:=[.int .i64 x.kind,.string x.text,slV sk',slV si']) (by show o+4<=_;omega) rfl]at b2
 have af:∀c,c≠pb->h2[c]?=gF[c]?:=λc hc=>(f2 c hc).trans (f1 c hc)
 have fz:∀c,c<g.size->c∉bk->c∉bb->c≠pb->h2[c]?=g[c]?:=λc hc n1 n2 n3=>(af c n3).trans (hf c hc n1 n2)
 have aC:pb≠kb:=ac pb ae P.nk
 have ar:pb≠b':=ai pb ae P.nb
 have hD:∀c,c≠rb->c∉D->c≠pb:=λc n1 n2 e=>by
  rcases P.pin with e2|e2
  ·exact n1 (by rw[e,e2])
  ·exact n2 (by rw[e];exact e2)
 have an:∀c,c∉D->c∉bk:=λc hc hm=>hc (P.ik c hm)
 have aj:∀c,c∉D->c∉bb:=λc hc hm=>hc (P.ib c hm)
 have aB:OT h2 w bw (zf w wk wi):=ow.frame λc hc=>fz c (ow.lt c hc) (an c (O c hc).2) (aj c (O c hc).2) (hD c (O c hc).1 (O c hc).2)
 have ak:∀i,i<x.items.length->∀c∈bf i,c∉bk:=λi hi c hc hm=>P.tr.d2 c hm i hi hc
 have al:∀i,i<x.items.length->∀c∈bf i,c∉bb:=λi hi c hc hm=>P.tr.d3 c hm i hi hc
 have ah:(cut cs 0 (x.items.length*4)).length<=x.items.length*4:=by unfold cut;simp;omega
 have ot:=(P.tr.ins (k:=x.items.length) (Ae _) aB (λi hi c hc=>fz c (P.lt c (P.jf i hi c hc)) (ak i hi c hc) (al i hi c hc) (λe=>P.nf i hi (e ▸ hc))) e1 (e4.keep (af b' ar.symm)) e2 e3 e5 (by omega)
  (by rw[e6,AM ah,A6 ah,Bc]) (λi hi hm=>ai b' (P.lt _ (P.jf i hi b' hm)) (al i hi b' hm) rfl) (λhm=>by
   rcases aa with⟨e,ay⟩|e
   ·exact(O b' hm).2 (by rw[e];exact P.ib b ay)
   ·have:=ow.lt b' hm;omega) (λc hc i hi hm=>(O c hc).2 (P.jf i hi c hm))
  (ok.frame (h':=h2) λc hc=>af c (by simp at hc;subst hc;exact aC.symm)) (by simp) (by simp;exact λe=>aA e.symm) (λc hc i hi hm=>by
   simp at hc;subst hc
   exact ac c (P.lt c (P.jf i hi c hm)) (ak i hi c hm) rfl) (λc hc hm=>by
   simp at hc;subst hc
   rcases Z with h|h
   ·exact(O c hm).2 (P.ik c h)
   ·have:=ow.lt c hm;omega)).ot
 have aD:(x.items.take x.items.length++w::x.items.drop x.items.length)=x.items++[w]:=by rw[AE,BC]
 obtain⟨D',ap,am⟩:=P.put h2 _ _ _ (λc q1 q2 q3 q4 q5=>fz c (by
  rcases q5 with rfl|q5
  ·exact au
  ·exact P.lt c q5) q2 q3 q1) b2 ot (λc hc=>by
  rcases yy.1 hc with hc|hc|⟨i,hi,hc⟩
  ·simp at hc;subst hc
   rcases Z with h|h
   ·exact .inl (.inl h)
   ·exact .inr ⟨by omega,λhm=>by have:=P.lt c hm;omega⟩
  ·simp at hc;subst hc
   rcases aa with⟨e,hm⟩|e
   ·exact .inl (.inr (.inl (by rw[e];exact hm)))
   ·exact .inr ⟨by omega,λhm=>by have:=P.lt c hm;omega⟩
  ·have ax:i<x.items.length+1:=by simpa using hi
   try simp only at hc
   split at hc
   ·exact .inl (.inr (.inr ⟨i,by omega,hc⟩))
   ·split at hc
    ·exact .inr (O c hc)
    ·exact .inl (.inr (.inr ⟨i-1,by omega,hc⟩)))
 rw[aD]at ap
 refine hK h2 D' ap ⟨by omega,λc q1 q2 q3=>fz c q1 (an c q3) (aj c q3) (hD c q2 q3),λc hc=>?_⟩
 rcases am c hc with hc|hc
 ·exact .inl hc
 ·rcases yy.1 hc with hc|hc|⟨i,hi,hc⟩
  ·simp at hc;subst hc
   rcases Z with h|h
   ·exact .inl (P.ik c h)
   ·exact .inr (.inr h)
  ·simp at hc;subst hc
   rcases aa with⟨e,hm⟩|e
   ·exact .inl (by rw[e];exact P.ib b hm)
   ·exact .inr (.inr e)
  ·have ax:i<x.items.length+1:=by simpa using hi
   try simp only at hc
   split at hc
   ·exact .inl (P.jf i (by omega) c hc)
   ·split at hc
    ·exact .inr (.inl hc)
    ·exact .inl (P.jf (i-1) (by omega) c hc)
end
end Go.X
end
