/- A part of the proof: nothing is stated here for its own sake. -/
import Derived.Test.YtjohlemfgcmaoaaGreatDoorPpE
open _root_.Go.Addr renaming add->AD
open _root_.Array renaming getElem?_eq_getElem->A0,getElem?_eq_some_iff->Au,getElem?_setIfInBounds_ne->A3,getElem?_toList->BI,replicate->Br,size_push->AM
open _root_.Bool renaming and_eq_false_iff->CW,and_eq_true->BP,eq_iff_iff->A6,false_or->DD,not_eq_true'->Dh,not_true->Ek,or_eq_true->Cb
open _root_.Go.Instr renaming next->Ea,storeAt->AI
open _root_.Int renaming toNat_natCast->AK
open _root_.Go.IntKind renaming wrap->Ar
open _root_.List renaming all_eq_true->A5,append_assoc->Bo,cons_append->A8,drop_drop->Bq,drop_eq_getElem_cons->A9,drop_eq_nil_of_le->BJ,drop_left->De,drop_take->Dp,drop_zero->Cc,eq_nil_iff_forall_not_mem->CY,exists_cons_of_ne_nil->BK,getD_eq_getElem?_getD->Df,getElem?_append_left->BE,getElem?_append_right->Bf,getElem?_drop->AY,getElem?_eq_getElem->AE,getElem?_eq_some_iff->AQ,getElem?_take->AR,getElem_mem->BG,getElem_of_mem->BR,length->Db,length_append->AF,length_cons->AN,length_drop->AW,length_eq_zero_iff->Bj,length_erase_of_mem->C3,length_nil->Bh,length_pos_iff->BC,length_range->DG,length_take->Bc,map_append->CG,map_cons->Cf,map_nil->Eh,mem_append->AP,mem_append_left->AJ,mem_append_right->AO,mem_cons->Ay,mem_cons_of_mem->Aw,mem_cons_self->AC,mem_of_getElem?->Bl,mem_range->BF,nil_append->BV,nodup_append->Ck,nodup_cons->D5,nodup_range->Dm,not_mem_nil->DX,range->BS,take_append_drop->Cm,take_left->Dn,take_length->BL,take_succ_cons->Bw,take_take->Dq,take_zero->Ed
open _root_.List.cons renaming injEq->Ca
open _root_.Nat renaming add_assoc->D3,add_sub_cancel_left->Dl,add_zero->CM,blt_eq->CC,eq_or_lt_of_le->Du,le_refl->Av,le_trans->Ec,lt_or_ge->A1,min_eq_left->C7,strongRecOn->DC,sub_zero->Dv,zero_add->AX,zero_le->Da
open _root_.Option.some renaming inj->AL
open _root_.Prod.mk renaming injEq->Bn
open _root_.Go.Region renaming wanted->BD
open _root_.UInt8 renaming ofNat->Be
open _root_.Go.Utf8 renaming decode->Es
open _root_.Go.Value renaming int->Ep
set_option linter.unusedVariables false
set_option maxRecDepth 100000
namespace Go.X
end Go.X
namespace Go.Proofs
end Go.Proofs
open Go Go.X Go.Proofs
section
namespace Go.X.U
section
variable {o:Oper} {ρ:Operand -> Value} {h h':Za} {a b:Act} {P:Program} {ops:Array Oper} {listed:Array Bool} {i n:Nat}
def zde(o:Oper):Option Bool:=match o.op with
 |.fieldAddr _ _ _=>some true
 |.indexAddr _ _ _=>some true
 |.move _=>some true
 |.assign _=>some true
 |.load _ _=>some false
 |.binOp _ _ _ _ _=>some true
 |.call c=>match c.callee with
  |.builtin .len=>some true
  |_=>none
 |_=>none
def Zd(o:Oper):Bool:=match zde o with
 |some _=>true
 |none=>false
def Zi(o:Oper):Bool:=match zde o with
 |some b=>!b
 |none=>false
def Zk:Nat->List Oper->List Nat
 |_,[]=>[]
 |k,o::l=>bif Zd o then Zk (k+1) l else k::Zk (k+1) l
def X6(ops:Array Oper):List Nat->Bool
 |[]=>true
 |[_]=>true
 |i::j::l=>bif Region.waitsFor .any ops j i then X6 ops (j::l)else false
def Yg(ops:Array Oper)(i:Nat):List Nat->Bool
 |[]=>false
 |j::l=>bif Region.waitsFor .any ops j i then true else Yg ops i l
def zic(ops:Array Oper)(T:List Nat):Nat->Bool
 |0=>false
 |k+1=>bif (match ops[k]? with
  |some o=>bif Zi o then !(Yg ops k T)else false
  |none=>false)then true else zic ops T k
def Yz(l:List Oper):Bool:=l.all λo=>match o.guard with
 |none=>Yc o.op
 |some _=>false
def X7(ops:Array Oper):Nat->Bool
 |0=>true
 |k+1=>bif (match ops[k]? with
  |some o=>bif Q3 ops k (tmpsOf o.op.operands.toList) ops.size then(bif Zd o then(Zk 0 ops.toList).all λj=>!(Region.waitsFor .any ops k j)||(match Qp ops j with
   |some t=>!(memN (tmpsOf o.op.operands.toList) t)
   |none=>true)else true)else false
  |none=>true)then X7 ops k else false
def zu5(ops:Array Oper):Bool:=bif Yz ops.toList then(bif Zw ops ops.size then(bif Yl ops ops.size then(bif X6 ops (Zk 0 ops.toList)then X7 ops ops.size else false)else false)else false)else false
def zws(o:Oper)(ρ:Operand->Value)(h h':Za):Prop:=match o.op with
 |.load _ x=>∀c,ρ x=.pointer (some c)->h'[c.block]?=h[c.block]?
 |_=>True
theorem z0u(o:Oper)(ρ:Operand->Value)(h:Za):zws o ρ h h:=by
 unfold zws;split
 ·exact λ_ _=>rfl
 ·trivial
theorem zg0{ρ ρ':Operand->Value}(e:∀x∈o.op.operands.toList,ρ x=ρ' x)(H:zws o ρ h h'):zws o ρ' h h':=by
 unfold zws at H ⊢
 split
 ·rename_i t x ho
  rw[ho]at H e
  exact λc hc=>H c (by rw[e x (by simp[Op.operands]),hc])
 ·trivial
def qS(P:Program)(o:Oper)(ρ:Operand->Value)(h:Za)(K:Value->Prop):Prop:=match o.op with
 |.call _=>zga P (execOp ρ o) K
 |_=>Jn P o ρ none h K
def zqe(ops:Array Oper)(T:List Nat)(e:Env)(h0 h':Za):Nat->Prop
 |0=>True
 |k+1=>match ops[k]? with
  |some o=>bif Zi o then(bif Yg ops k T then zqe ops T e h0 h' k else(match o.op with
   |.load _ x=>(match zaq e [] x with
    |some (.pointer (some c))=>h'[c.block]?=h0[c.block]?/\zqe ops T e h0 h' k
    |_=>False)
   |_=>False))else zqe ops T e h0 h' k
  |none=>zqe ops T e h0 h' k
theorem zlp{ops:Array Oper}{T:List Nat}{e:Env}{h0 h':Za}:∀{m:Nat},zqe ops T e h0 h' m->∀k ok,k<m->ops[k]?=some ok->Zi ok=true->Yg ops k T=false->∃t x c,ok.op=.load t x/\zaq e [] x=some (.pointer (some c))/\h'[c.block]?=h0[c.block]?
 |0,_,k,_,hk,_,_,_=>by omega
 |m+1,H,k,ok,hk,ho,hl,ha=>by
  unfold zqe at H
  rcases A1 k m with h1|h1
  ·have H':zqe ops T e h0 h' m:=by
    split at H
    ·rename_i o _
     cases hlo:Zi o with
     |false=>rw[hlo]at H;exact H
     |true=>
      rw[hlo]at H
      simp only[cond_true]at H
      cases haw:Yg ops m T with
      |true=>rw[haw]at H;exact H
      |false=>
       rw[haw]at H
       simp only[cond_false]at H
       split at H
       ·split at H
        ·exact H.2
        ·exact H.elim
       ·exact H.elim
    ·exact H
   exact zlp H' k ok h1 ho hl ha
  ·have:k=m:=by omega
   subst this
   rw[ho]at H
   simp only[hl,ha,cond_true,cond_false]at H
   split at H
   ·rename_i t x Z
    split at H
    ·rename_i c hc
     exact⟨t,x,c,Z,hc,H.1⟩
    ·exact H.elim
   ·exact H.elim
def wU(P:Program)(n:Nat)(h:Za)(K:Env->Prop):List Oper->Env->Prop
 |[],e=>K e
 |o::l,e=>bif Zd o then(bif Z5 n [] o.dst then(bif Yc o.op then(bif known e [] o.op.operands.toList then qS P o (rho e []) h λv=>wU P n h K l (putO e o.dst [] v)else False)else False)else False)else wU P n h K l e
def wT(P:Program)(n:Nat)(ops:Array Oper)(h0:Za)(K:Env->Za->Prop):List Nat->List Nat->Env->Za->Prop
 |_,[],e,h=>K (clean e) h
 |T,j::l,e,h=>match ops[j]? with
  |some o=>bif Z5 n [] o.dst then opW P o e [] h λv h'=>(bif zic ops (j::T) ops.size then zqe ops (j::T) (putO e o.dst [] v) h0 h' ops.size/\wT P n ops h0 K (j::T) l (putO e o.dst [] v) h' else wT P n ops h0 K (j::T) l (putO e o.dst [] v) h')else False
  |none=>False
def Z0:Nat->List Oper->(Nat->Value)->Act->Act
 |_,[],_,a=>a
 |k,o::l,f,a=>Z0 (k+1) l f (bif Zd o then a.put o.dst (f k)else a)
theorem Qq{a b:Act}:∀{l:List Operand},(∀t∈tmpsOf l,Zl a t=Zl b t)->∀x∈l,a.eval x=b.eval x
 |[],_,x,hx=>by cases hx
 |y::l,h,x,hx=>by
  rcases Ay.1 hx with rfl|hx
  ·cases x with
   |tmp t=>exact h t (by simp[tmpsOf])
   |const v=>rfl
   |global g=>rfl
   |func f=>rfl
  ·refine Qq (l:=l) (λt ht=>h t ?_) x hx
   cases y <;> simp[tmpsOf,ht]
theorem Qr(hs:Yc o.op=true)(h:∀t∈tmpsOf o.op.operands.toList,Zl a t=Zl b t):execOp a.eval o=execOp b.eval o:=
 execOp_congr o (λcs b hb=>by rw[hb]at hs;cases hs) λx hx=>Qq h x (by simpa using hx)
theorem zqf{q:Addr}(e:h'[q.block]?=h[q.block]?):Ze h' q=Ze h q:=by unfold Ze;rw[e]
theorem z9d(q:Addr)(i:Nat):(q.add i).block=q.block:=by unfold AD;split <;> rfl
theorem zlq{h h':Za}{q:Addr}(e:h'[q.block]?=h[q.block]?):∀{vs:List Value} {i:Nat},Zb h q i vs->Zb h' q i vs
 |[],_,_=>trivial
 |_::_,i,⟨h1,h2⟩=>⟨(zqf (q:=q.add i) (by rw[z9d];exact e)).trans h1,zlq e h2⟩
theorem zcu(hq:Zd o=true){K:Value->Prop}(H:qS P o ρ h K):
  ∃v,K v/\∀h',(Zi o=false\/zws o ρ h h')->QExec P (execOp ρ o) h' (.value v):=by
 unfold qS at H
 cases ho:o.op with
 |load t x=>
  rw[ho]at H
  simp only at H
  unfold Jn at H
  rw[ho]at H
  simp only at H
  unfold zlx at H
  split at H
  ·rename_i q b hp hv
   obtain⟨y,h1,h2⟩:=H
   refine⟨_,h2,λh' hk=>?_⟩
   have hb:h'[q.block]?=h[q.block]?:=by
    rcases hk with hk|hk
    ·unfold Zi zde at hk;rw[ho]at hk;cases hk
    ·unfold zws at hk;rw[ho]at hk;exact hk q hp
   simp only[execOp,ho,hp]
   exact(ze3 hv (by rw[zqf hb];exact h1.out trivial)).val
  ·rename_i q l hp hv
   obtain⟨vs,h0,⟨h1,h2⟩,_⟩:=W4 H (Ye l)
   refine⟨_,h2,λh' hk=>?_⟩
   have hb:h'[q.block]?=h[q.block]?:=by
    rcases hk with hk|hk
    ·unfold Zi zde at hk;rw[ho]at hk;cases hk
    ·unfold zws at hk;rw[ho]at hk;exact hk q hp
   simp only[execOp,ho,hp]
   exact(ze4 hv h0 (zlq hb (h1.out trivial))).val
  ·exact H.elim
 |fieldAddr t x i=>
  rw[ho]at H
  simp only at H
  unfold Jn at H;rw[ho]at H
  obtain⟨v,h1,h2⟩:=Zm H none
  exact⟨v,h1,λh' _=>h2 trivial h'⟩
 |indexAddr t x i=>
  rw[ho]at H
  simp only at H
  unfold Jn at H;rw[ho]at H
  simp only at H
  cases he:zb3 P t with
  |false=>rw[he]at H;exact H.elim
  |true=>
   rw[he]at H
   obtain⟨v,h1,h2⟩:=Y6 (Y3 he) H
   refine⟨v,h1,λh' _=>?_⟩
   simp only[execOp,ho]
   exact(h2 trivial h').val
 |move x=>
  rw[ho]at H
  simp only at H
  unfold Jn at H;rw[ho]at H
  obtain⟨v,h1,h2⟩:=Zm H none
  exact⟨v,h1,λh' _=>h2 trivial h'⟩
 |assign x=>
  rw[ho]at H
  simp only at H
  unfold Jn at H;rw[ho]at H
  obtain⟨v,h1,h2⟩:=Zm H none
  exact⟨v,h1,λh' _=>h2 trivial h'⟩
 |binOp op t x y t'=>
  rw[ho]at H
  simp only at H
  unfold Jn at H;rw[ho]at H
  simp only at H
  obtain⟨v,h1,h2⟩:=zly ho H
  exact⟨v,h1,λh' _=>h2 trivial h'⟩
 |call c=>
  rw[ho]at H
  simp only at H
  obtain⟨v,h1,h2⟩:=Zm H none
  exact⟨v,h1,λh' _=>h2 trivial h'⟩
 |_=>unfold Zd zde at hq;rw[ho]at hq;cases hq
theorem Z1(σ:Nat->Value):valid σ []:=by unfold valid;trivial
theorem W5:∀{l:List Oper} {k:Nat} {f:Nat->Value} {a:Act},(Z0 k l f a).tmps.size=a.tmps.size/\(Z0 k l f a).defers=a.defers
 |[],_,_,_=>⟨rfl,rfl⟩
 |o::l,k,f,a=>by
  unfold Z0
  have:=W5 (l:=l) (k:=k+1) (f:=f) (a:=bif Zd o then a.put o.dst (f k)else a)
  rw[this.1,this.2]
  cases Zd o with
  |true=>exact⟨size_put _ _ _,Zs _ _ _⟩
  |false=>exact⟨rfl,rfl⟩
theorem Zj{d:Option Nat}{u:Value}{s:Nat}(h:d≠some s):Zl (a.put d u) s=Zl a s:=by
 cases d with
 |none=>rfl
 |some t=>exact Zz λe=>h (by rw[e])
theorem Qj{s:Nat}:∀{l:List Oper} {k:Nat} {f:Nat->Value} {a:Act},(∀o∈l,Zd o=true->o.dst≠some s)->Zl (Z0 k l f a) s=Zl a s
 |[],_,_,_,_=>rfl
 |o::l,k,f,a,h=>by
  unfold Z0
  rw[Qj λo' Z=>h o' (Aw _ Z)]
  cases hq:Zd o with
  |true=>exact Zj (h o AC hq)
  |false=>rfl
theorem Xs{P:Program}{n:Nat}{h:Za}{K:Env->Prop}:∀{l:List Oper} {k:Nat} {e:Env} {a:Act},wU P n h K l e->Sat n e a->∃(f:Nat->Value) (e':Env),K e'/\Sat n e' (Z0 k l f a) /\
  ∀i o,l[i]?=some o->Zd o=true->Yc o.op=true/\Z5 n [] o.dst=true/\∀h',(Zi o=false\/zws o (Z0 k (l.take i) f a).eval h h')->QExec P (execOp (Z0 k (l.take i) f a).eval o) h' (.value (f (k+i)))
 |[],k,e,a,H,hs=>⟨λ_=>undef,e,H,hs,λi o h=>by simp at h⟩
 |o::l,k,e,a,H,hs=>by
  unfold wU at H
  cases hq:Zd o with
  |false=>
   rw[hq]at H
   obtain⟨f,e',h1,h2,h3⟩:=Xs (k:=k+1) H hs
   refine⟨f,e',h1,by unfold Z0;rw[hq];exact h2,λi o' hi Z=>?_⟩
   cases i with
   |zero=>simp at hi;subst hi;rw[hq]at Z;cases Z
   |succ i=>
    have:=h3 i o' (by simpa using hi) Z
    rw[Bw]
    unfold Z0
    rw[hq,show k+(i+1)=k+1+i by omega];exact this
  |true=>
   rw[hq]at H
   simp only[cond_true]at H
   cases hd:Z5 n [] o.dst with
   |false=>rw[hd]at H;exact H.elim
   |true=>
    rw[hd]at H
    simp only[cond_true]at H
    cases hns:Yc o.op with
    |false=>rw[hns]at H;exact H.elim
    |true=>
     rw[hns]at H
     simp only[cond_true]at H
     cases hk:known e [] o.op.operands.toList with
     |false=>rw[hk]at H;exact H.elim
     |true=>
      rw[hk]at H
      simp only[cond_true]at H
      obtain⟨v,H1,H2⟩:=zcu hq H
      obtain⟨f,e',h1,h2,h3⟩:=Xs (k:=k+1) (a:=a.put o.dst v) H1 (hs.putO hd (λ_=>rfl) λhv=>absurd (Z1 _) hv)
      have hf:∀(m:List Oper) (j:Nat) (b:Act),Z0 (k+1+j) m (λx=>if x=k then v else f x) b=Z0 (k+1+j) m f b:=by
       intro m
       induction m with
       |nil=>intro j b;rfl
       |cons o' m ih=>
        intro j b
        unfold Z0
        dsimp only
        rw[if_neg (show¬k+1+j=k by omega),show k+1+j+1=k+1+(j+1)by omega,ih]
      refine⟨λx=>if x=k then v else f x,e',h1,?_,λi o' hi Z=>?_⟩
      ·unfold Z0
       rw[hq,cond_true]
       dsimp only
       rw[if_pos rfl]
       have:=hf l 0 (a.put o.dst v)
       rw[CM]at this
       rw[this];exact h2
      ·cases i with
       |zero=>
        simp at hi;subst hi
        rw[Ed,CM]
        dsimp only
        rw[if_pos rfl]
        refine⟨hns,hd,λh' hh=>?_⟩
        show QExec P (execOp a.eval o) h' _
        rw[Xq hs (Z1 _) hns hk]
        exact H2 h' (hh.imp id λr=>zg0 (λx hx=>Y2 hs (Z1 _) hk x hx) r)
       |succ i=>
        have:=h3 i o' (by simpa using hi) Z
        rw[Bw]
        unfold Z0
        rw[hq,cond_true]
        dsimp only
        rw[if_pos rfl]
        have e2:=hf (l.take i) 0 (a.put o.dst v)
        rw[CM]at e2
        rw[e2,if_neg (show¬k+(i+1)=k by omega),show k+(i+1)=k+1+i by omega]
        exact this
theorem X8{next:Act->World->Prop}{Q:Exit->Act->World->Prop}{r:Result Next}(hb:b.defers=[])
  (H:o.upon P b (λc w=>c.defers=[]/\∀v,c=b.put o.dst v->next (a.put o.dst v) w) (λ_ _ _=>False) r):o.upon P a next Q r:=by
 have lo:¬LetsOut (λ(_:Exit) (_:Act) (_:World)=>False):=λh=>by
  obtain⟨_,_,h⟩:=h
  exact h
 cases r with
 |ok x w=>
  cases x with
  |value v=>exact H.2 v rfl
  |skip=>exact H.2 undef rfl
  |defer d=>
   have:=H.1
   rw[Zs]at this;cases this
  |enter f args=>
   refine Calls.mono (show Calls P f args w _ from H) λe w' he=>?_
   cases e with
   |returned v=>exact he.2 v rfl
   |panicked c=>exact he.elim
   |outgrown=>exact absurd he lo
  |row row args=>exact Rows.mono (show Rows P row args w _ from H) λv w' he=>he.2 v rfl
  |_=>exact H
 |halt x w=>cases x <;> first|exact H.elim|exact H
theorem Qa{j:Nat}:∀{l:List Oper} {k:Nat},j∈Zk k l↔k<=j/\∃o,l[j-k]?=some o/\Zd o=false
 |[],k=>by simp[Zk]
 |o::l,k=>by
  unfold Zk
  cases hq:Zd o with
  |true=>
   rw[cond_true,Qa (l:=l)]
   constructor
   ·rintro⟨h1,o',h2,h3⟩
    exact⟨by omega,o',by rw[show j-k=(j-(k+1))+1 by omega];simpa using h2,h3⟩
   ·rintro⟨h1,o',h2,h3⟩
    rcases Du h1 with e|e
    ·subst e
     simp at h2;subst h2;rw[hq]at h3;cases h3
    ·exact⟨by omega,o',by rw[show j-k=(j-(k+1))+1 by omega]at h2;simpa using h2,h3⟩
  |false=>
   rw[cond_false,Ay,Qa (l:=l)]
   constructor
   ·rintro(rfl|⟨h1,o',h2,h3⟩)
    ·exact⟨Av _,o,by simp,hq⟩
    ·exact⟨by omega,o',by rw[show j-k=(j-(k+1))+1 by omega];simpa using h2,h3⟩
   ·rintro⟨h1,o',h2,h3⟩
    rcases Du h1 with e|e
    ·exact .inl e.symm
    ·exact .inr ⟨by omega,o',by rw[show j-k=(j-(k+1))+1 by omega]at h2;simpa using h2,h3⟩
theorem Qm:∀{l:List Oper} {k:Nat},(Zk k l).Nodup
 |[],_=>List.nodup_nil
 |o::l,k=>by
  unfold Zk
  cases Zd o with
  |true=>exact Qm
  |false=>exact D5.2 ⟨λh=>by have:=(Qa.1 h).1;omega,Qm⟩
theorem Z8{ops:Array Oper}:∀{m:Nat},X7 ops m=true->∀k o,k<m->ops[k]?=some o->Q3 ops k (tmpsOf o.op.operands.toList) ops.size=true/\(Zd o=true->∀j∈Zk 0 ops.toList,Region.waitsFor .any ops k j=true->∀t,Qp ops j=some t->t∉tmpsOf o.op.operands.toList)
 |0,_,k,o,hk,_=>by omega
 |m+1,h,k,o,hk,ho=>by
  unfold X7 at h
  split at h
  ·rename_i o' Z
   cases hs:Q3 ops m (tmpsOf o'.op.operands.toList) ops.size with
   |false=>rw[hs]at h;cases h
   |true=>
    rw[hs,cond_true]at h
    rcases A1 k m with h1|h1
    ·refine Z8 (m:=m) ?_ k o h1 ho
     revert h
     cases(bif Zd o' then(Zk 0 ops.toList).all λj=>!(Region.waitsFor .any ops m j)||(match Qp ops j with
      |some t=>!(memN (tmpsOf o'.op.operands.toList) t)
      |none=>true)else true) <;> intro h <;> first|exact h|cases h
    ·have:k=m:=by omega
     subst this
     have:o'=o:=AL (Z.symm.trans ho)
     subst this
     refine⟨hs,λhq j hj hw t ht=>?_⟩
     rw[hq,cond_true]at h
     cases hall:(Zk 0 ops.toList).all λj=>!(Region.waitsFor .any ops k j)||(match Qp ops j with
      |some t=>!(memN (tmpsOf o'.op.operands.toList) t)
      |none=>true)with
     |false=>rw[hall]at h;cases h
     |true=>
      have:=A5.1 hall j hj
      rw[hw,ht]at this
      simp only[Ek,DD,Dh]at this
      exact Y7 this
  ·rename_i Z
   rw[cond_true]at h
   rcases A1 k m with h1|h1
   ·exact Z8 h k o h1 ho
   ·have:k=m:=by omega
    subst this
    rw[Z]at ho;cases ho
theorem Xa{ops:Array Oper}:∀{l:List Nat},X6 ops l=true->∀q i j,l[q]?=some i->l[q+1]?=some j->Region.waitsFor .any ops j i=true
 |[],_,q,i,j,h,_=>by simp at h
 |[_],_,q,i,j,_,h=>by simp at h
 |a::b::l,h,q,i,j,h1,h2=>by
  unfold X6 at h
  cases hw:Region.waitsFor .any ops b a with
  |false=>rw[hw]at h;cases h
  |true=>
   rw[hw,cond_true]at h
   cases q with
   |zero=>simp at h1 h2;subst h1;subst h2;exact hw
   |succ q=>exact Xa h q i j (by simpa using h1) (by simpa using h2)
theorem Y8{ops:Array Oper}{i:Nat}:∀{l:List Nat},Yg ops i l=true->∃j∈l,Region.waitsFor .any ops j i=true
 |[],h=>by cases h
 |j::l,h=>by
  unfold Yg at h
  cases hw:Region.waitsFor .any ops j i with
  |true=>exact⟨j,AC,hw⟩
  |false=>
   rw[hw,cond_false]at h
   obtain⟨j',h1,h2⟩:=Y8 h
   exact⟨j',Aw _ h1,h2⟩
theorem X9{ops:Array Oper}{T:List Nat}:∀{m:Nat},zic ops T m=false->∀k o,k<m->ops[k]?=some o->Zi o=true->Yg ops k T=true
 |0,_,k,o,hk,_,_=>by omega
 |m+1,h,k,o,hk,ho,hl=>by
  unfold zic at h
  cases hb:(match ops[m]? with
   |some o=>bif Zi o then !(Yg ops m T)else false
   |none=>false)with
  |true=>rw[hb]at h;cases h
  |false=>
   rw[hb,cond_false]at h
   rcases A1 k m with h1|h1
   ·exact X9 h k o h1 ho hl
   ·have:k=m:=by omega
    subst this
    rw[ho]at hb
    simp only[hl,cond_true,Bool.not_eq_false']at hb
    exact hb
theorem Yo{i p:Nat}(hi:i∈Region.ready .any ops listed)(hw:Region.waitsFor .any ops i p=true):listed.getD p false=true:=by
 obtain⟨oj,aa,e,he,hb,ab⟩:=Region.waitsFor_spec hw
 obtain⟨_,o,ho,Z⟩:=mem_ready.1 hi
 have:oj=o:=AL (aa.symm.trans ho)
 subst this
 rw[<-ab];exact Z e he hb
theorem Qb(inv:HeadInv .any ops n listed){i p:Nat}(hi:listed.getD i false=true)(hw:Region.waitsFor .any ops i p=true):listed.getD p false=true:=by
 obtain⟨oj,Z,e,he,hb,aa⟩:=Region.waitsFor_spec hw
 rw[<-aa];exact inv.closed i oj Z hi e he hb
theorem Xb{p:Nat->Bool}{N:Nat}(h:∃k,k<N/\p k=false):∃k,k<N/\p k=false/\∀j,j<k->p j=true:=by
 obtain⟨k,h1,h2⟩:=h
 induction k using DC with
 |_ k ih=>
  by_cases hm:∃j,j<k/\p j=false
  ·obtain⟨j,h3,h4⟩:=hm
   exact ih j h3 (by omega) h4
  ·exact⟨k,h1,h2,λj hj=>by
    cases hb:p j with
    |true=>rfl
    |false=>exact absurd ⟨j,hj,hb⟩ hm⟩
theorem zb5(h:zu5 ops=true):Yz ops.toList=true/\Zw ops ops.size=true/\Yl ops ops.size=true/\X6 ops (Zk 0 ops.toList)=true/\X7 ops ops.size=true:=by
 unfold zu5 at h
 cases h1:Yz ops.toList <;> cases h2:Zw ops ops.size <;> cases h3:Yl ops ops.size <;> cases h4:X6 ops (Zk 0 ops.toList) <;> simp[h1,h2,h3,h4]at h ⊢
 exact h
theorem Wv{l:List Oper}(h:Yz l=true):∀o∈l,o.guard=none/\Yc o.op=true:=by
 intro o ho
 have:=A5.1 h o ho
 cases hg:o.guard with
 |none=>rw[hg]at this;exact⟨rfl,this⟩
 |some g=>rw[hg]at this;cases this
theorem Y9:∀{l m:List Oper} {k:Nat} {f:Nat->Value} {a:Act},Z0 k (l++m) f a=Z0 (k+l.length) m f (Z0 k l f a)
 |[],m,k,f,a=>rfl
 |o::l,m,k,f,a=>by
  have e:∀l',Z0 k (o::l') f a=Z0 (k+1) l' f (bif Zd o then a.put o.dst (f k)else a):=λ_=>rfl
  rw[A8,e,e,Y9,show k+1+l.length=k+(o::l).length by simp;omega]
theorem toL(ho:ops[i]?=some o):ops.toList[i]?=some o:=by rw[BI];exact ho
theorem ofL(ho:ops.toList[i]?=some o):ops[i]?=some o:=by rw[BI]at ho;exact ho
structure StM (P:Program) (n:Nat) (ops:Array Oper) (h0:Za) (K:Env->Za->Prop) (f:Nat->Value) (a0:Act) (listed:Array Bool) (a b:Act) (e:Env) (h:Za) (done todo:List Nat):Prop where
 inv:HeadInv .any ops ops.size listed
 ag:∀s,(∀i o,ops[i]?=some o->Zd o=true->listed.getD i false=false->o.dst≠some s)->Zl a s=Zl b s
 sz:a.tmps.size=n
 ad:a.defers=[]
 sb:Sat n e b
 qv:∀i o t,ops[i]?=some o->Zd o=true->o.dst=some t->Zl b t=f i/\t<n
 qx:∀i o,ops[i]?=some o->Zd o=true->∀h',(Zi o=false\/zws o b.eval h0 h')->QExec P (execOp b.eval o) h' (.value (f i))
 tt:Zk 0 ops.toList=done.reverse++todo
 ch:∀j,j∈Zk 0 ops.toList->(listed.getD j false=true↔j∈done)
 wt:wT P n ops h0 K done todo e h
 kp:∀i o,ops[i]?=some o->Zi o=true->listed.getD i false=false->zws o b.eval h0 h
 sm:Same (Qx ops.toList) a0 a
theorem J6{o:Oper}:∀{l:List Oper},o∈l->∀i,o.dst=some i->i∈Qx l
 |[],h,_,_=>by cases h
 |x::l,h,i,hi=>by
  unfold Qx
  rcases Ay.1 h with rfl|h
  ·rw[hi];exact AC
  ·have:=J6 h i hi
   split
   ·exact Aw _ this
   ·exact this
theorem Zg{k:Nat}(h:ops[k]?=some o):Qp ops k=o.dst:=by simp[Qp,h]
theorem zqz{h0:Za}{K:Env->Za->Prop}{Q:Exit->Act->World->Prop}(B:World)(bo:zu5 ops=true){f:Nat->Value}{a0:Act}
  (hQ:∀e' a' d' h',Sat n e' a'->Same (Qx ops.toList) a0 a'->K e' h'->Q .normal a' (mk B d' h')):
  ∀(N:Nat) (U:List Nat) (listed:Array Bool) (a b:Act) (e:Env) (h:Za) (d:Nat) (done todo:List Nat),U.length=N->U.Nodup->(∀k,k∈U↔k<ops.size/\listed.getD k false=false) ->
   StM P n ops h0 K f a0 listed a b e h done todo->wpAny P .any ops Q N listed a (mk B d h):=by
 obtain⟨bF,aT,bP,az,au⟩:=zb5 bo
 have bj:∀(i:Nat) (o:Oper),ops[i]?=some o->o.guard=none/\Yc o.op=true:=λi o ho=>Wv bF o (by
  obtain⟨ab,e⟩:=Au.1 ho
  rw[<-e];simp)
 have bH:∀{listed:Array Bool} {a b:Act} {e:Env} {h:Za} {d:Nat} {done todo:List Nat},(∀k,k<ops.size->listed.getD k false=true)->StM P n ops h0 K f a0 listed a b e h done todo->Q .normal a (mk B d h):=by
  intro listed a b e h d done todo ae S
  have ak:todo=[]:=by
   cases todo with
   |nil=>rfl
   |cons j l=>
    have hj:j∈Zk 0 ops.toList:=by rw[S.tt];simp
    have ab:j<ops.size:=by
     obtain⟨_,o,ho,_⟩:=Qa.1 hj
     have:=(AQ.1 ho).1
     simpa using this
    have hd:=(S.ch j hj).1 (ae j ab)
    have hn:=Qm (l:=ops.toList) (k:=0)
    rw[S.tt,Ck]at hn
    exact absurd rfl (hn.2.2 j (by simpa using hd) j (by simp))
  have hw:=S.wt
  rw[ak]at hw
  unfold wT at hw
  have hv:∀s,Zl a s=Zl b s:=λs=>S.ag s λi o ho hq hl=>by
   rw[ae i (Au.1 ho).1]at hl;cases hl
  have hs:Sat n e a:=⟨S.ad,S.sz,λx hx=>by
   have:=S.sb.all x hx
   have e1:Zl a=Zl b:=funext hv
   rw[e1];exact this⟩
  exact hQ _ _ _ _ hs.clean S.sm hw
 intro N
 induction N with
 |zero=>
  intro U listed a b e h d done todo hU _ aj S
  have bC:U=[]:=Bj.1 hU
  subst bC
  have ae:∀k,k<ops.size->listed.getD k false=true:=λk hk=>by
   cases hb:listed.getD k false with
   |true=>rfl
   |false=>exact absurd ((aj k).2 ⟨hk,hb⟩) (by simp)
  refine⟨?_,bH ae S⟩
  rw[CY]
  intro j hj
  obtain⟨h1,o,ho,_⟩:=mem_ready.1 hj
  have ab:=(Au.1 ho).1
  have:=ae j ab
  have h2:=getD_both h1
  rw[this]at h2;cases h2
 |succ N ih=>
  intro U listed a b e h d done todo hU aM aj S
  have bG:∃k,k<ops.size/\listed.getD k false=false:=by
   cases U with
   |nil=>cases hU
   |cons k U=>exact⟨k,(aj k).1 AC⟩
  refine⟨λhr=>?_,λi hi=>?_⟩
  ·exfalso
   obtain⟨k,aF,a1,bu⟩:=Xb bG
   have:k∈Region.ready .any ops listed:=mem_ready.2 ⟨by rw[<-a1];simp[S.inv.size,aF],ops[k],A0 aF,λx hx hb=>bu _ (Zo aT k ops[k] aF (A0 aF) x hx hb)⟩
   rw[hr]at this;cases this
  ·obtain⟨bm,o,ho,ae⟩:=mem_ready.1 hi
   have aH:listed.getD i false=false:=getD_both bm
   have ab:i<ops.size:=(Au.1 ho).1
   obtain⟨hg,bI⟩:=bj i o ho
   have aJ:i<listed.size:=by rw[S.inv.size];exact ab
   have ba:(U.erase i).length=N:=by rw[C3 ((aj i).2 ⟨ab,aH⟩),hU];rfl
   have ap:(U.erase i).Nodup:=aM.erase i
   have an:∀k,k∈U.erase i↔k<ops.size/\(listed.setIfInBounds i true).getD k false=false:=λk=>by
    rw[aM.mem_erase_iff,aj k]
    by_cases hk:i=k
    ·subst hk;simp[aJ]
    ·rw[getD_set_ne false hk];exact⟨λhx=>hx.2,λhx=>⟨λe=>hk e.symm,hx⟩⟩
   have am:=S.inv.set hi ab
   have ai:∀k,k≠i->(listed.setIfInBounds i true).getD k false=listed.getD k false:=λk hk=>getD_set_ne false (Ne.symm hk)
   have af:(listed.setIfInBounds i true).getD i false=true:=by simp[aJ]
   obtain⟨aA,bS⟩:=Z8 au i o ab ho
   have a8:∀t∈tmpsOf o.op.operands.toList,Zl a t=Zl b t:=λt ht=>S.ag t λk ok Z hq hl hd=>by
    have hw:=Zt aA k t (Au.1 Z).1 (by rw[Zg Z,hd]) ht
    rw[Yo hi hw]at hl;cases hl
   have aN:=Qr bI a8
   unfold wpOp
   rw[ho]
   simp only
   have aU:BD o (yielded ops a.tmps)=true:=by unfold BD;rw[hg]
   rw[if_pos aU]
   left
   unfold Oper.wp
   rw[aN]
   cases hq:Zd o with
   |true=>
    have hx:=S.qx i o ho hq h (by
     cases hl:Zi o with
     |false=>exact .inl rfl
     |true=>exact .inr (S.kp i o ho hl aH)) B d
    rw[hx,Oper.upon_value]
    have bg:i∉Zk 0 ops.toList:=λhm=>by
     obtain⟨_,o',br,be⟩:=Qa.1 hm
     rw[Dv]at br
     have:o'=o:=by
      have h2:ops[i]?=some o':=ofL br
      exact AL (h2.symm.trans ho)
     subst this;rw[hq]at be;cases be
    refine ih _ _ _ b e h d done todo ba ap an { S with inv:=am,ag:=λs hs=>?_,sz:=by rw[size_put];exact S.sz,ad:=by rw[Zs];exact S.ad,ch:=λj hj=>?_,kp:=λk ok Z hl hk=>?_,sm:=S.sm.trans (Same.put a o.dst _ λt ht=>J6 (by
     obtain⟨bJ,e2⟩:=Au.1 ho
     rw[<-e2];simp) t ht) }
    ·by_cases hd:o.dst=some s
     ·obtain⟨hv,aG⟩:=S.qv i o s ho hq hd
      rw[hd,Z4 (by rw[S.sz];exact aG),hv]
     ·rw[Zj hd]
      refine S.ag s λk ok Z aa aS=>?_
      by_cases ah:k=i
      ·subst ah
       have:ok=o:=AL (Z.symm.trans ho)
       subst this;exact hd
      ·exact hs k ok Z aa (by rw[ai k ah];exact aS)
    ·have:j≠i:=λe=>bg (e ▸ hj)
     rw[ai j this];exact S.ch j hj
    ·by_cases ah:k=i
     ·subst ah;rw[af]at hk;cases hk
     ·rw[ai k ah]at hk;exact S.kp k ok Z hl hk
   |false=>
    have aQ:i∈Zk 0 ops.toList:=Qa.2 ⟨Da _,o,by rw[Dv];exact toL ho,hq⟩
    have aL:=Qm (l:=ops.toList) (k:=0)
    have aB:i∉done:=λhd=>by rw[(S.ch i aQ).2 hd]at aH;cases aH
    have ak:∃rest,todo=i::rest:=by
     have bh:i∈todo:=by
      have:=aQ
      rw[S.tt,AP]at this
      rcases this with h1|h1
      ·exact absurd (by simpa using h1) aB
      ·exact h1
     cases todo with
     |nil=>cases bh
     |cons j rest=>
      rcases Ay.1 bh with rfl|hr
      ·exact⟨rest,rfl⟩
      ·exfalso
       obtain⟨m,hm,em⟩:=BR hr
       have hp:∃pr,(j::rest)[m]?=some pr:=⟨_,AE (by simp;omega)⟩
       obtain⟨pr,bn⟩:=hp
       have hw:=Xa az (done.reverse.length+m) pr i (by rw[S.tt,Bf (by omega),Dl];exact bn) (by
        rw[S.tt,Bf (by omega),show done.reverse.length+m+1-done.reverse.length=m+1 by omega,List.getElem?_cons_succ,AE hm,em])
       have aI:pr∈j::rest:=Bl bn
       have bq:pr∈Zk 0 ops.toList:=by rw[S.tt];exact AO _ aI
       have hd:=(S.ch pr bq).1 (Yo hi hw)
       rw[S.tt,Ck]at aL
       exact aL.2.2 pr (by simpa using hd) pr aI rfl
    obtain⟨rest,rfl⟩:=ak
    have hW:=S.wt
    unfold wT at hW
    rw[ho]at hW
    simp only at hW
    cases hd:Z5 n [] o.dst with
    |false=>rw[hd]at hW;exact hW.elim
    |true=>
     rw[hd,cond_true]at hW
     refine X8 (b:=b) S.sb.defers ?_
     refine zia hW S.sb (Z1 _) B d λv d' h' hK=>⟨by rw[Zs];exact S.sb.defers,λv2 bA=>?_⟩
     have bM:b.put o.dst v2=b.put o.dst v:=bA.symm
     have aC:∀j,j∈Zk 0 ops.toList->((listed.setIfInBounds i true).getD j false=true↔j∈i::done):=λj hj=>by
      by_cases aP:j=i
      ·subst aP;rw[af];simp
      ·rw[ai j aP,S.ch j hj];simp[aP]
     have aO:zic ops (i::done) ops.size=false->∀k ok,ops[k]?=some ok->Zi ok=true->(listed.setIfInBounds i true).getD k false=true:=λhl k ok Z ar=>by
      obtain⟨j,hj,hw⟩:=Y8 (X9 hl k ok (Au.1 Z).1 Z ar)
      have aY:(listed.setIfInBounds i true).getD j false=true:=by
       rcases Ay.1 hj with rfl|hj
       ·exact af
       ·exact getD_set_true ((S.ch j (by rw[S.tt];simp[hj])).2 hj)
      exact Qb am aY hw
     have a7:wT P n ops h0 K (i::done) rest (putO e o.dst [] v) h'/\(∀k ok,ops[k]?=some ok->Zi ok=true->(listed.setIfInBounds i true).getD k false=false->zws ok (b.put o.dst v).eval h0 h'):=by
      cases hl:zic ops (i::done) ops.size with
      |true=>
       rw[hl,cond_true]at hK
       refine⟨hK.2,λk ok Z ar hf=>?_⟩
       have bD:Yg ops k (i::done)=false:=by
        cases ha:Yg ops k (i::done)with
        |false=>rfl
        |true=>
         exfalso
         obtain⟨j,hj,hw⟩:=Y8 ha
         have aY:(listed.setIfInBounds i true).getD j false=true:=by
          rcases Ay.1 hj with rfl|hj
          ·exact af
          ·exact getD_set_true ((S.ch j (by rw[S.tt];simp[hj])).2 hj)
         rw[Qb am aY hw]at hf;cases hf
       obtain⟨t,x,c,bL,hc,hb⟩:=zlp hK.1 k ok (Au.1 Z).1 Z ar bD
       unfold zws
       rw[bL]
       intro c' bi
       have:=Qg (S.sb.putO hd (λ_=>rfl) λhv=>absurd (Z1 _) hv) (c:=[]) (Z1 _) hc
       rw[this]at bi
       cases bi;exact hb
      |false=>rw[hl,cond_false]at hK;exact⟨hK,λk ok Z ar hf=>by rw[aO hl k ok Z ar]at hf;cases hf⟩
     have aZ:∀k ok t,ops[k]?=some ok->Zd ok=true->ok.dst=some t->o.dst≠some t:=λk ok t Z aa aE ay=>by
      have:=Z7 bP k i t (Au.1 Z).1 ab (by rw[Zg Z,aE]) (by rw[Zg ho,ay])
      subst this
      have:ok=o:=AL (Z.symm.trans ho)
      subst this;rw[hq]at aa;cases aa
     refine ih _ _ _ (b.put o.dst v) (putO e o.dst [] v) h' d' (i::done) rest ba ap an ⟨am,λs hs=>?_,by rw[size_put];exact S.sz,by rw[Zs];exact S.ad,S.sb.putO hd (λ_=>rfl) λhv=>absurd (Z1 _) hv,λk ok t Z aa aE=>?_,λk ok Z aa bB hh=>?_,by rw[S.tt];simp,aC,a7.1,a7.2,S.sm.trans (Same.put a o.dst _ λt ht=>J6 (by
      obtain⟨bJ,e2⟩:=Au.1 ho
      rw[<-e2];simp) t ht)⟩
     ·have bE:∀u,(∀k ok,ops[k]?=some ok->Zd ok=true->listed.getD k false=false->ok.dst≠some s)->o.dst≠some s->Zl (a.put o.dst u) s=Zl (b.put o.dst v) s:=λu h1 h2=>by
       rw[Zj h2,Zj h2];exact S.ag s h1
      have bO:∀k ok,ops[k]?=some ok->Zd ok=true->listed.getD k false=false->ok.dst≠some s:=λk ok Z aa aS=>by
       by_cases ah:k=i
       ·subst ah
        have:ok=o:=AL (Z.symm.trans ho)
        subst this;rw[hq]at aa;cases aa
       ·exact hs k ok Z aa (by rw[ai k ah];exact aS)
      by_cases aV:o.dst=some s
      ·rw[<-bM,aV]
       have aG:s<n:=by
        rw[aV]at hd
        unfold Z5 at hd
        simp at hd;exact hd.2
       rw[Z4 (by rw[S.sz];exact aG),Z4 (by rw[S.sb.size];exact aG)]
      ·exact bE v2 bO aV
     ·have:=S.qv k ok t Z aa aE
      rw[Zj (aZ k ok t Z aa aE)];exact this
     ·have a1:=bj k ok Z
      have a6:∀t∈tmpsOf ok.op.operands.toList,Zl (b.put o.dst v) t=Zl b t:=λt ht=>by
       refine Zj λay=>?_
       obtain⟨bQ,bz⟩:=Z8 au k ok (Au.1 Z).1 Z
       have hw:=Zt bQ i t ab (by rw[Zg ho,ay]) ht
       exact bz aa i aQ hw t (by rw[Zg ho,ay]) ht
      rw[Qr (b:=b) a1.2 a6]
      exact S.qx k ok Z aa bB (hh.imp id λr=>zg0 (Qq a6) r)
theorem zid{K:Env->Za->Prop}{Q:Exit->Act->World->Prop}(B:World)(ae:zu5 ops=true){e:Env}
  (H:wU P n h (λe'=>wT P n ops h K [] (Zk 0 ops.toList) e' h) ops.toList e) (hs:Sat n e a)
  (hQ:∀e' a' d' h',Sat n e' a'->Same (Qx ops.toList) a a'->K e' h'->Q .normal a' (mk B d' h')) (d:Nat):wpAny P .any ops Q ops.size (Br ops.size false) a (mk B d h):=by
 obtain⟨aG,ah,aA,ar,ai⟩:=zb5 ae
 obtain⟨f,e1,HT,am,hf⟩:=Xs (k:=0) H hs
 have hl:∀(i:Nat) (o:Oper),ops[i]?=some o->ops.toList[i]?=some o:=λi o ho=>toL ho
 have Z:∀i,Z0 0 ops.toList f a=Z0 (0+(ops.toList.take i).length) (ops.toList.drop i) f (Z0 0 (ops.toList.take i) f a):=λi=>by
  rw[<-Y9,Cm]
 refine zqz B ae (f:=f) hQ ops.size (BS ops.size) _ a (Z0 0 ops.toList f a) e1 h d [] (Zk 0 ops.toList) DG Dm (λk=>by rw[BF,getD_replicate_false];simp) ⟨⟨by simp,λj oj _ hl=>(by rw[getD_replicate_false]at hl;cases hl),λt ht aF=>by omega⟩,λs az=>?_,hs.size,hs.defers,am,λi o t ho hq hd=>?_,λi o ho hq h' hh=>?_,by simp,λj hj=>by rw[getD_replicate_false];simp,HT,λ_ _ _ _ _=>z0u _ _ _,Same.refl _ _⟩
 ·refine(Qj λo ho hq=>?_).symm
  obtain⟨i,hi,e⟩:=BR ho
  exact az i o (ofL (by rw[AE hi,e])) hq (getD_replicate_false _ _)
 ·obtain⟨h1,h2,h3⟩:=hf i o (hl i o ho) hq
  have an:t<n:=by
   rw[hd]at h2
   unfold Z5 at h2
   simp at h2;exact h2.2
  refine⟨?_,an⟩
  have ab:=(Au.1 ho).1
  have ap:(ops.toList.take i).length=i:=by simp;omega
  rw[Z i,ap,AX]
  have aB:ops.toList.drop i=o::ops.toList.drop (i+1):=by
   have:=(AQ.1 (hl i o ho))
   rw[A9 this.1,this.2]
  rw[aB]
  unfold Z0
  rw[hq,cond_true,Qj λo' aj ay af=>?_]
  ·rw[hd,Z4 (by rw[W5.1,hs.size];exact an)]
  ·obtain⟨m,hm,em⟩:=BR aj
   have aa:ops[i+1+m]?=some o':=by
    have:ops.toList[i+1+m]?=some o':=by rw[<-AY,AE hm,em]
    exact ofL this
   have:=Z7 aA i (i+1+m) t ab (Au.1 aa).1 (by rw[Zg ho,hd]) (by rw[Zg aa,af])
   omega
 ·obtain⟨h1,h2,h3⟩:=hf i o (hl i o ho) hq
  have ak:∀t∈tmpsOf o.op.operands.toList,Zl (Z0 0 ops.toList f a) t=Zl (Z0 0 (ops.toList.take i) f a) t:=λt ht=>by
   have ab:=(Au.1 ho).1
   rw[Z i]
   refine Qj λo' aj ay af=>?_
   obtain⟨m,hm,em⟩:=BR aj
   have aa:ops[i+m]?=some o':=by
    have:ops.toList[i+m]?=some o':=by rw[<-AY,AE hm,em]
    exact ofL this
   obtain⟨aC,_⟩:=Z8 ai i o ab ho
   have hw:=Zt aC (i+m) t (Au.1 aa).1 (by rw[Zg aa,af]) ht
   obtain⟨oj,au,x,hx,hb,aE⟩:=Region.waitsFor_spec hw
   have:=Zo ah i oj ab au x hx hb
   omega
  have:=h3 h' (hh.imp id λr=>zg0 (Qq ak) r)
  rw[AX]at this
  rw[Qr h1 ak]
  exact this
end
end Go.X.U
end
section
namespace Go.X
section
abbrev Rec:=LoopState->Option Code->Loop
end
section
def qfk(l:List Int):List Value:=l.map (Ep .i64)
structure LI (h0:Za) (M:Fr) (rec:Rec) (sp:Sl) (w x:Tr) (os:List Int) (g:Za):Prop where
 keep:Keep h0.size h0 g
 size:h0.size+7<=g.size
 v:∃sk si,Blk g h0.size (zpk w.kind w.text sk si).toArray/\Rd M (.row .str) w.keys [slV sk]/\Rd M (.row .tree) w.items [slV si]
 z:Blk g (h0.size+1) (zpk 0 ⟨#[]⟩ ⟨none,0,0⟩ ⟨none,0,0⟩).toArray
 o:∃so,Blk g (h0.size+2) #[slV so]/\Owns g (h0.size+7) 3 1 so (qfk os)/\so.len=os.length
 c:∃sk si,Blk g (h0.size+3) (zpk x.kind x.text sk si).toArray/\Rd M (.row .str) x.keys [slV sk]/\Rd M (.row .tree) x.items [slV si]
 p:Blk g (h0.size+4) #[slV sp]
 d:g[h0.size+5]?=some (.deferred (some []))
 l:g[h0.size+6]?=some (.loop (rec .ready none))
theorem LI.frame{h0:Za}{M:Fr}{rec:Rec}{sp:Sl}{w x:Tr}{os:List Int}{g g':Za}(I:LI h0 M rec sp w x os g)(k:Keep g.size g g'):LI h0 M rec sp w x os g':=by
 have hs:=I.size
 have hk:=k.size
 obtain⟨sk,si,v1,v2,v3⟩:=I.v
 obtain⟨so,o1,o2,o3⟩:=I.o
 obtain⟨tk,ti,c1,c2,c3⟩:=I.c
 exact⟨⟨by have:=I.keep.size;omega,λi hi=>(k.get i (by omega)).trans (I.keep.get i hi)⟩,by omega,⟨sk,si,v1.ofKeep k,v2,v3⟩,I.z.ofKeep k,⟨so,o1.ofKeep k,o2.keepN k,o3⟩,⟨tk,ti,c1.ofKeep k,c2,c3⟩,I.p.ofKeep k,by rw[k.get _ (by omega)];exact I.d,by rw[k.get _ (by omega)];exact I.l⟩
end
section
theorem OT.zero(h:Za):OT h zT [] (zpk 0 ⟨#[]⟩ ⟨none,0,0⟩ ⟨none,0,0⟩):=
 OT.mk (k:=0) (s:=⟨#[]⟩) (ks:=[]) (xs:=[]) (sk:=⟨none,0,0⟩) (si:=⟨none,0,0⟩) (bk:=[]) (bb:=[]) (b:=0) (cs:=#[]) (bf:=λ_=>[]) ⟨rfl,by simp,by simp,.inl ⟨rfl,rfl,rfl⟩⟩ ⟨rfl,by simp,by simp⟩ (.inl ⟨rfl,rfl,rfl⟩) (λi hi=>absurd hi (by simp)) (by simp)
end
section
def But(bs:List Nat)(h h':Za):Prop:=h.size<=h'.size/\∀i,i<h.size->i∉bs->h'[i]?=h[i]?
theorem But.refl(bs:List Nat)(h:Za):But bs h h:=⟨Av _,λ_ _ _=>rfl⟩
theorem But.trans{bs:List Nat}{a b c:Za}(x:But bs a b)(y:But bs b c):But bs a c:=⟨Ec x.1 y.1,λi hi hn=>(y.2 i (by have:=x.1;omega) hn).trans (x.2 i hi hn)⟩
end
end Go.X
end
section
namespace Go.X
open Go Go.X Go.Proofs Go.RowKit
section
theorem z9e:zcq [32,91,49,46,48,44,32,34,92,117,48,48,54,49,34,93,32]=(.mk 5 (bl []) [] [.mk 3 (bl [49]) [] [],.mk 4 (bl [97]) [] []],17,0):=by kernel_rfl
theorem zsp:zan [123,34,97,34,58,91,49,44,50,93,125]=(([123,34,97,34,58,91,49,44,50,93,125],[(6,(0,11),(0,0),[1],[(1,10)]),(5,(5,10),(1,4),[2,3],[(6,7),(8,9)]),(3,(6,7),(0,0),[],[]),(3,(8,9),(0,0),[],[])]),11,0):=by kernel_rfl
end
end Go.X
end
section
namespace Go.X
section
theorem qfl:We (Zh (Lib.itoa 1)).1=[49]:=by kernel_rfl
theorem z3v{l:List Bt}(h:l.length<=1000000)(h2:∀x∈l,x.size<=1048576):SL l:=⟨h,λx hx=>by rw[zo6];exact h2 x hx⟩
end
section
theorem zeq(h:Za)(R:Value->Za->Prop)
  (H:XC Tp 15 #[.string (⟨#[32,91,49,46,48,44,32,34,92,117,48,48,54,49,34,93,32]⟩:Bt)] h (λb c=>∃d e f g i j,b=.tuple #[.agg #[.int .i64 d,.string e,slV f,slV g],.int .i64 i,.int .i64 j]/\let k:=c.push (.cells #[.int .i64 0,.string (⟨#[]⟩:Bt),.slice none 0 0,.slice none 0 0] 26);XRunU Tp (AI 26 (.pointer (some ⟨c.size,0,none⟩)) (.agg #[.int .i64 d,.string e,slV f,slV g])) k (λl=>XC Tp 19 #[.string (⟨#[123,34,97,34,58,91,49,44,50,93,125]⟩:Bt)] l (λm n=>∃o p q r,m=.tuple #[.agg #[.string o,slV p],.int .i64 q,.int .i64 r]/\let s:=n.push (.cells #[.string (⟨#[]⟩:Bt),.slice none 0 0] 36);XRunU Tp (AI 36 (.pointer (some ⟨n.size,0,none⟩)) (.agg #[.string o,slV p])) s (λt=>∃u v,Zb t ⟨n.size,0,none⟩ 0 [.string u,slV v]/\let w:=t.push (.cells #[.string (⟨#[97]⟩:Bt),.string (⟨#[49]⟩:Bt)] 9);XC Tp 23 #[.agg #[.string u,slV v],.slice (some ⟨t.size,0,none⟩) 2 2] w (λx y=>∃z A,x=.tuple #[.int .i64 z,.bool A]/\∃B C,Zb y ⟨n.size,0,none⟩ 0 [.string B,slV C]/\XC Tp 21 #[.agg #[.string B,slV C],.int .i64 3] y (λD E=>∃F G I J L,D=.tuple #[.agg #[.int .i64 F,.string G,slV I,slV J],.bool L]/\let M:=E.push (.cells #[.int .i64 0,.string (⟨#[]⟩:Bt),.slice none 0 0,.slice none 0 0] 26);XRunU Tp (AI 26 (.pointer (some ⟨E.size,0,none⟩)) (.agg #[.int .i64 F,.string G,slV I,slV J])) M (λN=>(∃O P Q S,((bif (j==0)then(i==17)else false)=true->Zb N ⟨c.size,0,none⟩ 0 [.int .i64 O,.string P,slV Q,slV S])/\∃T:Value->Za->Prop,((bif (j==0)then(i==17)else false)=true->XC Tp 58 #[.int .i64 1] N (λU V=>∃W X Y Z,U=.agg #[.int .i64 W,.string X,slV Y,slV Z]/\T (.agg #[.int .i64 W,.string X,slV Y,slV Z]) V))/\((bif (j==0)then(i==17)else false)=false->∃aa ab ac ad,T (.agg #[.int .i64 aa,.string ab,slV ac,slV ad]) N)/\((bif (j==0)then(i==17)else false)=true->∀ae af,T ae af->∃ag ah ai aj,ae=.agg #[.int .i64 ag,.string ah,slV ai,slV aj])/\∀ak:Int,∀al:Bt,∀am an:Sl,∀ao,T (.agg #[.int .i64 ak,.string al,slV am,slV an]) ao->∃ap:Value->Za->Prop,((bif (j==0)then(i==17)else false)=true->XC Tp 28 #[.string (⟨#[97]⟩:Bt)] ao (λaq ar=>∃au av aw ax,aq=.agg #[.int .i64 au,.string av,slV aw,slV ax]/\ap (.agg #[.int .i64 au,.string av,slV aw,slV ax]) ar))/\((bif (j==0)then(i==17)else false)=false->∃ay az aA aB,ap (.agg #[.int .i64 ay,.string az,slV aA,slV aB]) ao)/\((bif (j==0)then(i==17)else false)=true->∀aC aD,ap aC aD->∃aE aF aG aH,aC=.agg #[.int .i64 aE,.string aF,slV aG,slV aH])/\∀aI:Int,∀aJ:Bt,∀aL aM:Sl,∀aN,ap (.agg #[.int .i64 aI,.string aJ,slV aL,slV aM]) aN->∃aO:Value->Za->Prop,((bif (j==0)then(i==17)else false)=true->let aP:=aN.push (.cells #[.int .i64 ak,.string al,slV am,slV an,.int .i64 aI,.string aJ,slV aL,slV aM] 26);aO (.slice (some ⟨aN.size,0,none⟩) 2 2) aP)/\((bif (j==0)then(i==17)else false)=false->∃aQ,aO (slV aQ) aN)/\((bif (j==0)then(i==17)else false)=true->∀aS aT,aO aS aT->∃aU,aS=slV aU)/\∀aV:Sl,∀aW,aO (slV aV) aW->∃aX:Value->Za->Prop,((bif (j==0)then(i==17)else false)=true->XC Tp 29 #[slV aV] aW (λaY aZ=>∃a0 a1 a2 a3,aY=.agg #[.int .i64 a0,.string a1,slV a2,slV a3]/\aX (.agg #[.int .i64 a0,.string a1,slV a2,slV a3]) aZ))/\((bif (j==0)then(i==17)else false)=false->∃a4 a5 a6 a7,aX (.agg #[.int .i64 a4,.string a5,slV a6,slV a7]) aW)/\((bif (j==0)then(i==17)else false)=true->∀a8 a9,aX a8 a9->∃ba bb bc bd,a8=.agg #[.int .i64 ba,.string bb,slV bc,slV bd])/\∀be:Int,∀bf:Bt,∀bg bh:Sl,∀bi,aX (.agg #[.int .i64 be,.string bf,slV bg,slV bh]) bi->∃bj:Value->Za->Prop,((bif (j==0)then(i==17)else false)=true->XC Tp 16 #[.agg #[.int .i64 O,.string P,slV Q,slV S],.agg #[.int .i64 be,.string bf,slV bg,slV bh]] bi (λbk bl=>∃bm,bk=.bool bm/\bj (.bool bm) bl))/\((bif (j==0)then(i==17)else false)=false->∃bn,bj (.bool bn) bi)/\((bif (j==0)then(i==17)else false)=true->∀bo bp,bj bo bp->∃bq,bo=.bool bq)/\∀br:Bool,∀bs,bj (.bool br) bs->∃bt,((bif (bif (bif (bif (bif (bif (j==0)then(i==17)else false)then br else false)then(r==0)else false)then(z==3)else false)then A else false)then L else false)=true->Ze bs (AD ⟨E.size,0,none⟩ 1)=some (.string bt))/\R (.bool (bif (bif (bif (bif (bif (bif (bif (j==0)then(i==17)else false)then br else false)then(r==0)else false)then(z==3)else false)then A else false)then L else false)then(bt.toList==(⟨#[50]⟩:Bt).toList)else false)) bs)/\(∃bu:Value->Za->Prop,((bif (j==0)then(i==17)else false)=true->XC Tp 58 #[.int .i64 1] N (λbv bw=>∃bx bz bA bB,bv=.agg #[.int .i64 bx,.string bz,slV bA,slV bB]/\bu (.agg #[.int .i64 bx,.string bz,slV bA,slV bB]) bw))/\((bif (j==0)then(i==17)else false)=false->∃bC bD bE bF,bu (.agg #[.int .i64 bC,.string bD,slV bE,slV bF]) N)/\((bif (j==0)then(i==17)else false)=true->∀bG bH,bu bG bH->∃bI bJ bL bM,bG=.agg #[.int .i64 bI,.string bJ,slV bL,slV bM])/\∀bN:Int,∀bO:Bt,∀bP bQ:Sl,∀bS,bu (.agg #[.int .i64 bN,.string bO,slV bP,slV bQ]) bS->(∃bT bU bV bW,((bif (j==0)then(i==17)else false)=true->Zb bS ⟨c.size,0,none⟩ 0 [.int .i64 bT,.string bU,slV bV,slV bW])/\∃bX:Value->Za->Prop,((bif (j==0)then(i==17)else false)=true->XC Tp 28 #[.string (⟨#[97]⟩:Bt)] bS (λbY bZ=>∃b0 b1 b2 b3,bY=.agg #[.int .i64 b0,.string b1,slV b2,slV b3]/\bX (.agg #[.int .i64 b0,.string b1,slV b2,slV b3]) bZ))/\((bif (j==0)then(i==17)else false)=false->∃b4 b5 b6 b7,bX (.agg #[.int .i64 b4,.string b5,slV b6,slV b7]) bS)/\((bif (j==0)then(i==17)else false)=true->∀b8 b9,bX b8 b9->∃ca cb cc cd,b8=.agg #[.int .i64 ca,.string cb,slV cc,slV cd])/\∀ce:Int,∀cf:Bt,∀cg ch:Sl,∀ci,bX (.agg #[.int .i64 ce,.string cf,slV cg,slV ch]) ci->∃cj:Value->Za->Prop,((bif (j==0)then(i==17)else false)=true->let ck:=ci.push (.cells #[.int .i64 bN,.string bO,slV bP,slV bQ,.int .i64 ce,.string cf,slV cg,slV ch] 26);cj (.slice (some ⟨ci.size,0,none⟩) 2 2) ck)/\((bif (j==0)then(i==17)else false)=false->∃cl,cj (slV cl) ci)/\((bif (j==0)then(i==17)else false)=true->∀cm cn,cj cm cn->∃co,cm=slV co)/\∀cp:Sl,∀cq,cj (slV cp) cq->∃cr:Value->Za->Prop,((bif (j==0)then(i==17)else false)=true->XC Tp 29 #[slV cp] cq (λcs ct=>∃cu cv cw cx,cs=.agg #[.int .i64 cu,.string cv,slV cw,slV cx]/\cr (.agg #[.int .i64 cu,.string cv,slV cw,slV cx]) ct))/\((bif (j==0)then(i==17)else false)=false->∃cy cz cA cB,cr (.agg #[.int .i64 cy,.string cz,slV cA,slV cB]) cq)/\((bif (j==0)then(i==17)else false)=true->∀cC cD,cr cC cD->∃cE cF cG cH,cC=.agg #[.int .i64 cE,.string cF,slV cG,slV cH])/\∀cI:Int,∀cJ:Bt,∀cL cM:Sl,∀cN,cr (.agg #[.int .i64 cI,.string cJ,slV cL,slV cM]) cN->∃cO:Value->Za->Prop,((bif (j==0)then(i==17)else false)=true->XC Tp 16 #[.agg #[.int .i64 bT,.string bU,slV bV,slV bW],.agg #[.int .i64 cI,.string cJ,slV cL,slV cM]] cN (λcP cQ=>∃cS,cP=.bool cS/\cO (.bool cS) cQ))/\((bif (j==0)then(i==17)else false)=false->∃cT,cO (.bool cT) cN)/\((bif (j==0)then(i==17)else false)=true->∀cU cV,cO cU cV->∃cW,cU=.bool cW)/\∀cX:Bool,∀cY,cO (.bool cX) cY->∃cZ,((bif (bif (bif (bif (bif (bif (j==0)then(i==17)else false)then cX else false)then(r==0)else false)then(z==3)else false)then A else false)then L else false)=true->Ze cY (AD ⟨E.size,0,none⟩ 1)=some (.string cZ))/\R (.bool (bif (bif (bif (bif (bif (bif (bif (j==0)then(i==17)else false)then cX else false)then(r==0)else false)then(z==3)else false)then A else false)then L else false)then(cZ.toList==(⟨#[50]⟩:Bt).toList)else false)) cY)/\(∃c0:Value->Za->Prop,((bif (j==0)then(i==17)else false)=true->XC Tp 28 #[.string (⟨#[97]⟩:Bt)] bS (λc1 c2=>∃c3 c4 c5 c6,c1=.agg #[.int .i64 c3,.string c4,slV c5,slV c6]/\c0 (.agg #[.int .i64 c3,.string c4,slV c5,slV c6]) c2))/\((bif (j==0)then(i==17)else false)=false->∃c7 c8 c9 da,c0 (.agg #[.int .i64 c7,.string c8,slV c9,slV da]) bS)/\((bif (j==0)then(i==17)else false)=true->∀db dc,c0 db dc->∃dd de df dg,db=.agg #[.int .i64 dd,.string de,slV df,slV dg])/\∀dh:Int,∀di:Bt,∀dj dk:Sl,∀dl,c0 (.agg #[.int .i64 dh,.string di,slV dj,slV dk]) dl->(∃dm dn dp dq,((bif (j==0)then(i==17)else false)=true->Zb dl ⟨c.size,0,none⟩ 0 [.int .i64 dm,.string dn,slV dp,slV dq])/\∃dr:Value->Za->Prop,((bif (j==0)then(i==17)else false)=true->let ds:=dl.push (.cells #[.int .i64 bN,.string bO,slV bP,slV bQ,.int .i64 dh,.string di,slV dj,slV dk] 26);dr (.slice (some ⟨dl.size,0,none⟩) 2 2) ds)/\((bif (j==0)then(i==17)else false)=false->∃dt,dr (slV dt) dl)/\((bif (j==0)then(i==17)else false)=true->∀du dv,dr du dv->∃dw,du=slV dw)/\∀dx:Sl,∀dy,dr (slV dx) dy->∃dz:Value->Za->Prop,((bif (j==0)then(i==17)else false)=true->XC Tp 29 #[slV dx] dy (λdA dB=>∃dC dD dE dF,dA=.agg #[.int .i64 dC,.string dD,slV dE,slV dF]/\dz (.agg #[.int .i64 dC,.string dD,slV dE,slV dF]) dB))/\((bif (j==0)then(i==17)else false)=false->∃dG dH dI dJ,dz (.agg #[.int .i64 dG,.string dH,slV dI,slV dJ]) dy)/\((bif (j==0)then(i==17)else false)=true->∀dL dM,dz dL dM->∃dN dO dP dQ,dL=.agg #[.int .i64 dN,.string dO,slV dP,slV dQ])/\∀dS:Int,∀dT:Bt,∀dU dV:Sl,∀dW,dz (.agg #[.int .i64 dS,.string dT,slV dU,slV dV]) dW->∃dX:Value->Za->Prop,((bif (j==0)then(i==17)else false)=true->XC Tp 16 #[.agg #[.int .i64 dm,.string dn,slV dp,slV dq],.agg #[.int .i64 dS,.string dT,slV dU,slV dV]] dW (λdY dZ=>∃d0,dY=.bool d0/\dX (.bool d0) dZ))/\((bif (j==0)then(i==17)else false)=false->∃d1,dX (.bool d1) dW)/\((bif (j==0)then(i==17)else false)=true->∀d2 d3,dX d2 d3->∃d4,d2=.bool d4)/\∀d5:Bool,∀d6,dX (.bool d5) d6->∃d7,((bif (bif (bif (bif (bif (bif (j==0)then(i==17)else false)then d5 else false)then(r==0)else false)then(z==3)else false)then A else false)then L else false)=true->Ze d6 (AD ⟨E.size,0,none⟩ 1)=some (.string d7))/\R (.bool (bif (bif (bif (bif (bif (bif (bif (j==0)then(i==17)else false)then d5 else false)then(r==0)else false)then(z==3)else false)then A else false)then L else false)then(d7.toList==(⟨#[50]⟩:Bt).toList)else false)) d6)/\(∃d8:Value->Za->Prop,((bif (j==0)then(i==17)else false)=true->let d9:=dl.push (.cells #[.int .i64 bN,.string bO,slV bP,slV bQ,.int .i64 dh,.string di,slV dj,slV dk] 26);d8 (.slice (some ⟨dl.size,0,none⟩) 2 2) d9)/\((bif (j==0)then(i==17)else false)=false->∃ea,d8 (slV ea) dl)/\((bif (j==0)then(i==17)else false)=true->∀eb ec,d8 eb ec->∃ed,eb=slV ed)/\∀ee:Sl,∀ef,d8 (slV ee) ef->(∃eg eh ei ej,((bif (j==0)then(i==17)else false)=true->Zb ef ⟨c.size,0,none⟩ 0 [.int .i64 eg,.string eh,slV ei,slV ej])/\∃ek:Value->Za->Prop,((bif (j==0)then(i==17)else false)=true->XC Tp 29 #[slV ee] ef (λel em=>∃en eo ep eq,el=.agg #[.int .i64 en,.string eo,slV ep,slV eq]/\ek (.agg #[.int .i64 en,.string eo,slV ep,slV eq]) em))/\((bif (j==0)then(i==17)else false)=false->∃er es et eu,ek (.agg #[.int .i64 er,.string es,slV et,slV eu]) ef)/\((bif (j==0)then(i==17)else false)=true->∀ev ew,ek ev ew->∃ex ey ez eA,ev=.agg #[.int .i64 ex,.string ey,slV ez,slV eA])/\∀eB:Int,∀eC:Bt,∀eD eE:Sl,∀eF,ek (.agg #[.int .i64 eB,.string eC,slV eD,slV eE]) eF->∃eG:Value->Za->Prop,((bif (j==0)then(i==17)else false)=true->XC Tp 16 #[.agg #[.int .i64 eg,.string eh,slV ei,slV ej],.agg #[.int .i64 eB,.string eC,slV eD,slV eE]] eF (λeH eI=>∃eJ,eH=.bool eJ/\eG (.bool eJ) eI))/\((bif (j==0)then(i==17)else false)=false->∃eL,eG (.bool eL) eF)/\((bif (j==0)then(i==17)else false)=true->∀eM eN,eG eM eN->∃eO,eM=.bool eO)/\∀eP:Bool,∀eQ,eG (.bool eP) eQ->∃eS,((bif (bif (bif (bif (bif (bif (j==0)then(i==17)else false)then eP else false)then(r==0)else false)then(z==3)else false)then A else false)then L else false)=true->Ze eQ (AD ⟨E.size,0,none⟩ 1)=some (.string eS))/\R (.bool (bif (bif (bif (bif (bif (bif (bif (j==0)then(i==17)else false)then eP else false)then(r==0)else false)then(z==3)else false)then A else false)then L else false)then(eS.toList==(⟨#[50]⟩:Bt).toList)else false)) eQ)/\(∃eT:Value->Za->Prop,((bif (j==0)then(i==17)else false)=true->XC Tp 29 #[slV ee] ef (λeU eV=>∃eW eX eY eZ,eU=.agg #[.int .i64 eW,.string eX,slV eY,slV eZ]/\eT (.agg #[.int .i64 eW,.string eX,slV eY,slV eZ]) eV))/\((bif (j==0)then(i==17)else false)=false->∃e0 e1 e2 e3,eT (.agg #[.int .i64 e0,.string e1,slV e2,slV e3]) ef)/\((bif (j==0)then(i==17)else false)=true->∀e4 e5,eT e4 e5->∃e6 e7 e8 e9,e4=.agg #[.int .i64 e6,.string e7,slV e8,slV e9])/\∀fa:Int,∀fb:Bt,∀fc fd:Sl,∀fe,eT (.agg #[.int .i64 fa,.string fb,slV fc,slV fd]) fe->∃ff fg fh fi,((bif (j==0)then(i==17)else false)=true->Zb fe ⟨c.size,0,none⟩ 0 [.int .i64 ff,.string fg,slV fh,slV fi])/\∃fj:Value->Za->Prop,((bif (j==0)then(i==17)else false)=true->XC Tp 16 #[.agg #[.int .i64 ff,.string fg,slV fh,slV fi],.agg #[.int .i64 fa,.string fb,slV fc,slV fd]] fe (λfk fl=>∃fm,fk=.bool fm/\fj (.bool fm) fl))/\((bif (j==0)then(i==17)else false)=false->∃fn,fj (.bool fn) fe)/\((bif (j==0)then(i==17)else false)=true->∀fo fp,fj fo fp->∃fq,fo=.bool fq)/\∀fr:Bool,∀fs,fj (.bool fr) fs->∃ft,((bif (bif (bif (bif (bif (bif (j==0)then(i==17)else false)then fr else false)then(r==0)else false)then(z==3)else false)then A else false)then L else false)=true->Ze fs (AD ⟨E.size,0,none⟩ 1)=some (.string ft))/\R (.bool (bif (bif (bif (bif (bif (bif (bif (j==0)then(i==17)else false)then fr else false)then(r==0)else false)then(z==3)else false)then A else false)then L else false)then(ft.toList==(⟨#[50]⟩:Bt).toList)else false)) fs)))))))))))):
  XC Tp 13 #[] h R:=
 XF ⟨[(5,8000)],[],[]⟩ [.tmp 0] 65 Tryz.func13 H
end
section
theorem zjn(gl:Fr)(Z:Bt)(R:Tr->Prop)
  (H:R (Tr.mk 4 Z [] [])):
  PC Tp gl 28 [Arg.mk .str Z] [.tree] R:=
 PF ⟨[],[],[],[]⟩ [.cell 2 26] 5 Tryz.func28 H
end
end Go.X
end
section
namespace Go.X
open Go Go.X Go.Proofs Go.RowKit
section
variable {k k':Int} {s s':Bt} {a b a' b':Sl} {f:FuncId} {args:Array Value} {h:Za} {g:Bool} {M:Fr}
def trV(k:Int)(s:Bt)(a b:Sl):Value:=.agg #[.int .i64 k,.string s,slV a,slV b]
theorem z9f(h:trV k s a b=trV k' s' a' b'):k=k'/\s=s'/\a=a'/\b=b':=by
 unfold trV slV at h
 injection h with h
 simp only[Array.mk.injEq,Ca,and_true]at h
 obtain⟨h1,h2,h3,h4⟩:=h
 injection h1 with _ h1
 injection h2 with h2
 injection h3 with e1 e2 e3
 injection h4 with f1 f2 f3
 refine⟨h1,h2,?_,?_⟩
 ·cases a;cases a';simp_all
 ·cases b;cases b';simp_all
theorem Zx(hg:g=true){Kt:Int->Bt->Sl->Sl->Za->Prop}(E:XC Tp f args h λv h'=>∃k s a b,v=trV k s a b/\Kt k s a b h'):
  ∃J:Value->Za->Prop,(g=true->XC Tp f args h λv h'=>∃k:Int,∃s:Bt,∃a:Sl,∃b:Sl,v=trV k s a b/\J (trV k s a b) h')/\(g=false->∃k:Int,∃s:Bt,∃a:Sl,∃b:Sl,J (trV k s a b) h) /\
   (g=true->∀v h',J v h'->∃k:Int,∃s:Bt,∃a:Sl,∃b:Sl,v=trV k s a b)/\∀k:Int,∀s:Bt,∀a:Sl,∀b:Sl,∀h',J (trV k s a b) h'->Kt k s a b h':=by
 refine⟨λv h'=>∃k s a b,v=trV k s a b/\Kt k s a b h',λ_=>XC.mono E λv h' ⟨k,s,a,b,e,H⟩=>⟨k,s,a,b,e,k,s,a,b,rfl,H⟩,λhx=>(by rw[hg]at hx;cases hx),λ_ v h' ⟨k,s,a,b,e,_⟩=>⟨k,s,a,b,e⟩,λk s a b h' ⟨k',s',a',b',e,H⟩=>?_⟩
 obtain⟨rfl,rfl,rfl,rfl⟩:=z9f e
 exact H
theorem Qc(hg:g=true){Kt:Bool->Za->Prop}(E:XC Tp f args h λv h'=>∃r,v=.bool r/\Kt r h'):
  ∃J:Value->Za->Prop,(g=true->XC Tp f args h λv h'=>∃r:Bool,v=.bool r/\J (.bool r) h')/\(g=false->∃r:Bool,J (.bool r) h)/\(g=true->∀v h',J v h'->∃r:Bool,v=.bool r)/\∀r:Bool,∀h',J (.bool r) h'->Kt r h':=by
 refine⟨λv h'=>∃r,v=.bool r/\Kt r h',λ_=>XC.mono E λv h' ⟨r,e,H⟩=>⟨r,e,r,rfl,H⟩,λhx=>(by rw[hg]at hx;cases hx),λ_ v h' ⟨r,e,_⟩=>⟨r,e⟩,λr h' ⟨r',e,H⟩=>?_⟩
 injection e with e
 subst e;exact H
theorem Jp{h h1:Za}{s:Sl}(hg:g=true){Kt:Sl->Za->Prop}(E:Kt s h1):
  ∃J:Value->Za->Prop,(g=true->J (slV s) h1)/\(g=false->∃x:Sl,J (slV x) h)/\(g=true->∀v h',J v h'->∃x:Sl,v=slV x)/\∀x:Sl,∀h',J (slV x) h'->Kt x h':=by
 refine⟨λv h'=>∃x,v=slV x/\Kt x h',λ_=>⟨s,rfl,E⟩,λhx=>(by rw[hg]at hx;cases hx),λ_ v h' ⟨x,e,_⟩=>⟨x,e⟩,λx h' ⟨x',e,H⟩=>?_⟩
 have:x=x':=by
  unfold slV at e
  injection e with e1 e2 e3
  cases x;cases x';simp_all
 subst this;exact H
theorem qb2{b:Nat}(hb:M b=none){t1 t2:Tr}{w1 w2:List Value}(h1:Rd M .tree t1 w1)(h2:Rd M .tree t2 w2)(l1:w1.length=4)(l2:w2.length=4):Rd (Mx M b (w1++w2).toArray) (.row .tree) [t1,t2] [slV ⟨some ⟨b,0,none⟩,2,2⟩]:=by
 have le:Fr.le M (Mx M b (w1++w2).toArray):=λc cs e=>by
  unfold Mx
  by_cases hc:c=b
  ·subst hc;rw[hb]at e;cases e
  ·rw[if_neg hc];exact e
 refine⟨_,rfl,_,_,rfl,by simp,.inr ⟨b,0,_,rfl,by unfold Mx;rw[if_pos rfl],λi hi=>?_⟩⟩
 have hi:i<2:=hi
 rcases(by omega:i=0\/i=1)with rfl|rfl
 ·have:cut (w1++w2).toArray (0+0*sz .tree) (sz .tree)=w1:=by
   show List.take 4 (List.drop 0 (w1++w2))=w1
   rw[Cc,<-l1,Dn]
  rw[this];exact Rd.mono le h1
 ·have:cut (w1++w2).toArray (0+1*sz .tree) (sz .tree)=w2:=by
   show List.take 4 (List.drop 4 (w1++w2))=w2
   rw[List.drop_left' l1,<-l2,BL]
  rw[this];exact Rd.mono le h2
theorem qeg{b:Nat}{s1 s2:Bt}:Rd (Mx M b #[.string s1,.string s2]) (.row .str) [s1,s2] [slV ⟨some ⟨b,0,none⟩,2,2⟩]:=by
 refine⟨_,rfl,_,_,rfl,by simp,.inr ⟨b,0,_,rfl,by unfold Mx;rw[if_pos rfl],λi hi=>?_⟩⟩
 have hi:i<2:=hi
 rcases(by omega:i=0\/i=1)with rfl|rfl <;> rfl
theorem z0v{b:Bool}{w:Value}(h:RdV M .bool b w):w=.bool b:=by
 rw[zto rfl]at h;simpa[Rd]using h
theorem znp{T:Tr}(h:RdV M .tree T (trV k s a b)):Rd M .tree T [.int .i64 k,.string s,slV a,slV b]:=by
 unfold RdV at h
 simp only[zom,if_true]at h
 obtain⟨cs,e,hr⟩:=h
 unfold trV at e
 injection e with e
 have:cs=[.int .i64 k,.string s,slV a,slV b]:=by have:=congrArg Array.toList e;simpa using this.symm
 rw[<-this];exact hr
def smA:Tr:=.mk 5 (bl []) [] [.mk 3 (bl [49]) [] [],.mk 4 (bl [97]) [] []]
structure Cx (gl:Fr) (b2 b29:Nat) (k2 k29:Int) (s2:Bt) (a2 c2 a29 c29:Sl) (h:Za) (M:Fr):Prop where
 hM:Fr.le gl M
 ag:AgM M h
 V:Blk h b2 #[.int .i64 k2,.string s2,slV a2,slV c2]
 rv:RdV M .tree smA (trV k2 s2 a2 c2)
 X:Blk h b29 #[.int .i64 k29,.string (bl [50]),slV a29,slV c29]
section
variable {gl : Fr} {b2 b29 : Nat} {k2 k29 : Int} {s2 : Bt} {a2 c2 a29 c29 : Sl} {h : Za} {M : Fr}
theorem Cx.later(c:Cx gl b2 b29 k2 k29 s2 a2 c2 a29 c29 h M){h':Za}{M':Fr}(L:Later h M h' M'):Cx gl b2 b29 k2 k29 s2 a2 c2 a29 c29 h' M':=
 ⟨c.hM.trans L.le,L.ag,c.V.keep (L.keep.get b2 c.V.lt),RdV.mono L.le c.rv,c.X.keep (L.keep.get b29 c.X.lt)⟩
theorem Cx.num(c:Cx gl b2 b29 k2 k29 s2 a2 c2 a29 c29 h M)(hg:GL gl){K:Int->Bt->Sl->Sl->Za->Prop}(hK:∀k s a b h' M',Later h M h' M'->RdV M' .tree (.mk 3 (bl [49]) [] []) (trV k s a b)->K k s a b h'):XC Tp 58 #[.int .i64 1] h λv h'=>∃k s a b,v=trV k s a b/\K k s a b h':=by
 refine(qa1 hg (n:=1) (by decide) (by decide) (R:=λr=>r=.mk 3 (bl [49]) [] []) (by rw[qfl])).go c.hM c.ag (Qw (a:=Arg.mk (.int .i64) 1) (zbp _ _) Yk) λv h' M' r L hv hr=>?_
 subst hr
 have rv:=zqn.1 hv
 obtain⟨a,b,rfl,_⟩:=zdh rv
 exact⟨_,_,a,b,rfl,hK _ _ _ _ _ _ L rv⟩
theorem Cx.of(c:Cx gl b2 b29 k2 k29 s2 a2 c2 a29 c29 h M){K:Int->Bt->Sl->Sl->Za->Prop}(hK:∀k s a b h' M',Later h M h' M'->RdV M' .tree (.mk 4 (bl [97]) [] []) (trV k s a b)->K k s a b h'):XC Tp 28 #[.string ⟨#[97]⟩] h λv h'=>∃k s a b,v=trV k s a b/\K k s a b h':=by
 refine(show PC Tp gl 28 [Arg.mk .str ⟨#[97]⟩] [.tree] (λr=>r=.mk 4 (bl [97]) [] [])from by apply zjn;rfl).go c.hM c.ag (Qw (a:=Arg.mk .str _) (rdStr _) Yk) λv h' M' r L hv hr=>?_
 subst hr
 have rv:=zqn.1 hv
 obtain⟨a,b,rfl,_⟩:=zdh rv
 exact⟨_,_,a,b,rfl,hK _ _ _ _ _ _ L rv⟩
theorem Cx.row(c:Cx gl b2 b29 k2 k29 s2 a2 c2 a29 c29 h M){x:Sl}(hx:Rd M (.row .tree) [.mk 3 (bl [49]) [] [],.mk 4 (bl [97]) [] []] [slV x]){K:Int->Bt->Sl->Sl->Za->Prop}(hK:∀k s a b h' M',Later h M h' M'->RdV M' .tree smA (trV k s a b)->K k s a b h'):XC Tp 29 #[slV x] h λv h'=>∃k s a b,v=trV k s a b/\K k s a b h':=by
 refine(z5a (gl:=gl) (l:=[.mk 3 (bl [49]) [] [],.mk 4 (bl [97]) [] []]) (R:=λr=>r=smA) rfl).go c.hM c.ag (Qw (a:=Arg.mk (.row .tree) _) ((zto rfl).2 hx) Yk) λv h' M' r L hv hr=>?_
 subst hr
 have rv:=zqn.1 hv
 obtain⟨a,b,rfl,_⟩:=zdh rv
 exact⟨_,_,a,b,rfl,hK _ _ _ _ _ _ L rv⟩
theorem Cx.eq(c:Cx gl b2 b29 k2 k29 s2 a2 c2 a29 c29 h M)(hx:RdV M .tree smA (trV k s a b)){K:Bool->Za->Prop}(hK:∀h' M',Later h M h' M'->K true h'):XC Tp 16 #[trV k2 s2 a2 c2,trV k s a b] h λv h'=>∃r,v=.bool r/\K r h':=by
 refine(zze (gl:=gl) smA smA (R:=λr=>r=true) λr hr=>hr.2 rfl).go c.hM c.ag (Qw (a:=Arg.mk .tree _) c.rv (Qw (a:=Arg.mk .tree _) hx Yk)) λv h' M' r L hv hr=>?_
 have hr:r=true:=hr
 subst hr
 exact⟨true,z4t hv,hK _ _ L⟩
theorem Cx.lit(c:Cx gl b2 b29 k2 k29 s2 a2 c2 a29 c29 h M){T:TypeId}(h1:RdV M .tree (.mk 3 (bl [49]) [] []) (trV k s a b))(h2:RdV M .tree (.mk 4 (bl [97]) [] []) (trV k' s' a' b')):
  ∃M',Later h M (h.push (.cells #[.int .i64 k,.string s,slV a,slV b,.int .i64 k',.string s',slV a',slV b'] T)) M'/\Rd M' (.row .tree) [.mk 3 (bl [49]) [] [],.mk 4 (bl [97]) [] []] [slV ⟨some ⟨h.size,0,none⟩,2,2⟩]:=by
 refine⟨_,Later.frz c.ag _ T,qb2 (w1:=[_,_,_,_]) (w2:=[_,_,_,_]) ?_ (znp h1) (znp h2) rfl rfl⟩
 cases e:M h.size with
 |none=>rfl
 |some cs=>have:=c.ag.lt e;omega
end
def tb9:Bs:=[123,34,97,34,58,91,49,44,50,93,125]
def ns9:List Nd:=[(6,(0,11),(0,0),[1],[(1,10)]),(5,(5,10),(1,4),[2,3],[(6,7),(8,9)]),(3,(6,7),(0,0),[],[]),(3,(8,9),(0,0),[],[])]
theorem at9:atR tb9 ns9 [⟨#[97]⟩,⟨#[49]⟩]=(3,true):=by kernel_rfl
theorem nd9:z81 tb9 ns9 3=(.mk 3 (bl [50]) [] [],true):=by kernel_rfl
theorem qeh{t:Bs}{nodes:List Nd}{sl:Sl}(h:Rd M (.row tNd) nodes [slV sl]):RdV M zul (bl t,nodes) (.agg #[.string (bl t),slV sl]):=⟨[.string (bl t),slV sl],rfl,[_],[_],rfl,rfl,h⟩
set_option maxRecDepth 100000 in
set_option maxHeartbeats 4000000 in
theorem z0w{gl:Fr}(hg:GL gl):PC Tp gl 13 [] [.bool] (λr=>r=true):=by
 intro h M vs hM ag ha
 match vs,ha with
 |[],_=>
 apply PX.of
 apply zeq
 refine(zno hg (s:=[32,91,49,46,48,44,32,34,92,117,48,48,54,49,34,93,32]) (R:=λr=>r=(smA,17,0)) z9e).go hM ag (Qw (a:=Arg.mk .str _) (rdStr _) Yk) λv1 h2 M2 r L2 hv hr=>?_
 subst hr
 obtain⟨_,⟨u1,_,rfl,hx,u2,_,rfl,hy,u3,rfl,hz⟩,rfl⟩:=hv
 obtain⟨sk,si,rfl,_⟩:=zdh hx
 obtain rfl:=Zy hy
 obtain rfl:=Zy hz
 refine⟨_,_,sk,si,_,_,rfl,?_⟩
 have a8:=hM.trans L2.le
 intro h9
 have k9:Keep h2.size h2 h9:=Keep.push _ _ (Av _)
 have z9:h9.size=h2.size+1:=AM _
 have V9:Blk h9 h2.size #[.int .i64 0,.string ⟨#[]⟩,.slice none 0 0,.slice none 0 0]:=Blk.new _ _ _
 clear_value h9
 refine zbm V9 λbI bJ du bF=>?_
 have bY:Keep h2.size h2 bI:=⟨by omega,λj hj=>(bJ j (by omega)).trans (k9.get j hj)⟩
 have ai:=Later.same L2.ag bY
 refine(zqb hg (s:=tb9) (R:=λr=>r=((bl tb9,ns9),11,0)) (by rw[show zan tb9=_ from zsp];rfl)).go a8 ai.ag (Qw (a:=Arg.mk .str _) (rdStr _) Yk) λv aa am r ab hv hr=>?_
 subst hr
 obtain⟨sl,rfl,rd⟩:=qby (x:=(tb9,ns9)) hv
 refine⟨_,sl,_,_,rfl,?_⟩
 have cn:=ab.keep.size
 have bC:=bF.keep (ab.keep.get h2.size (by omega))
 have aA:=a8.trans ab.le
 intro aj
 have bA:Keep aa.size aa aj:=Keep.push _ _ (Av _)
 have cC:aj.size=aa.size+1:=AM _
 have cc:Blk aj aa.size #[.string ⟨#[]⟩,.slice none 0 0]:=Blk.new _ _ _
 clear_value aj
 refine zf4 (u:=bl tb9) (v:=sl) cc λaz bL dy aM=>?_
 have aH:Keep aa.size aa az:=⟨by omega,λj hj=>(bL j (by omega)).trans (bA.get j hj)⟩
 have ca:=bC.keep (aH.get h2.size (by omega))
 refine⟨_,sl,aM.ld (cs:=[.string _,slV sl]),?_⟩
 intro ar
 have Z:Later az am ar (Mx am az.size #[.string ⟨#[97]⟩,.string ⟨#[49]⟩]):=Later.frz (ab.ag.keep aH) _ _
 have cQ:ar.size=az.size+1:=AM _
 clear_value ar
 have bB:=aM.keep (Z.keep.get aa.size (by omega))
 have b8:=ca.keep (Z.keep.get h2.size (by omega))
 have he:(zan tb9).2.2=0:=by rw[show zan tb9=_ from zsp]
 obtain⟨lvs,G,_,_,_,_⟩:=zpy he
 have bE:(zan tb9).1.2=ns9:=by rw[show zan tb9=_ from zsp];rfl
 rw[bE]at G
 have bh:∀x∈ns9,x.2.2.2.1.length<=200000:=by decide
 have ba:∀{M':Fr},Fr.le am M'->RdV M' zul (bl tb9,ns9) (.agg #[.string (bl tb9),slV sl]):=λle=>qeh (rd.mono le)
 refine(qef hg (t:=tb9) (by decide) G (λ_=>rfl) bh (p:=[⟨#[97]⟩,⟨#[49]⟩]) (z3v (by decide) (by decide)) (R:=λr=>r=(3,true)) at9).go (aA.trans Z.le) Z.ag (Qw (a:=Arg.mk zul _) (ba Z.le) (Qw (a:=Arg.mk (.row .str) _) ((zto rfl).2 qeg) Yk)) λv dm cJ r ae hv hr=>?_
 subst hr
 obtain⟨_,⟨u1,_,rfl,aI,u2,rfl,aG⟩,rfl⟩:=hv
 obtain rfl:=Zy aI
 obtain rfl:=z0v aG
 refine⟨_,_,rfl,?_⟩
 have dx:=ae.keep.size
 have bM:=bB.keep (ae.keep.get aa.size (by omega))
 have cd:=b8.keep (ae.keep.get h2.size (by omega))
 have aC:=(aA.trans Z.le).trans ae.le
 refine⟨_,sl,bM.ld (cs:=[.string _,slV sl]),?_⟩
 refine(z9a hg (t:=tb9) (by decide) G bh (k:=3) (R:=λr=>r=(.mk 3 (bl [50]) [] [],true)) nd9).go aC ae.ag (Qw (a:=Arg.mk zul _) (ba (Z.le.trans ae.le)) (Qw (a:=Arg.mk (.int .i64) 3) (zbp _ _) Yk)) λv af aJ r ah hv hr=>?_
 subst hr
 obtain⟨_,⟨u1,_,rfl,aI,u2,rfl,aG⟩,rfl⟩:=hv
 obtain⟨xk,xi,rfl,_⟩:=zdh aI
 obtain rfl:=z0v aG
 refine⟨_,_,xk,xi,_,rfl,?_⟩
 have cZ:=ah.keep.size
 have bD:=cd.keep (ah.keep.get h2.size (by omega))
 have aQ:=aC.trans ah.le
 intro au
 have bn:Keep af.size af au:=Keep.push _ _ (Av _)
 have cy:au.size=af.size+1:=AM _
 have bz:Blk au af.size #[.int .i64 0,.string ⟨#[]⟩,.slice none 0 0,.slice none 0 0]:=Blk.new _ _ _
 clear_value au
 refine zbm bz λay bQ cp cb=>?_
 have aN:Keep af.size af ay:=⟨by omega,λj hj=>(bQ j (by omega)).trans (bn.get j hj)⟩
 have bq:=bD.keep (aN.get h2.size (by omega))
 have bg:Later h M aa am:=L2.trans (ai.trans ab)
 have aB:Later h M ay aJ:=bg.trans ((Later.same ab.ag aH).trans (Z.trans (ae.trans (ah.trans (Later.same ah.ag aN)))))
 have c:Cx gl h2.size af.size _ _ _ sk si xk xi ay aJ:=⟨aQ,aB.ag,bq,RdV.mono (ab.le.trans (Z.le.trans (ae.le.trans ah.le))) hx,cb⟩
 have hR:∀{h':Za} {M':Fr},Later ay aJ h' M'->∃M' r,Later h M h' M'/\ze0 M' [.bool] r (.bool true)/\r=true:=λL=>⟨_,true,aB.trans L,zqn.2 (rdBool true),rfl⟩
 refine⟨?_,?_⟩
 ·refine⟨_,_,_,_,λ_=>c.V.ld (cs:=[_,_,slV _,slV _]),?_⟩
  refine Zx rfl (c.num hg λk2 s2 a2 b2 h2 M2 L2 q2=>?_)
  have c2:=c.later L2
  refine Zx rfl (c2.of λk3 s3 a3 b3 h3 M3 L3 q3=>?_)
  have c3:=c2.later L3
  have bS:=RdV.mono L3.le q2
  obtain⟨M4,L4,q4⟩:=c3.lit (T:=26) bS q3
  have c4:=c3.later L4
  refine Jp (s:=⟨some ⟨_,0,none⟩,2,2⟩) rfl ?_
  refine Zx rfl (c4.row q4 λk5 s5 a5 b5 h5 M5 L5 q5=>?_)
  have c5:=c4.later L5
  refine Qc rfl (c5.eq q5 λh6 M6 L6=>?_)
  have c6:=c5.later L6
  refine⟨⟨#[50]⟩,λ_=>c6.X.cell (o:=1) rfl,?_⟩
  simp only[beq_self_eq_true,cond_true]
  exact hR (L2.trans (L3.trans (L4.trans (L5.trans (L6)))))
 ·refine Zx rfl (c.num hg λk7 s7 a7 b7 h7 M7 L7 q7=>?_)
  have c7:=c.later L7
  refine⟨?_,?_⟩
  ·refine⟨_,_,_,_,λ_=>c7.V.ld (cs:=[_,_,slV _,slV _]),?_⟩
   refine Zx rfl (c7.of λk9 s9 a9 b9 h9 M9 L9 q9=>?_)
   have c9:=c7.later L9
   have bu:=RdV.mono L9.le q7
   obtain⟨de,ai,bT⟩:=c9.lit (T:=26) bu q9
   have aO:=c9.later ai
   refine Jp (s:=⟨some ⟨_,0,none⟩,2,2⟩) rfl ?_
   refine Zx rfl (aO.row bT λcm df c8 dr cz ck bi bO=>?_)
   have aU:=aO.later bi
   refine Qc rfl (aU.eq bO λaa am ab=>?_)
   have bo:=aU.later ab
   refine⟨⟨#[50]⟩,λ_=>bo.X.cell (o:=1) rfl,?_⟩
   simp only[beq_self_eq_true,cond_true]
   exact hR (L7.trans (L9.trans (ai.trans (bi.trans (ab)))))
  ·refine Zx rfl (c7.of λcM da cB dB cL cY ak aZ=>?_)
   have an:=c7.later ak
   have aE:=RdV.mono ak.le q7
   refine⟨?_,?_⟩
   ·refine⟨_,_,_,_,λ_=>an.V.ld (cs:=[_,_,slV _,slV _]),?_⟩
    obtain⟨dz,aP,bG⟩:=an.lit (T:=26) aE aZ
    have aS:=an.later aP
    refine Jp (s:=⟨some ⟨_,0,none⟩,2,2⟩) rfl ?_
    refine Zx rfl (aS.row bG λco cH dC dl cF cT aV cg=>?_)
    have aT:=aS.later aV
    refine Qc rfl (aT.eq cg λaj cq bm=>?_)
    have bU:=aT.later bm
    refine⟨⟨#[50]⟩,λ_=>bU.X.cell (o:=1) rfl,?_⟩
    simp only[beq_self_eq_true,cond_true]
    exact hR (L7.trans (ak.trans (aP.trans (aV.trans (bm)))))
   ·obtain⟨cE,aF,bj⟩:=an.lit (T:=26) aE aZ
    have ap:=an.later aF
    refine Jp (s:=⟨some ⟨_,0,none⟩,2,2⟩) rfl ?_
    refine⟨?_,?_⟩
    ·refine⟨_,_,_,_,λ_=>ap.V.ld (cs:=[_,_,slV _,slV _]),?_⟩
     refine Zx rfl (ap.row bj λcG cV dh cP cA dt be br=>?_)
     have a1:=ap.later be
     refine Qc rfl (a1.eq br λar dq Z=>?_)
     have bP:=a1.later Z
     refine⟨⟨#[50]⟩,λ_=>bP.X.cell (o:=1) rfl,?_⟩
     simp only[beq_self_eq_true,cond_true]
     exact hR (L7.trans (ak.trans (aF.trans (be.trans (Z)))))
    ·refine Zx rfl (ap.row bj λcu db dA dv cO cj aY bH=>?_)
     have aL:=ap.later aY
     refine⟨_,_,_,_,λ_=>aL.V.ld (cs:=[_,_,slV _,slV _]),?_⟩
     refine Qc rfl (aL.eq bH λdw di a6=>?_)
     have bZ:=aL.later a6
     refine⟨⟨#[50]⟩,λ_=>bZ.X.cell (o:=1) rfl,?_⟩
     simp only[beq_self_eq_true,cond_true]
     exact hR (L7.trans (ak.trans (aF.trans (aY.trans (a6)))))
end
end Go.X
end
section
namespace Go.X
open Go Go.Lib
section
variable {lo d m:Nat} {s:Bs} {α:Type} {obj:Bool}
inductive KidsG (K:List Bs->List Bs->Bs×Tr->List Tk->Nat->Prop) (close:Int):List Bs->List (Bs×Tr)->List Tk->Nat->Prop
 |last {had had':List Bs} {kv:Bs×Tr} {C:List Tk} {c:Tk} {m:Nat}:K had had' kv C m->c.1=close->KidsG K close had [kv] (C++[c]) m
 |more {had had':List Bs} {kv:Bs×Tr} {kvs:List (Bs×Tr)} {C D:List Tk} {q:Tk} {m m':Nat}:K had had' kv C m->q.1=6->KidsG K close had' kvs D m'->KidsG K close had (kv::kvs) (C++q::D) (m+m')
def KA(P:Tr->List Tk->Nat->Prop)(had had':List Bs)(kv:Bs×Tr)(C:List Tk)(m:Nat):Prop:=had'=had/\P kv.2 C m
def KO(s:Bs)(P:Tr->List Tk->Nat->Prop)(had had':List Bs)(kv:Bs×Tr)(C:List Tk)(m:Nat):Prop:=
 ∃t q C',C=t::q::C'/\t.1=8/\q.1=7/\kv.1=(zei (zel s t.2)).1/\Q6 s t.2=zel s t.2/\kv.1∉had/\had'=had++[kv.1]/\P kv.2 C' m
def PV(s:Bs):Nat->Tr->List Tk->Nat->Prop
 |0,_,_,_=>False
 |d+1,v,C,m=>∃t,(C=[t]/\Z9 t.1≠0/\Z9 t.1≠5/\Z9 t.1≠6/\v=.mk (Z9 t.1) (bl (zbu (Z9 t.1) (Q6 s t.2))) [] []/\m=1)
  \/ (∃c,C=[t,c]/\((t.1=4/\c.1=5/\v=.mk 5 (bl []) [] [])\/(t.1=2/\c.1=3/\v=.mk 6 (bl []) [] []))/\m=1)
  \/ (∃D kvs m',C=t::D/\t.1=4/\KidsG (KA (PV s d)) 5 [] kvs D m'/\v=.mk 5 (bl []) [] (kvs.map (·.2))/\m=m'+1)
  \/ (∃D kvs m',C=t::D/\t.1=2/\KidsG (KO s (PV s d)) 3 [] kvs D m'/\v=.mk 6 (bl []) (kvs.map λkv=>bl kv.1) (kvs.map (·.2))/\m=m'+1)
def qb3(C:List Tk):Sp:=((C.head?.map (·.2.1)).getD 0,(C.getLast?.map (·.2.2)).getD 0)
def zer(C:List Tk)(l:Int):Int:=(C.getLast?.map (·.2.2)).getD l
theorem Yn{C D:List Tk}(h:D≠[])(l:Int):zer (C++D) l=zer D l:=by
 unfold zer
 rw[List.getLast?_append]
 cases hd:D.getLast? with
 |none=>exact absurd (List.getLast?_eq_none_iff.1 hd) h
 |some x=>rfl
theorem zg1{C:List Tk}(h:C≠[])(l l':Int):zer C l=zer C l':=by
 unfold zer
 cases hd:C.getLast? with
 |none=>exact absurd (List.getLast?_eq_none_iff.1 hd) h
 |some x=>rfl
def Agr(lo:Nat)(new nodes:List Nd):Prop:=∀i x,new[i]?=some x->nodes[lo+i]?=some x
theorem Agr.left{a b nodes:List Nd}(h:Agr lo (a++b) nodes):Agr lo a nodes:=λi x hx=>h i x (by rw[BE (AQ.1 hx).1];exact hx)
theorem Agr.right{a b nodes:List Nd}(h:Agr lo (a++b) nodes):Agr (lo+a.length) b nodes:=λi x hx=>by
 have:=h (a.length+i) x (by rw[Bf (by omega),Dl];exact hx)
 rw[D3];exact this
def SubV(s:Bs)(d lo:Nat)(new:List Nd)(C:List Tk)(m:Nat):Prop:=∀i,i<new.length->∃d' v' C' pre Z m',d'<=d/\PV s d' v' C' m'/\C=pre++C'++Z/\m'<=m/\∀nodes,Agr lo new nodes->∀f,d'<=f->Je s nodes f (lo+i)=v'/\∃x,nodes[lo+i]?=some x/\x.2.1=qb3 C'
structure Made (s:Bs) (d lo:Nat) (key:Sp) (new:List Nd) (v:Tr) (C:List Tk) (m:Nat):Prop where
 len:new.length=m
 pos:1<=m
 key:∃x,new[0]?=some x/\x.2.2.1=key
 val:∀nodes,Agr lo new nodes->∀f,d<=f->Je s nodes f lo=v
 sub:SubV s d lo new C m
structure MadeK (s:Bs) (obj:Bool) (d lo:Nat) (ks:List Int) (new:List Nd) (kvs:List (Bs×Tr)) (D:List Tk) (m:Nat):Prop where
 len:new.length=m
 val:∀nodes,Agr lo new nodes->∀f,d<=f->(ks.map λc=>Je s nodes f c.toNat)=kvs.map (·.2)
 key:obj=true->∀nodes,Agr lo new nodes->(ks.map λc=>bl (zjj s nodes c))=kvs.map λkv=>bl kv.1
 sub:SubV s d lo new D m
theorem SubV.mono{d d2 lo:Nat}{new:List Nd}{C:List Tk}{m m2:Nat}(h:SubV s d lo new C m)(hd:d<=d2)(hm:m<=m2)(pre Z:List Tk):SubV s d2 lo new (pre++C++Z) m2:=by
 intro i hi
 obtain⟨d',v',C',p,q,m',h1,h2,h3,h4,h5⟩:=h i hi
 exact⟨d',v',C',pre++p,q++Z,m',by omega,h2,by rw[h3];simp,by omega,h5⟩
theorem SubV.append{a b:List Nd}{C:List Tk}(h:SubV s d lo a C m)(h2:SubV s d (lo+a.length) b C m):SubV s d lo (a++b) C m:=by
 intro i hi
 rcases A1 i a.length with h'|h'
 ·obtain⟨d',v',C',p,q,m',h1,h2,h3,h4,h5⟩:=h i h'
  exact⟨d',v',C',p,q,m',h1,h2,h3,h4,λnodes hn=>h5 nodes hn.left⟩
 ·obtain⟨d',v',C',p,q,m',h1,h3,h4,h5,h6⟩:=h2 (i-a.length) (by rw[AF]at hi;omega)
  refine⟨d',v',C',p,q,m',h1,h3,h4,h5,λnodes hn f hf=>?_⟩
  have:=h6 nodes hn.right f hf
  rw[show lo+a.length+(i-a.length)=lo+i from by omega]at this
  exact this
def qei(s:Bs)(obj:Bool)(d:Nat)(close:Int)(K:List Bs->List Bs->Bs×Tr->List Tk->Nat->Prop)(kid:zns):Prop:=
 ∀had had' kv C m,K had had' kv C m->1<=m/\(∃t C',C=t::C'/\t.1≠close)/\∀(st:PSt) (rest:List Tk),st.rest=C++rest->st.nodes.length+m<=4096->∃new,
  kid had st=.inl (had',⟨rest,zer C st.last,st.nodes++new⟩)/\MadeK s obj d st.nodes.length [((st.nodes.length:Nat):Int)] new [kv] C m
def zwt(x:Nd)(ks:List Int)(ps:List Sp):Nd:=(x.1,x.2.1,x.2.2.1,x.2.2.2.1++ks,x.2.2.2.2++ps)
theorem zap{a:List α}{x:α}{b:List α}{f:α->α}:(a++x::b).modify a.length f=a++f x::b:=by
 induction a with
 |nil=>rfl
 |cons y a ih=>simp only[A8,AN,List.modify_succ_cons,ih]
theorem zlr{close:Int}{K:List Bs->List Bs->Bs×Tr->List Tk->Nat->Prop}{kid:zns}(hK:qei s obj d close K kid)(ae:close≠6){had:List Bs}{kvs:List (Bs×Tr)}{D:List Tk}(H:KidsG K close had kvs D m):
  (∃t D',D=t::D'/\t.1≠close)/\1<=m/\kvs.length<=D.length/\∀(base:List Nd) (x:Nd) (news:List Nd) (rest:List Tk) (last:Int) (f:Nat),kvs.length<=f->base.length+1+news.length+m<=4096->∃ks ps new,
   zco s base.length close kid f had ⟨D++rest,last,base++x::news⟩=.inl ⟨rest,zer D last,base++zwt x ks ps::(news++new)⟩/\MadeK s obj d (base.length+1+news.length) ks new kvs D m:=by
 induction H with
 | @last had had' kv C c m hk hc=>
  obtain⟨h1,⟨t0,C0,aa,h2⟩,h3⟩:=hK _ _ _ _ _ hk
  refine⟨⟨t0,C0++[c],by rw[aa];rfl,h2⟩,h1,by simp,λbase x news rest last f hf hn=>?_⟩
  obtain⟨g,rfl⟩:∃g,f=g+1:=⟨f-1,by simp at hf;omega⟩
  have hl:(base++x::news).length=base.length+1+news.length:=by simp;omega
  obtain⟨new,e,M⟩:=h3 ⟨C++[c]++rest,last,base++x::news⟩ (c::rest) (by simp) (by dsimp only;rw[hl];omega)
  dsimp only at e M
  rw[hl]at M
  refine⟨[((base++x::news).length:Int)],[(last,c.2.1)],new,?_,?_⟩
  ·rw[zco,e]
   dsimp only
   have ek:PSt.kind ⟨c::rest,zer C last,base++x::news++new⟩=close:=hc
   rw[if_pos ek]
   unfold PSt.addKid PSt.skip PSt.here
   dsimp only
   rw[Bo,A8,zap]
   congr 2
   unfold zer
   simp
  ·rw[hl]
   refine⟨M.len,M.val,M.key,?_⟩
   have:=M.sub.mono (Av _) (Av _) [] [c]
   simpa using this
 | @more had had' kv kvs C D q m m' hk hq hr ih=>
  obtain⟨h1,⟨t0,C0,aa,h2⟩,h3⟩:=hK _ _ _ _ _ hk
  obtain⟨⟨t1,D0,ab,_⟩,g2,gl,g3⟩:=ih
  have g1:D≠[]:=by rw[ab];simp
  refine⟨⟨t0,C0++q::D,by rw[aa];rfl,h2⟩,by omega,by simp;omega,λbase x news rest last f hf hn=>?_⟩
  obtain⟨g,rfl⟩:∃g,f=g+1:=⟨f-1,by simp at hf;omega⟩
  have hl:(base++x::news).length=base.length+1+news.length:=by simp;omega
  obtain⟨new,e,M⟩:=h3 ⟨C++q::D++rest,last,base++x::news⟩ (q::(D++rest)) (by simp) (by dsimp only;rw[hl];omega)
  dsimp only at e M
  rw[hl]at M
  have ah:=M.len
  obtain⟨ks,ps,Z,e2,M2⟩:=g3 base (zwt x [((base++x::news).length:Int)] [(last,q.2.1)]) (news++new) rest q.2.2 g (by simp at hf;omega) (by rw[AF];omega)
  refine⟨((base++x::news).length:Int)::ks,(last,q.2.1)::ps,new++Z,?_,?_⟩
  ·rw[zco,e]
   dsimp only
   have ek:PSt.kind ⟨q::(D++rest),zer C last,base++x::news++new⟩=6:=hq
   rw[if_neg (by rw[ek];exact λh=>ae h.symm),if_pos ek]
   have es:(PSt.addKid ⟨q::(D++rest),zer C last,base++x::news++new⟩ base.length ((base++x::news).length:Int) (last,PSt.here ⟨q::(D++rest),zer C last,base++x::news++new⟩ s.length)).skip=⟨D++rest,q.2.2,base++zwt x [((base++x::news).length:Int)] [(last,q.2.1)]::(news++new)⟩:=by
    unfold PSt.addKid PSt.skip PSt.here
    dsimp only
    rw[Bo,A8,zap]
    rfl
   rw[es,e2]
   congr 2
   ·rw[Yn (C:=C) (D:=q::D) (by simp),show q::D=[q]++D from rfl,Yn g1]
    exact zg1 g1 _ _
   ·unfold zwt;simp
  ·rw[hl]
   have af:base.length+1+(news++new).length=base.length+1+news.length+new.length:=by rw[AF];omega
   rw[af]at M2
   refine⟨by rw[AF,M.len,M2.len],λnodes hn f hf=>?_,λho nodes hn=>?_,?_⟩
   ·have a:=M.val nodes hn.left f hf
    have b:=M2.val nodes hn.right f hf
    simp only[Cf,Eh,Ca,and_true]at a ⊢
    exact⟨a,b⟩
   ·have a:=M.key ho nodes hn.left
    have b:=M2.key ho nodes hn.right
    simp only[Cf,Eh,Ca,and_true]at a ⊢
    exact⟨a,b⟩
   ·have a:=M.sub.mono (d2:=d) (Av _) (show m<=m+m' by omega) [] (q::D)
    have b:=M2.sub.mono (d2:=d) (Av _) (show m'<=m+m' by omega) (C++[q]) []
    rw[BV]at a
    have b:SubV s d (base.length+1+news.length+new.length) Z (C++q::D) (m+m'):=by simpa using b
    exact a.append b
theorem modify_last{a:List α}{x:α}{f:α->α}:(a++[x]).modify a.length f=a++[f x]:=zap
theorem z5m(t:Bs):zbu 5 t=[]:=by unfold zbu;simp
theorem z5n(t:Bs):zbu 6 t=[]:=by unfold zbu;simp
theorem Agr.head{x:Nd}{l nodes:List Nd}(h:Agr lo (x::l) nodes):nodes[lo]?=some x:=h 0 x rfl
theorem Agr.tail{x:Nd}{l nodes:List Nd}(h:Agr lo (x::l) nodes):Agr (lo+1) l nodes:=λi y hy=>by
 have:=h (i+1) y hy
 rw[show lo+1+i=lo+(i+1)from by omega];exact this
theorem zqg{key:Sp}{k:Int}{t:Tk}{D:List Tk}{ks:List Int}{ps:List Sp}{new:List Nd}{kvs:List (Bs×Tr)}{v:Tr}(hk:k=5/\obj=false\/k=6/\obj=true)(hv:v=.mk k (bl []) (if obj=true then kvs.map λkv=>bl kv.1 else []) (kvs.map (·.2)))(hD:D≠[])
  (hp:PV s (d+1) v (t::D) (m+1)) (M:MadeK s obj d (lo+1) ks new kvs D m):Made s (d+1) lo key ((k,(t.2.1,zer D 0),key,ks,ps)::new) v (t::D) (m+1):=by
 have Z:∀nodes,Agr lo ((k,(t.2.1,zer D 0),key,ks,ps)::new) nodes->∀f,d+1<=f->Je s nodes f lo=v:=λnodes hn f hf=>by
  obtain⟨g,rfl⟩:∃g,f=g+1:=⟨f-1,by omega⟩
  rw[zao hn.head,M.val nodes hn.tail g (by omega),hv]
  dsimp only
  rcases hk with⟨rfl,rfl⟩|⟨rfl,rfl⟩
  ·rw[z5m];simp
  ·rw[z5n,if_pos rfl,if_pos rfl,M.key rfl nodes hn.tail]
 refine⟨by rw[AN,M.len],by omega,⟨_,rfl,rfl⟩,Z,λi hi=>?_⟩
 cases i with
 |zero=>
  refine⟨d+1,v,t::D,[],[],m+1,Av _,hp,by simp,Av _,λnodes hn f hf=>⟨Z nodes hn f hf,_,hn.head,?_⟩⟩
  have e:zer (t::D) 0=zer D 0:=Yn (C:=[t]) hD 0
  show(t.2.1,zer D 0)=qb3 (t::D)
  rw[<-e];rfl
 |succ i=>
  obtain⟨d',v',C',pre,aa,m',h1,h2,h3,h4,h5⟩:=M.sub i (by simpa using hi)
  refine⟨d',v',C',t::pre,aa,m',by omega,h2,by rw[h3];rfl,by omega,λnodes hn f hf=>?_⟩
  have:=h5 nodes hn.tail f hf
  rw[show lo+1+i=lo+(i+1)from by omega]at this
  exact this
theorem zqh{s:Bs}:∀(d:Nat) (v:Tr) (C:List Tk) (m:Nat),PV s d v C m->1<=m/\(∃t C',C=t::C'/\Z9 t.1≠0)/\∀(key:Sp) (st:PSt) (rest:List Tk),st.rest=C++rest->st.nodes.length+m<=4096->∃new,
  zc3 s d key st=.inl ⟨rest,zer C st.last,st.nodes++new⟩/\Made s d st.nodes.length key new v C m
 |0,v,C,m,h=>h.elim
 |d+1,v,C,m,h=>by
  have ih:=zqh (s:=s) d
  have au:qei s false d 5 (KA (PV s d)) (zhs (zc3 s d)):=by
   rintro had had' kv C m ⟨rfl,hp⟩
   obtain⟨h1,⟨t,C',hC,hk⟩,h3⟩:=ih _ _ _ hp
   refine⟨h1,⟨t,C',hC,λe=>hk (by rw[e];rfl)⟩,λst rest hr hn=>?_⟩
   obtain⟨new,e,M⟩:=h3 (0,0) st rest hr hn
   refine⟨new,by unfold zhs;rw[e],M.len,λnodes hn f hf=>?_,λh=>(by cases h),M.sub⟩
   simp only[Cf,Eh,AK]
   rw[M.val nodes hn f hf]
  have ap:qei s true d 3 (KO s (PV s d)) (zse s (zc3 s d)):=by
   rintro had had' kv C m ⟨t,q,C',hC,ht,hq,ab,ah,aj,ai,hp⟩
   subst hC
   obtain⟨h1,⟨t1,C1,ak,hk⟩,h3⟩:=ih _ _ _ hp
   refine⟨h1,⟨t,_,rfl,by omega⟩,λst rest hr hn=>?_⟩
   obtain⟨new,e,M⟩:=h3 t.2 st.skip.skip rest (by unfold PSt.skip;rw[hr];rfl) (by rw[Qs,Qs];exact hn)
   have e2:st.skip.skip.last=q.2.2:=by unfold PSt.skip;rw[hr];rfl
   rw[Qs,Qs]at e M
   rw[e2]at e
   refine⟨new,?_,M.len,λnodes hn f hf=>?_,λ_ nodes hn=>?_,?_⟩
   ·unfold zse
    rw[hr]
    dsimp only[A8]
    rw[if_pos ht,if_neg (by rw[<-ab];exact aj)]
    have ek:st.skip.kind=7:=by unfold PSt.skip PSt.kind;rw[hr];exact hq
    rw[if_pos ek,e]
    dsimp only
    rw[ai,ab]
    have e3:zer C' q.2.2=zer (t::q::C') st.last:=by
     rw[show t::q::C'=[t,q]++C' from rfl,Yn (by rw[ak];simp)]
     exact zg1 (by rw[ak];simp) _ _
    rw[e3]
   ·simp only[Cf,Eh,AK]
    rw[M.val nodes hn f hf]
   ·obtain⟨x,hx,an⟩:=M.key
    have:=hn 0 x hx
    simp only[Cf,Eh,Ca,and_true]
    unfold zjj
    rw[AK]
    rw[show nodes[st.nodes.length]?=some x from this]
    show bl (zwy s x)=bl kv.1
    unfold zwy
    rw[an,ab,ah]
   ·have:=M.sub.mono (d2:=d) (Av _) (Av m) [t,q] []
    simpa using this
  have ar:∀(st:PSt) (t:Tk) (r:List Tk) (key:Sp),st.rest=t::r->st.open key=⟨r,t.2.2,st.nodes++[(Z9 t.1,t.2,key,[],[])]⟩:=λst t r key hr=>by unfold PSt.open;rw[hr]
  have ay:∀(st:PSt) (t:Tk) (r:List Tk),st.rest=t::r->st.kind=t.1:=λst t r hr=>by unfold PSt.kind;rw[hr]
  have go:∀(key:Sp) (st st':PSt) (t:Tk) (r:List Tk),st.rest=t::r->Z9 t.1≠0->st.nodes.length<4096->zsf s (zc3 s d) st.nodes.length (Z9 t.1) ⟨r,t.2.2,st.nodes++[(Z9 t.1,t.2,key,[],[])]⟩=.inl st'->zc3 s (d+1) key st=.inl (st'.setTo st.nodes.length):=λkey st st' t r hr hk hn e=>by
   rw[zc3,ay st t r hr,if_neg hk,if_neg (by omega),ar st t r key hr,e]
  obtain⟨t,hh|⟨c,hC,hh,hm⟩|⟨D,kvs,m',hC,ht,hD,hv,hm⟩|⟨D,kvs,m',hC,ht,hD,hv,hm⟩⟩:=id h
  ·obtain⟨hC,k0,k5,k6,hv,hm⟩:=hh
   subst hC hm
   refine⟨Av _,⟨t,[],rfl,k0⟩,λkey st rest hr hn=>⟨[(Z9 t.1,(t.2.1,t.2.2),key,[],[])],?_,?_⟩⟩
   ·rw[go key st _ t rest hr k0 (by omega) (by unfold zsf;rw[if_neg k5,if_neg k6])]
    unfold PSt.setTo
    dsimp only
    rw[modify_last];rfl
   ·have aa:∀nodes,Agr st.nodes.length [(Z9 t.1,(t.2.1,t.2.2),key,[],[])] nodes->∀f,d+1<=f->Je s nodes f st.nodes.length=v:=λnodes hn f hf=>by
     obtain⟨g,rfl⟩:∃g,f=g+1:=⟨f-1,by omega⟩
     rw[zao hn.head,hv]
     dsimp only
     rw[if_neg k6];rfl
    refine⟨rfl,Av _,⟨_,rfl,rfl⟩,aa,λi hi=>?_⟩
    have:i=0:=by simp at hi;exact hi
    subst this
    exact⟨d+1,v,[t],[],[],1,Av _,h,by simp,Av _,λnodes hn f hf=>⟨aa nodes hn f hf,_,hn.head,rfl⟩⟩
  ·subst hC hm
   have e4:Z9 4=5:=rfl
   have e2:Z9 2=6:=rfl
   have ab:Z9 t.1=5/\c.1=5/\v=.mk 5 (bl []) [] []\/Z9 t.1=6/\c.1=3/\v=.mk 6 (bl []) [] []:=by
    rcases hh with⟨h1,h2,h3⟩|⟨h1,h2,h3⟩
    ·exact .inl ⟨by rw[h1];rfl,h2,h3⟩
    ·exact .inr ⟨by rw[h1];rfl,h2,h3⟩
   have k0:Z9 t.1≠0:=by rcases ab with⟨h,_⟩|⟨h,_⟩ <;> rw[h] <;> decide
   have hp:PV s (d+1) v [t,c] 1:=⟨t,.inr (.inl ⟨c,rfl,hh,rfl⟩)⟩
   refine⟨Av _,⟨t,[c],rfl,k0⟩,λkey st rest hr hn=>⟨[(Z9 t.1,(t.2.1,c.2.2),key,[],[])],?_,?_⟩⟩
   ·rw[go key st ⟨rest,c.2.2,st.nodes++[(Z9 t.1,t.2,key,[],[])]⟩ t (c::rest) hr k0 (by omega) (by
     unfold zsf
     rcases ab with⟨h,hc,_⟩|⟨h,hc,_⟩
     ·rw[h,if_pos rfl]
      unfold zdd
      rw[if_pos (show PSt.kind ⟨c::rest,t.2.2,_⟩=5 from hc)];rfl
     ·rw[h,if_neg (by decide),if_pos rfl]
      unfold zdd
      rw[if_pos (show PSt.kind ⟨c::rest,t.2.2,_⟩=3 from hc)];rfl)]
    unfold PSt.setTo
    dsimp only
    rw[modify_last];rfl
   ·have aa:∀nodes,Agr st.nodes.length [(Z9 t.1,(t.2.1,c.2.2),key,[],[])] nodes->∀f,d+1<=f->Je s nodes f st.nodes.length=v:=λnodes hn f hf=>by
     obtain⟨g,rfl⟩:∃g,f=g+1:=⟨f-1,by omega⟩
     rw[zao hn.head]
     dsimp only
     rcases ab with⟨h,_,hv⟩|⟨h,_,hv⟩
     ·rw[h,hv,z5m];rfl
     ·rw[h,hv,z5n];rfl
    refine⟨rfl,Av _,⟨_,rfl,rfl⟩,aa,λi hi=>?_⟩
    have:i=0:=by simp at hi;exact hi
    subst this
    exact⟨d+1,v,[t,c],[],[],1,Av _,hp,by simp,Av _,λnodes hn f hf=>⟨aa nodes hn f hf,_,hn.head,rfl⟩⟩
  ·subst hC hm
   obtain⟨⟨t1,D',ae,af⟩,h1,am,h3⟩:=zlr au (by decide) hD
   have Z:D≠[]:=by rw[ae];simp
   have k5:Z9 t.1=5:=by rw[ht];rfl
   refine⟨by omega,⟨t,D,rfl,by rw[k5];decide⟩,λkey st rest hr hn=>?_⟩
   obtain⟨ks,ps,new,e,M⟩:=h3 st.nodes (Z9 t.1,t.2,key,[],[]) [] rest t.2.2 ((D++rest).length+1) (by rw[AF];omega) (by simp only[Bh];omega)
   rw[Bh,CM]at M
   refine⟨(5,(t.2.1,zer D 0),key,ks,ps)::new,?_,zqg (.inl ⟨rfl,rfl⟩) (by rw[hv];rfl) Z h M⟩
   rw[go key st _ t (D++rest) hr (by rw[k5];decide) (by omega) (by
    unfold zsf
    rw[k5,if_pos rfl]
    unfold zdd
    rw[if_neg (show¬PSt.kind ⟨D++rest,t.2.2,_⟩=5 from by rw[ae];exact af)]
    rw[k5]at e
    exact e)]
   unfold PSt.setTo
   dsimp only
   rw[zap]
   have e3:zer D t.2.2=zer (t::D) st.last:=by
    rw[show t::D=[t]++D from rfl,Yn Z]
    exact zg1 Z _ _
   rw[e3,zg1 (C:=t::D) (by simp) st.last 0,show zer (t::D) 0=zer D 0 from Yn (C:=[t]) Z 0]
   simp[zwt,z8b]
  ·subst hC hm
   obtain⟨⟨t1,D',ae,af⟩,h1,am,h3⟩:=zlr ap (by decide) hD
   have Z:D≠[]:=by rw[ae];simp
   have k6:Z9 t.1=6:=by rw[ht];rfl
   refine⟨by omega,⟨t,D,rfl,by rw[k6];decide⟩,λkey st rest hr hn=>?_⟩
   obtain⟨ks,ps,new,e,M⟩:=h3 st.nodes (Z9 t.1,t.2,key,[],[]) [] rest t.2.2 ((D++rest).length+1) (by rw[AF];omega) (by simp only[Bh];omega)
   rw[Bh,CM]at M
   refine⟨(6,(t.2.1,zer D 0),key,ks,ps)::new,?_,zqg (.inr ⟨rfl,rfl⟩) (by rw[hv];rfl) Z h M⟩
   rw[go key st _ t (D++rest) hr (by rw[k6];decide) (by omega) (by
    unfold zsf
    rw[k6,if_neg (by decide),if_pos rfl]
    unfold zdd
    rw[if_neg (show¬PSt.kind ⟨D++rest,t.2.2,_⟩=3 from by rw[ae];exact af)]
    rw[k6]at e
    exact e)]
   unfold PSt.setTo
   dsimp only
   rw[zap]
   have e3:zer D t.2.2=zer (t::D) st.last:=by
    rw[show t::D=[t]++D from rfl,Yn Z]
    exact zg1 Z _ _
   rw[e3,zg1 (C:=t::D) (by simp) st.last 0,show zer (t::D) 0=zer D 0 from Yn (C:=[t]) Z 0]
   simp[zwt,z8b]
end
section
def WfT(s:Bs)(l:List Tk):Prop:=∀t∈l,Q6 s t.2=zel s t.2
theorem WfT.drop{s:Bs}{a b:List Tk}(h:WfT s (a++b)):WfT s b:=λt ht=>h t (AO _ ht)
end
section
variable {n r k lo hi a:Nat} {l s:Bs}
theorem z3w{L m n b0 b1 b2 b3 c1 c2 c3:Nat}(hg:zc6 (decodeN L b0 b1 b2 b3)=false)(hn:(decodeN L b0 b1 b2 b3).2<=n)(k1:1<n->c1=b1)(k2:2<n->c2=b2)(k3:3<n->c3=b3)(hm:m=min n L):decodeN m b0 c1 c2 c3=decodeN L b0 b1 b2 b3:=by
 have hb:∀{p:Prop} [Decidable p] {x:Nat} {k:Nat},zc6 (if p then(x,k)else(65533,1))=false->p:=λ {p} _ {x} {k} h=>by
  by_cases hp:p
  ·exact hp
  ·rw[if_neg hp]at h;simp[zc6]at h
 unfold decodeN at hg hn ⊢
 by_cases h0:b0<128
 ·rw[if_pos h0,if_pos h0]
 ·rw[if_neg h0]at hg hn
  rw[if_neg h0,if_neg h0]
  by_cases h1:b0 / 32=6/\(1<L/\b1 / 64=2)
  ·rw[if_pos h1]at hg hn
   have hp:=hb hg
   rw[if_pos hp]at hn
   have hn:2<=n:=hn
   have e1:=k1 (by omega)
   subst e1
   rw[if_pos ⟨h1.1,by omega,h1.2.2⟩,if_pos h1]
  ·rw[if_neg h1]at hg hn
   by_cases h2:b0 / 16=14/\(1<L/\b1 / 64=2)/\(2<L/\b2 / 64=2)
   ·rw[if_pos h2]at hg hn
    have hp:=hb hg
    rw[if_pos hp]at hn
    have hn:3<=n:=hn
    have e1:=k1 (by omega)
    have e2:=k2 (by omega)
    subst e1 e2
    rw[if_neg (by omega),if_pos ⟨h2.1,⟨by omega,h2.2.1.2⟩,by omega,h2.2.2.2⟩,if_neg h1,if_pos h2]
   ·rw[if_neg h2]at hg hn
    by_cases h3:b0 / 8=30/\(1<L/\b1 / 64=2)/\(2<L/\b2 / 64=2)/\(3<L/\b3 / 64=2)
    ·rw[if_pos h3]at hg hn
     have hp:=hb hg
     rw[if_pos hp]at hn
     have hn:4<=n:=hn
     have e1:=k1 (by omega)
     have e2:=k2 (by omega)
     have e3:=k3 (by omega)
     subst e1 e2 e3
     rw[if_neg (by omega),if_neg (by omega),if_pos ⟨h3.1,⟨by omega,h3.2.1.2⟩,⟨by omega,h3.2.2.1.2⟩,by omega,h3.2.2.2.2⟩,if_neg h1,if_neg h2,if_pos h3]
    ·rw[if_neg h3]at hg
     simp[zc6]at hg
theorem z9g(hg:zc6 (dec l)=false)(hn:(dec l).2<=n):dec (l.take n)=dec l:=by
 have g:∀i,i<n->(l.take n).getD i 0=l.getD i 0:=λi hi=>by
  simp only[Df,AR,if_pos hi]
 have hw:=Yv l
 unfold dec at hg hn ⊢
 rw[g 0 (by unfold dec at hw;omega)]
 exact z3w hg hn (λh=>by rw[g 1 h]) (λh=>by rw[g 2 h]) (λh=>by rw[g 3 h]) Bc
theorem zuu(h:zgx l=some r)(hn:4<=n):zgx (l.take n)=some r:=by
 unfold zgx at h ⊢
 split at h
 ·rename_i hl
  rw[if_pos (by rw[Bc];omega),Dq,C7 hn];exact h
 ·cases h
theorem z3x{t:Bs}(h:z2x t=some (r,k))(hn:k<=n+2):z2x (t.take n)=some (r,k):=by
 have hk:=(zle h).1
 unfold z2x at h ⊢
 cases e:zgx t with
 |none=>rw[e]at h;cases h
 |some m=>
  rw[zuu e (by omega)]
  rw[e]at h
  dsimp only at h ⊢
  split at h
  ·cases h
  ·rename_i h1
   rw[if_neg h1]
   split at h
   ·rename_i h2;rw[if_pos h2];exact h
   ·rename_i h2
    rw[if_neg h2]
    split at h
    ·rename_i h3
     cases e2:zgx (t.drop 6)with
     |none=>rw[e2]at h;cases h
     |some q=>
      rw[e2]at h
      dsimp only at h
      split at h
      ·rename_i h4
       have hk:k=12:=by simp at h;omega
       subst hk
       have e3:((t.take n).drop 4).take 2=[92,117]:=by
        rw[Dp,Dq,C7 (by omega)];exact h3
       have e4:zgx ((t.take n).drop 6)=some q:=by
        rw[Dp];exact zuu e2 (by omega)
       rw[if_pos e3,e4]
       dsimp only
       rw[if_pos h4];exact h
      ·cases h
    ·cases h
theorem zf5(h:1<=n):(l.take n).head?=l.head?:=by
 cases l with
 |nil=>simp
 |cons c l=>obtain⟨m,rfl⟩:∃m,n=m+1:=⟨n-1,by omega⟩;rfl
theorem z0x(hl:l≠[])(h:zbs l=some (r,k))(hn:k<=n):zbs (l.take n)=some (r,k):=by
 have hk:=(J3 hl h).1
 unfold zbs at h ⊢
 rw[zf5 (by omega)]
 split at h
 ·rename_i h1
  rw[if_pos h1]
  obtain⟨h2,_,_,_⟩:=zlf h
  match l,h with
  |a::c::t,h=>
   obtain⟨m,rfl⟩:∃m,n=m+2:=⟨n-2,by omega⟩
   rw[Bw,Bw]
   unfold z7t at h ⊢
   dsimp only at h ⊢
   cases e:z2w c with
   |some q=>rw[e]at h;exact h
   |none=>
    rw[e]at h
    dsimp only at h ⊢
    split at h
    ·rename_i h3;rw[if_pos h3];exact z3x h (by omega)
    ·cases h
 ·rename_i h1
  rw[if_neg h1]
  split at h
  ·cases h
  ·rename_i h2
   have hb:zc6 (dec l)=false:=by
    cases hb:zc6 (dec l)with
    |true=>exact absurd (.inr hb) h2
    |false=>rfl
   have h:=AL h
   rw[z9g hb (by rw[h];exact hn),if_neg h2,h]
theorem z0y:∀(k:Nat) (l:Bs) (n:Nat),l.length=k->(zam l).2.2=true->(zam l).2.1<=n->zam (l.take n)=zam l:=by
 intro k
 induction k using DC with
 |_ k ih=>
  intro l n hl h1 h2
  by_cases h:l=[]
  ·subst h;simp
  ·have hp:=BC.2 h
   rw[J4 h]at h1 h2 ⊢
   by_cases hh:l.head?=some 34
   ·rw[if_pos hh]at h1 h2 ⊢
    have h2:1<=n:=h2
    have Z:l.take n≠[]:=by intro e;rw[List.take_eq_nil_iff]at e;rcases e with e|e;omega;exact h e
    rw[J4 Z,if_pos (by rw[zf5 h2];exact hh)]
   ·rw[if_neg hh]at h1 h2 ⊢
    cases e:zbs l with
    |none=>rw[e]at h1;cases h1
    |some x=>
     obtain⟨r,m⟩:=x
     rw[e]at h1 h2
     dsimp only at h1 h2 ⊢
     obtain⟨n1,_,n2,_⟩:=J3 h e
     have Z:l.take n≠[]:=by intro e;rw[List.take_eq_nil_iff]at e;rcases e with e|e;omega;exact h e
     have hd:(l.take n).drop m=(l.drop m).take (n-m):=Dp
     have:=ih (l.drop m).length (by rw[AW];omega) (l.drop m) (n-m) rfl h1 (by omega)
     rw[J4 Z,if_neg (by rw[zf5 (by omega)];exact hh),z0x h e (by omega)]
     dsimp only
     rw[hd,this]
def pc(s:Bs)(lo hi:Nat):Bs:=(s.drop lo).take (hi-lo)
theorem zsq(h:lo<=a):(pc s lo hi).drop (a-lo)=(s.drop a).take (hi-a):=by
 unfold pc
 rw[Dp,Bq,show lo+(a-lo)=a from by omega,show hi-lo-(a-lo)=hi-a from by omega]
theorem qb4(h:hi<=s.length):(pc s lo hi).length=hi-lo:=by
 unfold pc;rw[Bc,AW];omega
theorem z0z(h:lo<=a)(ok:(Qt s a).2.2=0)(he:(Qt s a).2.1<=hi):Qt (pc s lo hi) (a-lo)=((Qt s a).1,(Qt s a).2.1-lo,0):=by
 unfold Qt at ok he ⊢
 by_cases hh:(s.drop a).head?=some 34
 ·rw[if_pos hh]at ok he ⊢
  dsimp only at ok he ⊢
  cases hq:(zam (s.drop (a+1))).2.2 with
  |false=>rw[hq]at ok;cases ok
  |true=>
   rw[hq]at he
   simp only[if_true]at he ⊢
   rw[zsq h,zf5 (by omega),if_pos hh]
   have e1:(pc s lo hi).drop (a-lo+1)=(s.drop (a+1)).take (hi-(a+1)):=by
    rw[show a-lo+1=a+1-lo from by omega];exact zsq (by omega)
   rw[e1,z0y _ _ _ rfl hq (by omega),hq]
   simp only[if_true]
   rw[show a-lo+1+(zam (s.drop (a+1))).2.1=a+1+(zam (s.drop (a+1))).2.1-lo from by omega]
 ·rw[if_neg hh]at ok;cases ok
theorem zh2{p:UInt8->Bool}:∀{l:Bs} {n:Nat},J7 p l<=n->J7 p (l.take n)=J7 p l
 |[],n,h=>by simp
 |c::l,n,h=>by
  unfold J7 at h ⊢
  cases hc:p c with
  |false=>
   cases n with
   |zero=>simp[hc]
   |succ n=>simp[hc]
  |true=>
   rw[List.takeWhile_cons,if_pos hc,AN]at h
   obtain⟨m,rfl⟩:∃m,n=m+1:=⟨n-1,by omega⟩
   have:=zh2 (p:=p) (l:=l) (n:=m) (by unfold J7;omega)
   unfold J7 at this
   rw[Bw,List.takeWhile_cons,if_pos hc,List.takeWhile_cons,if_pos hc,AN,AN,this]
theorem z3y(h:lo<=a)(ha:a<s.length)(ok:(J5 s a).2.2=0)(he:(J5 s a).2.1<=hi):J5 (pc s lo hi) (a-lo)=((J5 s a).1,(J5 s a).2.1-lo,0):=by
 have hd:s.drop a=s[a]::s.drop (a+1):=A9 ha
 have Z:=(zcn ha ok).1
 have aa:(pc s lo hi).drop (a-lo)=s[a]::(s.drop (a+1)).take (hi-a-1):=by
  rw[zsq h,hd]
  obtain⟨m,hm⟩:∃m,hi-a=m+1:=⟨hi-a-1,by omega⟩
  rw[hm,Bw,Nat.add_sub_cancel]
 have hw:s[a]::(s.drop (a+1)).take (hi-a-1)=(s[a]::s.drop (a+1)).take (hi-a):=by
  obtain⟨m,hm⟩:∃m,hi-a=m+1:=⟨hi-a-1,by omega⟩
  rw[hm,Bw,Nat.add_sub_cancel]
 unfold J5 at ok he Z ⊢
 rw[hd]at ok he Z ⊢
 rw[aa,hw]
 generalize hl:s[a]::s.drop (a+1)=l at *
 obtain⟨m,hm⟩:∃m,hi-a=m+1:=⟨hi-a-1,by omega⟩
 subst hl
 rw[hm,Bw]
 dsimp only at ok he Z ⊢
 rw[<-Bw,<-hm]
 split
 ·rename_i h1
  rw[show a-lo+1=a+1-lo from by omega]
 ·rename_i h1
  rw[if_neg h1]at ok he Z
  split
  ·rename_i h2
   rw[if_pos h2]at he
   dsimp only at he
   rw[zh2 (by omega),show a-lo+J7 (Y5 Wt) (s[a]::s.drop (a+1))=a+J7 (Y5 Wt) (s[a]::s.drop (a+1))-lo from by omega]
  ·rename_i h2
   rw[if_neg h2]at ok he Z
   split
   ·rename_i h3
    rw[if_pos h3]at ok he Z
    split at ok
    ·rename_i h4
     rw[if_pos h4]at he
     rw[z0z h h4 he,if_pos rfl,if_pos h4]
    ·rename_i h4;exact absurd ok h4
   ·rename_i h3
    rw[if_neg h3]at ok he Z
    split
    ·rename_i h4
     rw[if_pos h4]at ok he Z
     split at ok
     ·rename_i h5
      rw[if_pos h5]at he
      dsimp only at he
      rw[zh2 (by omega),Dq,C7 (by omega),if_pos h5,if_pos h5,show a-lo+J7 (Y5 zdl) (s[a]::s.drop (a+1))=a+J7 (Y5 zdl) (s[a]::s.drop (a+1))-lo from by omega]
     ·rename_i h5;exact absurd ok h5
    ·rename_i h4
     rw[if_neg h4]at ok he Z
     split at ok
     ·cases ok
     ·rename_i h5
      rw[if_neg h5]at he
      dsimp only at he
      rw[zh2 (by omega),Dq,C7 (by omega),if_neg h5,if_neg h5,show a-lo+J7 (Y5 Yx) (s[a]::s.drop (a+1))=a+J7 (Y5 Yx) (s[a]::s.drop (a+1))-lo from by omega]
end
section
variable {s:Bs} {a b m:Nat}
inductive Lex (s:Bs):Nat->Nat->List Tk->Prop
 |nil {i:Nat}:Lex s i i []
 |cons {i j:Nat} {T:List Tk}:i<s.length->(J5 s i).2.2=0->Lex s (J5 s i).2.1 j T->Lex s i j (((J5 s i).1,((i:Int),((J5 s i).2.1:Int)))::T)
theorem Lex.le{T:List Tk}(H:Lex s a b T):a+T.length<=b/\(T≠[]->b<=s.length):=by
 induction H with
 |nil=>exact⟨by simp,λh=>absurd rfl h⟩
 | @cons a b T h1 h2 h3 ih=>
  have hp:=zcn h1 h2
  refine⟨by simp only[AN];omega,λ_=>?_⟩
  cases h3 with
  |nil=>exact hp.2
  |cons=>exact ih.2 (by simp)
theorem z00{T:List Tk}(H:Lex s a b T):∀(f:Nat) (o:List Tk),b=s.length->T.length<=f->zbk f s a o=(o++T,s.length,0):=by
 induction H with
 | @nil a=>
  intro f o hb hf
  subst hb
  cases f with
  |zero=>simp[zbk]
  |succ f=>rw[zbk,if_neg (by omega)];simp
 | @cons a b T h1 h2 h3 ih=>
  intro f o hb hf
  obtain⟨g,rfl⟩:∃g,f=g+1:=⟨f-1,by simp at hf;omega⟩
  rw[zbk,if_pos h1,if_pos h2,ih g _ hb (by simpa using hf)]
  simp
theorem z01{T:List Tk}(H:Lex s 0 s.length T)(hs:s.length<=65536):Yr s=(T,s.length,0):=by
 unfold Yr
 rw[if_neg (by omega),z00 H _ _ rfl (by have:=H.le.1;omega),BV]
theorem Lex.split{s:Bs}:∀{T1 T2:List Tk} {a b:Nat},Lex s a b (T1++T2)->∃m,Lex s a m T1/\Lex s m b T2
 |[],T2,a,b,H=>⟨a,.nil,H⟩
 |t::T1,T2,a,b,H=>by
  cases H with
  |cons h1 h2 h3=>
   obtain⟨m,L1,L2⟩:=Lex.split h3
   exact⟨m,.cons h1 h2 L1,L2⟩
theorem Lex.append{T1 T2:List Tk}(H:Lex s a m T1)(H2:Lex s m b T2):Lex s a b (T1++T2):=by
 induction H with
 |nil=>exact H2
 |cons h1 h2 _ ih=>exact .cons h1 h2 (ih H2)
theorem Lex.head{t:Tk}{T:List Tk}(H:Lex s a b (t::T)):t.2.1=(a:Int):=by
 cases H with
 |cons=>rfl
theorem Lex.last{t:Tk}{T:List Tk}(H:Lex s a b (T++[t])):t.2.2=(b:Int):=by
 obtain⟨m,_,L⟩:=H.split
 cases L with
 |cons h1 h2 h3=>
  cases h3
  rfl
def shT(k:Nat)(t:Tk):Tk:=(t.1,t.2.1-(k:Int),t.2.2-(k:Int))
theorem Lex.cut{lo hi:Nat}(hh:hi<=s.length){T:List Tk}(H:Lex s a b T):lo<=a->b<=hi->Lex (pc s lo hi) (a-lo) (b-lo) (T.map (shT lo)):=by
 induction H with
 |nil=>intro _ _;exact .nil
 | @cons a b T h1 h2 h3 ih=>
  intro ha hb
  have hp:=zcn h1 h2
  have Z:=h3.le.1
  have e:=z3y ha h1 h2 (hi:=hi) (by omega)
  have hl:=qb4 (s:=s) (lo:=lo) hh
  have:=Lex.cons (s:=pc s lo hi) (i:=a-lo) (j:=b-lo) (T:=T.map (shT lo)) (by rw[hl];omega) (by rw[e]) (by rw[e];exact ih (by omega) hb)
  rw[Cf]
  rw[e]at this
  have et:shT lo ((J5 s a).1,((a:Int),((J5 s a).2.1:Int)))=((J5 s a).1,(((a-lo:Nat):Int),(((J5 s a).2.1-lo:Nat):Int))):=by
   unfold shT
   dsimp only
   rw[show((a-lo:Nat):Int)=(a:Int)-(lo:Int)from by omega,show(((J5 s a).2.1-lo:Nat):Int)=((J5 s a).2.1:Int)-(lo:Int)from by omega]
  rw[et];exact this
theorem KidsG.map{K K':List Bs->List Bs->Bs×Tr->List Tk->Nat->Prop}{close:Int}{f:Tk->Tk}{G:Tk->Prop}(hf:∀t,(f t).1=t.1)(hK:∀had had' kv C m,K had had' kv C m->(∀t∈C,G t)->K' had had' kv (C.map f) m){had:List Bs}{kvs:List (Bs×Tr)}{D:List Tk}(H:KidsG K close had kvs D m):(∀t∈D,G t)->KidsG K' close had kvs (D.map f) m:=by
 induction H with
 |last hk hc=>
  intro hg
  rw[CG]
  exact .last (hK _ _ _ _ _ hk λt ht=>hg t (AJ _ ht)) (by rw[hf];exact hc)
 |more hk hq _ ih=>
  intro hg
  rw[CG,Cf]
  exact .more (hK _ _ _ _ _ hk λt ht=>hg t (AJ _ ht)) (by rw[hf];exact hq) (ih λt ht=>hg t (AO _ (Aw _ ht)))
theorem zls{p:Sp}(h0:0<=p.1)(h1:p.1<p.2)(h2:p.2<=(s.length:Int)):Q6 s p=zel s p:=by
 unfold Q6;rw[if_neg (by omega)]
end
section
def z5o(r:Nat):Prop:=r<55296\/(57344<=r/\r<=1114111)
theorem zwu{x:Int}(h0:0<=x)(h1:x<256):(x.toNat.toUInt8).toNat=x.toNat:=by
 rw[Nat.toUInt8,UInt8.toNat_ofNat'];omega
theorem dec_enc{r:Nat}(h:z5o r)(m:Bs):dec (encodeRune (r:Int)++m)=(r,(encodeRune (r:Int)).length)/\1<=(encodeRune (r:Int)).length/\(128<=r->2<=(encodeRune (r:Int)).length):=by
 unfold z5o at h
 by_cases h1:r<=127
 ·have e:encodeRune (r:Int)=[(r:Int).toNat.toUInt8]:=by unfold encodeRune;rw[encodeRuneZ_one (by omega) (by omega)];rfl
  rw[e]
  have b0:=zwu (x:=(r:Int)) (by omega) (by omega)
  refine⟨?_,by simp,λh=>by omega⟩
  rw[List.singleton_append,Xl (by rw[b0];omega),b0];simp
 ·by_cases h2:r<=2047
  ·have e:encodeRune (r:Int)=[(192+(r:Int) / 64).toNat.toUInt8,(128+(r:Int) % 64).toNat.toUInt8]:=by unfold encodeRune;rw[encodeRuneZ_two (by omega) (by omega)];rfl
   rw[e]
   have b0:=zwu (x:=192+(r:Int) / 64) (by omega) (by omega)
   have b1:=zwu (x:=128+(r:Int) % 64) (by omega) (by omega)
   refine⟨?_,by simp,λh=>by simp⟩
   simp only[dec,A8,BV,List.getD_cons_zero,List.getD_cons_succ,AN,b0,b1]
   unfold decodeN
   rw[if_neg (by omega),if_pos ⟨by omega,by omega,by omega⟩,if_pos (by omega)]
   simp only[Bh,Bn,and_true];omega
  ·by_cases h3:r<=65535
   ·have e:encodeRune (r:Int)=[(224+(r:Int) / 4096).toNat.toUInt8,(128+(r:Int) / 64 % 64).toNat.toUInt8,(128+(r:Int) % 64).toNat.toUInt8]:=by unfold encodeRune;rw[encodeRuneZ_three (by omega)];rfl
    rw[e]
    have b0:=zwu (x:=224+(r:Int) / 4096) (by omega) (by omega)
    have b1:=zwu (x:=128+(r:Int) / 64 % 64) (by omega) (by omega)
    have b2:=zwu (x:=128+(r:Int) % 64) (by omega) (by omega)
    refine⟨?_,by simp,λh=>by simp⟩
    simp only[dec,A8,BV,List.getD_cons_zero,List.getD_cons_succ,AN,b0,b1,b2]
    unfold decodeN
    rw[if_neg (by omega),if_neg (by omega),if_pos ⟨by omega,⟨by omega,by omega⟩,by omega,by omega⟩,if_pos (by omega)]
    simp only[Bh,Bn,and_true];omega
   ·have e:encodeRune (r:Int)=[(240+(r:Int) / 262144).toNat.toUInt8,(128+(r:Int) / 4096 % 64).toNat.toUInt8,(128+(r:Int) / 64 % 64).toNat.toUInt8,(128+(r:Int) % 64).toNat.toUInt8]:=by unfold encodeRune;rw[encodeRuneZ_four (by omega) (by omega)];rfl
    rw[e]
    have b0:=zwu (x:=240+(r:Int) / 262144) (by omega) (by omega)
    have b1:=zwu (x:=128+(r:Int) / 4096 % 64) (by omega) (by omega)
    have b2:=zwu (x:=128+(r:Int) / 64 % 64) (by omega) (by omega)
    have b3:=zwu (x:=128+(r:Int) % 64) (by omega) (by omega)
    refine⟨?_,by simp,λh=>by simp⟩
    simp only[dec,A8,BV,List.getD_cons_zero,List.getD_cons_succ,AN,b0,b1,b2,b3]
    unfold decodeN
    rw[if_neg (by omega),if_neg (by omega),if_neg (by omega),if_pos ⟨by omega,⟨by omega,by omega⟩,⟨by omega,by omega⟩,by omega,by omega⟩,if_pos (by omega)]
    simp only[Bh,Bn,and_true];omega
theorem zuv(l:Bs):z5o (dec l).1:=by
 have h0:=(l.getD 0 0).toNat_lt
 have h1:=(l.getD 1 0).toNat_lt
 have h2:=(l.getD 2 0).toNat_lt
 have h3:=(l.getD 3 0).toNat_lt
 unfold z5o dec decodeN
 repeat' split
 all_goals omega
def okV(x:Tr):Bool:=decide (x.kind≠7)&&qay x
structure GoodV (d:Nat) (v:Tr) (m:Nat):Prop where
 sz:tsz v=m
 dp:tdp v<=d
 ok:qek okV v=true
 tx:txB 1048576 v
structure GoodK (d:Nat) (xs:List Tr) (m:Nat):Prop where
 sz:z2q xs=m
 dp:qdk xs<=d
 ok:z7k okV xs=true
 tx:z7l 1048576 xs
end
section
theorem zjo(a b:Bs):zbz (a++b)=zbz a++zbz b:=by unfold zbz;rw[List.flatMap_append]
theorem z3z(c:UInt8):(z5b c).length<=6:=by
 unfold z5b
 repeat' split
 all_goals simp
theorem zf6:∀l:Bs,(zbz l).length<=6*l.length
 |[]=>by simp[zbz]
 |c::l=>by
  have:=zf6 l
  have h1:=z3z c
  have e:zbz (c::l)=z5b c++zbz l:=rfl
  rw[e,AF,AN];omega
theorem z02{c:UInt8}(h:128<=c.toNat):z5b c=[c]:=by
 have ne:∀n:Nat,n<128->c≠Be n:=λn hn e=>by
  rw[e,UInt8.toNat_ofNat']at h;omega
 unfold z5b
 rw[if_neg (by rintro(e|e);exact ne 34 (by omega) e;exact ne 92 (by omega) e),if_neg (show¬c=8 from ne 8 (by omega)),if_neg (show¬c=12 from ne 12 (by omega)),if_neg (show¬c=10 from ne 10 (by omega)),if_neg (show¬c=13 from ne 13 (by omega)),if_neg (show¬c=9 from ne 9 (by omega)),if_neg (by omega)]
theorem zqi:∀{l:Bs},(∀c∈l,128<=c.toNat)->zbz l=l
 |[],_=>rfl
 |c::l,h=>by
  have e:zbz (c::l)=z5b c++zbz l:=rfl
  rw[e,z02 (h c AC),zqi λx hx=>h x (Aw _ hx)];rfl
theorem zuw{r:Nat}(h:z5o r)(hr:128<=r):∀c∈encodeRune (r:Int),128<=c.toNat:=by
 unfold z5o at h
 intro c hc
 unfold encodeRune at hc
 obtain⟨x,hx,rfl⟩:=List.mem_map.1 hc
 have key:∀y:Int,x=y->128<=y->y<256->128<=x.toNat.toUInt8.toNat:=λy e h1 h2=>by
  subst e;rw[zwu (by omega) h2];omega
 by_cases h2:r<=2047
 ·rw[encodeRuneZ_two (by omega) (by omega)]at hx
  simp only[Ay,DX,or_false]at hx
  rcases hx with e|e <;> exact key _ e (by omega) (by omega)
 ·by_cases h3:r<=65535
  ·rw[encodeRuneZ_three (by omega)]at hx
   simp only[Ay,DX,or_false]at hx
   rcases hx with e|e|e <;> exact key _ e (by omega) (by omega)
  ·rw[encodeRuneZ_four (by omega) (by omega)]at hx
   simp only[Ay,DX,or_false]at hx
   rcases hx with e|e|e|e <;> exact key _ e (by omega) (by omega)
def zqj(r:Nat):Nat:=if r=34\/r=92 then r else if r=8 then 98 else if r=12 then 102 else if r=10 then 110 else if r=13 then 114 else if r=9 then 116 else 0
def z9h(k:Nat):UInt8:=Be (if k<10 then 48+k else 87+k)
def zwz(r:Nat):Bs:=if zqj r≠0 then [92,Be (zqj r)]else if 32<=r then encodeRune (r:Int)else [92,117,48,48,Be (48+r / 16),z9h (r % 16)]
theorem z4a:(BS 128).all (λk=>decide (z5b (Be k)=zwz k))=true:=by kernel_rfl
theorem zux{l:Bs}(h:l≠[])(hg:zc6 (dec l)=false):zbz (l.take (dec l).2)=zwz (dec l).1:=by
 by_cases hr:(dec l).1<128
 ·obtain⟨c,t,rfl⟩:=BK h
  have hc:c.toNat<128:=by
   rcases A1 c.toNat 128 with h1|h1
   ·exact h1
   ·exfalso
    have h2:=zr4 h hg
    have hn:=(Yv (c::t)).1
    have e1:encodeRune ((dec (c::t)).1:Int)=[((dec (c::t)).1:Int).toNat.toUInt8]:=by unfold encodeRune;rw[encodeRuneZ_one (by omega) (by omega)];rfl
    obtain⟨n,Z⟩:∃n,(dec (c::t)).2=n+1:=⟨(dec (c::t)).2-1,by omega⟩
    rw[e1,Z,Bw]at h2
    injection h2 with h2 _
    rw[<-h2,zwu (by omega) (by omega)]at h1
    omega
  rw[Xl hc]at hr ⊢
  have:=A5.1 z4a c.toNat (BF.2 hc)
  have:=of_decide_eq_true this
  rw[UInt8.ofNat_toNat]at this
  rw[<-this]
  simp[zbz]
 ·have hr:128<=(dec l).1:=by omega
  have e:=zr4 h hg
  have hl:zqj (dec l).1=0:=by
   unfold zqj
   rw[if_neg (by omega),if_neg (by omega),if_neg (by omega),if_neg (by omega),if_neg (by omega),if_neg (by omega)]
  unfold zwz
  rw[if_neg (by rw[hl];exact λh=>h rfl),if_pos (by omega),<-e]
  exact zqi (zuw (zuv l) hr)
end
end Go.X
end
section
namespace Go.X
open Go Go.X Go.Proofs Go.RowKit
section
variable {h:Za} {it:Nat} {s:Bt} {K:Value -> Za -> Prop} {gl:Fr} {t:Bs}
theorem qb5{P:Program}{p:Nat}(e:h[it]?=some (.stringIter s p)){T:TypeId}(h1:p<s.size->K (.tuple #[.bool true,.int .i64 (p:Int),.int .i32 (nxR s p)]) (h.setIfInBounds it (.stringIter s (nxP s p))))
  (h0:s.size<=p->K (.tuple #[.bool false]) h):XRun P (Ea (.pointer (some ⟨it,0,none⟩)) true T) h K:=by
 have hg:∀(w:World),w.heap[it]?=some (.stringIter s p)->(getObj it).run P w=.ok (.stringIter s p) w:=λw e=>by simp[getObj,Sem.run,e]
 have hs:∀(w:World) (o':Obj),w.heap[it]?=some (.stringIter s p)->(setObj it o').run P w=.ok () { w with heap:=w.heap.setIfInBounds it o' }:=λw o' e=>by simp[setObj,Sem.run,e]
 intro B d
 by_cases hb:p<s.size
 ·have eb:nxB s p=true:=by simpa[nxB,CC]using hb
  have ep:nxP s p=p+(Es s p).2:=by unfold nxP;rw[show Nat.blt p s.size=true from eb];rfl
  refine⟨_,d,_,?_,h1 hb⟩
  unfold Ea
  simp only
  rw[Sem.run_bind,hg (mk B d h) e]
  simp only[Result.andThen_ok,hb,if_true]
  rw[Sem.run_bind,hs (mk B d h) _ e,ep]
  rfl
 ·refine⟨_,d,h,?_,h0 (by omega)⟩
  unfold Ea
  simp only
  rw[Sem.run_bind,hg (mk B d h) e]
  simp only[Result.andThen_ok,hb,if_false]
  rfl
theorem Bld.other{h h':Za}{b:Nat}{l:Bs}(H:Bld h b l){p:Nat}(e:h[it]?=some (.stringIter s p))(f:∀i,i≠it->h'[i]?=h[i]?):Bld h' b l:=by
 obtain⟨q,r,eb,hp,ho⟩:=H
 refine⟨q,r,?_,hp,ho.keep λa ha=>?_⟩
 ·rw[f b (λhb=>by rw[hb,e]at eb;cases eb)];exact eb
 ·refine f _ λhb=>?_
  rcases ho.2 with⟨hv,_⟩|⟨g,cap,Z,hv,_,hg,_⟩
  ·rw[ha]at hv;cases hv
  ·have hg:h[g]?=some (.cells Z 5 (0,0)):=hg
   rw[ha]at hv
   injection hv with e1 _ _
   injection e1 with e1
   rw[e1]at hb
   have hb:g=it:=hb
   rw[hb,e]at hg;cases hg
theorem Bld.zero(h:Za):Bld (h.push (.cells #[.pointer none,.slice none 0 0] 112)) h.size []:=
 ⟨none,⟨none,0,0⟩,Jh _ _,.inl rfl,Owns.nil _ _ _ _⟩
theorem z4b{r:Nat}(hr:r<=1114111)(hK:K (.int .u8 (zqj r:Int)) h):XC Tp 82 #[.int .i32 (r:Int)] h K:=by
 apply zje
 intro K3 af
 have eq:∀n:Nat,((r:Int)==(n:Int))=decide (r=n):=λn=>by
  rw[A6];simp only[beq_iff_eq,decide_eq_true_eq];omega
 have ai:((r:Int)==34)=decide (r=34):=eq 34
 have aa:((r:Int)==92)=decide (r=92):=eq 92
 have e8:((r:Int)==8)=decide (r=8):=eq 8
 have ah:((r:Int)==12)=decide (r=12):=eq 12
 have ab:((r:Int)==10)=decide (r=10):=eq 10
 have ae:((r:Int)==13)=decide (r=13):=eq 13
 have e9:((r:Int)==9)=decide (r=9):=eq 9
 unfold zqj at hK
 have Z:∀b:Bool,(b=true↔r=34\/r=92)->K3 b h:=λb hb=>by
  refine af _ _ ⟨λhx=>?_,λhx=>?_⟩
  ·rw[if_pos (hb.1 hx)]at hK
   have e:Ar .u8 (r:Int)=(r:Int):=by
    rcases hb.1 hx with rfl|rfl <;> rfl
   rw[e];exact hK
  ·rw[if_neg (λh=>by rw[hb.2 h]at hx;cases hx)]at hK
   rw[e8,ah,ab,ae,e9]
   refine⟨λh=>?_,λh=>?_⟩
   ·rw[if_pos (of_decide_eq_true h)]at hK;exact hK
   rw[if_neg (of_decide_eq_false h)]at hK
   refine⟨λh=>?_,λh=>?_⟩
   ·rw[if_pos (of_decide_eq_true h)]at hK;exact hK
   rw[if_neg (of_decide_eq_false h)]at hK
   refine⟨λh=>?_,λh=>?_⟩
   ·rw[if_pos (of_decide_eq_true h)]at hK;exact hK
   rw[if_neg (of_decide_eq_false h)]at hK
   refine⟨λh=>?_,λh=>?_⟩
   ·rw[if_pos (of_decide_eq_true h)]at hK;exact hK
   rw[if_neg (of_decide_eq_false h)]at hK
   refine⟨λh=>?_,λh=>?_⟩
   ·rw[if_pos (of_decide_eq_true h)]at hK;exact hK
   rw[if_neg (of_decide_eq_false h)]at hK
   exact hK
 rw[ai,aa]
 refine⟨λhx=>Z _ ?_,λhx=>Z _ ?_⟩
 ·rw[hx];exact⟨λ_=>.inl (of_decide_eq_true hx),λ_=>rfl⟩
 ·rw[decide_eq_true_eq];exact⟨.inr,λh=>h.resolve_left (of_decide_eq_false hx)⟩
theorem z4c{c:Nat}(hc:c<32):[92,117]++Lib.repeatL [48] (4-(zc2 c).length)++zc2 c=[92,117,48,48,Be (48+c / 16),z9h (c % 16)]/\((zc2 c).length=1\/(zc2 c).length=2):=by
 have:(BS 32).all (λc=>decide ([92,117]++Lib.repeatL [48] (4-(zc2 c).length)++zc2 c=[92,117,48,48,Be (48+c / 16),z9h (c % 16)]/\((zc2 c).length=1\/(zc2 c).length=2)))=true:=by kernel_rfl
 exact of_decide_eq_true (A5.1 this c (BF.2 hc))
set_option maxRecDepth 100000 in
set_option maxHeartbeats 4000000 in
theorem z9i(hg:GL gl)(ht:t.length<=1048576){M:Fr}(hM:Fr.le gl M)(hb:Brn M)(ag:AgM M h)(hK:∀h',Keep h.size h h'->K (.tuple #[.string (bl (z2y t).1),.int .i64 (z2y t).2]) h'):
  XC Tp 27 #[.string (bl t)] h K:=by
 apply zj6
 refine(zt6 hg.tabs (l:=t) (by omega) (R:=λr=>r.2=Ys t) λk=>rfl).go hM ag (Qw (a:=Arg.mk .str _) (rdStr _) Yk) λv h2 M2 r L2 hv hr=>?_
 obtain⟨n,is⟩:=r
 have hr:is=Ys t:=hr
 subst hr
 obtain⟨_,⟨u1,_,rfl,a8,u2,rfl,aj⟩,rfl⟩:=hv
 obtain rfl:=Zy a8
 have aj:u2=.bool (Ys t):=by rw[zto rfl]at aj;simpa[Rd]using aj
 subst aj
 refine⟨_,_,rfl,?_⟩
 unfold z2y at hK
 refine⟨λhx=>?_,λhx=>?_⟩
 ·have:Ys t=false:=by simpa using hx
  rw[this]at hK
  exact hK h2 L2.keep
 have hu:Ys t=true:=by simpa using hx
 rw[if_pos hu]at hK
 intro h5
 have k5:Keep h2.size h2 h5:=Keep.push _ _ (Av _)
 have z5:h5.size=h2.size+1:=AM _
 have B5:Bld h5 h2.size []:=Bld.zero h2
 clear_value h5
 have z2:=L2.keep.size
 refine zbj B5 (by simp) 34 λh7 B7 k7 i7=>⟨_,rfl,?_⟩
 have z7:h2.size<h7.size:=B7.lt
 intro h9
 have k9:Keep h7.size h7 h9:=Keep.push _ _ (Av _)
 have z9:h9.size=h7.size+1:=AM _
 have B9:Bld h9 h2.size [34]:=B7.keep k9
 have e9:h9[h7.size]?=some (.stringIter (bl t) 0):=Jh _ _
 clear_value h9
 have ay:Keep h.size h h9:=⟨by omega,λj hj=>by rw[k9.get j (by omega),k7.get j (by omega),k5.get j (by omega),L2.keep.get j hj]⟩
 refine⟨λg=>∃p,p<=t.length/\Bld g h2.size (34::zbz (t.take p))/\g[h7.size]?=some (.stringIter (bl t) p)/\Ys (t.drop p)=true/\Keep h2.size h9 g,λg=>match g[h7.size]? with
  |some (.stringIter _ p)=>t.length-p
  |_=>0,⟨0,by omega,B9,e9,hu,Keep.refl _ _⟩,?_⟩
 rintro g ⟨p,hp,Bg,eg,ae,kg⟩
 have aP:(zbz (t.take p)).length<=6*t.length:=by
  have:=zf6 (t.take p)
  rw[Bc]at this;omega
 refine qb5 eg (λaF=>.inr ⟨_,_,rfl,λ_=>?_,λhx=>(by cases hx)⟩) (λah=>.inl ⟨rfl,λhx=>(by cases hx),λ_=>?_⟩)
 ·-- a rune more
  rw[Zf]at aF
  have hd:t.drop p≠[]:=by intro e;rw[List.drop_eq_nil_iff]at e;omega
  have an:zc6 (dec (t.drop p))=false:=by
   rw[Ym hd]at ae
   cases hbd:zc6 (dec (t.drop p))with
   |true=>rw[hbd]at ae;cases ae
   |false=>rfl
  have aB:Ys (t.drop (p+(dec (t.drop p)).2))=true:=by
   rw[Ym hd,an]at ae
   rw[<-Bq];simpa using ae
  have hq:=zux hd an
  have hw:=Yv (t.drop p)
  have aG:=ztq hd
  rw[AW]at aG
  have ap:=zzl (t.drop p)
  have ab:zbz (t.take (p+(dec (t.drop p)).2))=zbz (t.take p)++zwz (dec (t.drop p)).1:=by
   rw[<-hq,<-zjo,List.take_add]
  rw[zpd,zja t p aF]
  generalize hr:(dec (t.drop p)).1=r at ap ab ⊢
  generalize hn:(dec (t.drop p)).2=n at hw aG aB ab ⊢
  have bh:h7.size<g.size:=(Au.1 eg).1
  generalize ai:g.setIfInBounds h7.size (.stringIter (bl t) (p+n))=h14
  have aH:∀i,i≠h7.size->h14[i]?=g[i]?:=λi hi=>by rw[<-ai,A3 (Ne.symm hi)]
  have aL:h14[h7.size]?=some (.stringIter (bl t) (p+n)):=by rw[<-ai,Array.getElem?_setIfInBounds_self_of_lt bh]
  have bz:h14.size=g.size:=by rw[<-ai];simp
  have ak:=Bg.other eg aH
  have ar:Keep h2.size h9 h14:=⟨by have:=kg.size;omega,λj hj=>by rw[aH j (by omega)];exact kg.get j hj⟩
  have aa:∀g':Za,Bld g' h2.size (34::zbz (t.take p)++zwz r)->Keep h2.size h14 g'->Itk h14 g'->(∃p,p<=t.length/\Bld g' h2.size (34::zbz (t.take p))/\g'[h7.size]?=some (.stringIter (bl t) p)/\Ys (t.drop p)=true/\Keep h2.size h9 g') /\
    (match g'[h7.size]? with|some (.stringIter _ p)=>t.length-p|_=>0)<(match g[h7.size]? with|some (.stringIter _ p)=>t.length-p|_=>0):=λg' B' k' i'=>by
   have e':=i' _ _ _ aL
   refine⟨⟨p+n,by omega,by rw[ab];exact B',e',aB,ar.trans k' (Av _)⟩,?_⟩
   rw[e',eg]
   show t.length-(p+n)<t.length-p
   omega
  have bE:(34::zbz (t.take p)).length=(zbz (t.take p)).length+1:=rfl
  unfold zwz at aa
  refine z4b ap ⟨_,rfl,λhx=>?_,λhx=>?_⟩
  ·have h0:zqj r≠0:=by intro e;rw[e]at hx;simp at hx
   rw[if_pos h0]at aa
   have aI:zqj r<256:=by
    unfold zqj
    repeat' split
    all_goals omega
   have e8:((Be (zqj r)).toNat:Int)=(zqj r:Int):=by rw[UInt8.toNat_ofNat'];omega
   refine zbj ak (by omega) 92 λbA aQ bj bm=>⟨_,rfl,?_⟩
   rw[<-e8]
   refine zbj aQ (by simp;omega) (Be (zqj r)) λaM aA aV aS=>⟨_,rfl,?_⟩
   refine aa aM ?_ (bj.trans aV (Av _)) (bm.trans aS)
   rw[Bo]at aA;exact aA
  ·have h0:zqj r=0:=by
    have:((zqj r:Int) != 0)=false:=hx
    simpa using this
   rw[if_neg (by rw[h0];exact λh=>h rfl)]at aa
   refine⟨λah=>?_,λZ=>?_⟩
   ·have ah:32<=r:=by have:=of_decide_eq_true ah;omega
    rw[if_pos ah]at aa
    refine zjg ak (by omega) (by omega) (by omega) λaN m aT a6 bg=>⟨_,_,rfl,?_⟩
    exact aa aN aT a6 bg
   ·have Z:r<32:=by have:=of_decide_eq_false Z;omega
    rw[if_neg (by omega)]at aa
    obtain⟨bi,bD⟩:=z4c Z
    rw[w64 (by omega)]
    have aC:Keep h.size h h14:=⟨by have:=ar.size;have:=ay.size;omega,λj hj=>by rw[ar.get j (by omega),ay.get j hj]⟩
    have am:AgM M h14:=ag.keep aC
    refine zsd Z hb am λbC af=>⟨_,rfl,?_⟩
    have bq:(zc2 r).length<=4:=by omega
    rw[Zf,w64 (by omega),show(4:Int)-((zc2 r).length:Int)=((4-(zc2 r).length:Nat):Int)from by omega]
    refine(zy4 (gl:=gl) (s:=bl [48]) (c:=4-(zc2 r).length) (by omega) (by rw[Zf];simp;omega) (R:=λx=>x=bl (Lib.repeatL [48] (4-(zc2 r).length))) (by rw[Yh])).go hM (am.keep af) (Qw (a:=Arg.mk .str _) (rdStr _) (Qw (a:=Arg.mk (.int .i64) _) (zbp _ _) Yk)) λv a1 bB x au hv hx=>?_
    subst hx
    have hv:=Y1 (zqn.1 hv)
    have aZ:=Lib.repeatL_length [48] (4-(zc2 r).length)
    have hz:(Lib.repeatL [48] (4-(zc2 r).length)).length<=4:=by rw[aZ];simp
    refine⟨_,hv,?_,?_,?_⟩
    ·show Qk ((bl [92,117]).size+(bl (Lib.repeatL [48] (4-(zc2 r).length))).size)
     unfold Qk
     rw[Zf,Zf];simp only[AN,Bh];omega
    ·show Qk ((bl [92,117]++bl (Lib.repeatL [48] (4-(zc2 r).length))).size+(bl (zc2 r)).size)
     unfold Qk
     rw[Z2,Zf,Zf,AF];simp only[AN,Bh];omega
    ·have e:((⟨#[92,117]⟩:Bt)++bl (Lib.repeatL [48] (4-(zc2 r).length)))++bl (zc2 r)=bl ([92,117]++Lib.repeatL [48] (4-(zc2 r).length)++zc2 r):=by
      show(bl [92,117]++bl (Lib.repeatL [48] (4-(zc2 r).length)))++bl (zc2 r)=_
      rw[Z2,Z2]
     rw[e,bi]
     have bG:=af.size
     have aY:=(ak.keep af).keep au.keep
     have ba:Itk h14 a1:=(Itk.keep af).trans (Itk.keep au.keep)
     have br:=ak.lt
     refine zm5 aY _ (by simp only[AN,Bh];omega) λbo be aU bn=>⟨_,_,rfl,?_⟩
     exact aa bo be (((af.mono (m:=h2.size) (by omega)).trans (au.keep.mono (m:=h2.size) (by omega)) (Av _)).trans aU (Av _)) (ba.trans bn)
 ·rw[Zf]at ah
  have aJ:p=t.length:=by omega
  subst aJ
  rw[BL]at Bg
  refine zbj Bg (by rw[BL]at aP;simp;omega) 34 λbF aO aE bu=>⟨_,rfl,?_⟩
  refine zua aO λa7 az=>⟨_,rfl,?_⟩
  refine hK a7 ⟨?_,λj hj=>?_⟩
  ·have:=kg.size;have:=aE.size;have:=az.size;omega
  ·rw[az.get j (by omega),aE.get j (by omega),kg.get j (by omega),ay.get j hj]
theorem zuy(hg:GL gl)(hb:Brn gl)(ht:t.length<=1048576){R:Bt×Int->Prop}(hR:R (bl (z2y t).1,(z2y t).2)):PC Tp gl 27 [Arg.mk .str (bl t)] [.str,.int .i64] R:=by
 intro h M vs hM ag ha
 match vs,ha with
 |[u1],⟨a1,_⟩=>
  obtain rfl:=Y1 (s:=bl t) a1
  apply PX.of
  exact z9i hg ht hM (hb.mono hM) ag λh' k=>⟨M,_,Later.same ag k,⟨[_,_],⟨_,_,rfl,rdStr _,_,rfl,zbp _ _⟩,rfl⟩,hR⟩
end
end Go.X
end
section
namespace Go.X
section
theorem X3(s0:Bt)(t1:Bt)(h:Za)(R:Value->Za->Prop)
  (H:XC Tp 13 #[] h (λb c=>∃d,b=.bool d/\((decide ((Ar .i64 ((s0.size:Int)+(t1.size:Int)))>2048))=true->R (.bool d) c)/\((decide ((Ar .i64 ((s0.size:Int)+(t1.size:Int)))>2048))=false->XC Tp 25 #[.string s0] c (λe f=>∃g i j k,e=.tuple #[.agg #[.bool g,.string i,.int .i64 j],.int .i64 k]/\let l:=f.push (.cells #[.bool false,.string (⟨#[]⟩:Bt),.int .i64 0] 46);XRunU Tp (AI 46 (.pointer (some ⟨f.size,0,none⟩)) (.agg #[.bool g,.string i,.int .i64 j])) l (λm=>∀n:Za->Prop,(∀o:Za,(XC Tp 27 #[.string t1] o (λp q=>∃r s,p=.tuple #[.string r,.int .i64 s]/\((s != 0)=true->R (.bool d) q)/\((s != 0)=false->Qk (((⟨#[32]⟩:Bt)).size+r.size)/\Qk (((⟨#[32]⟩:Bt)++r).size+((⟨#[10]⟩:Bt)).size)/\XC Tp 15 #[.string (((⟨#[32]⟩:Bt)++r)++(⟨#[10]⟩:Bt))] q (λt u=>∃v w x y z A,t=.tuple #[.agg #[.int .i64 v,.string w,slV x,slV y],.int .i64 z,.int .i64 A]/\let B:=u.push (.cells #[.int .i64 0,.string (⟨#[]⟩:Bt),.slice none 0 0,.slice none 0 0] 26);XRunU Tp (AI 26 (.pointer (some ⟨u.size,0,none⟩)) (.agg #[.int .i64 v,.string w,slV x,slV y])) B (λC=>Qk (((⟨#[91]⟩:Bt)).size+r.size)/\Qk (((⟨#[91]⟩:Bt)++r).size+((⟨#[44]⟩:Bt)).size)/\Qk ((((⟨#[91]⟩:Bt)++r)++(⟨#[44]⟩:Bt)).size+r.size)/\Qk (((((⟨#[91]⟩:Bt)++r)++(⟨#[44]⟩:Bt))++r).size+((⟨#[93]⟩:Bt)).size)/\XC Tp 15 #[.string (((((⟨#[91]⟩:Bt)++r)++(⟨#[44]⟩:Bt))++r)++(⟨#[93]⟩:Bt))] C (λD E=>∃F G I J L M,D=.tuple #[.agg #[.int .i64 F,.string G,slV I,slV J],.int .i64 L,.int .i64 M]/\let N:=E.push (.cells #[.int .i64 0,.string (⟨#[]⟩:Bt),.slice none 0 0,.slice none 0 0] 26);XRunU Tp (AI 26 (.pointer (some ⟨E.size,0,none⟩)) (.agg #[.int .i64 F,.string G,slV I,slV J])) N (λO=>(∃P Q S T,((bif d then(A==0)else false)=true->Zb O ⟨u.size,0,none⟩ 0 [.int .i64 P,.string Q,slV S,slV T])/\∃U:Value->Za->Prop,((bif d then(A==0)else false)=true->XC Tp 28 #[.string t1] O (λV W=>∃X Y Z aa,V=.agg #[.int .i64 X,.string Y,slV Z,slV aa]/\U (.agg #[.int .i64 X,.string Y,slV Z,slV aa]) W))/\((bif d then(A==0)else false)=false->∃ab ac ad ae,U (.agg #[.int .i64 ab,.string ac,slV ad,slV ae]) O)/\((bif d then(A==0)else false)=true->∀af ag,U af ag->∃ah ai aj ak,af=.agg #[.int .i64 ah,.string ai,slV aj,slV ak])/\∀al:Int,∀am:Bt,∀an ao:Sl,∀ap,U (.agg #[.int .i64 al,.string am,slV an,slV ao]) ap->∃aq:Value->Za->Prop,((bif d then(A==0)else false)=true->XC Tp 16 #[.agg #[.int .i64 P,.string Q,slV S,slV T],.agg #[.int .i64 al,.string am,slV an,slV ao]] ap (λar au=>∃av,ar=.bool av/\aq (.bool av) au))/\((bif d then(A==0)else false)=false->∃aw,aq (.bool aw) ap)/\((bif d then(A==0)else false)=true->∀ax ay,aq ax ay->∃az,ax=.bool az)/\∀aA:Bool,∀aB,aq (.bool aA) aB->(∃aC aD aE aF,((bif (bif (bif d then(A==0)else false)then aA else false)then(M==0)else false)=true->Zb aB ⟨E.size,0,none⟩ 0 [.int .i64 aC,.string aD,slV aE,slV aF])/\(∃aG aH aI aJ,((bif (bif (bif d then(A==0)else false)then aA else false)then(M==0)else false)=true->Zb aB ⟨u.size,0,none⟩ 0 [.int .i64 aG,.string aH,slV aI,slV aJ])/\∃aL aM aN aO,((bif (bif (bif d then(A==0)else false)then aA else false)then(M==0)else false)=true->Zb aB ⟨u.size,0,none⟩ 0 [.int .i64 aL,.string aM,slV aN,slV aO])/\∃aP:Value->Za->Prop,((bif (bif (bif d then(A==0)else false)then aA else false)then(M==0)else false)=true->let aQ:=aB.push (.cells #[.int .i64 aG,.string aH,slV aI,slV aJ,.int .i64 aL,.string aM,slV aN,slV aO] 26);aP (.slice (some ⟨aB.size,0,none⟩) 2 2) aQ)/\((bif (bif (bif d then(A==0)else false)then aA else false)then(M==0)else false)=false->∃aS,aP (slV aS) aB)/\((bif (bif (bif d then(A==0)else false)then aA else false)then(M==0)else false)=true->∀aT aU,aP aT aU->∃aV,aT=slV aV)/\∀aW:Sl,∀aX,aP (slV aW) aX->∃aY:Value->Za->Prop,((bif (bif (bif d then(A==0)else false)then aA else false)then(M==0)else false)=true->XC Tp 29 #[slV aW] aX (λaZ a0=>∃a1 a2 a3 a4,aZ=.agg #[.int .i64 a1,.string a2,slV a3,slV a4]/\aY (.agg #[.int .i64 a1,.string a2,slV a3,slV a4]) a0))/\((bif (bif (bif d then(A==0)else false)then aA else false)then(M==0)else false)=false->∃a5 a6 a7 a8,aY (.agg #[.int .i64 a5,.string a6,slV a7,slV a8]) aX)/\((bif (bif (bif d then(A==0)else false)then aA else false)then(M==0)else false)=true->∀a9 ba,aY a9 ba->∃bb bc bd be,a9=.agg #[.int .i64 bb,.string bc,slV bd,slV be])/\∀bf:Int,∀bg:Bt,∀bh bi:Sl,∀bj,aY (.agg #[.int .i64 bf,.string bg,slV bh,slV bi]) bj->∃bk:Value->Za->Prop,((bif (bif (bif d then(A==0)else false)then aA else false)then(M==0)else false)=true->XC Tp 16 #[.agg #[.int .i64 aC,.string aD,slV aE,slV aF],.agg #[.int .i64 bf,.string bg,slV bh,slV bi]] bj (λbl bm=>∃bn,bl=.bool bn/\bk (.bool bn) bm))/\((bif (bif (bif d then(A==0)else false)then aA else false)then(M==0)else false)=false->∃bo,bk (.bool bo) bj)/\((bif (bif (bif d then(A==0)else false)then aA else false)then(M==0)else false)=true->∀bp bq,bk bp bq->∃br,bp=.bool br)/\∀bs:Bool,∀bt,bk (.bool bs) bt->R (.bool (bif (bif (bif (bif d then(A==0)else false)then aA else false)then(M==0)else false)then bs else false)) bt)/\(∃bu bv bw bx,((bif (bif (bif d then(A==0)else false)then aA else false)then(M==0)else false)=true->Zb aB ⟨u.size,0,none⟩ 0 [.int .i64 bu,.string bv,slV bw,slV bx])/\∃bz bA bB bC,((bif (bif (bif d then(A==0)else false)then aA else false)then(M==0)else false)=true->Zb aB ⟨u.size,0,none⟩ 0 [.int .i64 bz,.string bA,slV bB,slV bC])/\∃bD:Value->Za->Prop,((bif (bif (bif d then(A==0)else false)then aA else false)then(M==0)else false)=true->let bE:=aB.push (.cells #[.int .i64 bz,.string bA,slV bB,slV bC,.int .i64 bu,.string bv,slV bw,slV bx] 26);bD (.slice (some ⟨aB.size,0,none⟩) 2 2) bE)/\((bif (bif (bif d then(A==0)else false)then aA else false)then(M==0)else false)=false->∃bF,bD (slV bF) aB)/\((bif (bif (bif d then(A==0)else false)then aA else false)then(M==0)else false)=true->∀bG bH,bD bG bH->∃bI,bG=slV bI)/\∀bJ:Sl,∀bL,bD (slV bJ) bL->∃bM:Value->Za->Prop,((bif (bif (bif d then(A==0)else false)then aA else false)then(M==0)else false)=true->XC Tp 29 #[slV bJ] bL (λbN bO=>∃bP bQ bS bT,bN=.agg #[.int .i64 bP,.string bQ,slV bS,slV bT]/\bM (.agg #[.int .i64 bP,.string bQ,slV bS,slV bT]) bO))/\((bif (bif (bif d then(A==0)else false)then aA else false)then(M==0)else false)=false->∃bU bV bW bX,bM (.agg #[.int .i64 bU,.string bV,slV bW,slV bX]) bL)/\((bif (bif (bif d then(A==0)else false)then aA else false)then(M==0)else false)=true->∀bY bZ,bM bY bZ->∃b0 b1 b2 b3,bY=.agg #[.int .i64 b0,.string b1,slV b2,slV b3])/\∀b4:Int,∀b5:Bt,∀b6 b7:Sl,∀b8,bM (.agg #[.int .i64 b4,.string b5,slV b6,slV b7]) b8->∃b9:Value->Za->Prop,((bif (bif (bif d then(A==0)else false)then aA else false)then(M==0)else false)=true->XC Tp 16 #[.agg #[.int .i64 aC,.string aD,slV aE,slV aF],.agg #[.int .i64 b4,.string b5,slV b6,slV b7]] b8 (λca cb=>∃cc,ca=.bool cc/\b9 (.bool cc) cb))/\((bif (bif (bif d then(A==0)else false)then aA else false)then(M==0)else false)=false->∃cd,b9 (.bool cd) b8)/\((bif (bif (bif d then(A==0)else false)then aA else false)then(M==0)else false)=true->∀ce cf,b9 ce cf->∃cg,ce=.bool cg)/\∀ch:Bool,∀ci,b9 (.bool ch) ci->R (.bool (bif (bif (bif (bif d then(A==0)else false)then aA else false)then(M==0)else false)then ch else false)) ci))/\(∃cj ck cl cm,((bif (bif (bif d then(A==0)else false)then aA else false)then(M==0)else false)=true->Zb aB ⟨u.size,0,none⟩ 0 [.int .i64 cj,.string ck,slV cl,slV cm])/\(∃cn co cp cq,((bif (bif (bif d then(A==0)else false)then aA else false)then(M==0)else false)=true->Zb aB ⟨E.size,0,none⟩ 0 [.int .i64 cn,.string co,slV cp,slV cq])/\∃cr cs ct cu,((bif (bif (bif d then(A==0)else false)then aA else false)then(M==0)else false)=true->Zb aB ⟨u.size,0,none⟩ 0 [.int .i64 cr,.string cs,slV ct,slV cu])/\∃cv:Value->Za->Prop,((bif (bif (bif d then(A==0)else false)then aA else false)then(M==0)else false)=true->let cw:=aB.push (.cells #[.int .i64 cj,.string ck,slV cl,slV cm,.int .i64 cr,.string cs,slV ct,slV cu] 26);cv (.slice (some ⟨aB.size,0,none⟩) 2 2) cw)/\((bif (bif (bif d then(A==0)else false)then aA else false)then(M==0)else false)=false->∃cx,cv (slV cx) aB)/\((bif (bif (bif d then(A==0)else false)then aA else false)then(M==0)else false)=true->∀cy cz,cv cy cz->∃cA,cy=slV cA)/\∀cB:Sl,∀cC,cv (slV cB) cC->∃cD:Value->Za->Prop,((bif (bif (bif d then(A==0)else false)then aA else false)then(M==0)else false)=true->XC Tp 29 #[slV cB] cC (λcE cF=>∃cG cH cI cJ,cE=.agg #[.int .i64 cG,.string cH,slV cI,slV cJ]/\cD (.agg #[.int .i64 cG,.string cH,slV cI,slV cJ]) cF))/\((bif (bif (bif d then(A==0)else false)then aA else false)then(M==0)else false)=false->∃cL cM cN cO,cD (.agg #[.int .i64 cL,.string cM,slV cN,slV cO]) cC)/\((bif (bif (bif d then(A==0)else false)then aA else false)then(M==0)else false)=true->∀cP cQ,cD cP cQ->∃cS cT cU cV,cP=.agg #[.int .i64 cS,.string cT,slV cU,slV cV])/\∀cW:Int,∀cX:Bt,∀cY cZ:Sl,∀c0,cD (.agg #[.int .i64 cW,.string cX,slV cY,slV cZ]) c0->∃c1:Value->Za->Prop,((bif (bif (bif d then(A==0)else false)then aA else false)then(M==0)else false)=true->XC Tp 16 #[.agg #[.int .i64 cn,.string co,slV cp,slV cq],.agg #[.int .i64 cW,.string cX,slV cY,slV cZ]] c0 (λc2 c3=>∃c4,c2=.bool c4/\c1 (.bool c4) c3))/\((bif (bif (bif d then(A==0)else false)then aA else false)then(M==0)else false)=false->∃c5,c1 (.bool c5) c0)/\((bif (bif (bif d then(A==0)else false)then aA else false)then(M==0)else false)=true->∀c6 c7,c1 c6 c7->∃c8,c6=.bool c8)/\∀c9:Bool,∀da,c1 (.bool c9) da->R (.bool (bif (bif (bif (bif d then(A==0)else false)then aA else false)then(M==0)else false)then c9 else false)) da)/\(∃db dc dd de,((bif (bif (bif d then(A==0)else false)then aA else false)then(M==0)else false)=true->Zb aB ⟨u.size,0,none⟩ 0 [.int .i64 db,.string dc,slV dd,slV de])/\(∃df dg dh di,((bif (bif (bif d then(A==0)else false)then aA else false)then(M==0)else false)=true->Zb aB ⟨E.size,0,none⟩ 0 [.int .i64 df,.string dg,slV dh,slV di])/\∃dj:Value->Za->Prop,((bif (bif (bif d then(A==0)else false)then aA else false)then(M==0)else false)=true->let dk:=aB.push (.cells #[.int .i64 cj,.string ck,slV cl,slV cm,.int .i64 db,.string dc,slV dd,slV de] 26);dj (.slice (some ⟨aB.size,0,none⟩) 2 2) dk)/\((bif (bif (bif d then(A==0)else false)then aA else false)then(M==0)else false)=false->∃dl,dj (slV dl) aB)/\((bif (bif (bif d then(A==0)else false)then aA else false)then(M==0)else false)=true->∀dm dn,dj dm dn->∃dp,dm=slV dp)/\∀dq:Sl,∀dr,dj (slV dq) dr->∃ds:Value->Za->Prop,((bif (bif (bif d then(A==0)else false)then aA else false)then(M==0)else false)=true->XC Tp 29 #[slV dq] dr (λdt du=>∃dv dw dx dy,dt=.agg #[.int .i64 dv,.string dw,slV dx,slV dy]/\ds (.agg #[.int .i64 dv,.string dw,slV dx,slV dy]) du))/\((bif (bif (bif d then(A==0)else false)then aA else false)then(M==0)else false)=false->∃dz dA dB dC,ds (.agg #[.int .i64 dz,.string dA,slV dB,slV dC]) dr)/\((bif (bif (bif d then(A==0)else false)then aA else false)then(M==0)else false)=true->∀dD dE,ds dD dE->∃dF dG dH dI,dD=.agg #[.int .i64 dF,.string dG,slV dH,slV dI])/\∀dJ:Int,∀dL:Bt,∀dM dN:Sl,∀dO,ds (.agg #[.int .i64 dJ,.string dL,slV dM,slV dN]) dO->∃dP:Value->Za->Prop,((bif (bif (bif d then(A==0)else false)then aA else false)then(M==0)else false)=true->XC Tp 16 #[.agg #[.int .i64 df,.string dg,slV dh,slV di],.agg #[.int .i64 dJ,.string dL,slV dM,slV dN]] dO (λdQ dS=>∃dT,dQ=.bool dT/\dP (.bool dT) dS))/\((bif (bif (bif d then(A==0)else false)then aA else false)then(M==0)else false)=false->∃dU,dP (.bool dU) dO)/\((bif (bif (bif d then(A==0)else false)then aA else false)then(M==0)else false)=true->∀dV dW,dP dV dW->∃dX,dV=.bool dX)/\∀dY:Bool,∀dZ,dP (.bool dY) dZ->R (.bool (bif (bif (bif (bif d then(A==0)else false)then aA else false)then(M==0)else false)then dY else false)) dZ)/\(∃d0:Value->Za->Prop,((bif (bif (bif d then(A==0)else false)then aA else false)then(M==0)else false)=true->let d1:=aB.push (.cells #[.int .i64 cj,.string ck,slV cl,slV cm,.int .i64 db,.string dc,slV dd,slV de] 26);d0 (.slice (some ⟨aB.size,0,none⟩) 2 2) d1)/\((bif (bif (bif d then(A==0)else false)then aA else false)then(M==0)else false)=false->∃d2,d0 (slV d2) aB)/\((bif (bif (bif d then(A==0)else false)then aA else false)then(M==0)else false)=true->∀d3 d4,d0 d3 d4->∃d5,d3=slV d5)/\∀d6:Sl,∀d7,d0 (slV d6) d7->(∃d8 d9 ea eb,((bif (bif (bif d then(A==0)else false)then aA else false)then(M==0)else false)=true->Zb d7 ⟨E.size,0,none⟩ 0 [.int .i64 d8,.string d9,slV ea,slV eb])/\∃ec:Value->Za->Prop,((bif (bif (bif d then(A==0)else false)then aA else false)then(M==0)else false)=true->XC Tp 29 #[slV d6] d7 (λed ee=>∃ef eg eh ei,ed=.agg #[.int .i64 ef,.string eg,slV eh,slV ei]/\ec (.agg #[.int .i64 ef,.string eg,slV eh,slV ei]) ee))/\((bif (bif (bif d then(A==0)else false)then aA else false)then(M==0)else false)=false->∃ej ek el em,ec (.agg #[.int .i64 ej,.string ek,slV el,slV em]) d7)/\((bif (bif (bif d then(A==0)else false)then aA else false)then(M==0)else false)=true->∀en eo,ec en eo->∃ep eq er es,en=.agg #[.int .i64 ep,.string eq,slV er,slV es])/\∀et:Int,∀eu:Bt,∀ev ew:Sl,∀ex,ec (.agg #[.int .i64 et,.string eu,slV ev,slV ew]) ex->∃ey:Value->Za->Prop,((bif (bif (bif d then(A==0)else false)then aA else false)then(M==0)else false)=true->XC Tp 16 #[.agg #[.int .i64 d8,.string d9,slV ea,slV eb],.agg #[.int .i64 et,.string eu,slV ev,slV ew]] ex (λez eA=>∃eB,ez=.bool eB/\ey (.bool eB) eA))/\((bif (bif (bif d then(A==0)else false)then aA else false)then(M==0)else false)=false->∃eC,ey (.bool eC) ex)/\((bif (bif (bif d then(A==0)else false)then aA else false)then(M==0)else false)=true->∀eD eE,ey eD eE->∃eF,eD=.bool eF)/\∀eG:Bool,∀eH,ey (.bool eG) eH->R (.bool (bif (bif (bif (bif d then(A==0)else false)then aA else false)then(M==0)else false)then eG else false)) eH)/\(∃eI:Value->Za->Prop,((bif (bif (bif d then(A==0)else false)then aA else false)then(M==0)else false)=true->XC Tp 29 #[slV d6] d7 (λeJ eL=>∃eM eN eO eP,eJ=.agg #[.int .i64 eM,.string eN,slV eO,slV eP]/\eI (.agg #[.int .i64 eM,.string eN,slV eO,slV eP]) eL))/\((bif (bif (bif d then(A==0)else false)then aA else false)then(M==0)else false)=false->∃eQ eS eT eU,eI (.agg #[.int .i64 eQ,.string eS,slV eT,slV eU]) d7)/\((bif (bif (bif d then(A==0)else false)then aA else false)then(M==0)else false)=true->∀eV eW,eI eV eW->∃eX eY eZ e0,eV=.agg #[.int .i64 eX,.string eY,slV eZ,slV e0])/\∀e1:Int,∀e2:Bt,∀e3 e4:Sl,∀e5,eI (.agg #[.int .i64 e1,.string e2,slV e3,slV e4]) e5->∃e6 e7 e8 e9,((bif (bif (bif d then(A==0)else false)then aA else false)then(M==0)else false)=true->Zb e5 ⟨E.size,0,none⟩ 0 [.int .i64 e6,.string e7,slV e8,slV e9])/\∃fa:Value->Za->Prop,((bif (bif (bif d then(A==0)else false)then aA else false)then(M==0)else false)=true->XC Tp 16 #[.agg #[.int .i64 e6,.string e7,slV e8,slV e9],.agg #[.int .i64 e1,.string e2,slV e3,slV e4]] e5 (λfb fc=>∃fd,fb=.bool fd/\fa (.bool fd) fc))/\((bif (bif (bif d then(A==0)else false)then aA else false)then(M==0)else false)=false->∃fe,fa (.bool fe) e5)/\((bif (bif (bif d then(A==0)else false)then aA else false)then(M==0)else false)=true->∀ff fg,fa ff fg->∃fh,ff=.bool fh)/\∀fi:Bool,∀fj,fa (.bool fi) fj->R (.bool (bif (bif (bif (bif d then(A==0)else false)then aA else false)then(M==0)else false)then fi else false)) fj))))/\(∃fk fl fm fn,((bif (bif (bif d then(A==0)else false)then aA else false)then(M==0)else false)=true->Zb aB ⟨u.size,0,none⟩ 0 [.int .i64 fk,.string fl,slV fm,slV fn])/\(∃fo fp fq fr,((bif (bif (bif d then(A==0)else false)then aA else false)then(M==0)else false)=true->Zb aB ⟨E.size,0,none⟩ 0 [.int .i64 fo,.string fp,slV fq,slV fr])/\∃fs ft fu fv,((bif (bif (bif d then(A==0)else false)then aA else false)then(M==0)else false)=true->Zb aB ⟨u.size,0,none⟩ 0 [.int .i64 fs,.string ft,slV fu,slV fv])/\∃fw:Value->Za->Prop,((bif (bif (bif d then(A==0)else false)then aA else false)then(M==0)else false)=true->let fx:=aB.push (.cells #[.int .i64 fs,.string ft,slV fu,slV fv,.int .i64 fk,.string fl,slV fm,slV fn] 26);fw (.slice (some ⟨aB.size,0,none⟩) 2 2) fx)/\((bif (bif (bif d then(A==0)else false)then aA else false)then(M==0)else false)=false->∃fy,fw (slV fy) aB)/\((bif (bif (bif d then(A==0)else false)then aA else false)then(M==0)else false)=true->∀fz fA,fw fz fA->∃fB,fz=slV fB)/\∀fC:Sl,∀fD,fw (slV fC) fD->∃fE:Value->Za->Prop,((bif (bif (bif d then(A==0)else false)then aA else false)then(M==0)else false)=true->XC Tp 29 #[slV fC] fD (λfF fG=>∃fH fI fJ fL,fF=.agg #[.int .i64 fH,.string fI,slV fJ,slV fL]/\fE (.agg #[.int .i64 fH,.string fI,slV fJ,slV fL]) fG))/\((bif (bif (bif d then(A==0)else false)then aA else false)then(M==0)else false)=false->∃fM fN fO fP,fE (.agg #[.int .i64 fM,.string fN,slV fO,slV fP]) fD)/\((bif (bif (bif d then(A==0)else false)then aA else false)then(M==0)else false)=true->∀fQ fS,fE fQ fS->∃fT fU fV fW,fQ=.agg #[.int .i64 fT,.string fU,slV fV,slV fW])/\∀fX:Int,∀fY:Bt,∀fZ f0:Sl,∀f1,fE (.agg #[.int .i64 fX,.string fY,slV fZ,slV f0]) f1->∃f2:Value->Za->Prop,((bif (bif (bif d then(A==0)else false)then aA else false)then(M==0)else false)=true->XC Tp 16 #[.agg #[.int .i64 fo,.string fp,slV fq,slV fr],.agg #[.int .i64 fX,.string fY,slV fZ,slV f0]] f1 (λf3 f4=>∃f5,f3=.bool f5/\f2 (.bool f5) f4))/\((bif (bif (bif d then(A==0)else false)then aA else false)then(M==0)else false)=false->∃f6,f2 (.bool f6) f1)/\((bif (bif (bif d then(A==0)else false)then aA else false)then(M==0)else false)=true->∀f7 f8,f2 f7 f8->∃f9,f7=.bool f9)/\∀ga:Bool,∀gb,f2 (.bool ga) gb->R (.bool (bif (bif (bif (bif d then(A==0)else false)then aA else false)then(M==0)else false)then ga else false)) gb)/\(∃gc gd ge gf,((bif (bif (bif d then(A==0)else false)then aA else false)then(M==0)else false)=true->Zb aB ⟨u.size,0,none⟩ 0 [.int .i64 gc,.string gd,slV ge,slV gf])/\(∃gg gh gi gj,((bif (bif (bif d then(A==0)else false)then aA else false)then(M==0)else false)=true->Zb aB ⟨E.size,0,none⟩ 0 [.int .i64 gg,.string gh,slV gi,slV gj])/\∃gk:Value->Za->Prop,((bif (bif (bif d then(A==0)else false)then aA else false)then(M==0)else false)=true->let gl:=aB.push (.cells #[.int .i64 gc,.string gd,slV ge,slV gf,.int .i64 fk,.string fl,slV fm,slV fn] 26);gk (.slice (some ⟨aB.size,0,none⟩) 2 2) gl)/\((bif (bif (bif d then(A==0)else false)then aA else false)then(M==0)else false)=false->∃gm,gk (slV gm) aB)/\((bif (bif (bif d then(A==0)else false)then aA else false)then(M==0)else false)=true->∀gn go,gk gn go->∃gp,gn=slV gp)/\∀gq:Sl,∀gr,gk (slV gq) gr->∃gs:Value->Za->Prop,((bif (bif (bif d then(A==0)else false)then aA else false)then(M==0)else false)=true->XC Tp 29 #[slV gq] gr (λgt gu=>∃gv gw gx gy,gt=.agg #[.int .i64 gv,.string gw,slV gx,slV gy]/\gs (.agg #[.int .i64 gv,.string gw,slV gx,slV gy]) gu))/\((bif (bif (bif d then(A==0)else false)then aA else false)then(M==0)else false)=false->∃gz gA gB gC,gs (.agg #[.int .i64 gz,.string gA,slV gB,slV gC]) gr)/\((bif (bif (bif d then(A==0)else false)then aA else false)then(M==0)else false)=true->∀gD gE,gs gD gE->∃gF gG gH gI,gD=.agg #[.int .i64 gF,.string gG,slV gH,slV gI])/\∀gJ:Int,∀gL:Bt,∀gM gN:Sl,∀gO,gs (.agg #[.int .i64 gJ,.string gL,slV gM,slV gN]) gO->∃gP:Value->Za->Prop,((bif (bif (bif d then(A==0)else false)then aA else false)then(M==0)else false)=true->XC Tp 16 #[.agg #[.int .i64 gg,.string gh,slV gi,slV gj],.agg #[.int .i64 gJ,.string gL,slV gM,slV gN]] gO (λgQ gS=>∃gT,gQ=.bool gT/\gP (.bool gT) gS))/\((bif (bif (bif d then(A==0)else false)then aA else false)then(M==0)else false)=false->∃gU,gP (.bool gU) gO)/\((bif (bif (bif d then(A==0)else false)then aA else false)then(M==0)else false)=true->∀gV gW,gP gV gW->∃gX,gV=.bool gX)/\∀gY:Bool,∀gZ,gP (.bool gY) gZ->R (.bool (bif (bif (bif (bif d then(A==0)else false)then aA else false)then(M==0)else false)then gY else false)) gZ)/\(∃g0:Value->Za->Prop,((bif (bif (bif d then(A==0)else false)then aA else false)then(M==0)else false)=true->let g1:=aB.push (.cells #[.int .i64 gc,.string gd,slV ge,slV gf,.int .i64 fk,.string fl,slV fm,slV fn] 26);g0 (.slice (some ⟨aB.size,0,none⟩) 2 2) g1)/\((bif (bif (bif d then(A==0)else false)then aA else false)then(M==0)else false)=false->∃g2,g0 (slV g2) aB)/\((bif (bif (bif d then(A==0)else false)then aA else false)then(M==0)else false)=true->∀g3 g4,g0 g3 g4->∃g5,g3=slV g5)/\∀g6:Sl,∀g7,g0 (slV g6) g7->(∃g8 g9 ha hb,((bif (bif (bif d then(A==0)else false)then aA else false)then(M==0)else false)=true->Zb g7 ⟨E.size,0,none⟩ 0 [.int .i64 g8,.string g9,slV ha,slV hb])/\∃hc:Value->Za->Prop,((bif (bif (bif d then(A==0)else false)then aA else false)then(M==0)else false)=true->XC Tp 29 #[slV g6] g7 (λhd he=>∃hf hg hh hi,hd=.agg #[.int .i64 hf,.string hg,slV hh,slV hi]/\hc (.agg #[.int .i64 hf,.string hg,slV hh,slV hi]) he))/\((bif (bif (bif d then(A==0)else false)then aA else false)then(M==0)else false)=false->∃hj hk hl hm,hc (.agg #[.int .i64 hj,.string hk,slV hl,slV hm]) g7)/\((bif (bif (bif d then(A==0)else false)then aA else false)then(M==0)else false)=true->∀hn ho,hc hn ho->∃hp hq hr hs,hn=.agg #[.int .i64 hp,.string hq,slV hr,slV hs])/\∀ht:Int,∀hu:Bt,∀hv hw:Sl,∀hx,hc (.agg #[.int .i64 ht,.string hu,slV hv,slV hw]) hx->∃hy:Value->Za->Prop,((bif (bif (bif d then(A==0)else false)then aA else false)then(M==0)else false)=true->XC Tp 16 #[.agg #[.int .i64 g8,.string g9,slV ha,slV hb],.agg #[.int .i64 ht,.string hu,slV hv,slV hw]] hx (λhz hA=>∃hB,hz=.bool hB/\hy (.bool hB) hA))/\((bif (bif (bif d then(A==0)else false)then aA else false)then(M==0)else false)=false->∃hC,hy (.bool hC) hx)/\((bif (bif (bif d then(A==0)else false)then aA else false)then(M==0)else false)=true->∀hD hE,hy hD hE->∃hF,hD=.bool hF)/\∀hG:Bool,∀hH,hy (.bool hG) hH->R (.bool (bif (bif (bif (bif d then(A==0)else false)then aA else false)then(M==0)else false)then hG else false)) hH)/\(∃hI:Value->Za->Prop,((bif (bif (bif d then(A==0)else false)then aA else false)then(M==0)else false)=true->XC Tp 29 #[slV g6] g7 (λhJ hL=>∃hM hN hO hP,hJ=.agg #[.int .i64 hM,.string hN,slV hO,slV hP]/\hI (.agg #[.int .i64 hM,.string hN,slV hO,slV hP]) hL))/\((bif (bif (bif d then(A==0)else false)then aA else false)then(M==0)else false)=false->∃hQ hS hT hU,hI (.agg #[.int .i64 hQ,.string hS,slV hT,slV hU]) g7)/\((bif (bif (bif d then(A==0)else false)then aA else false)then(M==0)else false)=true->∀hV hW,hI hV hW->∃hX hY hZ h0,hV=.agg #[.int .i64 hX,.string hY,slV hZ,slV h0])/\∀h1:Int,∀h2:Bt,∀h3 h4:Sl,∀h5,hI (.agg #[.int .i64 h1,.string h2,slV h3,slV h4]) h5->∃h6 h7 h8 h9,((bif (bif (bif d then(A==0)else false)then aA else false)then(M==0)else false)=true->Zb h5 ⟨E.size,0,none⟩ 0 [.int .i64 h6,.string h7,slV h8,slV h9])/\∃ia:Value->Za->Prop,((bif (bif (bif d then(A==0)else false)then aA else false)then(M==0)else false)=true->XC Tp 16 #[.agg #[.int .i64 h6,.string h7,slV h8,slV h9],.agg #[.int .i64 h1,.string h2,slV h3,slV h4]] h5 (λib ic=>∃id,ib=.bool id/\ia (.bool id) ic))/\((bif (bif (bif d then(A==0)else false)then aA else false)then(M==0)else false)=false->∃ie,ia (.bool ie) h5)/\((bif (bif (bif d then(A==0)else false)then aA else false)then(M==0)else false)=true->∀ig ih,ia ig ih->∃ii,ig=.bool ii)/\∀ij:Bool,∀ik,ia (.bool ij) ik->R (.bool (bif (bif (bif (bif d then(A==0)else false)then aA else false)then(M==0)else false)then ij else false)) ik)))))/\((∃il im io ip,((bif d then(A==0)else false)=true->Zb O ⟨u.size,0,none⟩ 0 [.int .i64 il,.string im,slV io,slV ip])/\∃iq:Value->Za->Prop,((bif d then(A==0)else false)=true->XC Tp 28 #[.string t1] O (λir it=>∃iu iv iw ix,ir=.agg #[.int .i64 iu,.string iv,slV iw,slV ix]/\iq (.agg #[.int .i64 iu,.string iv,slV iw,slV ix]) it))/\((bif d then(A==0)else false)=false->∃iy iz iA iB,iq (.agg #[.int .i64 iy,.string iz,slV iA,slV iB]) O)/\((bif d then(A==0)else false)=true->∀iC iD,iq iC iD->∃iE iF iG iH,iC=.agg #[.int .i64 iE,.string iF,slV iG,slV iH])/\∀iI:Int,∀iJ:Bt,∀iL iM:Sl,∀iN,iq (.agg #[.int .i64 iI,.string iJ,slV iL,slV iM]) iN->∃iO:Value->Za->Prop,((bif d then(A==0)else false)=true->XC Tp 16 #[.agg #[.int .i64 il,.string im,slV io,slV ip],.agg #[.int .i64 iI,.string iJ,slV iL,slV iM]] iN (λiP iQ=>∃iS,iP=.bool iS/\iO (.bool iS) iQ))/\((bif d then(A==0)else false)=false->∃iT,iO (.bool iT) iN)/\((bif d then(A==0)else false)=true->∀iU iV,iO iU iV->∃iW,iU=.bool iW)/\∀iX:Bool,∀iY,iO (.bool iX) iY->(∃iZ i0 i1 i2,((bif (bif (bif d then(A==0)else false)then iX else false)then(M==0)else false)=true->Zb iY ⟨E.size,0,none⟩ 0 [.int .i64 iZ,.string i0,slV i1,slV i2])/\(∃i3 i4 i5 i6,((bif (bif (bif d then(A==0)else false)then iX else false)then(M==0)else false)=true->Zb iY ⟨u.size,0,none⟩ 0 [.int .i64 i3,.string i4,slV i5,slV i6])/\∃i7 i8 i9 ja,((bif (bif (bif d then(A==0)else false)then iX else false)then(M==0)else false)=true->Zb iY ⟨u.size,0,none⟩ 0 [.int .i64 i7,.string i8,slV i9,slV ja])/\∃jb:Value->Za->Prop,((bif (bif (bif d then(A==0)else false)then iX else false)then(M==0)else false)=true->let jc:=iY.push (.cells #[.int .i64 i3,.string i4,slV i5,slV i6,.int .i64 i7,.string i8,slV i9,slV ja] 26);jb (.slice (some ⟨iY.size,0,none⟩) 2 2) jc)/\((bif (bif (bif d then(A==0)else false)then iX else false)then(M==0)else false)=false->∃jd,jb (slV jd) iY)/\((bif (bif (bif d then(A==0)else false)then iX else false)then(M==0)else false)=true->∀je jf,jb je jf->∃jg,je=slV jg)/\∀jh:Sl,∀ji,jb (slV jh) ji->∃jj:Value->Za->Prop,((bif (bif (bif d then(A==0)else false)then iX else false)then(M==0)else false)=true->XC Tp 29 #[slV jh] ji (λjk jl=>∃jm jn jo jp,jk=.agg #[.int .i64 jm,.string jn,slV jo,slV jp]/\jj (.agg #[.int .i64 jm,.string jn,slV jo,slV jp]) jl))/\((bif (bif (bif d then(A==0)else false)then iX else false)then(M==0)else false)=false->∃jq jr js jt,jj (.agg #[.int .i64 jq,.string jr,slV js,slV jt]) ji)/\((bif (bif (bif d then(A==0)else false)then iX else false)then(M==0)else false)=true->∀ju jv,jj ju jv->∃jw jx jy jz,ju=.agg #[.int .i64 jw,.string jx,slV jy,slV jz])/\∀jA:Int,∀jB:Bt,∀jC jD:Sl,∀jE,jj (.agg #[.int .i64 jA,.string jB,slV jC,slV jD]) jE->∃jF:Value->Za->Prop,((bif (bif (bif d then(A==0)else false)then iX else false)then(M==0)else false)=true->XC Tp 16 #[.agg #[.int .i64 iZ,.string i0,slV i1,slV i2],.agg #[.int .i64 jA,.string jB,slV jC,slV jD]] jE (λjG jH=>∃jI,jG=.bool jI/\jF (.bool jI) jH))/\((bif (bif (bif d then(A==0)else false)then iX else false)then(M==0)else false)=false->∃jJ,jF (.bool jJ) jE)/\((bif (bif (bif d then(A==0)else false)then iX else false)then(M==0)else false)=true->∀jL jM,jF jL jM->∃jN,jL=.bool jN)/\∀jO:Bool,∀jP,jF (.bool jO) jP->R (.bool (bif (bif (bif (bif d then(A==0)else false)then iX else false)then(M==0)else false)then jO else false)) jP)/\(∃jQ jS jT jU,((bif (bif (bif d then(A==0)else false)then iX else false)then(M==0)else false)=true->Zb iY ⟨u.size,0,none⟩ 0 [.int .i64 jQ,.string jS,slV jT,slV jU])/\∃jV jW jX jY,((bif (bif (bif d then(A==0)else false)then iX else false)then(M==0)else false)=true->Zb iY ⟨u.size,0,none⟩ 0 [.int .i64 jV,.string jW,slV jX,slV jY])/\∃jZ:Value->Za->Prop,((bif (bif (bif d then(A==0)else false)then iX else false)then(M==0)else false)=true->let j0:=iY.push (.cells #[.int .i64 jV,.string jW,slV jX,slV jY,.int .i64 jQ,.string jS,slV jT,slV jU] 26);jZ (.slice (some ⟨iY.size,0,none⟩) 2 2) j0)/\((bif (bif (bif d then(A==0)else false)then iX else false)then(M==0)else false)=false->∃j1,jZ (slV j1) iY)/\((bif (bif (bif d then(A==0)else false)then iX else false)then(M==0)else false)=true->∀j2 j3,jZ j2 j3->∃j4,j2=slV j4)/\∀j5:Sl,∀j6,jZ (slV j5) j6->∃j7:Value->Za->Prop,((bif (bif (bif d then(A==0)else false)then iX else false)then(M==0)else false)=true->XC Tp 29 #[slV j5] j6 (λj8 j9=>∃ka kb kc kd,j8=.agg #[.int .i64 ka,.string kb,slV kc,slV kd]/\j7 (.agg #[.int .i64 ka,.string kb,slV kc,slV kd]) j9))/\((bif (bif (bif d then(A==0)else false)then iX else false)then(M==0)else false)=false->∃ke kf kg kh,j7 (.agg #[.int .i64 ke,.string kf,slV kg,slV kh]) j6)/\((bif (bif (bif d then(A==0)else false)then iX else false)then(M==0)else false)=true->∀ki kj,j7 ki kj->∃kk kl km kn,ki=.agg #[.int .i64 kk,.string kl,slV km,slV kn])/\∀ko:Int,∀kp:Bt,∀kq kr:Sl,∀ks,j7 (.agg #[.int .i64 ko,.string kp,slV kq,slV kr]) ks->∃kt:Value->Za->Prop,((bif (bif (bif d then(A==0)else false)then iX else false)then(M==0)else false)=true->XC Tp 16 #[.agg #[.int .i64 iZ,.string i0,slV i1,slV i2],.agg #[.int .i64 ko,.string kp,slV kq,slV kr]] ks (λku kv=>∃kw,ku=.bool kw/\kt (.bool kw) kv))/\((bif (bif (bif d then(A==0)else false)then iX else false)then(M==0)else false)=false->∃kx,kt (.bool kx) ks)/\((bif (bif (bif d then(A==0)else false)then iX else false)then(M==0)else false)=true->∀ky kz,kt ky kz->∃kA,ky=.bool kA)/\∀kB:Bool,∀kC,kt (.bool kB) kC->R (.bool (bif (bif (bif (bif d then(A==0)else false)then iX else false)then(M==0)else false)then kB else false)) kC))/\(∃kD kE kF kG,((bif (bif (bif d then(A==0)else false)then iX else false)then(M==0)else false)=true->Zb iY ⟨u.size,0,none⟩ 0 [.int .i64 kD,.string kE,slV kF,slV kG])/\(∃kH kI kJ kL,((bif (bif (bif d then(A==0)else false)then iX else false)then(M==0)else false)=true->Zb iY ⟨E.size,0,none⟩ 0 [.int .i64 kH,.string kI,slV kJ,slV kL])/\∃kM kN kO kP,((bif (bif (bif d then(A==0)else false)then iX else false)then(M==0)else false)=true->Zb iY ⟨u.size,0,none⟩ 0 [.int .i64 kM,.string kN,slV kO,slV kP])/\∃kQ:Value->Za->Prop,((bif (bif (bif d then(A==0)else false)then iX else false)then(M==0)else false)=true->let kS:=iY.push (.cells #[.int .i64 kD,.string kE,slV kF,slV kG,.int .i64 kM,.string kN,slV kO,slV kP] 26);kQ (.slice (some ⟨iY.size,0,none⟩) 2 2) kS)/\((bif (bif (bif d then(A==0)else false)then iX else false)then(M==0)else false)=false->∃kT,kQ (slV kT) iY)/\((bif (bif (bif d then(A==0)else false)then iX else false)then(M==0)else false)=true->∀kU kV,kQ kU kV->∃kW,kU=slV kW)/\∀kX:Sl,∀kY,kQ (slV kX) kY->∃kZ:Value->Za->Prop,((bif (bif (bif d then(A==0)else false)then iX else false)then(M==0)else false)=true->XC Tp 29 #[slV kX] kY (λk0 k1=>∃k2 k3 k4 k5,k0=.agg #[.int .i64 k2,.string k3,slV k4,slV k5]/\kZ (.agg #[.int .i64 k2,.string k3,slV k4,slV k5]) k1))/\((bif (bif (bif d then(A==0)else false)then iX else false)then(M==0)else false)=false->∃k6 k7 k8 k9,kZ (.agg #[.int .i64 k6,.string k7,slV k8,slV k9]) kY)/\((bif (bif (bif d then(A==0)else false)then iX else false)then(M==0)else false)=true->∀la lb,kZ la lb->∃lc ld le lf,la=.agg #[.int .i64 lc,.string ld,slV le,slV lf])/\∀lg:Int,∀lh:Bt,∀li lj:Sl,∀lk,kZ (.agg #[.int .i64 lg,.string lh,slV li,slV lj]) lk->∃ll:Value->Za->Prop,((bif (bif (bif d then(A==0)else false)then iX else false)then(M==0)else false)=true->XC Tp 16 #[.agg #[.int .i64 kH,.string kI,slV kJ,slV kL],.agg #[.int .i64 lg,.string lh,slV li,slV lj]] lk (λlm ln=>∃lo,lm=.bool lo/\ll (.bool lo) ln))/\((bif (bif (bif d then(A==0)else false)then iX else false)then(M==0)else false)=false->∃lp,ll (.bool lp) lk)/\((bif (bif (bif d then(A==0)else false)then iX else false)then(M==0)else false)=true->∀lq lr,ll lq lr->∃ls,lq=.bool ls)/\∀lt:Bool,∀lu,ll (.bool lt) lu->R (.bool (bif (bif (bif (bif d then(A==0)else false)then iX else false)then(M==0)else false)then lt else false)) lu)/\(∃lv lw lx ly,((bif (bif (bif d then(A==0)else false)then iX else false)then(M==0)else false)=true->Zb iY ⟨u.size,0,none⟩ 0 [.int .i64 lv,.string lw,slV lx,slV ly])/\(∃lz lA lB lC,((bif (bif (bif d then(A==0)else false)then iX else false)then(M==0)else false)=true->Zb iY ⟨E.size,0,none⟩ 0 [.int .i64 lz,.string lA,slV lB,slV lC])/\∃lD:Value->Za->Prop,((bif (bif (bif d then(A==0)else false)then iX else false)then(M==0)else false)=true->let lE:=iY.push (.cells #[.int .i64 kD,.string kE,slV kF,slV kG,.int .i64 lv,.string lw,slV lx,slV ly] 26);lD (.slice (some ⟨iY.size,0,none⟩) 2 2) lE)/\((bif (bif (bif d then(A==0)else false)then iX else false)then(M==0)else false)=false->∃lF,lD (slV lF) iY)/\((bif (bif (bif d then(A==0)else false)then iX else false)then(M==0)else false)=true->∀lG lH,lD lG lH->∃lI,lG=slV lI)/\∀lJ:Sl,∀lL,lD (slV lJ) lL->∃lM:Value->Za->Prop,((bif (bif (bif d then(A==0)else false)then iX else false)then(M==0)else false)=true->XC Tp 29 #[slV lJ] lL (λlN lO=>∃lP lQ lS lT,lN=.agg #[.int .i64 lP,.string lQ,slV lS,slV lT]/\lM (.agg #[.int .i64 lP,.string lQ,slV lS,slV lT]) lO))/\((bif (bif (bif d then(A==0)else false)then iX else false)then(M==0)else false)=false->∃lU lV lW lX,lM (.agg #[.int .i64 lU,.string lV,slV lW,slV lX]) lL)/\((bif (bif (bif d then(A==0)else false)then iX else false)then(M==0)else false)=true->∀lY lZ,lM lY lZ->∃l0 l1 l2 l3,lY=.agg #[.int .i64 l0,.string l1,slV l2,slV l3])/\∀l4:Int,∀l5:Bt,∀l6 l7:Sl,∀l8,lM (.agg #[.int .i64 l4,.string l5,slV l6,slV l7]) l8->∃l9:Value->Za->Prop,((bif (bif (bif d then(A==0)else false)then iX else false)then(M==0)else false)=true->XC Tp 16 #[.agg #[.int .i64 lz,.string lA,slV lB,slV lC],.agg #[.int .i64 l4,.string l5,slV l6,slV l7]] l8 (λma mb=>∃mc,ma=.bool mc/\l9 (.bool mc) mb))/\((bif (bif (bif d then(A==0)else false)then iX else false)then(M==0)else false)=false->∃md,l9 (.bool md) l8)/\((bif (bif (bif d then(A==0)else false)then iX else false)then(M==0)else false)=true->∀me mf,l9 me mf->∃mg,me=.bool mg)/\∀mh:Bool,∀mi,l9 (.bool mh) mi->R (.bool (bif (bif (bif (bif d then(A==0)else false)then iX else false)then(M==0)else false)then mh else false)) mi)/\(∃mj:Value->Za->Prop,((bif (bif (bif d then(A==0)else false)then iX else false)then(M==0)else false)=true->let mk:=iY.push (.cells #[.int .i64 kD,.string kE,slV kF,slV kG,.int .i64 lv,.string lw,slV lx,slV ly] 26);mj (.slice (some ⟨iY.size,0,none⟩) 2 2) mk)/\((bif (bif (bif d then(A==0)else false)then iX else false)then(M==0)else false)=false->∃ml,mj (slV ml) iY)/\((bif (bif (bif d then(A==0)else false)then iX else false)then(M==0)else false)=true->∀mm mn,mj mm mn->∃mo,mm=slV mo)/\∀mp:Sl,∀mq,mj (slV mp) mq->(∃mr ms mt mu,((bif (bif (bif d then(A==0)else false)then iX else false)then(M==0)else false)=true->Zb mq ⟨E.size,0,none⟩ 0 [.int .i64 mr,.string ms,slV mt,slV mu])/\∃mv:Value->Za->Prop,((bif (bif (bif d then(A==0)else false)then iX else false)then(M==0)else false)=true->XC Tp 29 #[slV mp] mq (λmw mx=>∃my mz mA mB,mw=.agg #[.int .i64 my,.string mz,slV mA,slV mB]/\mv (.agg #[.int .i64 my,.string mz,slV mA,slV mB]) mx))/\((bif (bif (bif d then(A==0)else false)then iX else false)then(M==0)else false)=false->∃mC mD mE mF,mv (.agg #[.int .i64 mC,.string mD,slV mE,slV mF]) mq)/\((bif (bif (bif d then(A==0)else false)then iX else false)then(M==0)else false)=true->∀mG mH,mv mG mH->∃mI mJ mL mM,mG=.agg #[.int .i64 mI,.string mJ,slV mL,slV mM])/\∀mN:Int,∀mO:Bt,∀mP mQ:Sl,∀mS,mv (.agg #[.int .i64 mN,.string mO,slV mP,slV mQ]) mS->∃mT:Value->Za->Prop,((bif (bif (bif d then(A==0)else false)then iX else false)then(M==0)else false)=true->XC Tp 16 #[.agg #[.int .i64 mr,.string ms,slV mt,slV mu],.agg #[.int .i64 mN,.string mO,slV mP,slV mQ]] mS (λmU mV=>∃mW,mU=.bool mW/\mT (.bool mW) mV))/\((bif (bif (bif d then(A==0)else false)then iX else false)then(M==0)else false)=false->∃mX,mT (.bool mX) mS)/\((bif (bif (bif d then(A==0)else false)then iX else false)then(M==0)else false)=true->∀mY mZ,mT mY mZ->∃m0,mY=.bool m0)/\∀m1:Bool,∀m2,mT (.bool m1) m2->R (.bool (bif (bif (bif (bif d then(A==0)else false)then iX else false)then(M==0)else false)then m1 else false)) m2)/\(∃m3:Value->Za->Prop,((bif (bif (bif d then(A==0)else false)then iX else false)then(M==0)else false)=true->XC Tp 29 #[slV mp] mq (λm4 m5=>∃m6 m7 m8 m9,m4=.agg #[.int .i64 m6,.string m7,slV m8,slV m9]/\m3 (.agg #[.int .i64 m6,.string m7,slV m8,slV m9]) m5))/\((bif (bif (bif d then(A==0)else false)then iX else false)then(M==0)else false)=false->∃na nb nc nd,m3 (.agg #[.int .i64 na,.string nb,slV nc,slV nd]) mq)/\((bif (bif (bif d then(A==0)else false)then iX else false)then(M==0)else false)=true->∀ne nf,m3 ne nf->∃ng nh ni nj,ne=.agg #[.int .i64 ng,.string nh,slV ni,slV nj])/\∀nk:Int,∀nl:Bt,∀nm nn:Sl,∀no,m3 (.agg #[.int .i64 nk,.string nl,slV nm,slV nn]) no->∃np nq nr ns,((bif (bif (bif d then(A==0)else false)then iX else false)then(M==0)else false)=true->Zb no ⟨E.size,0,none⟩ 0 [.int .i64 np,.string nq,slV nr,slV ns])/\∃nt:Value->Za->Prop,((bif (bif (bif d then(A==0)else false)then iX else false)then(M==0)else false)=true->XC Tp 16 #[.agg #[.int .i64 np,.string nq,slV nr,slV ns],.agg #[.int .i64 nk,.string nl,slV nm,slV nn]] no (λnu nv=>∃nw,nu=.bool nw/\nt (.bool nw) nv))/\((bif (bif (bif d then(A==0)else false)then iX else false)then(M==0)else false)=false->∃nx,nt (.bool nx) no)/\((bif (bif (bif d then(A==0)else false)then iX else false)then(M==0)else false)=true->∀ny nz,nt ny nz->∃nA,ny=.bool nA)/\∀nB:Bool,∀nC,nt (.bool nB) nC->R (.bool (bif (bif (bif (bif d then(A==0)else false)then iX else false)then(M==0)else false)then nB else false)) nC))))/\(∃nD nE nF nG,((bif (bif (bif d then(A==0)else false)then iX else false)then(M==0)else false)=true->Zb iY ⟨u.size,0,none⟩ 0 [.int .i64 nD,.string nE,slV nF,slV nG])/\(∃nH nI nJ nL,((bif (bif (bif d then(A==0)else false)then iX else false)then(M==0)else false)=true->Zb iY ⟨E.size,0,none⟩ 0 [.int .i64 nH,.string nI,slV nJ,slV nL])/\∃nM nN nO nP,((bif (bif (bif d then(A==0)else false)then iX else false)then(M==0)else false)=true->Zb iY ⟨u.size,0,none⟩ 0 [.int .i64 nM,.string nN,slV nO,slV nP])/\∃nQ:Value->Za->Prop,((bif (bif (bif d then(A==0)else false)then iX else false)then(M==0)else false)=true->let nS:=iY.push (.cells #[.int .i64 nM,.string nN,slV nO,slV nP,.int .i64 nD,.string nE,slV nF,slV nG] 26);nQ (.slice (some ⟨iY.size,0,none⟩) 2 2) nS)/\((bif (bif (bif d then(A==0)else false)then iX else false)then(M==0)else false)=false->∃nT,nQ (slV nT) iY)/\((bif (bif (bif d then(A==0)else false)then iX else false)then(M==0)else false)=true->∀nU nV,nQ nU nV->∃nW,nU=slV nW)/\∀nX:Sl,∀nY,nQ (slV nX) nY->∃nZ:Value->Za->Prop,((bif (bif (bif d then(A==0)else false)then iX else false)then(M==0)else false)=true->XC Tp 29 #[slV nX] nY (λn0 n1=>∃n2 n3 n4 n5,n0=.agg #[.int .i64 n2,.string n3,slV n4,slV n5]/\nZ (.agg #[.int .i64 n2,.string n3,slV n4,slV n5]) n1))/\((bif (bif (bif d then(A==0)else false)then iX else false)then(M==0)else false)=false->∃n6 n7 n8 n9,nZ (.agg #[.int .i64 n6,.string n7,slV n8,slV n9]) nY)/\((bif (bif (bif d then(A==0)else false)then iX else false)then(M==0)else false)=true->∀oa ob,nZ oa ob->∃oc od oe og,oa=.agg #[.int .i64 oc,.string od,slV oe,slV og])/\∀oh:Int,∀oi:Bt,∀oj ok:Sl,∀ol,nZ (.agg #[.int .i64 oh,.string oi,slV oj,slV ok]) ol->∃om:Value->Za->Prop,((bif (bif (bif d then(A==0)else false)then iX else false)then(M==0)else false)=true->XC Tp 16 #[.agg #[.int .i64 nH,.string nI,slV nJ,slV nL],.agg #[.int .i64 oh,.string oi,slV oj,slV ok]] ol (λon oo=>∃op,on=.bool op/\om (.bool op) oo))/\((bif (bif (bif d then(A==0)else false)then iX else false)then(M==0)else false)=false->∃oq,om (.bool oq) ol)/\((bif (bif (bif d then(A==0)else false)then iX else false)then(M==0)else false)=true->∀os ot,om os ot->∃ou,os=.bool ou)/\∀ov:Bool,∀ow,om (.bool ov) ow->R (.bool (bif (bif (bif (bif d then(A==0)else false)then iX else false)then(M==0)else false)then ov else false)) ow)/\(∃ox oy oz oA,((bif (bif (bif d then(A==0)else false)then iX else false)then(M==0)else false)=true->Zb iY ⟨u.size,0,none⟩ 0 [.int .i64 ox,.string oy,slV oz,slV oA])/\(∃oB oC oD oE,((bif (bif (bif d then(A==0)else false)then iX else false)then(M==0)else false)=true->Zb iY ⟨E.size,0,none⟩ 0 [.int .i64 oB,.string oC,slV oD,slV oE])/\∃oF:Value->Za->Prop,((bif (bif (bif d then(A==0)else false)then iX else false)then(M==0)else false)=true->let oG:=iY.push (.cells #[.int .i64 ox,.string oy,slV oz,slV oA,.int .i64 nD,.string nE,slV nF,slV nG] 26);oF (.slice (some ⟨iY.size,0,none⟩) 2 2) oG)/\((bif (bif (bif d then(A==0)else false)then iX else false)then(M==0)else false)=false->∃oH,oF (slV oH) iY)/\((bif (bif (bif d then(A==0)else false)then iX else false)then(M==0)else false)=true->∀oI oJ,oF oI oJ->∃oL,oI=slV oL)/\∀oM:Sl,∀oN,oF (slV oM) oN->∃oO:Value->Za->Prop,((bif (bif (bif d then(A==0)else false)then iX else false)then(M==0)else false)=true->XC Tp 29 #[slV oM] oN (λoP oQ=>∃oS oT oU oV,oP=.agg #[.int .i64 oS,.string oT,slV oU,slV oV]/\oO (.agg #[.int .i64 oS,.string oT,slV oU,slV oV]) oQ))/\((bif (bif (bif d then(A==0)else false)then iX else false)then(M==0)else false)=false->∃oW oX oY oZ,oO (.agg #[.int .i64 oW,.string oX,slV oY,slV oZ]) oN)/\((bif (bif (bif d then(A==0)else false)then iX else false)then(M==0)else false)=true->∀o0 o1,oO o0 o1->∃o2 o3 o4 o5,o0=.agg #[.int .i64 o2,.string o3,slV o4,slV o5])/\∀o6:Int,∀o7:Bt,∀o8 o9:Sl,∀pa,oO (.agg #[.int .i64 o6,.string o7,slV o8,slV o9]) pa->∃pb:Value->Za->Prop,((bif (bif (bif d then(A==0)else false)then iX else false)then(M==0)else false)=true->XC Tp 16 #[.agg #[.int .i64 oB,.string oC,slV oD,slV oE],.agg #[.int .i64 o6,.string o7,slV o8,slV o9]] pa (λpc pd=>∃pe,pc=.bool pe/\pb (.bool pe) pd))/\((bif (bif (bif d then(A==0)else false)then iX else false)then(M==0)else false)=false->∃pf,pb (.bool pf) pa)/\((bif (bif (bif d then(A==0)else false)then iX else false)then(M==0)else false)=true->∀pg ph,pb pg ph->∃pi,pg=.bool pi)/\∀pj:Bool,∀pk,pb (.bool pj) pk->R (.bool (bif (bif (bif (bif d then(A==0)else false)then iX else false)then(M==0)else false)then pj else false)) pk)/\(∃pl:Value->Za->Prop,((bif (bif (bif d then(A==0)else false)then iX else false)then(M==0)else false)=true->let pm:=iY.push (.cells #[.int .i64 ox,.string oy,slV oz,slV oA,.int .i64 nD,.string nE,slV nF,slV nG] 26);pl (.slice (some ⟨iY.size,0,none⟩) 2 2) pm)/\((bif (bif (bif d then(A==0)else false)then iX else false)then(M==0)else false)=false->∃pn,pl (slV pn) iY)/\((bif (bif (bif d then(A==0)else false)then iX else false)then(M==0)else false)=true->∀po pp,pl po pp->∃pq,po=slV pq)/\∀pr:Sl,∀ps,pl (slV pr) ps->(∃pt pu pv pw,((bif (bif (bif d then(A==0)else false)then iX else false)then(M==0)else false)=true->Zb ps ⟨E.size,0,none⟩ 0 [.int .i64 pt,.string pu,slV pv,slV pw])/\∃px:Value->Za->Prop,((bif (bif (bif d then(A==0)else false)then iX else false)then(M==0)else false)=true->XC Tp 29 #[slV pr] ps (λpy pz=>∃pA pB pC pD,py=.agg #[.int .i64 pA,.string pB,slV pC,slV pD]/\px (.agg #[.int .i64 pA,.string pB,slV pC,slV pD]) pz))/\((bif (bif (bif d then(A==0)else false)then iX else false)then(M==0)else false)=false->∃pE pF pG pH,px (.agg #[.int .i64 pE,.string pF,slV pG,slV pH]) ps)/\((bif (bif (bif d then(A==0)else false)then iX else false)then(M==0)else false)=true->∀pI pJ,px pI pJ->∃pL pM pN pO,pI=.agg #[.int .i64 pL,.string pM,slV pN,slV pO])/\∀pP:Int,∀pQ:Bt,∀pS pT:Sl,∀pU,px (.agg #[.int .i64 pP,.string pQ,slV pS,slV pT]) pU->∃pV:Value->Za->Prop,((bif (bif (bif d then(A==0)else false)then iX else false)then(M==0)else false)=true->XC Tp 16 #[.agg #[.int .i64 pt,.string pu,slV pv,slV pw],.agg #[.int .i64 pP,.string pQ,slV pS,slV pT]] pU (λpW pX=>∃pY,pW=.bool pY/\pV (.bool pY) pX))/\((bif (bif (bif d then(A==0)else false)then iX else false)then(M==0)else false)=false->∃pZ,pV (.bool pZ) pU)/\((bif (bif (bif d then(A==0)else false)then iX else false)then(M==0)else false)=true->∀p0 p1,pV p0 p1->∃p2,p0=.bool p2)/\∀p3:Bool,∀p4,pV (.bool p3) p4->R (.bool (bif (bif (bif (bif d then(A==0)else false)then iX else false)then(M==0)else false)then p3 else false)) p4)/\(∃p5:Value->Za->Prop,((bif (bif (bif d then(A==0)else false)then iX else false)then(M==0)else false)=true->XC Tp 29 #[slV pr] ps (λp6 p7=>∃p8 p9 qa qb,p6=.agg #[.int .i64 p8,.string p9,slV qa,slV qb]/\p5 (.agg #[.int .i64 p8,.string p9,slV qa,slV qb]) p7))/\((bif (bif (bif d then(A==0)else false)then iX else false)then(M==0)else false)=false->∃qc qd qe qf,p5 (.agg #[.int .i64 qc,.string qd,slV qe,slV qf]) ps)/\((bif (bif (bif d then(A==0)else false)then iX else false)then(M==0)else false)=true->∀qg qh,p5 qg qh->∃qi qj qk ql,qg=.agg #[.int .i64 qi,.string qj,slV qk,slV ql])/\∀qm:Int,∀qn:Bt,∀qo qp:Sl,∀qq,p5 (.agg #[.int .i64 qm,.string qn,slV qo,slV qp]) qq->∃qr qs qt qu,((bif (bif (bif d then(A==0)else false)then iX else false)then(M==0)else false)=true->Zb qq ⟨E.size,0,none⟩ 0 [.int .i64 qr,.string qs,slV qt,slV qu])/\∃qv:Value->Za->Prop,((bif (bif (bif d then(A==0)else false)then iX else false)then(M==0)else false)=true->XC Tp 16 #[.agg #[.int .i64 qr,.string qs,slV qt,slV qu],.agg #[.int .i64 qm,.string qn,slV qo,slV qp]] qq (λqw qx=>∃qy,qw=.bool qy/\qv (.bool qy) qx))/\((bif (bif (bif d then(A==0)else false)then iX else false)then(M==0)else false)=false->∃qz,qv (.bool qz) qq)/\((bif (bif (bif d then(A==0)else false)then iX else false)then(M==0)else false)=true->∀qA qB,qv qA qB->∃qC,qA=.bool qC)/\∀qD:Bool,∀qE,qv (.bool qD) qE->R (.bool (bif (bif (bif (bif d then(A==0)else false)then iX else false)then(M==0)else false)then qD else false)) qE)))))/\(∃qF:Value->Za->Prop,((bif d then(A==0)else false)=true->XC Tp 28 #[.string t1] O (λqG qH=>∃qI qJ qL qM,qG=.agg #[.int .i64 qI,.string qJ,slV qL,slV qM]/\qF (.agg #[.int .i64 qI,.string qJ,slV qL,slV qM]) qH))/\((bif d then(A==0)else false)=false->∃qN qO qP qQ,qF (.agg #[.int .i64 qN,.string qO,slV qP,slV qQ]) O)/\((bif d then(A==0)else false)=true->∀qS qT,qF qS qT->∃qU qV qW qX,qS=.agg #[.int .i64 qU,.string qV,slV qW,slV qX])/\∀qY:Int,∀qZ:Bt,∀q0 q1:Sl,∀q2,qF (.agg #[.int .i64 qY,.string qZ,slV q0,slV q1]) q2->∃q3 q4 q5 q6,((bif d then(A==0)else false)=true->Zb q2 ⟨u.size,0,none⟩ 0 [.int .i64 q3,.string q4,slV q5,slV q6])/\∃q7:Value->Za->Prop,((bif d then(A==0)else false)=true->XC Tp 16 #[.agg #[.int .i64 q3,.string q4,slV q5,slV q6],.agg #[.int .i64 qY,.string qZ,slV q0,slV q1]] q2 (λq8 q9=>∃ra,q8=.bool ra/\q7 (.bool ra) q9))/\((bif d then(A==0)else false)=false->∃rb,q7 (.bool rb) q2)/\((bif d then(A==0)else false)=true->∀rc rd,q7 rc rd->∃re,rc=.bool re)/\∀rf:Bool,∀rg,q7 (.bool rf) rg->(∃rh ri rj rk,((bif (bif (bif d then(A==0)else false)then rf else false)then(M==0)else false)=true->Zb rg ⟨E.size,0,none⟩ 0 [.int .i64 rh,.string ri,slV rj,slV rk])/\(∃rl rm rn ro,((bif (bif (bif d then(A==0)else false)then rf else false)then(M==0)else false)=true->Zb rg ⟨u.size,0,none⟩ 0 [.int .i64 rl,.string rm,slV rn,slV ro])/\∃rp rq rr rs,((bif (bif (bif d then(A==0)else false)then rf else false)then(M==0)else false)=true->Zb rg ⟨u.size,0,none⟩ 0 [.int .i64 rp,.string rq,slV rr,slV rs])/\∃rt:Value->Za->Prop,((bif (bif (bif d then(A==0)else false)then rf else false)then(M==0)else false)=true->let ru:=rg.push (.cells #[.int .i64 rl,.string rm,slV rn,slV ro,.int .i64 rp,.string rq,slV rr,slV rs] 26);rt (.slice (some ⟨rg.size,0,none⟩) 2 2) ru)/\((bif (bif (bif d then(A==0)else false)then rf else false)then(M==0)else false)=false->∃rv,rt (slV rv) rg)/\((bif (bif (bif d then(A==0)else false)then rf else false)then(M==0)else false)=true->∀rx ry,rt rx ry->∃rz,rx=slV rz)/\∀rA:Sl,∀rB,rt (slV rA) rB->∃rC:Value->Za->Prop,((bif (bif (bif d then(A==0)else false)then rf else false)then(M==0)else false)=true->XC Tp 29 #[slV rA] rB (λrD rE=>∃rF rG rH rI,rD=.agg #[.int .i64 rF,.string rG,slV rH,slV rI]/\rC (.agg #[.int .i64 rF,.string rG,slV rH,slV rI]) rE))/\((bif (bif (bif d then(A==0)else false)then rf else false)then(M==0)else false)=false->∃rJ rL rM rN,rC (.agg #[.int .i64 rJ,.string rL,slV rM,slV rN]) rB)/\((bif (bif (bif d then(A==0)else false)then rf else false)then(M==0)else false)=true->∀rO rP,rC rO rP->∃rQ rS rT rU,rO=.agg #[.int .i64 rQ,.string rS,slV rT,slV rU])/\∀rV:Int,∀rW:Bt,∀rX rY:Sl,∀rZ,rC (.agg #[.int .i64 rV,.string rW,slV rX,slV rY]) rZ->∃r0:Value->Za->Prop,((bif (bif (bif d then(A==0)else false)then rf else false)then(M==0)else false)=true->XC Tp 16 #[.agg #[.int .i64 rh,.string ri,slV rj,slV rk],.agg #[.int .i64 rV,.string rW,slV rX,slV rY]] rZ (λr1 r2=>∃r3,r1=.bool r3/\r0 (.bool r3) r2))/\((bif (bif (bif d then(A==0)else false)then rf else false)then(M==0)else false)=false->∃r4,r0 (.bool r4) rZ)/\((bif (bif (bif d then(A==0)else false)then rf else false)then(M==0)else false)=true->∀r5 r6,r0 r5 r6->∃r7,r5=.bool r7)/\∀r8:Bool,∀r9,r0 (.bool r8) r9->R (.bool (bif (bif (bif (bif d then(A==0)else false)then rf else false)then(M==0)else false)then r8 else false)) r9)/\(∃sa sb sc sd,((bif (bif (bif d then(A==0)else false)then rf else false)then(M==0)else false)=true->Zb rg ⟨u.size,0,none⟩ 0 [.int .i64 sa,.string sb,slV sc,slV sd])/\∃se sf sg sh,((bif (bif (bif d then(A==0)else false)then rf else false)then(M==0)else false)=true->Zb rg ⟨u.size,0,none⟩ 0 [.int .i64 se,.string sf,slV sg,slV sh])/\∃si:Value->Za->Prop,((bif (bif (bif d then(A==0)else false)then rf else false)then(M==0)else false)=true->let sj:=rg.push (.cells #[.int .i64 se,.string sf,slV sg,slV sh,.int .i64 sa,.string sb,slV sc,slV sd] 26);si (.slice (some ⟨rg.size,0,none⟩) 2 2) sj)/\((bif (bif (bif d then(A==0)else false)then rf else false)then(M==0)else false)=false->∃sk,si (slV sk) rg)/\((bif (bif (bif d then(A==0)else false)then rf else false)then(M==0)else false)=true->∀sl sm,si sl sm->∃sn,sl=slV sn)/\∀so:Sl,∀sp,si (slV so) sp->∃sq:Value->Za->Prop,((bif (bif (bif d then(A==0)else false)then rf else false)then(M==0)else false)=true->XC Tp 29 #[slV so] sp (λsr ss=>∃st su sv sw,sr=.agg #[.int .i64 st,.string su,slV sv,slV sw]/\sq (.agg #[.int .i64 st,.string su,slV sv,slV sw]) ss))/\((bif (bif (bif d then(A==0)else false)then rf else false)then(M==0)else false)=false->∃sx sy sz sA,sq (.agg #[.int .i64 sx,.string sy,slV sz,slV sA]) sp)/\((bif (bif (bif d then(A==0)else false)then rf else false)then(M==0)else false)=true->∀sB sC,sq sB sC->∃sD sE sF sG,sB=.agg #[.int .i64 sD,.string sE,slV sF,slV sG])/\∀sH:Int,∀sI:Bt,∀sJ sL:Sl,∀sM,sq (.agg #[.int .i64 sH,.string sI,slV sJ,slV sL]) sM->∃sN:Value->Za->Prop,((bif (bif (bif d then(A==0)else false)then rf else false)then(M==0)else false)=true->XC Tp 16 #[.agg #[.int .i64 rh,.string ri,slV rj,slV rk],.agg #[.int .i64 sH,.string sI,slV sJ,slV sL]] sM (λsO sP=>∃sQ,sO=.bool sQ/\sN (.bool sQ) sP))/\((bif (bif (bif d then(A==0)else false)then rf else false)then(M==0)else false)=false->∃sS,sN (.bool sS) sM)/\((bif (bif (bif d then(A==0)else false)then rf else false)then(M==0)else false)=true->∀sT sU,sN sT sU->∃sV,sT=.bool sV)/\∀sW:Bool,∀sX,sN (.bool sW) sX->R (.bool (bif (bif (bif (bif d then(A==0)else false)then rf else false)then(M==0)else false)then sW else false)) sX))/\(∃sY sZ s1 s2,((bif (bif (bif d then(A==0)else false)then rf else false)then(M==0)else false)=true->Zb rg ⟨u.size,0,none⟩ 0 [.int .i64 sY,.string sZ,slV s1,slV s2])/\(∃s3 s4 s5 s6,((bif (bif (bif d then(A==0)else false)then rf else false)then(M==0)else false)=true->Zb rg ⟨E.size,0,none⟩ 0 [.int .i64 s3,.string s4,slV s5,slV s6])/\∃s7 s8 s9 ta,((bif (bif (bif d then(A==0)else false)then rf else false)then(M==0)else false)=true->Zb rg ⟨u.size,0,none⟩ 0 [.int .i64 s7,.string s8,slV s9,slV ta])/\∃tb:Value->Za->Prop,((bif (bif (bif d then(A==0)else false)then rf else false)then(M==0)else false)=true->let tc:=rg.push (.cells #[.int .i64 sY,.string sZ,slV s1,slV s2,.int .i64 s7,.string s8,slV s9,slV ta] 26);tb (.slice (some ⟨rg.size,0,none⟩) 2 2) tc)/\((bif (bif (bif d then(A==0)else false)then rf else false)then(M==0)else false)=false->∃td,tb (slV td) rg)/\((bif (bif (bif d then(A==0)else false)then rf else false)then(M==0)else false)=true->∀te tf,tb te tf->∃tg,te=slV tg)/\∀th:Sl,∀ti,tb (slV th) ti->∃tj:Value->Za->Prop,((bif (bif (bif d then(A==0)else false)then rf else false)then(M==0)else false)=true->XC Tp 29 #[slV th] ti (λtk tl=>∃tm tn tp tq,tk=.agg #[.int .i64 tm,.string tn,slV tp,slV tq]/\tj (.agg #[.int .i64 tm,.string tn,slV tp,slV tq]) tl))/\((bif (bif (bif d then(A==0)else false)then rf else false)then(M==0)else false)=false->∃tr ts tt tu,tj (.agg #[.int .i64 tr,.string ts,slV tt,slV tu]) ti)/\((bif (bif (bif d then(A==0)else false)then rf else false)then(M==0)else false)=true->∀tv tw,tj tv tw->∃tx ty tz tA,tv=.agg #[.int .i64 tx,.string ty,slV tz,slV tA])/\∀tB:Int,∀tC:Bt,∀tD tE:Sl,∀tF,tj (.agg #[.int .i64 tB,.string tC,slV tD,slV tE]) tF->∃tG:Value->Za->Prop,((bif (bif (bif d then(A==0)else false)then rf else false)then(M==0)else false)=true->XC Tp 16 #[.agg #[.int .i64 s3,.string s4,slV s5,slV s6],.agg #[.int .i64 tB,.string tC,slV tD,slV tE]] tF (λtH tI=>∃tJ,tH=.bool tJ/\tG (.bool tJ) tI))/\((bif (bif (bif d then(A==0)else false)then rf else false)then(M==0)else false)=false->∃tL,tG (.bool tL) tF)/\((bif (bif (bif d then(A==0)else false)then rf else false)then(M==0)else false)=true->∀tM tN,tG tM tN->∃tO,tM=.bool tO)/\∀tP:Bool,∀tQ,tG (.bool tP) tQ->R (.bool (bif (bif (bif (bif d then(A==0)else false)then rf else false)then(M==0)else false)then tP else false)) tQ)/\(∃tS tT tU tV,((bif (bif (bif d then(A==0)else false)then rf else false)then(M==0)else false)=true->Zb rg ⟨u.size,0,none⟩ 0 [.int .i64 tS,.string tT,slV tU,slV tV])/\(∃tW tX tY tZ,((bif (bif (bif d then(A==0)else false)then rf else false)then(M==0)else false)=true->Zb rg ⟨E.size,0,none⟩ 0 [.int .i64 tW,.string tX,slV tY,slV tZ])/\∃t0:Value->Za->Prop,((bif (bif (bif d then(A==0)else false)then rf else false)then(M==0)else false)=true->let t2:=rg.push (.cells #[.int .i64 sY,.string sZ,slV s1,slV s2,.int .i64 tS,.string tT,slV tU,slV tV] 26);t0 (.slice (some ⟨rg.size,0,none⟩) 2 2) t2)/\((bif (bif (bif d then(A==0)else false)then rf else false)then(M==0)else false)=false->∃t3,t0 (slV t3) rg)/\((bif (bif (bif d then(A==0)else false)then rf else false)then(M==0)else false)=true->∀t4 t5,t0 t4 t5->∃t6,t4=slV t6)/\∀t7:Sl,∀t8,t0 (slV t7) t8->∃t9:Value->Za->Prop,((bif (bif (bif d then(A==0)else false)then rf else false)then(M==0)else false)=true->XC Tp 29 #[slV t7] t8 (λua ub=>∃uc ud ue uf,ua=.agg #[.int .i64 uc,.string ud,slV ue,slV uf]/\t9 (.agg #[.int .i64 uc,.string ud,slV ue,slV uf]) ub))/\((bif (bif (bif d then(A==0)else false)then rf else false)then(M==0)else false)=false->∃ug uh ui uj,t9 (.agg #[.int .i64 ug,.string uh,slV ui,slV uj]) t8)/\((bif (bif (bif d then(A==0)else false)then rf else false)then(M==0)else false)=true->∀uk ul,t9 uk ul->∃um un uo up,uk=.agg #[.int .i64 um,.string un,slV uo,slV up])/\∀uq:Int,∀ur:Bt,∀us ut:Sl,∀uu,t9 (.agg #[.int .i64 uq,.string ur,slV us,slV ut]) uu->∃uv:Value->Za->Prop,((bif (bif (bif d then(A==0)else false)then rf else false)then(M==0)else false)=true->XC Tp 16 #[.agg #[.int .i64 tW,.string tX,slV tY,slV tZ],.agg #[.int .i64 uq,.string ur,slV us,slV ut]] uu (λuw ux=>∃uy,uw=.bool uy/\uv (.bool uy) ux))/\((bif (bif (bif d then(A==0)else false)then rf else false)then(M==0)else false)=false->∃uz,uv (.bool uz) uu)/\((bif (bif (bif d then(A==0)else false)then rf else false)then(M==0)else false)=true->∀uA uB,uv uA uB->∃uC,uA=.bool uC)/\∀uD:Bool,∀uE,uv (.bool uD) uE->R (.bool (bif (bif (bif (bif d then(A==0)else false)then rf else false)then(M==0)else false)then uD else false)) uE)/\(∃uF:Value->Za->Prop,((bif (bif (bif d then(A==0)else false)then rf else false)then(M==0)else false)=true->let uG:=rg.push (.cells #[.int .i64 sY,.string sZ,slV s1,slV s2,.int .i64 tS,.string tT,slV tU,slV tV] 26);uF (.slice (some ⟨rg.size,0,none⟩) 2 2) uG)/\((bif (bif (bif d then(A==0)else false)then rf else false)then(M==0)else false)=false->∃uH,uF (slV uH) rg)/\((bif (bif (bif d then(A==0)else false)then rf else false)then(M==0)else false)=true->∀uI uJ,uF uI uJ->∃uL,uI=slV uL)/\∀uM:Sl,∀uN,uF (slV uM) uN->(∃uO uP uQ uS,((bif (bif (bif d then(A==0)else false)then rf else false)then(M==0)else false)=true->Zb uN ⟨E.size,0,none⟩ 0 [.int .i64 uO,.string uP,slV uQ,slV uS])/\∃uT:Value->Za->Prop,((bif (bif (bif d then(A==0)else false)then rf else false)then(M==0)else false)=true->XC Tp 29 #[slV uM] uN (λuU uV=>∃uW uX uY uZ,uU=.agg #[.int .i64 uW,.string uX,slV uY,slV uZ]/\uT (.agg #[.int .i64 uW,.string uX,slV uY,slV uZ]) uV))/\((bif (bif (bif d then(A==0)else false)then rf else false)then(M==0)else false)=false->∃u0 u1 u2 u3,uT (.agg #[.int .i64 u0,.string u1,slV u2,slV u3]) uN)/\((bif (bif (bif d then(A==0)else false)then rf else false)then(M==0)else false)=true->∀u4 u5,uT u4 u5->∃u6 u7 u8 u9,u4=.agg #[.int .i64 u6,.string u7,slV u8,slV u9])/\∀va:Int,∀vb:Bt,∀vc vd:Sl,∀ve,uT (.agg #[.int .i64 va,.string vb,slV vc,slV vd]) ve->∃vf:Value->Za->Prop,((bif (bif (bif d then(A==0)else false)then rf else false)then(M==0)else false)=true->XC Tp 16 #[.agg #[.int .i64 uO,.string uP,slV uQ,slV uS],.agg #[.int .i64 va,.string vb,slV vc,slV vd]] ve (λvg vh=>∃vi,vg=.bool vi/\vf (.bool vi) vh))/\((bif (bif (bif d then(A==0)else false)then rf else false)then(M==0)else false)=false->∃vj,vf (.bool vj) ve)/\((bif (bif (bif d then(A==0)else false)then rf else false)then(M==0)else false)=true->∀vk vl,vf vk vl->∃vm,vk=.bool vm)/\∀vn:Bool,∀vo,vf (.bool vn) vo->R (.bool (bif (bif (bif (bif d then(A==0)else false)then rf else false)then(M==0)else false)then vn else false)) vo)/\(∃vp:Value->Za->Prop,((bif (bif (bif d then(A==0)else false)then rf else false)then(M==0)else false)=true->XC Tp 29 #[slV uM] uN (λvq vr=>∃vs vt vu vv,vq=.agg #[.int .i64 vs,.string vt,slV vu,slV vv]/\vp (.agg #[.int .i64 vs,.string vt,slV vu,slV vv]) vr))/\((bif (bif (bif d then(A==0)else false)then rf else false)then(M==0)else false)=false->∃vw vx vy vz,vp (.agg #[.int .i64 vw,.string vx,slV vy,slV vz]) uN)/\((bif (bif (bif d then(A==0)else false)then rf else false)then(M==0)else false)=true->∀vA vB,vp vA vB->∃vC vD vE vF,vA=.agg #[.int .i64 vC,.string vD,slV vE,slV vF])/\∀vG:Int,∀vH:Bt,∀vI vJ:Sl,∀vL,vp (.agg #[.int .i64 vG,.string vH,slV vI,slV vJ]) vL->∃vM vN vO vP,((bif (bif (bif d then(A==0)else false)then rf else false)then(M==0)else false)=true->Zb vL ⟨E.size,0,none⟩ 0 [.int .i64 vM,.string vN,slV vO,slV vP])/\∃vQ:Value->Za->Prop,((bif (bif (bif d then(A==0)else false)then rf else false)then(M==0)else false)=true->XC Tp 16 #[.agg #[.int .i64 vM,.string vN,slV vO,slV vP],.agg #[.int .i64 vG,.string vH,slV vI,slV vJ]] vL (λvS vT=>∃vU,vS=.bool vU/\vQ (.bool vU) vT))/\((bif (bif (bif d then(A==0)else false)then rf else false)then(M==0)else false)=false->∃vV,vQ (.bool vV) vL)/\((bif (bif (bif d then(A==0)else false)then rf else false)then(M==0)else false)=true->∀vW vX,vQ vW vX->∃vY,vW=.bool vY)/\∀vZ:Bool,∀v0,vQ (.bool vZ) v0->R (.bool (bif (bif (bif (bif d then(A==0)else false)then rf else false)then(M==0)else false)then vZ else false)) v0))))/\(∃v1 v2 v3 v4,((bif (bif (bif d then(A==0)else false)then rf else false)then(M==0)else false)=true->Zb rg ⟨u.size,0,none⟩ 0 [.int .i64 v1,.string v2,slV v3,slV v4])/\(∃v5 v6 v7 v8,((bif (bif (bif d then(A==0)else false)then rf else false)then(M==0)else false)=true->Zb rg ⟨E.size,0,none⟩ 0 [.int .i64 v5,.string v6,slV v7,slV v8])/\∃v9 wa wb wc,((bif (bif (bif d then(A==0)else false)then rf else false)then(M==0)else false)=true->Zb rg ⟨u.size,0,none⟩ 0 [.int .i64 v9,.string wa,slV wb,slV wc])/\∃wd:Value->Za->Prop,((bif (bif (bif d then(A==0)else false)then rf else false)then(M==0)else false)=true->let we:=rg.push (.cells #[.int .i64 v9,.string wa,slV wb,slV wc,.int .i64 v1,.string v2,slV v3,slV v4] 26);wd (.slice (some ⟨rg.size,0,none⟩) 2 2) we)/\((bif (bif (bif d then(A==0)else false)then rf else false)then(M==0)else false)=false->∃wf,wd (slV wf) rg)/\((bif (bif (bif d then(A==0)else false)then rf else false)then(M==0)else false)=true->∀wg wh,wd wg wh->∃wi,wg=slV wi)/\∀wj:Sl,∀wk,wd (slV wj) wk->∃wl:Value->Za->Prop,((bif (bif (bif d then(A==0)else false)then rf else false)then(M==0)else false)=true->XC Tp 29 #[slV wj] wk (λwm wn=>∃wo wp wq wr,wm=.agg #[.int .i64 wo,.string wp,slV wq,slV wr]/\wl (.agg #[.int .i64 wo,.string wp,slV wq,slV wr]) wn))/\((bif (bif (bif d then(A==0)else false)then rf else false)then(M==0)else false)=false->∃ws wt wu wv,wl (.agg #[.int .i64 ws,.string wt,slV wu,slV wv]) wk)/\((bif (bif (bif d then(A==0)else false)then rf else false)then(M==0)else false)=true->∀ww wx,wl ww wx->∃wy wz wA wB,ww=.agg #[.int .i64 wy,.string wz,slV wA,slV wB])/\∀wC:Int,∀wD:Bt,∀wE wF:Sl,∀wG,wl (.agg #[.int .i64 wC,.string wD,slV wE,slV wF]) wG->∃wH:Value->Za->Prop,((bif (bif (bif d then(A==0)else false)then rf else false)then(M==0)else false)=true->XC Tp 16 #[.agg #[.int .i64 v5,.string v6,slV v7,slV v8],.agg #[.int .i64 wC,.string wD,slV wE,slV wF]] wG (λwI wJ=>∃wL,wI=.bool wL/\wH (.bool wL) wJ))/\((bif (bif (bif d then(A==0)else false)then rf else false)then(M==0)else false)=false->∃wM,wH (.bool wM) wG)/\((bif (bif (bif d then(A==0)else false)then rf else false)then(M==0)else false)=true->∀wN wO,wH wN wO->∃wP,wN=.bool wP)/\∀wQ:Bool,∀wS,wH (.bool wQ) wS->R (.bool (bif (bif (bif (bif d then(A==0)else false)then rf else false)then(M==0)else false)then wQ else false)) wS)/\(∃wT wU wV wW,((bif (bif (bif d then(A==0)else false)then rf else false)then(M==0)else false)=true->Zb rg ⟨u.size,0,none⟩ 0 [.int .i64 wT,.string wU,slV wV,slV wW])/\(∃wX wY wZ w0,((bif (bif (bif d then(A==0)else false)then rf else false)then(M==0)else false)=true->Zb rg ⟨E.size,0,none⟩ 0 [.int .i64 wX,.string wY,slV wZ,slV w0])/\∃w1:Value->Za->Prop,((bif (bif (bif d then(A==0)else false)then rf else false)then(M==0)else false)=true->let w2:=rg.push (.cells #[.int .i64 wT,.string wU,slV wV,slV wW,.int .i64 v1,.string v2,slV v3,slV v4] 26);w1 (.slice (some ⟨rg.size,0,none⟩) 2 2) w2)/\((bif (bif (bif d then(A==0)else false)then rf else false)then(M==0)else false)=false->∃w3,w1 (slV w3) rg)/\((bif (bif (bif d then(A==0)else false)then rf else false)then(M==0)else false)=true->∀w4 w5,w1 w4 w5->∃w6,w4=slV w6)/\∀w7:Sl,∀w8,w1 (slV w7) w8->∃w9:Value->Za->Prop,((bif (bif (bif d then(A==0)else false)then rf else false)then(M==0)else false)=true->XC Tp 29 #[slV w7] w8 (λxa xb=>∃xc xd xe xf,xa=.agg #[.int .i64 xc,.string xd,slV xe,slV xf]/\w9 (.agg #[.int .i64 xc,.string xd,slV xe,slV xf]) xb))/\((bif (bif (bif d then(A==0)else false)then rf else false)then(M==0)else false)=false->∃xg xh xi xj,w9 (.agg #[.int .i64 xg,.string xh,slV xi,slV xj]) w8)/\((bif (bif (bif d then(A==0)else false)then rf else false)then(M==0)else false)=true->∀xk xl,w9 xk xl->∃xm xn xo xp,xk=.agg #[.int .i64 xm,.string xn,slV xo,slV xp])/\∀xq:Int,∀xr:Bt,∀xs xt:Sl,∀xu,w9 (.agg #[.int .i64 xq,.string xr,slV xs,slV xt]) xu->∃xv:Value->Za->Prop,((bif (bif (bif d then(A==0)else false)then rf else false)then(M==0)else false)=true->XC Tp 16 #[.agg #[.int .i64 wX,.string wY,slV wZ,slV w0],.agg #[.int .i64 xq,.string xr,slV xs,slV xt]] xu (λxw xx=>∃xy,xw=.bool xy/\xv (.bool xy) xx))/\((bif (bif (bif d then(A==0)else false)then rf else false)then(M==0)else false)=false->∃xz,xv (.bool xz) xu)/\((bif (bif (bif d then(A==0)else false)then rf else false)then(M==0)else false)=true->∀xA xB,xv xA xB->∃xC,xA=.bool xC)/\∀xD:Bool,∀xE,xv (.bool xD) xE->R (.bool (bif (bif (bif (bif d then(A==0)else false)then rf else false)then(M==0)else false)then xD else false)) xE)/\(∃xF:Value->Za->Prop,((bif (bif (bif d then(A==0)else false)then rf else false)then(M==0)else false)=true->let xG:=rg.push (.cells #[.int .i64 wT,.string wU,slV wV,slV wW,.int .i64 v1,.string v2,slV v3,slV v4] 26);xF (.slice (some ⟨rg.size,0,none⟩) 2 2) xG)/\((bif (bif (bif d then(A==0)else false)then rf else false)then(M==0)else false)=false->∃xH,xF (slV xH) rg)/\((bif (bif (bif d then(A==0)else false)then rf else false)then(M==0)else false)=true->∀xI xJ,xF xI xJ->∃xL,xI=slV xL)/\∀xM:Sl,∀xN,xF (slV xM) xN->(∃xO xP xQ xS,((bif (bif (bif d then(A==0)else false)then rf else false)then(M==0)else false)=true->Zb xN ⟨E.size,0,none⟩ 0 [.int .i64 xO,.string xP,slV xQ,slV xS])/\∃xT:Value->Za->Prop,((bif (bif (bif d then(A==0)else false)then rf else false)then(M==0)else false)=true->XC Tp 29 #[slV xM] xN (λxU xV=>∃xW xX xY xZ,xU=.agg #[.int .i64 xW,.string xX,slV xY,slV xZ]/\xT (.agg #[.int .i64 xW,.string xX,slV xY,slV xZ]) xV))/\((bif (bif (bif d then(A==0)else false)then rf else false)then(M==0)else false)=false->∃x0 x1 x2 x3,xT (.agg #[.int .i64 x0,.string x1,slV x2,slV x3]) xN)/\((bif (bif (bif d then(A==0)else false)then rf else false)then(M==0)else false)=true->∀x4 x5,xT x4 x5->∃x6 x7 x8 x9,x4=.agg #[.int .i64 x6,.string x7,slV x8,slV x9])/\∀ya:Int,∀yb:Bt,∀yc yd:Sl,∀ye,xT (.agg #[.int .i64 ya,.string yb,slV yc,slV yd]) ye->∃yf:Value->Za->Prop,((bif (bif (bif d then(A==0)else false)then rf else false)then(M==0)else false)=true->XC Tp 16 #[.agg #[.int .i64 xO,.string xP,slV xQ,slV xS],.agg #[.int .i64 ya,.string yb,slV yc,slV yd]] ye (λyg yh=>∃yi,yg=.bool yi/\yf (.bool yi) yh))/\((bif (bif (bif d then(A==0)else false)then rf else false)then(M==0)else false)=false->∃yj,yf (.bool yj) ye)/\((bif (bif (bif d then(A==0)else false)then rf else false)then(M==0)else false)=true->∀yk yl,yf yk yl->∃ym,yk=.bool ym)/\∀yn:Bool,∀yo,yf (.bool yn) yo->R (.bool (bif (bif (bif (bif d then(A==0)else false)then rf else false)then(M==0)else false)then yn else false)) yo)/\(∃yp:Value->Za->Prop,((bif (bif (bif d then(A==0)else false)then rf else false)then(M==0)else false)=true->XC Tp 29 #[slV xM] xN (λyq yr=>∃ys yt yu yv,yq=.agg #[.int .i64 ys,.string yt,slV yu,slV yv]/\yp (.agg #[.int .i64 ys,.string yt,slV yu,slV yv]) yr))/\((bif (bif (bif d then(A==0)else false)then rf else false)then(M==0)else false)=false->∃yw yx yy yz,yp (.agg #[.int .i64 yw,.string yx,slV yy,slV yz]) xN)/\((bif (bif (bif d then(A==0)else false)then rf else false)then(M==0)else false)=true->∀yA yB,yp yA yB->∃yC yD yE yF,yA=.agg #[.int .i64 yC,.string yD,slV yE,slV yF])/\∀yG:Int,∀yH:Bt,∀yI yJ:Sl,∀yL,yp (.agg #[.int .i64 yG,.string yH,slV yI,slV yJ]) yL->∃yM yN yO yP,((bif (bif (bif d then(A==0)else false)then rf else false)then(M==0)else false)=true->Zb yL ⟨E.size,0,none⟩ 0 [.int .i64 yM,.string yN,slV yO,slV yP])/\∃yQ:Value->Za->Prop,((bif (bif (bif d then(A==0)else false)then rf else false)then(M==0)else false)=true->XC Tp 16 #[.agg #[.int .i64 yM,.string yN,slV yO,slV yP],.agg #[.int .i64 yG,.string yH,slV yI,slV yJ]] yL (λyS yT=>∃yU,yS=.bool yU/\yQ (.bool yU) yT))/\((bif (bif (bif d then(A==0)else false)then rf else false)then(M==0)else false)=false->∃yV,yQ (.bool yV) yL)/\((bif (bif (bif d then(A==0)else false)then rf else false)then(M==0)else false)=true->∀yW yX,yQ yW yX->∃yY,yW=.bool yY)/\∀yZ:Bool,∀y0,yQ (.bool yZ) y0->R (.bool (bif (bif (bif (bif d then(A==0)else false)then rf else false)then(M==0)else false)then yZ else false)) y0)))))))))))))->n o)->((k==0)=true->XC Tp 15 #[.string s0] m (λy1 y2=>∃y3 y4 y5 y6 y7 y8,y1=.tuple #[.agg #[.int .i64 y3,.string y4,slV y5,slV y6],.int .i64 y7,.int .i64 y8]/\let y9:=y2.push (.cells #[.int .i64 0,.string (⟨#[]⟩:Bt),.slice none 0 0,.slice none 0 0] 26);XRunU Tp (AI 26 (.pointer (some ⟨y2.size,0,none⟩)) (.agg #[.int .i64 y3,.string y4,slV y5,slV y6])) y9 (λza=>∃zb,((!(y8 != 0))=true->Ze za (AD ⟨y2.size,0,none⟩ 0)=some (.int .i64 zb))/\((∃zc,((!(bif (y8 != 0)then true else(zb != 3)))=true->Ze za (AD ⟨y2.size,0,none⟩ 1)=some (.string zc))/\∃zd ze zf,((!(bif (y8 != 0)then true else(zb != 3)))=true->Zb za ⟨f.size,0,none⟩ 0 [.bool zd,.string ze,.int .i64 zf])/\∃zg:Value->Za->Prop,((!(bif (y8 != 0)then true else(zb != 3)))=true->XC Tp 26 #[.agg #[.bool zd,.string ze,.int .i64 zf]] za (λzh zi=>∃zj,zh=.string zj/\zg (.string zj) zi))/\((!(bif (y8 != 0)then true else(zb != 3)))=false->∃zk,zg (.string zk) za)/\((!(bif (y8 != 0)then true else(zb != 3)))=true->∀zl zm,zg zl zm->∃zn,zl=.string zn)/\∀zo:Bt,∀zp,zg (.string zo) zp->((bif (bif (y8 != 0)then true else(zb != 3))then true else(!(zc.toList==zo.toList)))=true->R (.bool false) zp)/\((bif (bif (y8 != 0)then true else(zb != 3))then true else(!(zc.toList==zo.toList)))=false->n zp))/\(∃zq zr zs,((!(bif (y8 != 0)then true else(zb != 3)))=true->Zb za ⟨f.size,0,none⟩ 0 [.bool zq,.string zr,.int .i64 zs])/\(∃zt,((!(bif (y8 != 0)then true else(zb != 3)))=true->Ze za (AD ⟨y2.size,0,none⟩ 1)=some (.string zt))/\∃zu:Value->Za->Prop,((!(bif (y8 != 0)then true else(zb != 3)))=true->XC Tp 26 #[.agg #[.bool zq,.string zr,.int .i64 zs]] za (λzv zw=>∃zx,zv=.string zx/\zu (.string zx) zw))/\((!(bif (y8 != 0)then true else(zb != 3)))=false->∃zy,zu (.string zy) za)/\((!(bif (y8 != 0)then true else(zb != 3)))=true->∀zz zA,zu zz zA->∃zB,zz=.string zB)/\∀zC:Bt,∀zD,zu (.string zC) zD->((bif (bif (y8 != 0)then true else(zb != 3))then true else(!(zt.toList==zC.toList)))=true->R (.bool false) zD)/\((bif (bif (y8 != 0)then true else(zb != 3))then true else(!(zt.toList==zC.toList)))=false->n zD))/\(∃zE:Value->Za->Prop,((!(bif (y8 != 0)then true else(zb != 3)))=true->XC Tp 26 #[.agg #[.bool zq,.string zr,.int .i64 zs]] za (λzF zG=>∃zH,zF=.string zH/\zE (.string zH) zG))/\((!(bif (y8 != 0)then true else(zb != 3)))=false->∃zI,zE (.string zI) za)/\((!(bif (y8 != 0)then true else(zb != 3)))=true->∀zJ zL,zE zJ zL->∃zM,zJ=.string zM)/\∀zN:Bt,∀zO,zE (.string zN) zO->∃zP,((!(bif (y8 != 0)then true else(zb != 3)))=true->Ze zO (AD ⟨y2.size,0,none⟩ 1)=some (.string zP))/\((bif (bif (y8 != 0)then true else(zb != 3))then true else(!(zP.toList==zN.toList)))=true->R (.bool false) zO)/\((bif (bif (y8 != 0)then true else(zb != 3))then true else(!(zP.toList==zN.toList)))=false->n zO))))/\(∃zQ zS zT,((!(bif (y8 != 0)then true else(zb != 3)))=true->Zb za ⟨f.size,0,none⟩ 0 [.bool zQ,.string zS,.int .i64 zT])/\((∃zU,((!(bif (y8 != 0)then true else(zb != 3)))=true->Ze za (AD ⟨y2.size,0,none⟩ 1)=some (.string zU))/\∃zV:Value->Za->Prop,((!(bif (y8 != 0)then true else(zb != 3)))=true->XC Tp 26 #[.agg #[.bool zQ,.string zS,.int .i64 zT]] za (λzW zX=>∃zY,zW=.string zY/\zV (.string zY) zX))/\((!(bif (y8 != 0)then true else(zb != 3)))=false->∃zZ,zV (.string zZ) za)/\((!(bif (y8 != 0)then true else(zb != 3)))=true->∀z0 z1,zV z0 z1->∃z2,z0=.string z2)/\∀z3:Bt,∀z4,zV (.string z3) z4->((bif (bif (y8 != 0)then true else(zb != 3))then true else(!(zU.toList==z3.toList)))=true->R (.bool false) z4)/\((bif (bif (y8 != 0)then true else(zb != 3))then true else(!(zU.toList==z3.toList)))=false->n z4))/\(∃z5:Value->Za->Prop,((!(bif (y8 != 0)then true else(zb != 3)))=true->XC Tp 26 #[.agg #[.bool zQ,.string zS,.int .i64 zT]] za (λz6 z7=>∃z8,z6=.string z8/\z5 (.string z8) z7))/\((!(bif (y8 != 0)then true else(zb != 3)))=false->∃z9,z5 (.string z9) za)/\((!(bif (y8 != 0)then true else(zb != 3)))=true->∀Aa Ab,z5 Aa Ab->∃Ac,Aa=.string Ac)/\∀Ad:Bt,∀Ae,z5 (.string Ad) Ae->∃Af,((!(bif (y8 != 0)then true else(zb != 3)))=true->Ze Ae (AD ⟨y2.size,0,none⟩ 1)=some (.string Af))/\((bif (bif (y8 != 0)then true else(zb != 3))then true else(!(Af.toList==Ad.toList)))=true->R (.bool false) Ae)/\((bif (bif (y8 != 0)then true else(zb != 3))then true else(!(Af.toList==Ad.toList)))=false->n Ae)))/\(∃Ag:Value->Za->Prop,((!(bif (y8 != 0)then true else(zb != 3)))=true->XC Tp 26 #[.agg #[.bool zQ,.string zS,.int .i64 zT]] za (λAh Ai=>∃Aj,Ah=.string Aj/\Ag (.string Aj) Ai))/\((!(bif (y8 != 0)then true else(zb != 3)))=false->∃Ak,Ag (.string Ak) za)/\((!(bif (y8 != 0)then true else(zb != 3)))=true->∀Al Am,Ag Al Am->∃An,Al=.string An)/\∀Ao:Bt,∀Ap,Ag (.string Ao) Ap->∃Aq,((!(bif (y8 != 0)then true else(zb != 3)))=true->Ze Ap (AD ⟨y2.size,0,none⟩ 1)=some (.string Aq))/\((bif (bif (y8 != 0)then true else(zb != 3))then true else(!(Aq.toList==Ao.toList)))=true->R (.bool false) Ap)/\((bif (bif (y8 != 0)then true else(zb != 3))then true else(!(Aq.toList==Ao.toList)))=false->n Ap))))))/\((k==0)=false->n m)))))):
  XC Tp 5 #[.string s0,.string t1] h R:=
 XF ⟨[(14,8000),(7,8000)],[],[(9,[])]⟩ [.tmp 4] 104 Tryz.func5 H
end
end Go.X
end
section
namespace Go.X
open Go Go.Lib
section
variable {s t:Bs} {r a:Nat}
theorem z03{T:List Tk}{v:Tr}{m:Nat}(hs:s.length<=65536)(L:Lex s 0 s.length T)(hp:PV s 32 v (Q0 T) m)(hm:m<=4096):zcq s=(v,(s.length:Int),0):=by
 have hT:=z01 L hs
 obtain⟨_,_,w3⟩:=zqh 32 v _ m hp
 obtain⟨new,f1,f2⟩:=w3 (0,0) ⟨Q0 T,0,[]⟩ [] (by simp) (by simp;omega)
 have Z:zan s=((s,new),(s.length:Int),0):=by
  unfold zan
  rw[hT]
  dsimp only
  rw[if_pos rfl,f1]
  dsimp only
  rw[if_pos rfl,BV]
 unfold zcq
 rw[Z]
 dsimp only
 rw[if_pos rfl]
 have:=f2.val new (λi y hy=>by simp only[Bh,AX];exact hy) 33 (by omega)
 simp only[Bh]at this
 rw[this]
theorem z9j:(BS 32).all (λk=>decide (zqj k≠0)||(zgx [48,48,Be (48+k / 16),z9h (k % 16)]==some k))=true:=by kernel_rfl
theorem z4d(h:z5o r)(ab:32<=r)(Z:r≠34)(aa:r≠92)(m:Bs):∃c t,encodeRune (r:Int)++m=c::t/\c≠34/\c≠92:=by
 obtain⟨_,h2,_⟩:=dec_enc h m
 by_cases hr:r<128
 ·have e:encodeRune (r:Int)=[(r:Int).toNat.toUInt8]:=by unfold encodeRune;rw[encodeRuneZ_one (by omega) (by omega)];rfl
  have b0:=zwu (x:=(r:Int)) (by omega) (by omega)
  refine⟨_,m,by rw[e];rfl,λe=>?_,λe=>?_⟩ <;> (rw[e]at b0;simp at b0;omega)
 ·have hh:=zuw h (by omega)
  cases he:encodeRune (r:Int)with
  |nil=>rw[he]at h2;simp at h2
  |cons c t=>
   have:=hh c (by rw[he];exact AC)
   exact⟨c,t++m,rfl,λe=>(by subst e;simp at this),λe=>(by subst e;simp at this)⟩
theorem z4e(h:z5o r)(m:Bs):zbs (zwz r++m)=some (r,(zwz r).length)/\(zwz r++m).head?≠some 34/\zwz r≠[]:=by
 unfold zwz
 by_cases h0:zqj r≠0
 ·rw[if_pos h0]
  have Z:(r=34\/r=92)\/r=8\/r=12\/r=10\/r=13\/r=9:=by
   unfold zqj at h0
   by_cases a:r=34\/r=92
   ·exact .inl a
   ·rw[if_neg a]at h0
    by_cases b:r=8
    ·exact .inr (.inl b)
    ·rw[if_neg b]at h0
     by_cases c:r=12
     ·exact .inr (.inr (.inl c))
     ·rw[if_neg c]at h0
      by_cases d:r=10
      ·exact .inr (.inr (.inr (.inl d)))
      ·rw[if_neg d]at h0
       by_cases e:r=13
       ·exact .inr (.inr (.inr (.inr (.inl e))))
       ·rw[if_neg e]at h0
        by_cases f:r=9
        ·exact .inr (.inr (.inr (.inr (.inr f))))
        ·rw[if_neg f]at h0;exact absurd rfl h0
  rcases Z with(rfl|rfl)|rfl|rfl|rfl|rfl|rfl <;> exact⟨rfl,by simp,by simp⟩
 ·rw[if_neg h0]
  have ah:r≠34:=λe=>h0 (by subst e;decide)
  have ae:r≠92:=λe=>h0 (by subst e;decide)
  by_cases aa:32<=r
  ·rw[if_pos aa]
   obtain⟨hd,hl,h2⟩:=dec_enc h m
   obtain⟨c,t,e,af,ab⟩:=z4d h aa ah ae m
   refine⟨?_,by rw[e];simpa using af,λe=>by rw[e]at hl;simp at hl⟩
   unfold zbs
   have hb:zc6 (dec (encodeRune (r:Int)++m))=false:=by
    rw[hd]
    unfold zc6
    simp only[CW,beq_eq_false_iff_ne,ne_eq]
    by_cases hr:r=65533
    ·exact .inr (by have:=h2 (by omega);omega)
    ·exact .inl hr
   rw[if_neg (by rw[e];simpa using ab),if_neg (by rw[hb,hd];rintro(h|h);omega;cases h),hd]
  ·rw[if_neg aa]
   have:=A5.1 z9j r (BF.2 (by omega))
   rw[Cb]at this
   have hx:zgx [48,48,Be (48+r / 16),z9h (r % 16)]=some r:=by
    rcases this with h|h
    ·exact absurd (of_decide_eq_true h) h0
    ·exact eq_of_beq h
   refine⟨?_,by simp,by simp⟩
   unfold zbs
   rw[if_pos (show List.head? ([92,117,48,48,Be (48+r / 16),z9h (r % 16)]++m)=some 92 from rfl)]
   unfold z7t
   simp only[A8,BV]
   rw[show z2w 117=none from by decide]
   dsimp only
   rw[if_pos trivial]
   unfold z2x
   have ai:zgx (48::48::Be (48+r / 16)::z9h (r % 16)::m)=some r:=by
    unfold zgx at hx ⊢
    rw[if_pos (by simp)]at hx
    rw[if_pos (by simp only[AN];omega)]
    exact hx
   rw[ai]
   dsimp only
   rw[if_neg (by omega),if_pos (by omega)];rfl
theorem z04(rest:Bs):∀(k:Nat) (t:Bs),t.length=k->Ys t=true->zam (zbz t++34::rest)=(t,(zbz t).length+1,true):=by
 intro k
 induction k using DC with
 |_ k ih=>
  intro t hk hu
  by_cases ht:t=[]
  ·subst ht
   rw[show zbz ([]:Bs)++34::rest=34::rest from rfl,J4 (by simp),if_pos (show(34::rest).head?=some 34 from rfl)];rfl
  ·have hp:=BC.2 ht
   have Z:zc6 (dec t)=false:=by
    rw[Ym ht]at hu
    cases hb:zc6 (dec t)with
    |true=>rw[hb]at hu;cases hu
    |false=>rfl
   have ab:Ys (t.drop (dec t).2)=true:=by
    rw[Ym ht,Z]at hu;simpa using hu
   have hw:=Yv t
   have hq:=zux ht Z
   have he:=zr4 ht Z
   have ae:=zuv t
   have aa:zbz t=zwz (dec t).1++zbz (t.drop (dec t).2):=by
    rw[<-hq,<-zjo,Cm]
   have af:=ih (t.drop (dec t).2).length (by rw[AW];omega) _ rfl ab
   obtain⟨p1,p2,p3⟩:=z4e ae (zbz (t.drop (dec t).2)++34::rest)
   rw[aa,Bo,J4 (by
    intro e;exact p3 (List.append_eq_nil_iff.1 e).1),if_neg p2,p1]
   dsimp only
   rw[De,af,he]
   dsimp only
   rw[Cm,AF,D3]
def Jc(t:Bs):Bs:=34::zbz t++[34]
theorem zf7(t:Bs):(Jc t).length=(zbz t).length+2:=by unfold Jc;simp
theorem zqk{t s rest:Bs}(hu:Ys t=true)(hs:s.drop a=Jc t++rest):Qt s a=(t,a+(Jc t).length,0):=by
 have hd:s.drop (a+1)=zbz t++34::rest:=by
  rw[<-Bq,hs];unfold Jc;simp
 unfold Qt
 rw[hs,if_pos (by unfold Jc;rfl),hd,z04 rest _ t rfl hu]
 simp only[if_true]
 rw[zf7,show a+1+((zbz t).length+1)=a+((zbz t).length+2)from by omega]
theorem z4f(hu:Ys t=true):(zei (Jc t)).1=t:=by
 have:=zqk (s:=Jc t) (a:=0) (rest:=[]) hu (by simp)
 unfold zei
 rw[this]
 dsimp only
 rw[if_neg (by omega)]
theorem zsr{t s rest:Bs}(hu:Ys t=true)(hs:s.drop a=Jc t++rest):J5 s a=(8,a+(Jc t).length,0):=by
 have hr:=zqk hu hs
 unfold J5
 rw[hs,show Jc t++rest=34::(zbz t++[34]++rest)from rfl]
 dsimp only
 rw[if_neg (by decide),if_neg (by decide),if_pos rfl,hr,if_pos rfl]
theorem znq{s rest:Bs}{c:UInt8}(hc:c∈zcm)(hs:s.drop a=c::rest):J5 s a=(2+indexByte zcm c,a+1,0):=by
 unfold J5
 rw[hs]
 dsimp only
 rw[if_pos hc]
theorem zql{s rest:Bs}{c:UInt8}(hc:c∈Wt)(hn:∀d,rest.head?=some d->d∉Wt)(hs:s.drop a=c::rest):J5 s a=(1,a+1,0):=by
 have h1:c∉zcm:=by
  have:∀c∈Wt,c∉zcm:=by decide
  exact this c hc
 unfold J5
 rw[hs]
 dsimp only
 rw[if_neg h1,if_pos hc]
 have:J7 (Y5 Wt) (c::rest)=1:=by
  unfold J7
  rw[List.takeWhile_cons,if_pos (by unfold Y5;exact decide_eq_true hc)]
  cases rest with
  |nil=>rfl
  |cons d r=>rw[List.takeWhile_cons,if_neg (by unfold Y5;simpa using hn d rfl)];rfl
 rw[this]
theorem Jd{s r:Bs}(h:s.drop a=r)(hr:r≠[]):a<s.length:=by
 rcases A1 a s.length with h1|h1
 ·exact h1
 ·rw[BJ h1]at h;exact absurd h.symm hr
theorem Lex.step{a b e:Nat}{k:Int}{T:List Tk}(h:J5 s a=(k,e,0))(ha:a<s.length)(L:Lex s e b T):Lex s a b ((k,((a:Int),(e:Int)))::T):=by
 have:=Lex.cons (s:=s) (i:=a) (j:=b) (T:=T) ha (by rw[h]) (by rw[h];exact L)
 rw[h]at this;exact this
theorem z05{t s rest:Bs}{a d:Nat}(hu:Ys t=true)(hs:s.drop a=Jc t++rest):PV s (d+1) (.mk 4 (bl t) [] []) [(8,((a:Int),((a+(Jc t).length:Nat):Int)))] 1:=by
 have aa:=zf7 t
 have ab:a+(Jc t).length<=s.length:=by
  have:=congrArg Db hs
  rw[AW,AF]at this
  omega
 have Z:Q6 s ((a:Int),((a+(Jc t).length:Nat):Int))=Jc t:=by
  rw[zls (by dsimp only;omega) (by dsimp only;omega) (by dsimp only;omega)]
  unfold zel
  simp only[AK]
  rw[hs,Dl,Dn]
 refine⟨_,.inl ⟨rfl,show Z9 8≠0 by decide,show Z9 8≠5 by decide,show Z9 8≠6 by decide,?_,rfl⟩⟩
 dsimp only
 rw[Z,show Z9 8=4 from rfl]
 unfold zbu
 rw[if_neg (by decide),if_neg (by decide),if_pos rfl,z4f hu]
theorem z4g(hu:Ys t=true)(hl:t.length<=2048):zcq (32::Jc t++[10])=(.mk 4 (bl t) [] [],((Jc t).length:Int)+2,0):=by
 have ab:=zf6 t
 have aa:=zf7 t
 generalize hs:(32::Jc t++[10]:Bs)=s
 have Z:s.length=(Jc t).length+2:=by rw[<-hs];simp
 have d0:s.drop 0=32::(Jc t++[10]):=by rw[<-hs];rfl
 have d1:s.drop 1=Jc t++[10]:=by rw[<-hs];rfl
 have d2:s.drop (1+(Jc t).length)=10::[]:=by rw[<-Bq,d1,De]
 have t0:=zql (s:=s) (a:=0) (c:=32) (by decide) (λd hd=>by
  have:d=34:=by
   have hd:some (34:UInt8)=some d:=hd
   exact(AL hd).symm
  subst this;decide) d0
 have t1:=zsr hu d1
 have t2:=zql (s:=s) (a:=1+(Jc t).length) (c:=10) (by decide) (λd hd=>by cases hd) d2
 have L2:=Lex.step (b:=s.length) (T:=[]) t2 (Jd d2 (by simp)) (by rw[show 1+(Jc t).length+1=s.length from by omega];exact .nil)
 have L0:=Lex.step t0 (Jd d0 (by simp)) (Lex.step t1 (Jd d1 (by rw[show Jc t++[10]=34::(zbz t++[34]++[10])from rfl];simp)) L2)
 have:=z03 (m:=1) (v:=.mk 4 (bl t) [] []) (by omega) L0 (z05 (d:=31) hu d1) (by omega)
 rw[this,Z]
 congr 2
theorem z4h(hu:Ys t=true)(hl:t.length<=2048):∃n:Int,zcq (91::Jc t++[44]++Jc t++[93])=(.mk 5 (bl []) [] [.mk 4 (bl t) [] [],.mk 4 (bl t) [] []],n,0):=by
 have ab:=zf6 t
 have Z:=zf7 t
 generalize hs:(91::Jc t++[44]++Jc t++[93]:Bs)=s
 generalize hQ:(Jc t).length=Q at Z
 have aa:s.length=Q+Q+3:=by rw[<-hs];simp;omega
 have d0:s.drop 0=91::(Jc t++44::(Jc t++[93])):=by rw[<-hs];simp
 have d1:s.drop 1=Jc t++44::(Jc t++[93]):=by rw[show(1:Nat)=0+1 from rfl,<-Bq,d0];rfl
 have d2:s.drop (1+Q)=44::(Jc t++[93]):=by rw[<-Bq,d1,<-hQ,De]
 have d3:s.drop (1+Q+1)=Jc t++[93]:=by rw[<-Bq,d2];rfl
 have d4:s.drop (1+Q+1+Q)=93::[]:=by rw[<-Bq,d3,<-hQ,De]
 have t0:=znq (c:=91) (by decide) d0
 have t1:=zsr hu d1
 have t2:=znq (c:=44) (by decide) d2
 have t3:=zsr hu d3
 have t4:=znq (c:=93) (by decide) d4
 rw[hQ]at t1 t3
 have ne:∀r:Bs,Jc t++r≠[]:=λr e=>by
  rw[show Jc t++r=34::(zbz t++[34]++r)from rfl]at e;cases e
 have L4:=Lex.step (b:=s.length) (T:=[]) t4 (Jd d4 (by simp)) (by rw[show 1+Q+1+Q+1=s.length from by omega];exact .nil)
 have L0:=Lex.step t0 (Jd d0 (by simp)) (Lex.step t1 (Jd d1 (ne _)) (Lex.step t2 (Jd d2 (by simp)) (Lex.step t3 (Jd d3 (ne _)) L4)))
 have v1:=z05 (d:=30) hu d1
 have v3:=z05 (d:=30) hu d3
 rw[hQ]at v1 v3
 have K2:KidsG (KA (PV s 31)) 5 [] [([],.mk 4 (bl t) [] [])] ([(8,(((1+Q+1:Nat):Int),((1+Q+1+Q:Nat):Int)))]++[(5,(((1+Q+1+Q:Nat):Int),((1+Q+1+Q+1:Nat):Int)))]) 1:=.last (had':=[]) ⟨rfl,v3⟩ rfl
 have K1:=KidsG.more (K:=KA (PV s 31)) (close:=5) (had:=[]) (had':=[]) (kv:=([],.mk 4 (bl t) [] [])) (q:=(6,(((1+Q:Nat):Int),((1+Q+1:Nat):Int)))) ⟨rfl,v1⟩ rfl K2
 have hp:PV s 32 (.mk 5 (bl []) [] [.mk 4 (bl t) [] [],.mk 4 (bl t) [] []]) _ 3:=⟨(4,(((0:Nat):Int),((0+1:Nat):Int))),.inr (.inr (.inl ⟨_,_,_,rfl,rfl,K1,rfl,rfl⟩))⟩
 exact⟨_,z03 (m:=3) (by omega) L0 hp (by omega)⟩
theorem z06{c:UInt8}(h:Q1 c=true):c∈zdl/\c∈zhr:=by
 have all:(BS 256).all (λk=>!Q1 (Be k)||(Y5 zdl (Be k)&&Y5 zhr (Be k)))=true:=by kernel_rfl
 have:=A5.1 all c.toNat (BF.2 c.toNat_lt)
 rw[UInt8.ofNat_toNat,h]at this
 simp only[Ek,DD,BP]at this
 exact⟨of_decide_eq_true this.1,of_decide_eq_true this.2⟩
theorem zg2{p:UInt8->Bool}:∀{l:Bs},(cutAt p l).2.2=true->∃c,p c=true/\l=(cutAt p l).1++c::(cutAt p l).2.1
 |[],h=>by cases h
 |c::l,h=>by
  unfold cutAt at h ⊢
  split
  ·rename_i e;exact⟨c,e,rfl⟩
  ·rename_i e
   rw[if_neg e]at h
   obtain⟨d,h1,h2⟩:=zg2 h
   exact⟨d,h1,by simp only[A8];rw[<-h2]⟩
theorem z07(h:zhn s=true):(∀c∈s,c∈zdl)/\∃c t,s=c::t/\c∈zhr:=by
 unfold zhn at h
 simp only[BP]at h
 obtain⟨⟨⟨h1,h2⟩,h3⟩,h4⟩:=h
 have dg:∀{l:Bs},zby l=true->∀c∈l,c∈zdl:=λ {l} hl c hc=>(z06 (A5.1 (zfw hl) c hc)).1
 have eE:∀c,isE c=true->c∈zdl:=λc hc=>by
  unfold isE at hc
  rw[Cb]at hc
  rcases hc with hc|hc <;> (rw[eq_of_beq hc];decide)
 have eD:∀c,zpf c=true->c∈zdl:=λc hc=>by
  unfold zpf at hc
  rw[eq_of_beq hc];decide
 have hw:(∀c∈(W8 s).1,c∈zdl)/\∃c t,(W8 s).1=c::t/\c∈zhr:=by
  have af:∃c t,(Jz s).1=c::t/\c∈zhr:=by
   cases hq:(Jz s).1 with
   |nil=>rw[hq]at h2;cases h2
   |cons c t=>exact⟨c,t,rfl,(z06 (A5.1 (zfw h2) c (by rw[hq];exact AC))).2⟩
  obtain⟨c0,t0,e0,Z⟩:=af
  cases hb:(Jz s).2.2 with
  |false=>
   have:=(zak (p:=zpf) (l:=(W8 s).1) hb).1
   have this:(Jz s).1=(W8 s).1:=this
   rw[<-this]
   exact⟨dg h2,c0,t0,e0,Z⟩
  |true=>
   obtain⟨c,hc,e⟩:=zg2 (p:=zpf) (l:=(W8 s).1) hb
   have e:(W8 s).1=(Jz s).1++c::(Jz s).2.1:=e
   rw[hb]at h3
   have h3:zby (Jz s).2.1=true:=by simpa using h3
   refine⟨λx hx=>?_,c0,t0++c::(Jz s).2.1,by rw[e,e0];rfl,Z⟩
   rw[e]at hx
   rcases AP.1 hx with hx|hx
   ·exact dg h2 x hx
   ·rcases Ay.1 hx with rfl|hx
    ·exact eD x hc
    ·exact dg h3 x hx
 have hS:(∀c∈zqo s,c∈zdl)/\∃c t,zqo s=c::t/\c∈zhr:=by
  obtain⟨w1,c0,t0,e0,Z⟩:=hw
  cases hb:(W8 s).2.2 with
  |false=>
   have:=(zak (p:=isE) (l:=zqo s) hb).1
   have this:(W8 s).1=zqo s:=this
   rw[<-this]
   exact⟨w1,c0,t0,e0,Z⟩
  |true=>
   obtain⟨c,hc,e⟩:=zg2 (p:=isE) (l:=zqo s) hb
   have e:zqo s=(W8 s).1++c::(W8 s).2.1:=e
   rw[hb]at h1
   have h1:zby (zqp s)=true:=by simpa using h1
   have hE:∀x∈(W8 s).2.1,x∈zdl:=by
    unfold zqp at h1
    intro x hx
    split at h1
    ·rename_i ab
     unfold zfs at ab
     rw[BP]at ab
     cases hq:(W8 s).2.1 with
     |nil=>rw[hq]at hx;cases hx
     |cons d r=>
      rw[hq]at hx h1 ab
      rcases Ay.1 hx with rfl|hx
      ·have:=ab.2
       simp at this;subst this;decide
      ·exact dg h1 x hx
    ·split at h1
     ·rename_i ae
      cases hq:(W8 s).2.1 with
      |nil=>rw[hq]at hx;cases hx
      |cons d r=>
       rw[hq]at hx h1 ae
       rcases Ay.1 hx with rfl|hx
       ·simp at ae;subst ae;decide
       ·exact dg h1 x hx
     ·exact dg h1 x hx
   refine⟨λx hx=>?_,c0,t0++c::(W8 s).2.1,by rw[e,e0];rfl,Z⟩
   rw[e]at hx
   rcases AP.1 hx with hx|hx
   ·exact w1 x hx
   ·rcases Ay.1 hx with rfl|hx
    ·exact eE x hc
    ·exact hE x hx
 obtain⟨s1,c0,t0,e0,Z⟩:=hS
 unfold zqo at s1 e0
 split at s1
 ·rename_i aa
  rw[if_pos aa]at e0
  cases hq:s with
  |nil=>rw[hq]at aa;cases aa
  |cons d r=>
   rw[hq]at s1 aa
   have hd:d=45:=by simpa using aa
   subst hd
   refine⟨λx hx=>?_,45,r,rfl,by decide⟩
   rcases Ay.1 hx with rfl|hx
   ·decide
   ·exact s1 x hx
 ·rename_i aa
  rw[if_neg aa]at e0
  exact⟨s1,c0,t0,e0,Z⟩
theorem z4i(h:(Zh s).2=0)(hs:s.length<=65536):zcq s=(.mk 3 (bl (We (Zh s).1)) [] [],(s.length:Int),0):=by
 have ae:zhn s=true:=by
  unfold Zh at h
  cases e:zdi s with
  |none=>rw[e]at h;simp at h
  |some x=>exact(zd8 e).1
 obtain⟨hb,c,t,e,hc⟩:=z07 ae
 have Z:J7 (Y5 zdl) s=s.length:=by
  exact znd (Av _) (λj hj=>by unfold Y5;exact decide_eq_true (hb _ (BG hj))) (λh=>absurd h (Nat.lt_irrefl _))
 have n1:c∉zcm/\c∉Wt/\c≠34:=by
  have:∀c∈zhr,c∉zcm/\c∉Wt/\c≠34:=by decide
  exact this c hc
 have tk:J5 s 0=(9,s.length,0):=by
  unfold J5
  rw[Cc]
  rw[e]at Z h
  rw[e]
  dsimp only
  rw[if_neg n1.1,if_neg n1.2.1,if_neg n1.2.2,if_pos hc,Z,BL,if_pos h,AX]
 have aa:0<s.length:=by rw[e];simp
 have L:=Lex.step (b:=s.length) (T:=[]) tk aa .nil
 have ab:Q6 s (((0:Nat):Int),((s.length:Nat):Int))=s:=by
  rw[zls (by dsimp only;omega) (by dsimp only;omega) (by dsimp only;omega)]
  unfold zel
  simp
 refine z03 (m:=1) hs L ⟨_,.inl ⟨rfl,show Z9 9≠0 by decide,show Z9 9≠5 by decide,show Z9 9≠6 by decide,?_,rfl⟩⟩ (by omega)
 dsimp only
 rw[ab]
 rfl
end
end Go.X
end
section
namespace Go.X
open Go Go.X Go.Proofs Go.RowKit
section
variable {h':Za} {M':Fr} {k:Int} {s:Bt} {a b:Sl}
theorem zlt{f:FuncId}{args:Array Value}{h:Za}{g:Bool}(hg:g=true){Kt:Bt->Za->Prop}(E:XC Tp f args h λv h'=>∃r,v=.string r/\Kt r h'):
  ∃J:Value->Za->Prop,(g=true->XC Tp f args h λv h'=>∃r:Bt,v=.string r/\J (.string r) h')/\(g=false->∃r:Bt,J (.string r) h)/\(g=true->∀v h',J v h'->∃r:Bt,v=.string r)/\∀r:Bt,∀h',J (.string r) h'->Kt r h':=by
 refine⟨λv h'=>∃r,v=.string r/\Kt r h',λ_=>XC.mono E λv h' ⟨r,e,H⟩=>⟨r,e,r,rfl,H⟩,λhx=>(by rw[hg]at hx;cases hx),λ_ v h' ⟨r,e,_⟩=>⟨r,e⟩,λr h' ⟨r',e,H⟩=>?_⟩
 injection e with e
 subst e;exact H
abbrev zwv(t:Bs):Tr:=.mk 4 (bl t) [] []
abbrev qb6(t:Bs):Tr:=.mk 5 (bl []) [] [zwv t,zwv t]
structure Cs (gl:Fr) (t:Bs) (bV bW:Nat) (kv kw:Int) (sv sw:Bt) (av cv aw cw:Sl) (h:Za) (M:Fr):Prop where
 hM:Fr.le gl M
 ag:AgM M h
 V:Blk h bV #[.int .i64 kv,.string sv,slV av,slV cv]
 rv:RdV M .tree (zwv t) (trV kv sv av cv)
 W:Blk h bW #[.int .i64 kw,.string sw,slV aw,slV cw]
 rw:RdV M .tree (qb6 t) (trV kw sw aw cw)
section
variable {gl : Fr} {t : Bs} {bV bW : Nat} {kv kw : Int} {sv sw : Bt} {av cv aw cw : Sl} {h : Za} {M : Fr}
theorem Cs.later(c:Cs gl t bV bW kv kw sv sw av cv aw cw h M)(L:Later h M h' M'):Cs gl t bV bW kv kw sv sw av cv aw cw h' M':=
 ⟨c.hM.trans L.le,L.ag,c.V.keep (L.keep.get bV c.V.lt),RdV.mono L.le c.rv,c.W.keep (L.keep.get bW c.W.lt),RdV.mono L.le c.rw⟩
theorem Cs.of(c:Cs gl t bV bW kv kw sv sw av cv aw cw h M){K:Int->Bt->Sl->Sl->Za->Prop}(hK:∀k s a b h' M',Later h M h' M'->RdV M' .tree (zwv t) (trV k s a b)->K k s a b h'):XC Tp 28 #[.string (bl t)] h λv h'=>∃k s a b,v=trV k s a b/\K k s a b h':=by
 refine(show PC Tp gl 28 [Arg.mk .str (bl t)] [.tree] (λr=>r=zwv t)from by apply zjn;rfl).go c.hM c.ag (Qw (a:=Arg.mk .str _) (rdStr _) Yk) λv h' M' r L hv hr=>?_
 subst hr
 have rv:=zqn.1 hv
 obtain⟨a,b,rfl,_⟩:=zdh rv
 exact⟨_,_,a,b,rfl,hK _ _ _ _ _ _ L rv⟩
theorem Cs.row(c:Cs gl t bV bW kv kw sv sw av cv aw cw h M){x:Sl}(hx:Rd M (.row .tree) [zwv t,zwv t] [slV x]){K:Int->Bt->Sl->Sl->Za->Prop}(hK:∀k s a b h' M',Later h M h' M'->RdV M' .tree (qb6 t) (trV k s a b)->K k s a b h'):XC Tp 29 #[slV x] h λv h'=>∃k s a b,v=trV k s a b/\K k s a b h':=by
 refine(z5a (gl:=gl) (l:=[zwv t,zwv t]) (R:=λr=>r=qb6 t) rfl).go c.hM c.ag (Qw (a:=Arg.mk (.row .tree) _) ((zto rfl).2 hx) Yk) λv h' M' r L hv hr=>?_
 subst hr
 have rv:=zqn.1 hv
 obtain⟨a,b,rfl,_⟩:=zdh rv
 exact⟨_,_,a,b,rfl,hK _ _ _ _ _ _ L rv⟩
theorem eqS(hM:Fr.le gl M)(ag:AgM M h){T:Tr}{k k':Int}{s s':Bt}{a b a' b':Sl}(h1:RdV M .tree T (trV k s a b))(h2:RdV M .tree T (trV k' s' a' b')){K:Bool->Za->Prop}(hK:∀h' M',Later h M h' M'->K true h'):XC Tp 16 #[trV k s a b,trV k' s' a' b'] h λv h'=>∃r,v=.bool r/\K r h':=by
 refine(zze (gl:=gl) T T (R:=λr=>r=true) λr hr=>hr.2 rfl).go hM ag (Qw (a:=Arg.mk .tree _) h1 (Qw (a:=Arg.mk .tree _) h2 Yk)) λv h' M' r L hv hr=>?_
 have hr:r=true:=hr
 subst hr
 exact⟨true,z4t hv,hK _ _ L⟩
theorem Cs.eqV(c:Cs gl t bV bW kv kw sv sw av cv aw cw h M)(hx:RdV M .tree (zwv t) (trV k s a b)){K:Bool->Za->Prop}(hK:∀h' M',Later h M h' M'->K true h'):XC Tp 16 #[trV kv sv av cv,trV k s a b] h λv h'=>∃r,v=.bool r/\K r h':=eqS c.hM c.ag c.rv hx hK
theorem Cs.eqW(c:Cs gl t bV bW kv kw sv sw av cv aw cw h M)(hx:RdV M .tree (qb6 t) (trV k s a b)){K:Bool->Za->Prop}(hK:∀h' M',Later h M h' M'->K true h'):XC Tp 16 #[trV kw sw aw cw,trV k s a b] h λv h'=>∃r,v=.bool r/\K r h':=eqS c.hM c.ag c.rw hx hK
theorem Cs.lit(c:Cs gl t bV bW kv kw sv sw av cv aw cw h M){T:TypeId}:
  ∃M',Later h M (h.push (.cells #[.int .i64 kv,.string sv,slV av,slV cv,.int .i64 kv,.string sv,slV av,slV cv] T)) M'/\Rd M' (.row .tree) [zwv t,zwv t] [slV ⟨some ⟨h.size,0,none⟩,2,2⟩]:=by
 refine⟨_,Later.frz c.ag _ T,qb2 (w1:=[_,_,_,_]) (w2:=[_,_,_,_]) ?_ (znp c.rv) (znp c.rv) rfl rfl⟩
 cases e:M h.size with
 |none=>rfl
 |some cs=>have:=c.ag.lt e;omega
end
structure Cn (gl:Fr) (s:Bs) (bN bX:Nat) (ax cx:Sl) (h:Za) (M:Fr):Prop where
 hM:Fr.le gl M
 ag:AgM M h
 N:Blk h bN #[.bool (nmB (Zh s).1).1,.string (nmB (Zh s).1).2.1,.int .i64 (nmB (Zh s).1).2.2]
 X:Blk h bX #[.int .i64 3,.string (bl (We (Zh s).1)),slV ax,slV cx]
 len:s.length<=1048576
section
variable {gl : Fr} {s : Bs} {bN bX : Nat} {ax cx : Sl} {h : Za} {M : Fr}
theorem Cn.later(c:Cn gl s bN bX ax cx h M)(L:Later h M h' M'):Cn gl s bN bX ax cx h' M':=
 ⟨c.hM.trans L.le,L.ag,c.N.keep (L.keep.get bN c.N.lt),c.X.keep (L.keep.get bX c.X.lt),c.len⟩
theorem Cn.text(c:Cn gl s bN bX ax cx h M)(hg:GL gl){K:Bt->Za->Prop}(hK:∀h' M',Later h M h' M'->K (bl (We (Zh s).1)) h'):XC Tp 26 #[.agg #[.bool (nmB (Zh s).1).1,.string (nmB (Zh s).1).2.1,.int .i64 (nmB (Zh s).1).2.2]] h λv h'=>∃r,v=.string r/\K r h':=by
 refine(zrw (gl:=gl) hg.pow (n:=(Zh s).1) (zcj s (by have:=c.len;omega)) (R:=λr=>r=bl (We (Zh s).1)) rfl).go c.hM c.ag (Qw (a:=Arg.mk tN _) ⟨[_,_,_],rfl,[_],[_,_],rfl,rfl,[_],[_],rfl,rfl,rfl⟩ Yk) λv h' M' r L hv hr=>?_
 subst hr
 exact⟨_,qcl hv,hK _ _ L⟩
end
set_option maxRecDepth 100000 in
set_option maxHeartbeats 8000000 in
theorem zss{gl:Fr}(hg:GL gl)(hb:Brn gl){sb tb:Bt}(dE:(lb sb).length<=reachBytes)(dz:(lb tb).length<=reachBytes){R:Bool->Prop}(hR:R true):PC Tp gl 5 [Arg.mk .str sb,Arg.mk .str tb] [.bool] R:=by
 obtain⟨s,rfl⟩:∃s:Bs,sb=bl s:=⟨lb sb,(zo4 sb).symm⟩
 obtain⟨t,rfl⟩:∃t:Bs,tb=bl t:=⟨lb tb,(zo4 tb).symm⟩
 rw[Yh]at dE dz
 intro h M vs hM ag ha
 match vs,ha with
 |[u1,u2],⟨a1,a2,_⟩=>
 obtain rfl:=Y1 (s:=bl s) a1
 obtain rfl:=Y1 (s:=bl t) a2
 apply PX.of
 apply X3
 refine(z0w hg).go hM ag Yk λv1 h2 M2 r1 L2 gh dy=>?_
 have dy:r1=true:=dy
 subst dy
 refine⟨true,z4t gh,?_⟩
 have eJ:=hM.trans L2.le
 have done:∀{h':Za} {M':Fr},Later h M h' M'->∃M' r,Later h M h' M'/\ze0 M' [.bool] r (.bool true)/\R r:=λL=>⟨_,true,L,zqn.2 (rdBool true),hR⟩
 have ge:reachBytes=140737488351232:=rfl
 rw[ge]at dE dz
 rw[Zf,Zf,w64 (by omega)]
 refine⟨λ_=>done L2,λhx=>?_⟩
 have mq:s.length+t.length<=2048:=by have:=of_decide_eq_false hx;omega
 clear dE dz hx
 refine(zhz (gl:=gl) (s:=s) (by omega) (R:=λr=>r=(nmB (Zh s).1,(Zh s).2)) rfl).go eJ L2.ag (Qw (a:=Arg.mk .str _) (rdStr _) Yk) λv4 h5 M5 r4 L5 gG fP=>?_
 subst fP
 refine⟨_,_,_,_,qen gG,?_⟩
 intro aY
 have gE:Keep h5.size h5 aY:=Keep.push _ _ (Av _)
 have mJ:aY.size=h5.size+1:=AM _
 have fZ:Blk aY h5.size #[.bool false,.string ⟨#[]⟩,.int .i64 0]:=Blk.new _ _ _
 clear_value aY
 refine zhc (vs:=[.bool (nmB (Zh s).1).1,.string (nmB (Zh s).1).2.1,.int .i64 (nmB (Zh s).1).2.2]) qd4 fZ rfl qd5 (Av _) (λu hu=>?_) λdI gH oy gi=>?_
 ·simp at hu;rcases hu with rfl|rfl|rfl <;> rfl
 have fY:Keep h5.size h5 dI:=⟨by omega,λj hj=>(gi j (by omega)).trans (gE.get j hj)⟩
 have fB:=eJ.trans L5.le
 have dB:Later h M dI M5:=L2.trans (L5.trans (Later.same L5.ag fY))
 intro eV fh
 have tail:∀(g:Za) (Mg:Fr),Later h M g Mg->eV g:=λg Mg Lg=>fh g (by
  have dF:=hM.trans Lg.le
  cases hu:Ys t with
  |false=>
   have hq:z2y t=([],2):=by unfold z2y;rw[hu];rfl
   refine(zuy hg hb (t:=t) (by omega) (R:=λr=>r=(bl [],2)) (by rw[hq])).go dF Lg.ag (Qw (a:=Arg.mk .str _) (rdStr _) Yk) λgM ak aA fS ah aH aO=>?_
   subst aO
   obtain⟨_,⟨u1,_,rfl,dJ,u2,rfl,dv⟩,rfl⟩:=aH
   obtain rfl:=Y1 dJ
   obtain rfl:=Zy dv
   exact⟨_,_,rfl,λ_=>done (Lg.trans ah),λhx=>(by cases hx)⟩
  |true=>
  have hq:z2y t=(Jc t,0):=by unfold z2y;rw[hu];rfl
  refine(zuy hg hb (t:=t) (by omega) (R:=λr=>r=(bl (Jc t),0)) (by rw[hq])).go dF Lg.ag (Qw (a:=Arg.mk .str _) (rdStr _) Yk) λgM ak aA fS ah aH aO=>?_
  subst aO
  obtain⟨_,⟨u1,_,rfl,dJ,u2,rfl,dv⟩,rfl⟩:=aH
  obtain rfl:=Y1 dJ
  obtain rfl:=Zy dv
  have bh:=dF.trans ah.le
  refine⟨_,_,rfl,λhx=>(by cases hx),λ_=>?_⟩
  have oB:=zf6 t
  have kE:=zf7 t
  show Qk ((bl [32]).size+(bl (Jc t)).size)/\Qk ((bl [32]++bl (Jc t)).size+(bl [10]).size)/\_
  have e1:(bl [32]++bl (Jc t))++bl [10]=bl (32::Jc t++[10]):=by rw[Z2,Z2];rfl
  refine⟨by unfold Qk;rw[Zf,Zf];simp only[AN,Bh];omega,by unfold Qk;rw[Z2,Zf,Zf,AF];simp only[AN,Bh];omega,?_⟩
  show XC Tp 15 #[.string ((bl [32]++bl (Jc t))++bl [10])] ak _
  rw[e1]
  refine(zno hg (s:=32::Jc t++[10]) (R:=λr=>r=(zwv t,((Jc t).length:Int)+2,0)) (z4g hu (by omega))).go bh ah.ag (Qw (a:=Arg.mk .str _) (rdStr _) Yk) λpj am pq oG dG eS ea=>?_
  subst ea
  obtain⟨_,⟨u1,_,rfl,hx,u2,_,rfl,hy,u3,rfl,hz⟩,rfl⟩:=eS
  obtain⟨av,cv,rfl,_⟩:=zdh hx
  obtain rfl:=Zy hy
  obtain rfl:=Zy hz
  refine⟨_,_,av,cv,_,_,rfl,?_⟩
  have bG:=bh.trans dG.le
  intro aB
  have gp:Keep am.size am aB:=Keep.push _ _ (Av _)
  have mm:aB.size=am.size+1:=AM _
  have gu:Blk aB am.size #[.int .i64 0,.string ⟨#[]⟩,.slice none 0 0,.slice none 0 0]:=Blk.new _ _ _
  clear_value aB
  refine zbm gu λfx fU ml gF=>?_
  have gD:Keep am.size am fx:=⟨by omega,λj hj=>(fU j (by omega)).trans (gp.get j hj)⟩
  have dY:=Later.same dG.ag gD
  have e2:(((bl [91]++bl (Jc t))++bl [44])++bl (Jc t))++bl [93]=bl (91::Jc t++[44]++Jc t++[93]):=by rw[Z2,Z2,Z2,Z2];rfl
  show Qk ((bl [91]).size+(bl (Jc t)).size)/\Qk ((bl [91]++bl (Jc t)).size+(bl [44]).size)/\Qk (((bl [91]++bl (Jc t))++bl [44]).size+(bl (Jc t)).size)/\Qk ((((bl [91]++bl (Jc t))++bl [44])++bl (Jc t)).size+(bl [93]).size)/\XC Tp 15 #[.string ((((bl [91]++bl (Jc t))++bl [44])++bl (Jc t))++bl [93])] fx _
  rw[e2]
  refine⟨by unfold Qk;rw[Zf,Zf];simp only[AN,Bh];omega,by unfold Qk;rw[Z2,Zf,Zf,AF];simp only[AN,Bh];omega,by unfold Qk;rw[Z2,Z2,Zf,Zf,AF,AF];simp only[AN,Bh];omega,by unfold Qk;rw[Z2,Z2,Z2,Zf,Zf,AF,AF,AF];simp only[AN,Bh];omega,?_⟩
  obtain⟨nR,em⟩:=z4h hu (t:=t) (by omega)
  refine(zno hg (s:=91::Jc t++[44]++Jc t++[93]) (R:=λr=>r=(qb6 t,nR,0)) em).go bG dY.ag (Qw (a:=Arg.mk .str _) (rdStr _) Yk) λng ay dA pa az eE ey=>?_
  subst ey
  obtain⟨_,⟨u1,_,rfl,fM,u2,_,rfl,hy,u3,rfl,hz⟩,rfl⟩:=eE
  obtain⟨aw,cw,rfl,_⟩:=zdh fM
  obtain rfl:=Zy hy
  obtain rfl:=Zy hz
  refine⟨_,_,aw,cw,_,_,rfl,?_⟩
  have fF:=bG.trans az.le
  have nQ:=az.keep.size
  have gQ:=gF.keep (az.keep.get am.size (by omega))
  intro ba
  have gq:Keep ay.size ay ba:=Keep.push _ _ (Av _)
  have pd:ba.size=ay.size+1:=AM _
  have gt:Blk ba ay.size #[.int .i64 0,.string ⟨#[]⟩,.slice none 0 0,.slice none 0 0]:=Blk.new _ _ _
  clear_value ba
  refine zbm gt λa8 gO nm gP=>?_
  have eo:Keep ay.size ay a8:=⟨by omega,λj hj=>(gO j (by omega)).trans (gq.get j hj)⟩
  have gB:=gQ.keep (eo.get am.size (by omega))
  have cO:Later h M a8 dA:=Lg.trans (ah.trans (dG.trans (dY.trans (az.trans (Later.same az.ag eo)))))
  have c:Cs gl t am.size ay.size _ _ _ _ av cv aw cw a8 dA:=⟨fF,cO.ag,gB,RdV.mono az.le hx,gP,fM⟩
  have aa:∀{h':Za} {M':Fr},Later a8 dA h' M'->∃M' r,Later h M h' M'/\ze0 M' [.bool] r (.bool true)/\R r:=λL=>done (cO.trans L)
  refine⟨?_,?_⟩
  ·refine⟨_,_,_,_,λ_=>c.V.ld (cs:=[_,_,slV _,slV _]),?_⟩
   refine Zx rfl (c.of λk6 s6 a6 b6 h6 M6 L6 q6=>?_)
   have c6:=c.later L6
   refine Qc rfl (c6.eqV q6 λh7 M7 L7=>?_)
   have c7:=c6.later L7
   refine⟨?_,?_,?_⟩
   ·refine⟨_,_,_,_,λ_=>c7.W.ld (cs:=[_,_,slV _,slV _]),?_⟩
    refine⟨?_,?_⟩
    ·refine⟨_,_,_,_,λ_=>c7.V.ld (cs:=[_,_,slV _,slV _]),?_⟩
     refine⟨_,_,_,_,λ_=>c7.V.ld (cs:=[_,_,slV _,slV _]),?_⟩
     obtain⟨aA,ah,ga⟩:=c7.lit (T:=26)
     have dM:=c7.later ah
     refine Jp (s:=⟨some ⟨_,0,none⟩,2,2⟩) rfl ?_
     refine Zx rfl (dM.row ga λmN l9 oC mo gI gJ aS gZ=>?_)
     have aV:=dM.later aS
     refine Qc rfl (aV.eqW gZ λom mB fl=>?_)
     have oA:=aV.later fl
     simp only[beq_self_eq_true,cond_true]
     exact aa (L6.trans (L7.trans (ah.trans (aS.trans (fl)))))
    ·refine⟨_,_,_,_,λ_=>c7.V.ld (cs:=[_,_,slV _,slV _]),?_⟩
     refine⟨_,_,_,_,λ_=>c7.V.ld (cs:=[_,_,slV _,slV _]),?_⟩
     obtain⟨o8,ei,gA⟩:=c7.lit (T:=26)
     have e3:=c7.later ei
     refine Jp (s:=⟨some ⟨_,0,none⟩,2,2⟩) rfl ?_
     refine Zx rfl (e3.row gA λmV oQ nv nD fQ gV aI gb=>?_)
     have dw:=e3.later aI
     refine Qc rfl (dw.eqW gb λpy nS ej=>?_)
     have nU:=dw.later ej
     simp only[beq_self_eq_true,cond_true]
     exact aa (L6.trans (L7.trans (ei.trans (aI.trans (ej)))))
   ·refine⟨_,_,_,_,λ_=>c7.V.ld (cs:=[_,_,slV _,slV _]),?_⟩
    refine⟨?_,?_⟩
    ·refine⟨_,_,_,_,λ_=>c7.W.ld (cs:=[_,_,slV _,slV _]),?_⟩
     refine⟨_,_,_,_,λ_=>c7.V.ld (cs:=[_,_,slV _,slV _]),?_⟩
     obtain⟨gU,aT,gz⟩:=c7.lit (T:=26)
     have be:=c7.later aT
     refine Jp (s:=⟨some ⟨_,0,none⟩,2,2⟩) rfl ?_
     refine Zx rfl (be.row gz λl8 nF mY mO nE pt eL gN=>?_)
     have fo:=be.later eL
     refine Qc rfl (fo.eqW gN λny ox fw=>?_)
     have mM:=fo.later fw
     simp only[beq_self_eq_true,cond_true]
     exact aa (L6.trans (L7.trans (aT.trans (eL.trans (fw)))))
    ·refine⟨_,_,_,_,λ_=>c7.V.ld (cs:=[_,_,slV _,slV _]),?_⟩
     refine⟨?_,?_⟩
     ·refine⟨_,_,_,_,λ_=>c7.W.ld (cs:=[_,_,slV _,slV _]),?_⟩
      obtain⟨mZ,fp,gw⟩:=c7.lit (T:=26)
      have fy:=c7.later fp
      refine Jp (s:=⟨some ⟨_,0,none⟩,2,2⟩) rfl ?_
      refine Zx rfl (fy.row gw λnc mF o6 nH nj oT dQ fN=>?_)
      have er:=fy.later dQ
      refine Qc rfl (er.eqW fN λoe mn eU=>?_)
      have mP:=er.later eU
      simp only[beq_self_eq_true,cond_true]
      exact aa (L6.trans (L7.trans (fp.trans (dQ.trans (eU)))))
     ·obtain⟨my,dD,dS⟩:=c7.lit (T:=26)
      have aC:=c7.later dD
      refine Jp (s:=⟨some ⟨_,0,none⟩,2,2⟩) rfl ?_
      refine⟨?_,?_⟩
      ·refine⟨_,_,_,_,λ_=>aC.W.ld (cs:=[_,_,slV _,slV _]),?_⟩
       refine Zx rfl (aC.row dS λoo oM mC nh nz oS eD gr=>?_)
       have eZ:=aC.later eD
       refine Qc rfl (eZ.eqW gr λnG o4 d0=>?_)
       have mi:=eZ.later d0
       simp only[beq_self_eq_true,cond_true]
       exact aa (L6.trans (L7.trans (dD.trans (eD.trans (d0)))))
      ·refine Zx rfl (aC.row dS λnt l7 po mf nI oz e4 gY=>?_)
       have dx:=aC.later e4
       refine⟨_,_,_,_,λ_=>dx.W.ld (cs:=[_,_,slV _,slV _]),?_⟩
       refine Qc rfl (dx.eqW gY λoY nf d9=>?_)
       have mU:=dx.later d9
       simp only[beq_self_eq_true,cond_true]
       exact aa (L6.trans (L7.trans (dD.trans (e4.trans (d9)))))
   ·refine⟨_,_,_,_,λ_=>c7.V.ld (cs:=[_,_,slV _,slV _]),?_⟩
    refine⟨?_,?_⟩
    ·refine⟨_,_,_,_,λ_=>c7.W.ld (cs:=[_,_,slV _,slV _]),?_⟩
     refine⟨_,_,_,_,λ_=>c7.V.ld (cs:=[_,_,slV _,slV _]),?_⟩
     obtain⟨o9,dZ,gk⟩:=c7.lit (T:=26)
     have fc:=c7.later dZ
     refine Jp (s:=⟨some ⟨_,0,none⟩,2,2⟩) rfl ?_
     refine Zx rfl (fc.row gk λpn ni o2 mT oN nu eu gL=>?_)
     have d7:=fc.later eu
     refine Qc rfl (d7.eqW gL λnq mh dN=>?_)
     have o3:=d7.later dN
     simp only[beq_self_eq_true,cond_true]
     exact aa (L6.trans (L7.trans (dZ.trans (eu.trans (dN)))))
    ·refine⟨_,_,_,_,λ_=>c7.V.ld (cs:=[_,_,slV _,slV _]),?_⟩
     refine⟨?_,?_⟩
     ·refine⟨_,_,_,_,λ_=>c7.W.ld (cs:=[_,_,slV _,slV _]),?_⟩
      obtain⟨mS,e7,gd⟩:=c7.lit (T:=26)
      have dO:=c7.later e7
      refine Jp (s:=⟨some ⟨_,0,none⟩,2,2⟩) rfl ?_
      refine Zx rfl (dO.row gd λnY oD od mb mj mI eP gm=>?_)
      have d8:=dO.later eP
      refine Qc rfl (d8.eqW gm λma mr fe=>?_)
      have ow:=d8.later fe
      simp only[beq_self_eq_true,cond_true]
      exact aa (L6.trans (L7.trans (e7.trans (eP.trans (fe)))))
     ·obtain⟨l5,dH,dV⟩:=c7.lit (T:=26)
      have aF:=c7.later dH
      refine Jp (s:=⟨some ⟨_,0,none⟩,2,2⟩) rfl ?_
      refine⟨?_,?_⟩
      ·refine⟨_,_,_,_,λ_=>aF.W.ld (cs:=[_,_,slV _,slV _]),?_⟩
       refine Zx rfl (aF.row dV λpr mD oa ou oI n1 ed fT=>?_)
       have ez:=aF.later ed
       refine Qc rfl (ez.eqW fT λo5 nC ft=>?_)
       have pw:=ez.later ft
       simp only[beq_self_eq_true,cond_true]
       exact aa (L6.trans (L7.trans (dH.trans (ed.trans (ft)))))
      ·refine Zx rfl (aF.row dV λnM oE nL nN oJ nO fq gT=>?_)
       have dC:=aF.later fq
       refine⟨_,_,_,_,λ_=>dC.W.ld (cs:=[_,_,slV _,slV _]),?_⟩
       refine Qc rfl (dC.eqW gT λpe nT fG=>?_)
       have nA:=dC.later fG
       simp only[beq_self_eq_true,cond_true]
       exact aa (L6.trans (L7.trans (dH.trans (fq.trans (fG)))))
  ·refine⟨?_,?_⟩
   ·refine⟨_,_,_,_,λ_=>c.V.ld (cs:=[_,_,slV _,slV _]),?_⟩
    refine Zx rfl (c.of λoP pm oH mE oV mz aj gn=>?_)
    have fj:=c.later aj
    refine Qc rfl (fj.eqV gn λog nP ai=>?_)
    have ab:=fj.later ai
    refine⟨?_,?_,?_⟩
    ·refine⟨_,_,_,_,λ_=>ab.W.ld (cs:=[_,_,slV _,slV _]),?_⟩
     refine⟨?_,?_⟩
     ·refine⟨_,_,_,_,λ_=>ab.V.ld (cs:=[_,_,slV _,slV _]),?_⟩
      refine⟨_,_,_,_,λ_=>ab.V.ld (cs:=[_,_,slV _,slV _]),?_⟩
      obtain⟨o7,ee,gv⟩:=ab.lit (T:=26)
      have eO:=ab.later ee
      refine Jp (s:=⟨some ⟨_,0,none⟩,2,2⟩) rfl ?_
      refine Zx rfl (eO.row gv λov oh oO nl mL oL d6 gC=>?_)
      have eb:=eO.later d6
      refine Qc rfl (eb.eqW gC λn2 mH eB=>?_)
      have oc:=eb.later eB
      simp only[beq_self_eq_true,cond_true]
      exact aa (aj.trans (ai.trans (ee.trans (d6.trans (eB)))))
     ·refine⟨_,_,_,_,λ_=>ab.V.ld (cs:=[_,_,slV _,slV _]),?_⟩
      refine⟨_,_,_,_,λ_=>ab.V.ld (cs:=[_,_,slV _,slV _]),?_⟩
      obtain⟨np,eT,gj⟩:=ab.lit (T:=26)
      have ep:=ab.later eT
      refine Jp (s:=⟨some ⟨_,0,none⟩,2,2⟩) rfl ?_
      refine Zx rfl (ep.row gj λl6 oZ mG mg me o1 ff fO=>?_)
      have fH:=ep.later ff
      refine Qc rfl (fH.eqW fO λnB nJ eY=>?_)
      have nZ:=fH.later eY
      simp only[beq_self_eq_true,cond_true]
      exact aa (aj.trans (ai.trans (eT.trans (ff.trans (eY)))))
    ·refine⟨_,_,_,_,λ_=>ab.V.ld (cs:=[_,_,slV _,slV _]),?_⟩
     refine⟨?_,?_⟩
     ·refine⟨_,_,_,_,λ_=>ab.W.ld (cs:=[_,_,slV _,slV _]),?_⟩
      refine⟨_,_,_,_,λ_=>ab.V.ld (cs:=[_,_,slV _,slV _]),?_⟩
      obtain⟨jF,bm,eC⟩:=ab.lit (T:=26)
      have cG:=ab.later bm
      refine Jp (s:=⟨some ⟨_,0,none⟩,2,2⟩) rfl ?_
      refine Zx rfl (cG.row eC λlD jL jh iw l3 ib ck fE=>?_)
      have cq:=cG.later ck
      refine Qc rfl (cq.eqW fE λiP j1 cB=>?_)
      have lQ:=cq.later cB
      simp only[beq_self_eq_true,cond_true]
      exact aa (aj.trans (ai.trans (bm.trans (ck.trans (cB)))))
     ·refine⟨_,_,_,_,λ_=>ab.V.ld (cs:=[_,_,slV _,slV _]),?_⟩
      refine⟨?_,?_⟩
      ·refine⟨_,_,_,_,λ_=>ab.W.ld (cs:=[_,_,slV _,slV _]),?_⟩
       obtain⟨iO,cp,ew⟩:=ab.lit (T:=26)
       have dh:=ab.later cp
       refine Jp (s:=⟨some ⟨_,0,none⟩,2,2⟩) rfl ?_
       refine Zx rfl (dh.row ew λjc iv lS kJ iM j9 da eh=>?_)
       have cM:=dh.later da
       refine Qc rfl (cM.eqW eh λiT jV dm=>?_)
       have lO:=cM.later dm
       simp only[beq_self_eq_true,cond_true]
       exact aa (aj.trans (ai.trans (cp.trans (da.trans (dm)))))
      ·obtain⟨jC,aQ,bO⟩:=ab.lit (T:=26)
       have au:=ab.later aQ
       refine Jp (s:=⟨some ⟨_,0,none⟩,2,2⟩) rfl ?_
       refine⟨?_,?_⟩
       ·refine⟨_,_,_,_,λ_=>au.W.ld (cs:=[_,_,slV _,slV _]),?_⟩
        refine Zx rfl (au.row bO λlL lA jb jv kZ jU dr ec=>?_)
        have cL:=au.later dr
        refine Qc rfl (cL.eqW ec λky kV dq=>?_)
        have jB:=cL.later dq
        simp only[beq_self_eq_true,cond_true]
        exact aa (aj.trans (ai.trans (aQ.trans (dr.trans (dq)))))
       ·refine Zx rfl (au.row bO λjQ kC kY iq iE lz bU eA=>?_)
        have aN:=au.later bU
        refine⟨_,_,_,_,λ_=>aN.W.ld (cs:=[_,_,slV _,slV _]),?_⟩
        refine Qc rfl (aN.eqW eA λlm kO cz=>?_)
        have lq:=aN.later cz
        simp only[beq_self_eq_true,cond_true]
        exact aa (aj.trans (ai.trans (aQ.trans (bU.trans (cz)))))
    ·refine⟨_,_,_,_,λ_=>ab.V.ld (cs:=[_,_,slV _,slV _]),?_⟩
     refine⟨?_,?_⟩
     ·refine⟨_,_,_,_,λ_=>ab.W.ld (cs:=[_,_,slV _,slV _]),?_⟩
      refine⟨_,_,_,_,λ_=>ab.V.ld (cs:=[_,_,slV _,slV _]),?_⟩
      obtain⟨iZ,bZ,fI⟩:=ab.lit (T:=26)
      have cY:=ab.later bZ
      refine Jp (s:=⟨some ⟨_,0,none⟩,2,2⟩) rfl ?_
      refine Zx rfl (cY.row fI λk9 il lc kq lu lC cA e5=>?_)
      have cm:=cY.later cA
      refine Qc rfl (cm.eqW e5 λjT kS bg=>?_)
      have kF:=cm.later bg
      simp only[beq_self_eq_true,cond_true]
      exact aa (aj.trans (ai.trans (bZ.trans (cA.trans (bg)))))
     ·refine⟨_,_,_,_,λ_=>ab.V.ld (cs:=[_,_,slV _,slV _]),?_⟩
      refine⟨?_,?_⟩
      ·refine⟨_,_,_,_,λ_=>ab.W.ld (cs:=[_,_,slV _,slV _]),?_⟩
       obtain⟨iY,di,fL⟩:=ab.lit (T:=26)
       have bi:=ab.later di
       refine Jp (s:=⟨some ⟨_,0,none⟩,2,2⟩) rfl ?_
       refine Zx rfl (bi.row fL λjm lJ hF j3 j6 lY cV fg=>?_)
       have du:=bi.later cV
       refine Qc rfl (du.eqW fg λiB iN bn=>?_)
       have ix:=du.later bn
       simp only[beq_self_eq_true,cond_true]
       exact aa (aj.trans (ai.trans (di.trans (cV.trans (bn)))))
      ·obtain⟨lZ,aM,cy⟩:=ab.lit (T:=26)
       have ap:=ab.later aM
       refine Jp (s:=⟨some ⟨_,0,none⟩,2,2⟩) rfl ?_
       refine⟨?_,?_⟩
       ·refine⟨_,_,_,_,λ_=>ap.W.ld (cs:=[_,_,slV _,slV _]),?_⟩
        refine Zx rfl (ap.row cy λj4 kr jG l0 iD kz cZ eM=>?_)
        have dl:=ap.later cZ
        refine Qc rfl (dl.eqW eM λjy kM bM=>?_)
        have io:=dl.later bM
        simp only[beq_self_eq_true,cond_true]
        exact aa (aj.trans (ai.trans (aM.trans (cZ.trans (bM)))))
       ·refine Zx rfl (ap.row cy λh9 kD kN kU jz ic cF d5=>?_)
        have aJ:=ap.later cF
        refine⟨_,_,_,_,λ_=>aJ.W.ld (cs:=[_,_,slV _,slV _]),?_⟩
        refine Qc rfl (aJ.eqW d5 λjH lB cj=>?_)
        have jY:=aJ.later cj
        simp only[beq_self_eq_true,cond_true]
        exact aa (aj.trans (ai.trans (aM.trans (cF.trans (cj)))))
   ·refine Zx rfl (c.of λiV jw ja jI kh jf ae eQ=>?_)
    have aU:=c.later ae
    refine⟨_,_,_,_,λ_=>aU.V.ld (cs:=[_,_,slV _,slV _]),?_⟩
    refine Qc rfl (aU.eqV eQ λkB kL af=>?_)
    have Z:=aU.later af
    refine⟨?_,?_,?_⟩
    ·refine⟨_,_,_,_,λ_=>Z.W.ld (cs:=[_,_,slV _,slV _]),?_⟩
     refine⟨?_,?_⟩
     ·refine⟨_,_,_,_,λ_=>Z.V.ld (cs:=[_,_,slV _,slV _]),?_⟩
      refine⟨_,_,_,_,λ_=>Z.V.ld (cs:=[_,_,slV _,slV _]),?_⟩
      obtain⟨ia,br,fi⟩:=Z.lit (T:=26)
      have cC:=Z.later br
      refine Jp (s:=⟨some ⟨_,0,none⟩,2,2⟩) rfl ?_
      refine Zx rfl (cC.row fi λj7 iI ly im jr lF b8 dL=>?_)
      have co:=cC.later b8
      refine Qc rfl (co.eqW dL λkP iz bS=>?_)
      have ki:=co.later bS
      simp only[beq_self_eq_true,cond_true]
      exact aa (ae.trans (af.trans (br.trans (b8.trans (bS)))))
     ·refine⟨_,_,_,_,λ_=>Z.V.ld (cs:=[_,_,slV _,slV _]),?_⟩
      refine⟨_,_,_,_,λ_=>Z.V.ld (cs:=[_,_,slV _,slV _]),?_⟩
      obtain⟨jZ,cg,fJ⟩:=Z.lit (T:=26)
      have cQ:=Z.later cg
      refine Jp (s:=⟨some ⟨_,0,none⟩,2,2⟩) rfl ?_
      refine Zx rfl (cQ.row fJ λkG iQ lV jO js iJ bY fa=>?_)
      have cc:=cQ.later bY
      refine Qc rfl (cc.eqW fa λje hD ca=>?_)
      have ie:=cc.later ca
      simp only[beq_self_eq_true,cond_true]
      exact aa (ae.trans (af.trans (cg.trans (bY.trans (ca)))))
    ·refine⟨_,_,_,_,λ_=>Z.V.ld (cs:=[_,_,slV _,slV _]),?_⟩
     refine⟨?_,?_⟩
     ·refine⟨_,_,_,_,λ_=>Z.W.ld (cs:=[_,_,slV _,slV _]),?_⟩
      refine⟨_,_,_,_,λ_=>Z.V.ld (cs:=[_,_,slV _,slV _]),?_⟩
      obtain⟨k4,bq,eN⟩:=Z.lit (T:=26)
      have bj:=Z.later bq
      refine Jp (s:=⟨some ⟨_,0,none⟩,2,2⟩) rfl ?_
      refine Zx rfl (bj.row eN λlU ii kj kg lG jj bu en=>?_)
      have bB:=bj.later bu
      refine Qc rfl (bB.eqW en λik lN cJ=>?_)
      have jD:=bB.later cJ
      simp only[beq_self_eq_true,cond_true]
      exact aa (ae.trans (af.trans (bq.trans (bu.trans (cJ)))))
     ·refine⟨_,_,_,_,λ_=>Z.V.ld (cs:=[_,_,slV _,slV _]),?_⟩
      refine⟨?_,?_⟩
      ·refine⟨_,_,_,_,λ_=>Z.W.ld (cs:=[_,_,slV _,slV _]),?_⟩
       obtain⟨jo,bE,fD⟩:=Z.lit (T:=26)
       have cP:=Z.later bE
       refine Jp (s:=⟨some ⟨_,0,none⟩,2,2⟩) rfl ?_
       refine Zx rfl (cP.row fD λl4 jA i6 ir kn jl bI eI=>?_)
       have db:=cP.later bI
       refine Qc rfl (db.eqW eI λhZ iG bA=>?_)
       have jE:=db.later bA
       simp only[beq_self_eq_true,cond_true]
       exact aa (ae.trans (af.trans (bE.trans (bI.trans (bA)))))
      ·obtain⟨lT,aG,bz⟩:=Z.lit (T:=26)
       have an:=Z.later aG
       refine Jp (s:=⟨some ⟨_,0,none⟩,2,2⟩) rfl ?_
       refine⟨?_,?_⟩
       ·refine⟨_,_,_,_,λ_=>an.W.ld (cs:=[_,_,slV _,slV _]),?_⟩
        refine Zx rfl (an.row bz λkI jd lx iL j0 ko bT fA=>?_)
        have b9:=an.later bT
        refine Qc rfl (b9.eqW fA λiU lp bJ=>?_)
        have km:=b9.later bJ
        simp only[beq_self_eq_true,cond_true]
        exact aa (ae.trans (af.trans (aG.trans (bT.trans (bJ)))))
       ·refine Zx rfl (an.row bz λjg ll ig k8 jS jP cT e9=>?_)
        have aE:=an.later cT
        refine⟨_,_,_,_,λ_=>aE.W.ld (cs:=[_,_,slV _,slV _]),?_⟩
        refine Qc rfl (aE.eqW e9 λjp iH bP=>?_)
        have ij:=aE.later bP
        simp only[beq_self_eq_true,cond_true]
        exact aa (ae.trans (af.trans (aG.trans (cT.trans (bP)))))
    ·refine⟨_,_,_,_,λ_=>Z.V.ld (cs:=[_,_,slV _,slV _]),?_⟩
     refine⟨?_,?_⟩
     ·refine⟨_,_,_,_,λ_=>Z.W.ld (cs:=[_,_,slV _,slV _]),?_⟩
      refine⟨_,_,_,_,λ_=>Z.V.ld (cs:=[_,_,slV _,slV _]),?_⟩
      obtain⟨hU,df,dP⟩:=Z.lit (T:=26)
      have bC:=Z.later df
      refine Jp (s:=⟨some ⟨_,0,none⟩,2,2⟩) rfl ?_
      refine Zx rfl (bC.row dP λiA jN k0 hJ j5 li bF ev=>?_)
      have cH:=bC.later bF
      refine Qc rfl (cH.eqW ev λlg ju bo=>?_)
      have iu:=cH.later bo
      simp only[beq_self_eq_true,cond_true]
      exact aa (ae.trans (af.trans (df.trans (bF.trans (bo)))))
     ·refine⟨_,_,_,_,λ_=>Z.V.ld (cs:=[_,_,slV _,slV _]),?_⟩
      refine⟨?_,?_⟩
      ·refine⟨_,_,_,_,λ_=>Z.W.ld (cs:=[_,_,slV _,slV _]),?_⟩
       obtain⟨i7,cu,ek⟩:=Z.lit (T:=26)
       have bD:=Z.later cu
       refine Jp (s:=⟨some ⟨_,0,none⟩,2,2⟩) rfl ?_
       refine Zx rfl (bD.row ek λlr kx ku lh jk kT bQ dT=>?_)
       have dt:=bD.later bQ
       refine Qc rfl (dt.eqW dT λl1 kQ bL=>?_)
       have k3:=dt.later bL
       simp only[beq_self_eq_true,cond_true]
       exact aa (ae.trans (af.trans (cu.trans (bQ.trans (bL)))))
      ·obtain⟨k5,aL,cn⟩:=Z.lit (T:=26)
       have ar:=Z.later aL
       refine Jp (s:=⟨some ⟨_,0,none⟩,2,2⟩) rfl ?_
       refine⟨?_,?_⟩
       ·refine⟨_,_,_,_,λ_=>ar.W.ld (cs:=[_,_,slV _,slV _]),?_⟩
        refine Zx rfl (ar.row cn λkA iy j8 jJ jq jM bH eH=>?_)
        have cb:=ar.later bH
        refine Qc rfl (cb.eqW eH λlj l2 cd=>?_)
        have ji:=cb.later cd
        simp only[beq_self_eq_true,cond_true]
        exact aa (ae.trans (af.trans (aL.trans (bH.trans (cd)))))
       ·refine Zx rfl (ar.row cn λlI lw iF i1 lH lM de fC=>?_)
        have aP:=ar.later de
        refine⟨_,_,_,_,λ_=>aP.W.ld (cs:=[_,_,slV _,slV _]),?_⟩
        refine Qc rfl (aP.eqW fC λkH k7 cE=>?_)
        have iC:=aP.later cE
        simp only[beq_self_eq_true,cond_true]
        exact aa (ae.trans (af.trans (aL.trans (de.trans (cE))))))
 refine⟨λhe=>?_,λ_=>tail dI M5 dB⟩
 have he:(Zh s).2=0:=eq_of_beq he
 refine(zno hg (s:=s) (R:=λr=>r=(.mk 3 (bl (We (Zh s).1)) [] [],(s.length:Int),0)) (z4i he (by omega))).go fB dB.ag (Qw (a:=Arg.mk .str _) (rdStr _) Yk) λpv ak aA mA ah e8 fv=>?_
 subst fv
 obtain⟨_,⟨u1,_,rfl,hx,u2,_,rfl,hy,u3,rfl,hz⟩,rfl⟩:=e8
 obtain⟨ax,cx,rfl,_⟩:=zdh hx
 obtain rfl:=Zy hy
 obtain rfl:=Zy hz
 refine⟨_,_,ax,cx,_,_,rfl,?_⟩
 have pg:=ah.keep.size
 have gf:=gH.keep (ah.keep.get h5.size (by omega))
 intro a7
 have gy:Keep ak.size ak a7:=Keep.push _ _ (Av _)
 have pk:a7.size=ak.size+1:=AM _
 have gg:Blk a7 ak.size #[.int .i64 0,.string ⟨#[]⟩,.slice none 0 0,.slice none 0 0]:=Blk.new _ _ _
 clear_value a7
 refine zbm gg λaZ f3 mQ f2=>?_
 have dU:Keep ak.size ak aZ:=⟨by omega,λj hj=>(f3 j (by omega)).trans (gy.get j hj)⟩
 have eF:Later h M aZ aA:=dB.trans (ah.trans (Later.same ah.ag dU))
 have c:Cn gl s h5.size ak.size ax cx aZ aA:=⟨fB.trans ah.le,eF.ag,gf.keep (dU.get h5.size (by omega)),f2,by omega⟩
 have aa:∀{h':Za} {M':Fr},Later aZ aA h' M'->((bif (bif ((0:Int) != 0)then true else((3:Int) != 3))then true else(!((bl (We (Zh s).1)).toList==(bl (We (Zh s).1)).toList)))=true->∃M' r,Later h M h' M'/\ze0 M' [.bool] r (.bool false)/\R r)/\((bif (bif ((0:Int) != 0)then true else((3:Int) != 3))then true else(!((bl (We (Zh s).1)).toList==(bl (We (Zh s).1)).toList)))=false->eV h'):=λ {h'} {M'} L=>⟨λhx=>(by simp at hx),λ_=>tail h' M' (eF.trans L)⟩
 refine⟨3,λ_=>c.X.cellAdd (o:=0) (k:=0) rfl,?_⟩
 refine⟨?_,?_⟩
 ·refine⟨?_,?_⟩
  ·refine⟨_,λ_=>c.X.cellAdd (o:=0) (k:=1) rfl,?_⟩
   refine⟨_,_,_,λ_=>c.N.ld (cs:=[_,_,_]),?_⟩
   refine zlt rfl (c.text hg λh8 M8 L8=>?_)
   have c8:=c.later L8
   exact aa (L8)
  ·refine⟨_,_,_,λ_=>c.N.ld (cs:=[_,_,_]),?_⟩
   refine⟨?_,?_⟩
   ·refine⟨_,λ_=>c.X.cellAdd (o:=0) (k:=1) rfl,?_⟩
    refine zlt rfl (c.text hg λoq oU eG=>?_)
    have nV:=c.later eG
    exact aa (eG)
   ·refine zlt rfl (c.text hg λgI gJ aS=>?_)
    have aV:=c.later aS
    refine⟨_,λ_=>aV.X.cellAdd (o:=0) (k:=1) rfl,?_⟩
    exact aa (aS)
 ·refine⟨_,_,_,λ_=>c.N.ld (cs:=[_,_,_]),?_⟩
  refine⟨?_,?_⟩
  ·refine⟨?_,?_⟩
   ·refine⟨_,λ_=>c.X.cellAdd (o:=0) (k:=1) rfl,?_⟩
    refine zlt rfl (c.text hg λfQ gV aI=>?_)
    have dw:=c.later aI
    exact aa (aI)
   ·refine zlt rfl (c.text hg λaB ol e6=>?_)
    have fV:=c.later e6
    refine⟨_,λ_=>fV.X.cellAdd (o:=0) (k:=1) rfl,?_⟩
    exact aa (e6)
  ·refine zlt rfl (c.text hg λoF gU aT=>?_)
   have be:=c.later aT
   refine⟨_,λ_=>be.X.cellAdd (o:=0) (k:=1) rfl,?_⟩
   exact aa (aT)
end
end Go.X
end
