/- A part of the proof: nothing is stated here for its own sake. -/
import Derived.Test.YtbploiccompocaaGreatDoorPkD
import Derived.Lib.AppendZerosOnto
import Derived.Lib.Overlaps
open _root_.Go.Addr renaming add->Aj
open _root_.Array renaming ext'->ED,getD_eq_getD_getElem?->Bi,getElem?_append_left->CB,getElem?_eq_getElem->AK,getElem?_eq_some_iff->Ac,getElem?_push->BH,getElem?_setIfInBounds_ne->AH,getElem?_toList->AU,push->E2,replicate->Bc,size->CQ,size_push->Ak,size_setIfInBounds->B4
open _root_.Bool renaming and_eq_true->AI,and_true->EG,eq_iff_iff->AJ,false_or->Ec,not_eq_true'->Cb,true_and->B0
open _root_.Go.Builtin renaming append_->Ax,clear_->D3,copy_->Di,firstCells->Cr,len_->CK,zeroCells->Bl
open _root_.Go.Code renaming region->CX
open _root_.Go.Deferred renaming ofValue->D7
open _root_.Go.Instr renaming lookup->D6,mapUpdate->CO,next->EZ,range->EU,storeAt->Al
open _root_.Int renaming toNat_natCast->Ah,toNat_zero->C8
open _root_.Go.IntKind renaming wrap->Ab
open _root_.List renaming all_eq_true->AP,append_assoc->AQ,append_nil->Ba,cons_append->A3,drop_drop->Ce,drop_eq_getElem_cons->AL,drop_eq_nil_of_le->A7,drop_length->C4,drop_take->Ep,drop_zero->A2,eq_nil_iff_forall_not_mem->CJ,eq_nil_of_length_eq_zero->Aw,ext_getElem?->AZ,getD_eq_getElem?_getD->Bm,getElem?_append_left->Bg,getElem?_append_right->Bb,getElem?_drop->AE,getElem?_eq_getElem->Ai,getElem?_eq_none->Bj,getElem?_eq_some_iff->Az,getElem?_take->AC,getElem_append_left->Dj,getElem_append_right->CG,getElem_mem->Ay,getElem_of_mem->Bf,length->CN,length_append->Ar,length_cons->Av,length_drop->AX,length_eq_zero_iff->Cd,length_erase_of_mem->CL,length_map->Bv,length_nil->Ef,length_pos_iff->A5,length_range->DN,length_take->AY,map_append->Cq,mem_append->An,mem_append_left->Ao,mem_append_right->AB,mem_cons->Ad,mem_cons_of_mem->Af,mem_cons_self->Aq,mem_flatMap->Bp,mem_map->BC,mem_of_getElem?->Ct,mem_of_mem_drop->Cy,mem_of_mem_take->BR,mem_range->BX,mem_singleton->Bu,nil_append->BJ,nodup_append->A6,nodup_cons->CF,nodup_nil->Ek,nodup_range->Dm,range->BE,size_toArray->DO,take_append_drop->BD,take_length->AN,take_of_length_le->Be,take_succ_cons->B5,take_take->Er,take_zero->CM
open _root_.List.cons renaming injEq->Ci
open _root_.Nat renaming add_mul->BB,add_zero->Db,eq_or_lt_of_le->Dr,le_of_ble_eq_true->BM,le_refl->Ae,lt_or_ge->AR,min_eq_left->CP,mul_le_mul_right->AM,mul_one->B6,one_mul->Dd,sub_zero->Cm,succ_mul->Du,zero_add->AD,zero_le->CW,zero_mul->Dc
open _root_.Option renaming bind_some->Ck
open _root_.Option.some renaming inj->Au
open _root_.Go.Region renaming wanted->BN
open _root_.Go.Value renaming agg->EY,int->EX,string->AW
open _root_.Go.Value.slice renaming injEq->AO
set_option linter.unusedVariables false
set_option maxRecDepth 100000
namespace Go.X
end Go.X
namespace Go.Proofs
end Go.Proofs
open Go Go.X Go.Proofs
section
namespace Go.X.U
section
variable {o:Oper} {ρ:Operand -> Value} {h h':zb} {a b:Act} {P:Program} {ops:Array Oper} {listed:Array Bool} {i n:Nat}
def zaj(o:Oper):Option Bool:=match o.op with
 |.fieldAddr _ _ _=>some true
 |.indexAddr _ _ _=>some true
 |.move _=>some true
 |.assign _=>some true
 |.load _ _=>some false
 |.binOp _ _ _ _ _=>some true
 |.call c=>match c.callee with
  |.builtin .len=>some true
  |_=>none
 |_=>none
def ze(o:Oper):Bool:=match zaj o with
 |some _=>true
 |none=>false
def zm(o:Oper):Bool:=match zaj o with
 |some b=>!b
 |none=>false
def heavyL:Nat->List Oper->List Nat
 |_,[]=>[]
 |k,o::l=>bif ze o then heavyL (k+1) l else k::heavyL (k+1) l
def Yr(ops:Array Oper):List Nat->Bool
 |[]=>true
 |[_]=>true
 |i::j::l=>bif Region.waitsFor .any ops j i then Yr ops (j::l)else false
def j1(ops:Array Oper)(i:Nat):List Nat->Bool
 |[]=>false
 |j::l=>bif Region.waitsFor .any ops j i then true else j1 ops i l
def zf9(ops:Array Oper)(T:List Nat):Nat->Bool
 |0=>false
 |k+1=>bif (match ops[k]? with
  |some o=>bif zm o then !(j1 ops k T)else false
  |none=>false)then true else zf9 ops T k
def jm(l:List Oper):Bool:=l.all λo=>match o.guard with
 |none=>wj o.op
 |some _=>false
def Ys(ops:Array Oper):Nat->Bool
 |0=>true
 |k+1=>bif (match ops[k]? with
  |some o=>bif wv ops k (tmpsOf o.op.operands.toList) ops.size then(bif ze o then(heavyL 0 ops.toList).all λj=>!(Region.waitsFor .any ops k j)||(match yw ops j with
   |some t=>!(memN (tmpsOf o.op.operands.toList) t)
   |none=>true)else true)else false
  |none=>true)then Ys ops k else false
def mixB(ops:Array Oper):Bool:=bif jm ops.toList then(bif qi ops ops.size then(bif j8 ops ops.size then(bif Yr ops (heavyL 0 ops.toList)then Ys ops ops.size else false)else false)else false)else false
def zvr(o:Oper)(ρ:Operand->Value)(h h':zb):Prop:=match o.op with
 |.load _ x=>∀c,ρ x=.pointer (some c)->h'[c.block]?=h[c.block]?
 |_=>True
theorem zzs(o:Oper)(ρ:Operand->Value)(h:zb):zvr o ρ h h:=by
 unfold zvr;split
 ·exact λ_ _=>rfl
 ·trivial
theorem zea{ρ ρ':Operand->Value}(e:∀x∈o.op.operands.toList,ρ x=ρ' x)(H:zvr o ρ h h'):zvr o ρ' h h':=by
 unfold zvr at H ⊢
 split
 ·rename_i t x ho
  rw[ho]at H e
  exact λc hc=>H c (by rw[e x (by simp[Op.operands]),hc])
 ·trivial
def qS(P:Program)(o:Oper)(ρ:Operand->Value)(h:zb)(K:Value->Prop):Prop:=match o.op with
 |.call _=>zdf P (execOp ρ o) K
 |_=>Zh P o ρ none h K
def zo8(ops:Array Oper)(T:List Nat)(e:Env)(h0 h':zb):Nat->Prop
 |0=>True
 |k+1=>match ops[k]? with
  |some o=>bif zm o then(bif j1 ops k T then zo8 ops T e h0 h' k else(match o.op with
   |.load _ x=>(match zac e [] x with
    |some (.pointer (some c))=>h'[c.block]?=h0[c.block]?/\zo8 ops T e h0 h' k
    |_=>False)
   |_=>False))else zo8 ops T e h0 h' k
  |none=>zo8 ops T e h0 h' k
theorem zkq{ops:Array Oper}{T:List Nat}{e:Env}{h0 h':zb}:∀{m:Nat},zo8 ops T e h0 h' m->∀k ok,k<m->ops[k]?=some ok->zm ok=true->j1 ops k T=false->∃t x c,ok.op=.load t x/\zac e [] x=some (.pointer (some c))/\h'[c.block]?=h0[c.block]?
 |0,_,k,_,hk,_,_,_=>by omega
 |m+1,H,k,ok,hk,ho,hl,ha=>by
  unfold zo8 at H
  rcases AR k m with h1|h1
  ·have H':zo8 ops T e h0 h' m:=by
    split at H
    ·rename_i o _
     cases hlo:zm o with
     |false=>rw[hlo]at H;exact H
     |true=>
      rw[hlo]at H
      simp only[cond_true]at H
      cases haw:j1 ops m T with
      |true=>rw[haw]at H;exact H
      |false=>
       rw[haw]at H
       simp only[cond_false]at H
       split at H
       ·split at H
        ·exact H.2
        ·exact H.elim
       ·exact H.elim
    ·exact H
   exact zkq H' k ok h1 ho hl ha
  ·have:k=m:=by omega
   subst this
   rw[ho]at H
   simp only[hl,ha,cond_true,cond_false]at H
   split at H
   ·rename_i t x O
    split at H
    ·rename_i c hc
     exact⟨t,x,c,O,hc,H.1⟩
    ·exact H.elim
   ·exact H.elim
def wU(P:Program)(n:Nat)(h:zb)(K:Env->Prop):List Oper->Env->Prop
 |[],e=>K e
 |o::l,e=>bif ze o then(bif yc n [] o.dst then(bif wj o.op then(bif known e [] o.op.operands.toList then qS P o (rho e []) h λv=>wU P n h K l (putO e o.dst [] v)else False)else False)else False)else wU P n h K l e
def wT(P:Program)(n:Nat)(ops:Array Oper)(h0:zb)(K:Env->zb->Prop):List Nat->List Nat->Env->zb->Prop
 |_,[],e,h=>K (clean e) h
 |T,j::l,e,h=>match ops[j]? with
  |some o=>bif yc n [] o.dst then opW P o e [] h λv h'=>(bif zf9 ops (j::T) ops.size then zo8 ops (j::T) (putO e o.dst [] v) h0 h' ops.size/\wT P n ops h0 K (j::T) l (putO e o.dst [] v) h' else wT P n ops h0 K (j::T) l (putO e o.dst [] v) h')else False
  |none=>False
def qn:Nat->List Oper->(Nat->Value)->Act->Act
 |_,[],_,a=>a
 |k,o::l,f,a=>qn (k+1) l f (bif ze o then a.put o.dst (f k)else a)
theorem ym{a b:Act}:∀{l:List Operand},(∀t∈tmpsOf l,zu a t=zu b t)->∀x∈l,a.eval x=b.eval x
 |[],_,x,hx=>by cases hx
 |y::l,h,x,hx=>by
  rcases Ad.1 hx with rfl|hx
  ·cases x with
   |tmp t=>exact h t (by simp[tmpsOf])
   |const v=>rfl
   |global g=>rfl
   |func f=>rfl
  ·refine ym (l:=l) (λt ht=>h t ?_) x hx
   cases y <;> simp[tmpsOf,ht]
theorem yn(hs:wj o.op=true)(h:∀t∈tmpsOf o.op.operands.toList,zu a t=zu b t):execOp a.eval o=execOp b.eval o:=
 execOp_congr o (λcs b hb=>by rw[hb]at hs;cases hs) λx hx=>ym h x (by simpa using hx)
theorem zo9{q:Addr}(e:h'[q.block]?=h[q.block]?):zj h' q=zj h q:=by unfold zj;rw[e]
theorem z7s(q:Addr)(i:Nat):(q.add i).block=q.block:=by unfold Aj;split <;> rfl
theorem zkr{h h':zb}{q:Addr}(e:h'[q.block]?=h[q.block]?):∀{vs:List Value} {i:Nat},zd h q i vs->zd h' q i vs
 |[],_,_=>trivial
 |_::_,i,⟨h1,h2⟩=>⟨(zo9 (q:=q.add i) (by rw[z7s];exact e)).trans h1,zkr e h2⟩
theorem Xr(hq:ze o=true){K:Value->Prop}(H:qS P o ρ h K):
  ∃v,K v/\∀h',(zm o=false\/zvr o ρ h h')->QExec P (execOp ρ o) h' (.value v):=by
 unfold qS at H
 cases ho:o.op with
 |load t x=>
  rw[ho]at H
  simp only at H
  unfold Zh at H
  rw[ho]at H
  simp only at H
  unfold zk2 at H
  split at H
  ·rename_i q b hp hv
   obtain⟨y,h1,h2⟩:=H
   refine⟨_,h2,λh' hk=>?_⟩
   have hb:h'[q.block]?=h[q.block]?:=by
    rcases hk with hk|hk
    ·unfold zm zaj at hk;rw[ho]at hk;cases hk
    ·unfold zvr at hk;rw[ho]at hk;exact hk q hp
   simp only[execOp,ho,hp]
   exact(zbw hv (by rw[zo9 hb];exact h1.out trivial)).val
  ·rename_i q l hp hv
   obtain⟨vs,h0,⟨h1,h2⟩,_⟩:=Qi H (jw l)
   refine⟨_,h2,λh' hk=>?_⟩
   have hb:h'[q.block]?=h[q.block]?:=by
    rcases hk with hk|hk
    ·unfold zm zaj at hk;rw[ho]at hk;cases hk
    ·unfold zvr at hk;rw[ho]at hk;exact hk q hp
   simp only[execOp,ho,hp]
   exact(zbx hv h0 (zkr hb (h1.out trivial))).val
  ·exact H.elim
 |fieldAddr t x i=>
  rw[ho]at H
  simp only at H
  unfold Zh at H;rw[ho]at H
  obtain⟨v,h1,h2⟩:=zv H none
  exact⟨v,h1,λh' _=>h2 trivial h'⟩
 |indexAddr t x i=>
  rw[ho]at H
  simp only at H
  unfold Zh at H;rw[ho]at H
  simp only at H
  cases he:Wq P t with
  |false=>rw[he]at H;exact H.elim
  |true=>
   rw[he]at H
   obtain⟨v,h1,h2⟩:=xm (xg he) H
   refine⟨v,h1,λh' _=>?_⟩
   simp only[execOp,ho]
   exact(h2 trivial h').val
 |move x=>
  rw[ho]at H
  simp only at H
  unfold Zh at H;rw[ho]at H
  obtain⟨v,h1,h2⟩:=zv H none
  exact⟨v,h1,λh' _=>h2 trivial h'⟩
 |assign x=>
  rw[ho]at H
  simp only at H
  unfold Zh at H;rw[ho]at H
  obtain⟨v,h1,h2⟩:=zv H none
  exact⟨v,h1,λh' _=>h2 trivial h'⟩
 |binOp op t x y t'=>
  rw[ho]at H
  simp only at H
  unfold Zh at H;rw[ho]at H
  simp only at H
  obtain⟨v,h1,h2⟩:=zfj ho H
  exact⟨v,h1,λh' _=>h2 trivial h'⟩
 |call c=>
  rw[ho]at H
  simp only at H
  obtain⟨v,h1,h2⟩:=zv H none
  exact⟨v,h1,λh' _=>h2 trivial h'⟩
 |_=>unfold ze zaj at hq;rw[ho]at hq;cases hq
theorem qd(σ:Nat->Value):valid σ []:=by unfold valid;trivial
theorem Qj:∀{l:List Oper} {k:Nat} {f:Nat->Value} {a:Act},(qn k l f a).tmps.size=a.tmps.size/\(qn k l f a).defers=a.defers
 |[],_,_,_=>⟨rfl,rfl⟩
 |o::l,k,f,a=>by
  unfold qn
  have:=Qj (l:=l) (k:=k+1) (f:=f) (a:=bif ze o then a.put o.dst (f k)else a)
  rw[this.1,this.2]
  cases ze o with
  |true=>exact⟨size_put _ _ _,qc _ _ _⟩
  |false=>exact⟨rfl,rfl⟩
theorem zo{d:Option Nat}{u:Value}{s:Nat}(h:d≠some s):zu (a.put d u) s=zu a s:=by
 cases d with
 |none=>rfl
 |some t=>exact qm λe=>h (by rw[e])
theorem yd{s:Nat}:∀{l:List Oper} {k:Nat} {f:Nat->Value} {a:Act},(∀o∈l,ze o=true->o.dst≠some s)->zu (qn k l f a) s=zu a s
 |[],_,_,_,_=>rfl
 |o::l,k,f,a,h=>by
  unfold qn
  rw[yd λo' O=>h o' (Af _ O)]
  cases hq:ze o with
  |true=>exact zo (h o Aq hq)
  |false=>rfl
theorem Yb{P:Program}{n:Nat}{h:zb}{K:Env->Prop}:∀{l:List Oper} {k:Nat} {e:Env} {a:Act},wU P n h K l e->Sat n e a->∃(f:Nat->Value) (e':Env),K e'/\Sat n e' (qn k l f a) /\
  ∀i o,l[i]?=some o->ze o=true->wj o.op=true/\yc n [] o.dst=true/\∀h',(zm o=false\/zvr o (qn k (l.take i) f a).eval h h')->QExec P (execOp (qn k (l.take i) f a).eval o) h' (.value (f (k+i)))
 |[],k,e,a,H,hs=>⟨λ_=>undef,e,H,hs,λi o h=>by simp at h⟩
 |o::l,k,e,a,H,hs=>by
  unfold wU at H
  cases hq:ze o with
  |false=>
   rw[hq]at H
   obtain⟨f,e',h1,h2,h3⟩:=Yb (k:=k+1) H hs
   refine⟨f,e',h1,by unfold qn;rw[hq];exact h2,λi o' hi O=>?_⟩
   cases i with
   |zero=>simp at hi;subst hi;rw[hq]at O;cases O
   |succ i=>
    have:=h3 i o' (by simpa using hi) O
    rw[B5]
    unfold qn
    rw[hq,show k+(i+1)=k+1+i by omega];exact this
  |true=>
   rw[hq]at H
   simp only[cond_true]at H
   cases hd:yc n [] o.dst with
   |false=>rw[hd]at H;exact H.elim
   |true=>
    rw[hd]at H
    simp only[cond_true]at H
    cases hns:wj o.op with
    |false=>rw[hns]at H;exact H.elim
    |true=>
     rw[hns]at H
     simp only[cond_true]at H
     cases hk:known e [] o.op.operands.toList with
     |false=>rw[hk]at H;exact H.elim
     |true=>
      rw[hk]at H
      simp only[cond_true]at H
      obtain⟨v,H1,H2⟩:=Xr hq H
      obtain⟨f,e',h1,h2,h3⟩:=Yb (k:=k+1) (a:=a.put o.dst v) H1 (hs.putO hd (λ_=>rfl) λhv=>absurd (qd _) hv)
      have hf:∀(m:List Oper) (j:Nat) (b:Act),qn (k+1+j) m (λx=>if x=k then v else f x) b=qn (k+1+j) m f b:=by
       intro m
       induction m with
       |nil=>intro j b;rfl
       |cons o' m ih=>
        intro j b
        unfold qn
        dsimp only
        rw[if_neg (show¬k+1+j=k by omega),show k+1+j+1=k+1+(j+1)by omega,ih]
      refine⟨λx=>if x=k then v else f x,e',h1,?_,λi o' hi O=>?_⟩
      ·unfold qn
       rw[hq,cond_true]
       dsimp only
       rw[if_pos rfl]
       have:=hf l 0 (a.put o.dst v)
       rw[Db]at this
       rw[this];exact h2
      ·cases i with
       |zero=>
        simp at hi;subst hi
        rw[CM,Db]
        dsimp only
        rw[if_pos rfl]
        refine⟨hns,hd,λh' hh=>?_⟩
        show QExec P (execOp a.eval o) h' _
        rw[Q8 hs (qd _) hns hk]
        exact H2 h' (hh.imp id λr=>zea (λx hx=>xf hs (qd _) hk x hx) r)
       |succ i=>
        have:=h3 i o' (by simpa using hi) O
        rw[B5]
        unfold qn
        rw[hq,cond_true]
        dsimp only
        rw[if_pos rfl]
        have e2:=hf (l.take i) 0 (a.put o.dst v)
        rw[Db]at e2
        rw[e2,if_neg (show¬k+(i+1)=k by omega),show k+(i+1)=k+1+i by omega]
        exact this
theorem Yt{next:Act->World->Prop}{Q:Exit->Act->World->Prop}{r:Result Next}(hb:b.defers=[])
  (H:o.upon P b (λc w=>c.defers=[]/\∀v,c=b.put o.dst v->next (a.put o.dst v) w) (λ_ _ _=>False) r):o.upon P a next Q r:=by
 have lo:¬LetsOut (λ(_:Exit) (_:Act) (_:World)=>False):=λh=>by
  obtain⟨_,_,h⟩:=h
  exact h
 cases r with
 |ok x w=>
  cases x with
  |value v=>exact H.2 v rfl
  |skip=>exact H.2 undef rfl
  |defer d=>
   have:=H.1
   rw[qc]at this;cases this
  |enter f args=>
   refine Calls.mono (show Calls P f args w _ from H) λe w' he=>?_
   cases e with
   |returned v=>exact he.2 v rfl
   |panicked c=>exact he.elim
   |outgrown=>exact absurd he lo
  |row row args=>exact Rows.mono (show Rows P row args w _ from H) λv w' he=>he.2 v rfl
  |_=>exact H
 |halt x w=>cases x <;> first|exact H.elim|exact H
theorem qq{j:Nat}:∀{l:List Oper} {k:Nat},j∈heavyL k l↔k<=j/\∃o,l[j-k]?=some o/\ze o=false
 |[],k=>by simp[heavyL]
 |o::l,k=>by
  unfold heavyL
  cases hq:ze o with
  |true=>
   rw[cond_true,qq (l:=l)]
   constructor
   ·rintro⟨h1,o',h2,h3⟩
    exact⟨by omega,o',by rw[show j-k=(j-(k+1))+1 by omega];simpa using h2,h3⟩
   ·rintro⟨h1,o',h2,h3⟩
    rcases Dr h1 with e|e
    ·subst e
     simp at h2;subst h2;rw[hq]at h3;cases h3
    ·exact⟨by omega,o',by rw[show j-k=(j-(k+1))+1 by omega]at h2;simpa using h2,h3⟩
  |false=>
   rw[cond_false,Ad,qq (l:=l)]
   constructor
   ·rintro(rfl|⟨h1,o',h2,h3⟩)
    ·exact⟨Ae _,o,by simp,hq⟩
    ·exact⟨by omega,o',by rw[show j-k=(j-(k+1))+1 by omega];simpa using h2,h3⟩
   ·rintro⟨h1,o',h2,h3⟩
    rcases Dr h1 with e|e
    ·exact .inl e.symm
    ·exact .inr ⟨by omega,o',by rw[show j-k=(j-(k+1))+1 by omega]at h2;simpa using h2,h3⟩
theorem yl:∀{l:List Oper} {k:Nat},(heavyL k l).Nodup
 |[],_=>Ek
 |o::l,k=>by
  unfold heavyL
  cases ze o with
  |true=>exact yl
  |false=>exact CF.2 ⟨λh=>by have:=(qq.1 h).1;omega,yl⟩
theorem qp{ops:Array Oper}:∀{m:Nat},Ys ops m=true->∀k o,k<m->ops[k]?=some o->wv ops k (tmpsOf o.op.operands.toList) ops.size=true/\(ze o=true->∀j∈heavyL 0 ops.toList,Region.waitsFor .any ops k j=true->∀t,yw ops j=some t->t∉tmpsOf o.op.operands.toList)
 |0,_,k,o,hk,_=>by omega
 |m+1,h,k,o,hk,ho=>by
  unfold Ys at h
  split at h
  ·rename_i o' O
   cases hs:wv ops m (tmpsOf o'.op.operands.toList) ops.size with
   |false=>rw[hs]at h;cases h
   |true=>
    rw[hs,cond_true]at h
    rcases AR k m with h1|h1
    ·refine qp (m:=m) ?_ k o h1 ho
     revert h
     cases(bif ze o' then(heavyL 0 ops.toList).all λj=>!(Region.waitsFor .any ops m j)||(match yw ops j with
      |some t=>!(memN (tmpsOf o'.op.operands.toList) t)
      |none=>true)else true) <;> intro h <;> first|exact h|cases h
    ·have:k=m:=by omega
     subst this
     have:o'=o:=Au (O.symm.trans ho)
     subst this
     refine⟨hs,λhq j hj hw t ht=>?_⟩
     rw[hq,cond_true]at h
     cases hall:(heavyL 0 ops.toList).all λj=>!(Region.waitsFor .any ops k j)||(match yw ops j with
      |some t=>!(memN (tmpsOf o'.op.operands.toList) t)
      |none=>true)with
     |false=>rw[hall]at h;cases h
     |true=>
      have:=AP.1 hall j hj
      rw[hw,ht]at this
      simp only[Bool.not_true,Ec,Cb]at this
      exact xn this
  ·rename_i O
   rw[cond_true]at h
   rcases AR k m with h1|h1
   ·exact qp h k o h1 ho
   ·have:k=m:=by omega
    subst this
    rw[O]at ho;cases ho
theorem Qo{ops:Array Oper}:∀{l:List Nat},Yr ops l=true->∀q i j,l[q]?=some i->l[q+1]?=some j->Region.waitsFor .any ops j i=true
 |[],_,q,i,j,h,_=>by simp at h
 |[_],_,q,i,j,_,h=>by simp at h
 |a::b::l,h,q,i,j,h1,h2=>by
  unfold Yr at h
  cases hw:Region.waitsFor .any ops b a with
  |false=>rw[hw]at h;cases h
  |true=>
   rw[hw,cond_true]at h
   cases q with
   |zero=>simp at h1 h2;subst h1;subst h2;exact hw
   |succ q=>exact Qo h q i j (by simpa using h1) (by simpa using h2)
theorem xo{ops:Array Oper}{i:Nat}:∀{l:List Nat},j1 ops i l=true->∃j∈l,Region.waitsFor .any ops j i=true
 |[],h=>by cases h
 |j::l,h=>by
  unfold j1 at h
  cases hw:Region.waitsFor .any ops j i with
  |true=>exact⟨j,Aq,hw⟩
  |false=>
   rw[hw,cond_false]at h
   obtain⟨j',h1,h2⟩:=xo h
   exact⟨j',Af _ h1,h2⟩
theorem Yu{ops:Array Oper}{T:List Nat}:∀{m:Nat},zf9 ops T m=false->∀k o,k<m->ops[k]?=some o->zm o=true->j1 ops k T=true
 |0,_,k,o,hk,_,_=>by omega
 |m+1,h,k,o,hk,ho,hl=>by
  unfold zf9 at h
  cases hb:(match ops[m]? with
   |some o=>bif zm o then !(j1 ops m T)else false
   |none=>false)with
  |true=>rw[hb]at h;cases h
  |false=>
   rw[hb,cond_false]at h
   rcases AR k m with h1|h1
   ·exact Yu h k o h1 ho hl
   ·have:k=m:=by omega
    subst this
    rw[ho]at hb
    simp only[hl,cond_true,Bool.not_eq_false']at hb
    exact hb
theorem xp{i p:Nat}(hi:i∈Region.ready .any ops listed)(hw:Region.waitsFor .any ops i p=true):listed.getD p false=true:=by
 obtain⟨oj,Z,e,he,hb,aa⟩:=Region.waitsFor_spec hw
 obtain⟨_,o,ho,O⟩:=mem_ready.1 hi
 have:oj=o:=Au (Z.symm.trans ho)
 subst this
 rw[<-aa];exact O e he hb
theorem qs(inv:HeadInv .any ops n listed){i p:Nat}(hi:listed.getD i false=true)(hw:Region.waitsFor .any ops i p=true):listed.getD p false=true:=by
 obtain⟨oj,O,e,he,hb,Z⟩:=Region.waitsFor_spec hw
 rw[<-Z];exact inv.closed i oj O hi e he hb
theorem Qp{p:Nat->Bool}{N:Nat}(h:∃k,k<N/\p k=false):∃k,k<N/\p k=false/\∀j,j<k->p j=true:=by
 obtain⟨k,h1,h2⟩:=h
 induction k using Nat.strongRecOn with
 |_ k ih=>
  by_cases hm:∃j,j<k/\p j=false
  ·obtain⟨j,h3,h4⟩:=hm
   exact ih j h3 (by omega) h4
  ·exact⟨k,h1,h2,λj hj=>by
    cases hb:p j with
    |true=>rfl
    |false=>exact absurd ⟨j,hj,hb⟩ hm⟩
theorem Ws(h:mixB ops=true):jm ops.toList=true/\qi ops ops.size=true/\j8 ops ops.size=true/\Yr ops (heavyL 0 ops.toList)=true/\Ys ops ops.size=true:=by
 unfold mixB at h
 cases h1:jm ops.toList <;> cases h2:qi ops ops.size <;> cases h3:j8 ops ops.size <;> cases h4:Yr ops (heavyL 0 ops.toList) <;> simp[h1,h2,h3,h4]at h ⊢
 exact h
theorem xz{l:List Oper}(h:jm l=true):∀o∈l,o.guard=none/\wj o.op=true:=by
 intro o ho
 have:=AP.1 h o ho
 cases hg:o.guard with
 |none=>rw[hg]at this;exact⟨rfl,this⟩
 |some g=>rw[hg]at this;cases this
theorem xq:∀{l m:List Oper} {k:Nat} {f:Nat->Value} {a:Act},qn k (l++m) f a=qn (k+l.length) m f (qn k l f a)
 |[],m,k,f,a=>rfl
 |o::l,m,k,f,a=>by
  have e:∀l',qn k (o::l') f a=qn (k+1) l' f (bif ze o then a.put o.dst (f k)else a):=λ_=>rfl
  rw[A3,e,e,xq,show k+1+l.length=k+(o::l).length by simp;omega]
theorem toL(ho:ops[i]?=some o):ops.toList[i]?=some o:=by rw[AU];exact ho
theorem ofL(ho:ops.toList[i]?=some o):ops[i]?=some o:=by rw[AU]at ho;exact ho
structure StM (P:Program) (n:Nat) (ops:Array Oper) (h0:zb) (K:Env->zb->Prop) (f:Nat->Value) (a0:Act) (listed:Array Bool) (a b:Act) (e:Env) (h:zb) (done todo:List Nat):Prop where
 inv:HeadInv .any ops ops.size listed
 ag:∀s,(∀i o,ops[i]?=some o->ze o=true->listed.getD i false=false->o.dst≠some s)->zu a s=zu b s
 sz:a.tmps.size=n
 ad:a.defers=[]
 sb:Sat n e b
 qv:∀i o t,ops[i]?=some o->ze o=true->o.dst=some t->zu b t=f i/\t<n
 qx:∀i o,ops[i]?=some o->ze o=true->∀h',(zm o=false\/zvr o b.eval h0 h')->QExec P (execOp b.eval o) h' (.value (f i))
 tt:heavyL 0 ops.toList=done.reverse++todo
 ch:∀j,j∈heavyL 0 ops.toList->(listed.getD j false=true↔j∈done)
 wt:wT P n ops h0 K done todo e h
 kp:∀i o,ops[i]?=some o->zm o=true->listed.getD i false=false->zvr o b.eval h0 h
 sm:Same (yx ops.toList) a0 a
theorem Zs{o:Oper}:∀{l:List Oper},o∈l->∀i,o.dst=some i->i∈yx l
 |[],h,_,_=>by cases h
 |x::l,h,i,hi=>by
  unfold yx
  rcases Ad.1 h with rfl|h
  ·rw[hi];exact Aq
  ·have:=Zs h i hi
   split
   ·exact Af _ this
   ·exact this
theorem zk{k:Nat}(h:ops[k]?=some o):yw ops k=o.dst:=by simp[yw,h]
theorem zpy{h0:zb}{K:Env->zb->Prop}{Q:Exit->Act->World->Prop}(B:World)(a8:mixB ops=true){f:Nat->Value}{a0:Act}
  (hQ:∀e' a' d' h',Sat n e' a'->Same (yx ops.toList) a0 a'->K e' h'->Q .normal a' (mk B d' h')):
  ∀(N:Nat) (U:List Nat) (listed:Array Bool) (a b:Act) (e:Env) (h:zb) (d:Nat) (done todo:List Nat),U.length=N->U.Nodup->(∀k,k∈U↔k<ops.size/\listed.getD k false=false) ->
   StM P n ops h0 K f a0 listed a b e h done todo->wpAny P .any ops Q N listed a (mk B d h):=by
 obtain⟨bI,aJ,bG,ar,al⟩:=Ws a8
 have bc:∀(i:Nat) (o:Oper),ops[i]?=some o->o.guard=none/\wj o.op=true:=λi o ho=>xz bI o (by
  obtain⟨aa,e⟩:=Ac.1 ho
  rw[<-e];simp)
 have bo:∀{listed:Array Bool} {a b:Act} {e:Env} {h:zb} {d:Nat} {done todo:List Nat},(∀k,k<ops.size->listed.getD k false=true)->StM P n ops h0 K f a0 listed a b e h done todo->Q .normal a (mk B d h):=by
  intro listed a b e h d done todo ac S
  have aj:todo=[]:=by
   cases todo with
   |nil=>rfl
   |cons j l=>
    have hj:j∈heavyL 0 ops.toList:=by rw[S.tt];simp
    have aa:j<ops.size:=by
     obtain⟨_,o,ho,_⟩:=qq.1 hj
     have:=(Az.1 ho).1
     simpa using this
    have hd:=(S.ch j hj).1 (ac j aa)
    have hn:=yl (l:=ops.toList) (k:=0)
    rw[S.tt,A6]at hn
    exact absurd rfl (hn.2.2 j (by simpa using hd) j (by simp))
  have hw:=S.wt
  rw[aj]at hw
  unfold wT at hw
  have hv:∀s,zu a s=zu b s:=λs=>S.ag s λi o ho hq hl=>by
   rw[ac i (Ac.1 ho).1]at hl;cases hl
  have hs:Sat n e a:=⟨S.ad,S.sz,λx hx=>by
   have:=S.sb.all x hx
   have e1:zu a=zu b:=funext hv
   rw[e1];exact this⟩
  exact hQ _ _ _ _ hs.clean S.sm hw
 intro N
 induction N with
 |zero=>
  intro U listed a b e h d done todo hU _ af S
  have bC:U=[]:=Cd.1 hU
  subst bC
  have ac:∀k,k<ops.size->listed.getD k false=true:=λk hk=>by
   cases hb:listed.getD k false with
   |true=>rfl
   |false=>exact absurd ((af k).2 ⟨hk,hb⟩) (by simp)
  refine⟨?_,bo ac S⟩
  rw[CJ]
  intro j hj
  obtain⟨h1,o,ho,_⟩:=mem_ready.1 hj
  have aa:=(Ac.1 ho).1
  have:=ac j aa
  have h2:=getD_both h1
  rw[this]at h2;cases h2
 |succ N ih=>
  intro U listed a b e h d done todo hU aH af S
  have bA:∃k,k<ops.size/\listed.getD k false=false:=by
   cases U with
   |nil=>cases hU
   |cons k U=>exact⟨k,(af k).1 Aq⟩
  refine⟨λhr=>?_,λi hi=>?_⟩
  ·exfalso
   obtain⟨k,az,aN,bu⟩:=Qp bA
   have:k∈Region.ready .any ops listed:=mem_ready.2 ⟨by rw[<-aN];simp[S.inv.size,az],ops[k],AK az,λx hx hb=>bu _ (qj aJ k ops[k] az (AK az) x hx hb)⟩
   rw[hr]at this;cases this
  ·obtain⟨bh,o,ho,ac⟩:=mem_ready.1 hi
   have aC:listed.getD i false=false:=getD_both bh
   have aa:i<ops.size:=(Ac.1 ho).1
   obtain⟨hg,bB⟩:=bc i o ho
   have aE:i<listed.size:=by rw[S.inv.size];exact aa
   have a6:(U.erase i).length=N:=by rw[CL ((af i).2 ⟨aa,aC⟩),hU];rfl
   have ap:(U.erase i).Nodup:=aH.erase i
   have am:∀k,k∈U.erase i↔k<ops.size/\(listed.setIfInBounds i true).getD k false=false:=λk=>by
    rw[aH.mem_erase_iff,af k]
    by_cases hk:i=k
    ·subst hk;simp[aE]
    ·rw[getD_set_ne false hk];exact⟨λhx=>hx.2,λhx=>⟨λe=>hk e.symm,hx⟩⟩
   have ak:=S.inv.set hi aa
   have ah:∀k,k≠i->(listed.setIfInBounds i true).getD k false=listed.getD k false:=λk hk=>getD_set_ne false (Ne.symm hk)
   have ae:(listed.setIfInBounds i true).getD i false=true:=by simp[aE]
   obtain⟨ax,bO⟩:=qp al i o aa ho
   have ba:∀t∈tmpsOf o.op.operands.toList,zu a t=zu b t:=λt ht=>S.ag t λk ok O hq hl hd=>by
    have hw:=qh ax k t (Ac.1 O).1 (by rw[zk O,hd]) ht
    rw[xp hi hw]at hl;cases hl
   have aI:=yn bB ba
   unfold wpOp
   rw[ho]
   simp only
   have aP:BN o (yielded ops a.tmps)=true:=by unfold BN;rw[hg]
   rw[if_pos aP]
   left
   unfold Oper.wp
   rw[aI]
   cases hq:ze o with
   |true=>
    have hx:=S.qx i o ho hq h (by
     cases hl:zm o with
     |false=>exact .inl rfl
     |true=>exact .inr (S.kp i o ho hl aC)) B d
    rw[hx,Oper.upon_value]
    have aV:i∉heavyL 0 ops.toList:=λhm=>by
     obtain⟨_,o',aZ,bj⟩:=qq.1 hm
     rw[Cm]at aZ
     have:o'=o:=by
      have h2:ops[i]?=some o':=ofL aZ
      exact Au (h2.symm.trans ho)
     subst this;rw[hq]at bj;cases bj
    refine ih _ _ _ b e h d done todo a6 ap am { S with inv:=ak,ag:=λs hs=>?_,sz:=by rw[size_put];exact S.sz,ad:=by rw[qc];exact S.ad,ch:=λj hj=>?_,kp:=λk ok O hl hk=>?_,sm:=S.sm.trans (Same.put a o.dst _ λt ht=>Zs (by
     obtain⟨bJ,e2⟩:=Ac.1 ho
     rw[<-e2];simp) t ht) }
    ·by_cases hd:o.dst=some s
     ·obtain⟨hv,au⟩:=S.qv i o s ho hq hd
      rw[hd,qt (by rw[S.sz];exact au),hv]
     ·rw[zo hd]
      refine S.ag s λk ok O Z aO=>?_
      by_cases ai:k=i
      ·subst ai
       have:ok=o:=Au (O.symm.trans ho)
       subst this;exact hd
      ·exact hs k ok O Z (by rw[ah k ai];exact aO)
    ·have:j≠i:=λe=>aV (e ▸ hj)
     rw[ah j this];exact S.ch j hj
    ·by_cases ai:k=i
     ·subst ai;rw[ae]at hk;cases hk
     ·rw[ah k ai]at hk;exact S.kp k ok O hl hk
   |false=>
    have aQ:i∈heavyL 0 ops.toList:=qq.2 ⟨CW _,o,by rw[Cm];exact toL ho,hq⟩
    have aF:=yl (l:=ops.toList) (k:=0)
    have ay:i∉done:=λhd=>by rw[(S.ch i aQ).2 hd]at aC;cases aC
    have aj:∃rest,todo=i::rest:=by
     have aY:i∈todo:=by
      have:=aQ
      rw[S.tt,An]at this
      rcases this with h1|h1
      ·exact absurd (by simpa using h1) ay
      ·exact h1
     cases todo with
     |nil=>cases aY
     |cons j rest=>
      rcases Ad.1 aY with rfl|hr
      ·exact⟨rest,rfl⟩
      ·exfalso
       obtain⟨m,hm,em⟩:=Bf hr
       have hp:∃pr,(j::rest)[m]?=some pr:=⟨_,Ai (by simp;omega)⟩
       obtain⟨pr,a1⟩:=hp
       have hw:=Qo ar (done.reverse.length+m) pr i (by rw[S.tt,Bb (by omega),Nat.add_sub_cancel_left];exact a1) (by
        rw[S.tt,Bb (by omega),show done.reverse.length+m+1-done.reverse.length=m+1 by omega,List.getElem?_cons_succ,Ai hm,em])
       have aG:pr∈j::rest:=Ct a1
       have bn:pr∈heavyL 0 ops.toList:=by rw[S.tt];exact AB _ aG
       have hd:=(S.ch pr bn).1 (xp hi hw)
       rw[S.tt,A6]at aF
       exact aF.2.2 pr (by simpa using hd) pr aG rfl
    obtain⟨rest,rfl⟩:=aj
    have hW:=S.wt
    unfold wT at hW
    rw[ho]at hW
    simp only at hW
    cases hd:yc n [] o.dst with
    |false=>rw[hd]at hW;exact hW.elim
    |true=>
     rw[hd,cond_true]at hW
     refine Yt (b:=b) S.sb.defers ?_
     refine zf7 hW S.sb (qd _) B d λv d' h' hK=>⟨by rw[qc];exact S.sb.defers,λv2 bD=>?_⟩
     have bM:b.put o.dst v2=b.put o.dst v:=bD.symm
     have aA:∀j,j∈heavyL 0 ops.toList->((listed.setIfInBounds i true).getD j false=true↔j∈i::done):=λj hj=>by
      by_cases aL:j=i
      ·subst aL;rw[ae];simp
      ·rw[ah j aL,S.ch j hj];simp[aL]
     have aT:zf9 ops (i::done) ops.size=false->∀k ok,ops[k]?=some ok->zm ok=true->(listed.setIfInBounds i true).getD k false=true:=λhl k ok O an=>by
      obtain⟨j,hj,hw⟩:=xo (Yu hl k ok (Ac.1 O).1 O an)
      have aM:(listed.setIfInBounds i true).getD j false=true:=by
       rcases Ad.1 hj with rfl|hj
       ·exact ae
       ·exact getD_set_true ((S.ch j (by rw[S.tt];simp[hj])).2 hj)
      exact qs ak aM hw
     have a7:wT P n ops h0 K (i::done) rest (putO e o.dst [] v) h'/\(∀k ok,ops[k]?=some ok->zm ok=true->(listed.setIfInBounds i true).getD k false=false->zvr ok (b.put o.dst v).eval h0 h'):=by
      cases hl:zf9 ops (i::done) ops.size with
      |true=>
       rw[hl,cond_true]at hK
       refine⟨hK.2,λk ok O an hf=>?_⟩
       have bF:j1 ops k (i::done)=false:=by
        cases ha:j1 ops k (i::done)with
        |false=>rfl
        |true=>
         exfalso
         obtain⟨j,hj,hw⟩:=xo ha
         have aM:(listed.setIfInBounds i true).getD j false=true:=by
          rcases Ad.1 hj with rfl|hj
          ·exact ae
          ·exact getD_set_true ((S.ch j (by rw[S.tt];simp[hj])).2 hj)
         rw[qs ak aM hw]at hf;cases hf
       obtain⟨t,x,c,bz,hc,hb⟩:=zkq hK.1 k ok (Ac.1 O).1 O an bF
       unfold zvr
       rw[bz]
       intro c' be
       have:=ji (S.sb.putO hd (λ_=>rfl) λhv=>absurd (qd _) hv) (c:=[]) (qd _) hc
       rw[this]at be
       cases be;exact hb
      |false=>rw[hl,cond_false]at hK;exact⟨hK,λk ok O an hf=>by rw[aT hl k ok O an]at hf;cases hf⟩
     have aS:∀k ok t,ops[k]?=some ok->ze ok=true->ok.dst=some t->o.dst≠some t:=λk ok t O Z aB aD=>by
      have:=qy bG k i t (Ac.1 O).1 aa (by rw[zk O,aB]) (by rw[zk ho,aD])
      subst this
      have:ok=o:=Au (O.symm.trans ho)
      subst this;rw[hq]at Z;cases Z
     refine ih _ _ _ (b.put o.dst v) (putO e o.dst [] v) h' d' (i::done) rest a6 ap am ⟨ak,λs hs=>?_,by rw[size_put];exact S.sz,by rw[qc];exact S.ad,S.sb.putO hd (λ_=>rfl) λhv=>absurd (qd _) hv,λk ok t O Z aB=>?_,λk ok O Z bH hh=>?_,by rw[S.tt];simp,aA,a7.1,a7.2,S.sm.trans (Same.put a o.dst _ λt ht=>Zs (by
      obtain⟨bJ,e2⟩:=Ac.1 ho
      rw[<-e2];simp) t ht)⟩
     ·have bE:∀u,(∀k ok,ops[k]?=some ok->ze ok=true->listed.getD k false=false->ok.dst≠some s)->o.dst≠some s->zu (a.put o.dst u) s=zu (b.put o.dst v) s:=λu h1 h2=>by
       rw[zo h2,zo h2];exact S.ag s h1
      have bL:∀k ok,ops[k]?=some ok->ze ok=true->listed.getD k false=false->ok.dst≠some s:=λk ok O Z aO=>by
       by_cases ai:k=i
       ·subst ai
        have:ok=o:=Au (O.symm.trans ho)
        subst this;rw[hq]at Z;cases Z
       ·exact hs k ok O Z (by rw[ah k ai];exact aO)
      by_cases aU:o.dst=some s
      ·rw[<-bM,aU]
       have au:s<n:=by
        rw[aU]at hd
        unfold yc at hd
        simp at hd;exact hd.2
       rw[qt (by rw[S.sz];exact au),qt (by rw[S.sb.size];exact au)]
      ·exact bE v2 bL aU
     ·have:=S.qv k ok t O Z aB
      rw[zo (aS k ok t O Z aB)];exact this
     ·have aN:=bc k ok O
      have bm:∀t∈tmpsOf ok.op.operands.toList,zu (b.put o.dst v) t=zu b t:=λt ht=>by
       refine zo λaD=>?_
       obtain⟨bp,bq⟩:=qp al k ok (Ac.1 O).1 O
       have hw:=qh bp i t aa (by rw[zk ho,aD]) ht
       exact bq Z i aQ hw t (by rw[zk ho,aD]) ht
      rw[yn (b:=b) aN.2 bm]
      exact S.qx k ok O Z bH (hh.imp id λr=>zea (ym bm) r)
theorem mix_sound{K:Env->zb->Prop}{Q:Exit->Act->World->Prop}(B:World)(ac:mixB ops=true){e:Env}
  (H:wU P n h (λe'=>wT P n ops h K [] (heavyL 0 ops.toList) e' h) ops.toList e) (hs:Sat n e a)
  (hQ:∀e' a' d' h',Sat n e' a'->Same (yx ops.toList) a a'->K e' h'->Q .normal a' (mk B d' h')) (d:Nat):wpAny P .any ops Q ops.size (Bc ops.size false) a (mk B d h):=by
 obtain⟨aB,ae,ay,an,ai⟩:=Ws ac
 obtain⟨f,e1,HT,ak,hf⟩:=Yb (k:=0) H hs
 have hl:∀(i:Nat) (o:Oper),ops[i]?=some o->ops.toList[i]?=some o:=λi o ho=>toL ho
 have O:∀i,qn 0 ops.toList f a=qn (0+(ops.toList.take i).length) (ops.toList.drop i) f (qn 0 (ops.toList.take i) f a):=λi=>by
  rw[<-xq,BD]
 refine zpy B ac (f:=f) hQ ops.size (BE ops.size) _ a (qn 0 ops.toList f a) e1 h d [] (heavyL 0 ops.toList) DN Dm (λk=>by rw[BX,getD_replicate_false];simp) ⟨⟨by simp,λj oj _ hl=>(by rw[getD_replicate_false]at hl;cases hl),λt ht aC=>by omega⟩,λs az=>?_,hs.size,hs.defers,ak,λi o t ho hq hd=>?_,λi o ho hq h' hh=>?_,by simp,λj hj=>by rw[getD_replicate_false];simp,HT,λ_ _ _ _ _=>zzs _ _ _,Same.refl _ _⟩
 ·refine(yd λo ho hq=>?_).symm
  obtain⟨i,hi,e⟩:=Bf ho
  exact az i o (ofL (by rw[Ai hi,e])) hq (getD_replicate_false _ _)
 ·obtain⟨h1,h2,h3⟩:=hf i o (hl i o ho) hq
  have am:t<n:=by
   rw[hd]at h2
   unfold yc at h2
   simp at h2;exact h2.2
  refine⟨?_,am⟩
  have aa:=(Ac.1 ho).1
  have aj:(ops.toList.take i).length=i:=by simp;omega
  rw[O i,aj,AD]
  have ar:ops.toList.drop i=o::ops.toList.drop (i+1):=by
   have:=(Az.1 (hl i o ho))
   rw[AL this.1,this.2]
  rw[ar]
  unfold qn
  rw[hq,cond_true,yd λo' af au ah=>?_]
  ·rw[hd,qt (by rw[Qj.1,hs.size];exact am)]
  ·obtain⟨m,hm,em⟩:=Bf af
   have Z:ops[i+1+m]?=some o':=by
    have:ops.toList[i+1+m]?=some o':=by rw[<-AE,Ai hm,em]
    exact ofL this
   have:=qy ay i (i+1+m) t aa (Ac.1 Z).1 (by rw[zk ho,hd]) (by rw[zk Z,ah])
   omega
 ·obtain⟨h1,h2,h3⟩:=hf i o (hl i o ho) hq
  have al:∀t∈tmpsOf o.op.operands.toList,zu (qn 0 ops.toList f a) t=zu (qn 0 (ops.toList.take i) f a) t:=λt ht=>by
   have aa:=(Ac.1 ho).1
   rw[O i]
   refine yd λo' af au ah=>?_
   obtain⟨m,hm,em⟩:=Bf af
   have Z:ops[i+m]?=some o':=by
    have:ops.toList[i+m]?=some o':=by rw[<-AE,Ai hm,em]
    exact ofL this
   obtain⟨ax,_⟩:=qp ai i o aa ho
   have hw:=qh ax (i+m) t (Ac.1 Z).1 (by rw[zk Z,ah]) ht
   obtain⟨oj,ap,x,hx,hb,aA⟩:=Region.waitsFor_spec hw
   have:=qj ae i oj aa ap x hx hb
   omega
  have:=h3 h' (hh.imp id λr=>zea (ym al) r)
  rw[AD]at this
  rw[yn h1 al]
  exact this
end
end Go.X.U
end
section
namespace Go.X
section
variable {P:Program} {n id m i i5:Nat} {ops:Array Oper} {e:Env} {h:zb} {a:Act} {ro:Option Nat} {t:Array Value} {v:Value}
def Z1:Code->Nat->Array Oper
 |.region id ops _,i=>bif Nat.beq id i then ops else #[]
 |.seq x y,i=>bif Nat.beq (Z1 x i).size 0 then Z1 y i else Z1 x i
 |.cond _ x y,i=>bif Nat.beq (Z1 x i).size 0 then Z1 y i else Z1 x i
 |.block _ x,i=>Z1 x i
 |.loop x,i=>Z1 x i
 |.rangeFunc _ _ x y,i=>bif Nat.beq (Z1 x i).size 0 then Z1 y i else Z1 x i
 |_,_=>#[]
def zhs(P:Program)(n:Nat)(ro:Nat->Array Oper):List Nat->(Env->zb->Prop)->Env->zb->Prop
 |[],K,e,h=>K e h
 |i::l,K,e,h=>wR P n (ro i) (λe' h'=>zhs P n ro l K e' h') (ro i).toList e h
def slotsOf(e:Env):List Nat->Option (List Value)
 |[]=>some []
 |i::l=>match zdi e i,slotsOf e l with
  |some v,some vs=>some (v::vs)
  |_,_=>none
def qbv(l:List Nat)(R:List Value->zb->Prop)(e:Env)(h:zb):Prop:=match slotsOf e l with
 |some vs=>R vs h
 |none=>False
def z7t(P:Program)(n:Nat)(ops:Array Oper)(K:Env->zb->Prop)(e:Env)(h:zb):Prop:=
 bif U.mixB ops then U.wU P n h (λe'=>U.wT P n ops h K [] (U.heavyL 0 ops.toList) e' h) ops.toList e else False
def zpa(P:Program)(n:Nat)(ro:Nat->Array Oper)(ids:List Nat)(b:Nat)(C:zb->Prop)(g:zb->zb)(R:zb->Prop)(e:Env)(h:zb):Prop:=
 zhs P n ro ids (λe1 h1=>C h1/\z7t P n (ro b) (λ_ h2=>R h2) e1 (g h1)) e h
theorem ztl{K:Env->zb->Prop}(H:z7t P n ops K e h)(B:World)(hs:Sat n e a){R:Act->World->Prop}
  (hQ:∀e' a' d' h',Sat n e' a'->K e' h'->R a' (mk B d' h')) (d:Nat):wpAny P .any ops (zi7 R) ops.size (Bc ops.size false) a (mk B d h):=by
 unfold z7t at H
 cases hB:U.mixB ops with
 |false=>rw[hB]at H;exact H.elim
 |true=>
  rw[hB]at H
  exact U.mix_sound B hB H hs (λe' a' d' h' q1 q2 q3=>hQ e' a' d' h' q1 q3) d
theorem zzt{K:Env->zb->Prop}(H:wR P n ops K ops.toList e h)(B:World)(d:Nat)(hs:Sat n e a){Q:Exit->Act->World->Prop}
  (hQ:∀e' a' d' h',Sat n e' a'->K e' h'->Q .normal a' (mk B d' h')):(CX id ops false).wp P Q a (mk B d h):=
 wp_region_list (Jk B _ _ _ _ _ H hs λe' a' d' h' q1 q2 q3=>hQ e' a' d' h' q1 q3)
theorem z4t(hd:ops.toList.all y9=true){K:Env->zb->Prop}(H:wR P n ops K ops.toList e h)(B:World)(d:Nat)(hs:Sat n e a){Q:Exit->Act->World->Prop}
  (hQ:∀e' a' d' h',Sat n e' a'->K e' h'->Q .normal a' (mk B d' h')):(CX id ops false).wpIn (rf ro) m P Q a (mk B d h):=by
 refine wpIn_region_list ?_
 rw[<-Ba ops.toList]
 exact zhr (K:=λa' w'=>Q .normal a' w') ops.toList [] _ _ hd (Jk B _ _ _ _ _ H hs λe' a' d' h' q1 q2 q3=>hQ e' a' d' h' q1 q3) λa w h=>h
theorem z7u(hm:P.follows .mixedOrders=true)(hd:ops.toList.all y9=true){K:Env->zb->Prop}(H:z7t P n ops K e h)(B:World)(d:Nat)(hs:Sat n e a){Q:Exit->Act->World->Prop}
  (hQ:∀e' a' d' h',Sat n e' a'->K e' h'->Q .normal a' (mk B d' h')):(CX id ops true).wpIn (rf ro) m P Q a (mk B d h):=by
 have h1:(CX id ops true).wpIn (rf ro) m P (zi7 λa' w'=>Q .normal a' w') a (mk B d h):=by
  refine wpIn_region_any hm (ztj (λi o ho=>?_) _ _ _ _ (ztl H B hs hQ (d+1)))
  rw[AP]at hd
  obtain⟨O,e⟩:=Ac.1 ho
  exact hd o (by rw[<-e];simp)
 exact wpIn_mono h1 λx a' w' hx=>by
  cases x with
  |normal=>exact hx
  |_=>exact hx.elim
theorem z3d(hm:P.follows .mixedOrders=true){K:Env->zb->Prop}(H:z7t P n ops K e h)(B:World)(d:Nat)(hs:Sat n e a)(D:List Deferred){Q:Exit->Act->World->Prop}
  (hQ:∀e' a' d' h',Sat n e' a'->K e' h'->Q .normal (zmr D a') (mk B d' h')):(CX id ops true).wp P Q (zmr D a) (mk B d h):=by
 have h1:=wp_region_any (id:=id) (w:=mk B d h) (a:=zmr D a) hm (zms (D:=D) _ _ _ _ (ztl (R:=λa' w'=>∃e' d' h',w'=mk B d' h'/\Sat n e' a'/\K e' h') H B hs (λe' a' d' h' q1 q2=>⟨e',d',h',rfl,q1,q2⟩) (d+1)))
 exact wp_mono h1 λx a' w' hx=>by
  cases x with
  |normal=>obtain⟨a0,rfl,e',d',h',rfl,q1,q2⟩:=hx;exact hQ e' a0 d' h' q1 q2
  |_=>exact hx.elim
theorem zpb(hd:a.defers=[])(hz:a.tmps.size=n)(hf:∀x∈e,x.2.1=[]/\zu a x.1=x.2.2):Sat n e a:=
 ⟨hd,hz,λx hx=>by
  obtain⟨h1,h2⟩:=hf x hx
  unfold fact
  rw[h1]
  exact⟨λ_=>h2,λhn=>absurd trivial hn⟩⟩
theorem zmu{i j:Nat}{D:List Deferred}(h:j≠i):zu { tmps:=t.setIfInBounds i v,defers:=D } j=zu { tmps:=t,defers:=D } j:=by
 unfold zu
 simp only[Bi]
 rw[AH (Ne.symm h)]
theorem zc7{D:List Deferred}(h:i<t.size):zu { tmps:=t.setIfInBounds i v,defers:=D } i=v:=by
 unfold zu
 simp only[Bi]
 rw[Array.getElem?_setIfInBounds_self_of_lt h];rfl
abbrev Rec:=LoopState->Option Code->Loop
theorem qcr(hm:P.follows .mixedOrders=true){n l p1 p2:Nat}{ro:Nat->Array Oper}{i3 i4 i5 b1:Nat}{fn:FuncId}{tmps:Array Value}{D:Nat}(al:p1≠p2)(an:p1<n)(am:p2<n)(hz:tmps.size=n)
  (ak:(ro i3).toList.all y9=true) (ae:(ro i4).toList.all y9=true) (aj:(ro i5).toList.all y9=true)
  {rec:Rec} (O:rec=λst pe=>{ state:=st,pending:=pe,fn:=fn,tmps:=tmps,params:=#[p1,p2],assign:=.seq (.region i3 (ro i3) false) (.region i4 (ro i4) false),body:=.block b1 (.region i5 (ro i5) true),defers:=D })
  {v1 v2:Value} (he:∀x∈e,x.2.1=[]/\x.1≠p1/\x.1≠p2/\tmps.getD x.1 undef=x.2.2) (hl:h[l]?=some (.loop (rec .ready none))) {K:Value->zb->Prop}
  (H:zpa P n ro [i3,i4] i5 (λh1=>h1[l]?=some (.loop (rec .ready none))) (λh1=>h1.setIfInBounds l (.loop (rec .busy none)))
   (λh2=>h2[l]?=some (.loop (rec .busy none))/\K (.bool true) (h2.setIfInBounds l (.loop (rec .ready none)))) ((p1,[],v1)::(p2,[],v2)::e) h):YX P l #[v1,v2] h K:=by
 intro m B d
 have ac:(mk B d h).heap[l]?=some (.loop (rec .ready none)):=hl
 have hy:=run_yield (P:=P) (w:=mk B d h) (args:=#[v1,v2]) ac (by rw[O];rfl)
 refine⟨_,_,_,_,hy,?_⟩
 rw[O]at hy ⊢
 have key:RoundIn (rf none) m P l fn ((tmps.setIfInBounds p1 v1).setIfInBounds p2 v2) (.seq (.region i3 (ro i3) false) (.region i4 (ro i4) false)) (.block b1 (.region i5 (ro i5) true)) (mk B d h) (λe w'=>∃v d' h',e=.returned v/\w'=mk B d' h'/\K v h'):=by
  refine roundIn_of_wpIn (F:=rf none) trivial ?_
  have hF:(rf none).inRound l=rf (some l):=rfl
  rw[hF]
  have hs:Sat n ((p1,[],v1)::(p2,[],v2)::e) { tmps:=(tmps.setIfInBounds p1 v1).setIfInBounds p2 v2,defers:=[] }:=by
   refine zpb rfl (by simp[hz]) ?_
   intro x hx
   rcases Ad.1 hx with rfl|hx
   ·exact⟨rfl,by rw[zmu al];exact zc7 (by omega)⟩
   ·rcases Ad.1 hx with rfl|hx
    ·exact⟨rfl,zc7 (by simp;omega)⟩
    ·obtain⟨q1,q2,q3,q4⟩:=he x hx
     exact⟨q1,by rw[zmu q3,zmu q2];exact q4⟩
  unfold zpa zhs zhs zhs at H
  refine wpIn_seq (z4t ak H B d hs λe1 a1 d1 h1 s1 k1=>?_)
  show(CX i4 (ro i4) false).wpIn (rf (some l)) m P _ a1 (mk B d1 h1)
  refine z4t ae k1 B d1 s1 λe2 a2 d2 h2 s2 k2=>?_
  obtain⟨k3,k4⟩:=k2
  have ah:(mk B d2 h2).heap[l]?=some (.loop (rec .ready none)):=k3
  have hb:=run_beginRound (P:=P) ah (by rw[O])
  refine⟨_,hb,?_⟩
  have Z:({ rec .ready none with state:=.busy }:Loop)=rec .busy none:=by rw[O]
  rw[Z]
  show(Code.block b1 (.region i5 (ro i5) true)).wpIn (rf (some l)) m P _ a2 (mk B d2 (h2.setIfInBounds l (.loop (rec .busy none))))
  refine wpIn_block (z7u hm aj k4 B d2 s2 λe3 a3 d3 h3 s3 k5=>?_)
  obtain⟨k6,k7⟩:=k5
  have af:(mk B d3 h3).heap[l]?=some (.loop (rec .busy none)):=k6
  have aa:=run_endRound (P:=P) none af
  simp only[Exit.inBlock]
  refine⟨_,_,aa,.bool true,d3,h3.setIfInBounds l (.loop (rec .ready none)),rfl,?_,k7⟩
  have ai:({ rec .busy none with state:=if(none:Option Code).isNone then .ready else .done,pending:=none }:Loop)=rec .ready none:=by rw[O];rfl
  rw[ai];rfl
 show RoundIn (rf none) m P l fn (Array.foldl (λ(t:Array Value) (x:Tmp×Value)=>t.setIfInBounds x.1 x.2) tmps (#[p1,p2].zip #[v1,v2])) _ _ _ _
 have zs:Array.foldl (λ(t:Array Value) (x:Tmp×Value)=>t.setIfInBounds x.1 x.2) tmps (#[p1,p2].zip #[v1,v2])=(tmps.setIfInBounds p1 v1).setIfInBounds p2 v2:=by simp
 rw[zs]
 exact key
theorem qa4{i1 i2 i5 i7 Z:Nat}{R:List Value->zb->Prop}(H:qbv [i1,i2,i5,i7,Z] R e h):∃v1 v2 v5 v7 O,zdi e i1=some v1/\zdi e i2=some v2/\zdi e i5=some v5/\zdi e i7=some v7/\zdi e Z=some O/\R [v1,v2,v5,v7,O] h:=by
 unfold qbv at H
 split at H
 ·rename_i vs hv
  simp only[slotsOf]at hv
  split at hv
  ·rename_i v1 aj h1 r1
   split at r1
   ·rename_i v2 ah h2 r2
    split at r2
    ·rename_i v5 af h5 r5
     split at r5
     ·rename_i v7 ai h7 r7
      split at r7
      ·rename_i O ae ac aa
       cases aa;cases r7;cases r5;cases r2;cases r1;cases hv
       exact⟨v1,v2,v5,v7,O,h1,h2,h5,h7,ac,H⟩
      ·cases r7
     ·cases r5
    ·cases r2
   ·cases r1
  ·cases hv
 ·exact H.elim
def z7v(P:Program)(n:Nat)(ro:Nat->Array Oper)(i6:Nat)(rs:List ResultVar)(D:Nat)(R:Value->zb->Prop)(e:Env)(h:zb):Prop:=
 z7t P n (ro i6) (λe h1=>h1[D]?=some (.deferred (some []))/\z0s P (h1.setIfInBounds D (.deferred none)) e rs λvs=>R (zij vs) (h1.setIfInBounds D (.deferred none))) e h
theorem z3e(hm:P.follows .mixedOrders=true){f:FuncId}{fn:Func}{ro:Nat->Array Oper}{rs:List ResultVar}(hf:P.funcs[f]?=some fn)
  (hb:fn.body=some (.seq (.region 0 (ro 0) false) (.seq (.region 1 (ro 1) false) (.seq (.seq (.region 2 (ro 2) false) (.block 0 (.rangeFunc (.tmp 12) #[13,14] (.seq (.region 3 (ro 3) false) (.region 4 (ro 4) false)) (.block 1 (.region 5 (ro 5) true))))) (.seq (.region 6 (ro 6) true) .ret)))))
  (az:(ro 3).toList.all y9=true) (al:(ro 4).toList.all y9=true) (aA:(ro 5).toList.all y9=true) (hr:fn.results.toList=rs) (hn:fn.ntmps=n) (aE:15<=n) (vs:List Value) (hz:Nat.ble vs.length n=true) {R:Value->zb->Prop}
  (H:zhs P n ro [0,1,2] (qbv [1,2,5,7,12] λl h1=>∃v1 v2 v5 v7 g lb,l=[v1,v2,v5,v7,.func (.func g) #[] lb]/\qk P g=true /\
   ∀rec:Rec,(∀{aa Z:Value} {h2:zb} {K:Value->zb->Prop},h2[h1.size+1]?=some (.loop (rec .ready none)) ->
     zpa P n ro [3,4] 5 (λh3=>h3[h1.size+1]?=some (.loop (rec .ready none))) (λh3=>h3.setIfInBounds (h1.size+1) (.loop (rec .busy none)))
      (λh4=>h4[h1.size+1]?=some (.loop (rec .busy none))/\K (.bool true) (h4.setIfInBounds (h1.size+1) (.loop (rec .ready none)))) [(13,[],aa),(14,[],Z),(2,[],v2),(7,[],v7)] h2->YX P (h1.size+1) #[aa,Z] h2 K) ->
    XCI P g (#[.func (.yield (h1.size+1)) #[] #[]]++lb) ((h1.push (.deferred (some []))).push (.loop (rec .ready none))) λ_ h5=>h5[h1.size+1]?=some (.loop (rec .ready none)) /\
     z7v P n ro 6 rs h1.size R [(1,[],v1),(2,[],v2),(5,[],v5),(7,[],v7)] (h5.setIfInBounds (h1.size+1) (.loop (rec .exhausted none)))) (zwn 0 vs) h):XC P f vs.toArray h R:=by
 intro B d
 refine callsIn_wide.1 (callsIn_of_wp_marks (F:=Fence.wide) (n:=1) hf hb trivial ?_ rfl)
 subst hn
 have aF:vs.length<=fn.ntmps:=BM hz
 have hs:Sat fn.ntmps (zwn 0 vs) { tmps:=vs.toArray++Bc (fn.ntmps-vs.toArray.size) undef,defers:=[] }:=by
  refine⟨rfl,by simp;omega,?_⟩
  refine Xv vs.toArray _ vs 0 λj v hj=>?_
  have aB:j<vs.length:=by
   rcases AR j vs.length with h|h
   ·exact h
   ·rw[Bj h]at hj;cases hj
  simp only[AD,Bi]
  rw[CB (by simpa using aB)]
  simp[hj]
 unfold zhs zhs zhs zhs at H
 refine wpIn_seq (wpIn_wide.2 (zzt H B d hs λe1 a1 d1 h1 s1 k1=>?_))
 show Code.wpIn Fence.wide 1 P _ _ a1 (mk B d1 h1)
 refine wpIn_seq (wpIn_wide.2 (zzt k1 B d1 s1 λe2 a2 d2 h2 s2 k2=>?_))
 show Code.wpIn Fence.wide 1 P _ _ a2 (mk B d2 h2)
 refine wpIn_seq (wpIn_seq (wpIn_wide.2 (zzt k2 B d2 s2 λe3 a3 d3 h3 s3 k3=>?_)))
 show Code.wpIn Fence.wide 1 P _ _ a3 (mk B d3 h3)
 obtain⟨u1,u2,u5,u7,aG,q1,q2,q5,q7,au,v1,v2,v5,v7,g,lb,hl,hg,HR⟩:=qa4 k3
 simp only[Ci,and_true]at hl
 obtain⟨rfl,rfl,rfl,rfl,rfl⟩:=hl
 have w1:=jo s3 q1
 have w2:=jo s3 q2
 have w5:=jo s3 q5
 have w7:=jo s3 q7
 have ap:=jo s3 au
 refine wpIn_block (wpIn_rangeFunc λak _=>?_)
 obtain⟨rec,O⟩:∃rec:Rec,rec=λst pe=>{ state:=st,pending:=pe,fn:=ak,tmps:=a3.tmps,params:=#[13,14],assign:=.seq (.region 3 (ro 3) false) (.region 4 (ro 4) false),body:=.block 1 (.region 5 (ro 5) true),defers:=h3.size }:=⟨_,rfl⟩
 have aj:=HR rec (λ {aa Z h2 K} hl am=>qcr hm (by decide) (by omega) (by omega) s3.size az al aA O (λx hx=>by
  rcases Ad.1 hx with rfl|hx
  ·exact⟨rfl,(by show(2:Nat)≠13;decide),(by show(2:Nat)≠14;decide),w2⟩
  ·rw[Bu]at hx;subst hx;exact⟨rfl,(by show(7:Nat)≠13;decide),(by show(7:Nat)≠14;decide),w7⟩) hl am)
 have af:a3.eval (.tmp 12)=.func (.func g) #[] lb:=ap
 refine⟨h3.size+1,[{ target:=.collected h3.size,args:=#[] }],mk B d3 ((h3.push (.deferred (some []))).push (.loop (rec .ready none))),{ target:=.fn (.func g) lb,args:=#[.func (.yield (h3.size+1)) #[] #[]] },mk B d3 ((h3.push (.deferred (some []))).push (.loop (rec .ready none))),g,
  #[.func (.yield (h3.size+1)) #[] #[]]++lb,mk B d3 ((h3.push (.deferred (some []))).push (.loop (rec .ready none))),?_,?_,λ_ _=>trivial,?_,λ_=>Ae _,?_⟩
 ·rw[O];exact run_enterLoop_outer _ _ _ _ _
 ·simp only[resolve,af]
  simp[go_sem,D7]
 ·simp only[invoke]
  exact Wr hg _ _
 ·have hc:=aj 0 B d3
  refine CallsIn.mono (F:=Fence.wide) hc ?_
  rintro e' w' ⟨v,d5,h5,rfl,rfl,aD,ht⟩
  have ae:(mk B d5 h5).heap[h3.size+1]?=some (.loop (rec .ready none)):=aD
  have ac:(Instr.endLoop (h3.size+1)).run P (mk B d5 h5)=.ok none (mk B d5 (h5.setIfInBounds (h3.size+1) (.loop (rec .exhausted none)))):=by
   have:=run_endLoop (P:=P) ae (by rw[O];intro hx;cases hx)
   rw[O]at this ⊢
   exact this
  refine⟨none,_,ac,?_⟩
  simp only[Exit.inBlock]
  show Code.wpIn Fence.wide 1 P (.seq (.region 6 (ro 6) true) .ret) _ _ (mk B d5 (h5.setIfInBounds (h3.size+1) (.loop (rec .exhausted none))))
  have ay:Sat fn.ntmps [(1,[],u1),(2,[],u2),(5,[],u5),(7,[],u7)] a3:=zpb s3.defers s3.size λx hx=>by
   simp only[Ad,List.not_mem_nil,or_false]at hx
   rcases hx with rfl|rfl|rfl|rfl
   ·exact⟨rfl,w1⟩
   ·exact⟨rfl,w2⟩
   ·exact⟨rfl,w5⟩
   ·exact⟨rfl,w7⟩
  have ha:({ a3 with defers:=[{ target:=.collected h3.size,args:=#[] }]++a3.defers }:Act)=zmr [{ target:=.collected h3.size,args:=#[] }] a3:=by
   unfold zmr;rw[s3.defers];rfl
  rw[ha]
  refine wpIn_seq (wpIn_wide.2 (z3d hm ht B d5 ay _ λe6 a6 d6 h6 s6 k6=>?_))
  show Code.wpIn Fence.wide 1 P .ret _ _ (mk B d6 h6)
  refine wpIn_ret ?_
  obtain⟨hD,ah⟩:=k6
  obtain⟨v',ai,ax⟩:=Qq s6 hr ah
  have an:(mk B d6 h6).heap[h3.size]?=some (.deferred (some [])):=hD
  have ar:=run_takeDeferred (P:=P) an
  have aC:(zmr [{ target:=.collected h3.size,args:=#[] }] a6).defers=[{ target:=.collected h3.size,args:=#[] }]:=by unfold zmr;rw[s6.defers];rfl
  show LeavesInM _ _ _ _ _ _ (zmr [{ target:=.collected h3.size,args:=#[] }] a6).defers _ _
  rw[aC]
  exact⟨by simp,.inl ⟨_,_,rfl,ar,v',ax B d6,v',d6,h6.setIfInBounds h3.size (.deferred none),rfl,rfl,ai⟩⟩
end
section
theorem zeb(am:Nat)(c1:Addr)(c2:Addr)(h:zb)(R:Value->zb->Prop)
  (H:∃ak:Sl,zj h c1=some (.slice ak.a ak.len ak.cap)/\∃(aF:Int->zb->Prop) (aI:Int->zb->Nat),aF 0 h/\∀aj:Int,∀ay:zb,aF aj ay->(((decide ((aj:Int)<((ak.len:Nat):Int)))=true->∃aJ:Addr,(ak.a=some aJ/\0<=(aj:Int)/\(aj:Int)<((ak.len:Nat):Int))/\∃aA:Bt,zj ay (aJ.add ((aj:Int).toNat*1))=some (.string aA)/\∃az:Int,∃aC:Bt,∃aa:Sl,∃ah:Sl,zd ay c2 0 [.int .i64 az,.string aC,.slice aa.a aa.len aa.cap,.slice ah.a ah.len ah.cap]/\XC Tp 117 #[.agg #[.int .i64 az,.string aC,.slice aa.a aa.len aa.cap,.slice ah.a ah.len ah.cap],.string aA] ay (λaG ap=>∃O:Int,aG=.int .i64 O/\((decide ((O:Int)<0))=true->R (.tuple #[]) ap)/\((decide ((O:Int)<0))=false->∃ai:Sl,zj ap (Aj c2 3)=some (.slice ai.a ai.len ai.cap)/\∃aD:Addr,(ai.a=some aD/\0<=(O:Int)/\(O:Int)<((ai.len:Nat):Int))/\∃au:Int,∃ax:Bt,∃ae:Sl,∃af:Sl,zd ap (aD.add ((O:Int).toNat*4)) 0 [.int .i64 au,.string ax,.slice ae.a ae.len ae.cap,.slice af.a af.len af.cap]/\XRunU Tp (Al 25 (.pointer (some c2)) (.agg #[.int .i64 au,.string ax,.slice ae.a ae.len ae.cap,.slice af.a af.len af.cap])) ap (λaE=>∃an:Int,∃ar:Bt,∃Z:Sl,∃ac:Sl,zd aE c2 0 [.int .i64 an,.string ar,.slice Z.a Z.len Z.cap,.slice ac.a ac.len ac.cap]/\YX Tp am #[.int .i64 O,.agg #[.int .i64 an,.string ar,.slice Z.a Z.len Z.cap,.slice ac.a ac.len ac.cap]] aE (λaH aB=>∃al:Bool,aH=.bool al/\((!al)=true->R (.tuple #[]) aB)/\((!al)=false->(aF (Ab .i64 (aj+1)) aB/\aI (Ab .i64 (aj+1)) aB<aI aj ay)))))))/\((decide ((aj:Int)<((ak.len:Nat):Int)))=false->R (.tuple #[]) ay))):
  XCI Tp 116 #[.func (.yield am) #[] #[],.pointer (some c1),.pointer (some c2)] h R:=
 zq8 Tryz.mixed ⟨[],[(1,[(9,.one (.int .i64))])],[]⟩ [.func (.yield am) #[] #[],.pointer (some c1),.pointer (some c2)] (rs:=[]) (n:=29) Tryz.func116 (by kernel_rfl) (by kernel_rfl) (by kernel_rfl) (by kernel_rfl) (Eq.mp (by kernel_rfl) H)
theorem zfb(ak:Int)(aj:Bt)(ac:Sl)(ae:Sl)(O:Sl)(h:zb)(R:List Value->zb->Prop)
  (H:let am:zb:=E2 h (.cells #[.int .i64 ak,.string aj,.slice ac.a ac.len ac.cap,.slice ae.a ae.len ae.cap] 25);let al:zb:=E2 am (.cells #[.int .i64 0,.string (⟨#[]⟩:Bt),.slice none 0 0,.slice none 0 0] 25);let an:zb:=E2 al (.cells #[.slice none 0 0] 64);∃ai:Int,∃ah:Bt,∃Z:Sl,∃aa:Sl,zd an ⟨CQ h,0,none⟩ 0 [.int .i64 ai,.string ah,.slice Z.a Z.len Z.cap,.slice aa.a aa.len aa.cap]/\XC Tp 77 #[.agg #[.int .i64 ai,.string ah,.slice Z.a Z.len Z.cap,.slice aa.a aa.len aa.cap],.slice O.a O.len O.cap] an (λap ar=>∃af:Value,ap=af/\R [.slice O.a O.len O.cap,.pointer (some ⟨CQ h,0,none⟩),.pointer (some ⟨CQ am,0,none⟩),.pointer (some ⟨CQ al,0,none⟩),af] ar)):
  zhs Tp 27 (Z1 (codeOf Tryz.f43)) [0,1,2] (qbv [1,2,5,7,12] R) [(0,[],.agg #[.int .i64 ak,.string aj,.slice ac.a ac.len ac.cap,.slice ae.a ae.len ae.cap]),(1,[],.slice O.a O.len O.cap)] h:=
 Eq.mp (by kernel_rfl) H
theorem zfc(ay:Int)(ak:Int)(am:Bt)(af:Sl)(ah:Sl)(x2:Addr)(x7:Addr)(h:zb)(C:zb->Prop)(g:zb->zb)(R:zb->Prop)
  (H:let ar:zb:=E2 h (.cells #[.int .i64 0,.string (⟨#[]⟩:Bt),.slice none 0 0,.slice none 0 0] 25);XRunU Tp (Al 25 (.pointer (some ⟨CQ h,0,none⟩)) (.agg #[.int .i64 ak,.string am,.slice af.a af.len af.cap,.slice ah.a ah.len ah.cap])) ar (λae=>C ae/\∃O:Sl,zj (g ae) x7=some (.slice O.a O.len O.cap)/\∃aj:Int,∃ai:Bt,∃ac:Sl,∃aa:Sl,zd (g ae) ⟨CQ h,0,none⟩ 0 [.int .i64 aj,.string ai,.slice ac.a ac.len ac.cap,.slice aa.a aa.len aa.cap]/\let al:zb:=E2 (g ae) (.cells #[.int .i64 ay] 3);((al)[(⟨CQ h,0,none⟩:Addr).block]?=((g ae))[(⟨CQ h,0,none⟩:Addr).block]?/\(al)[(x7:Addr).block]?=((g ae))[(x7:Addr).block]?/\True)/\XRun Tp (Ax #[64,64] 64 #[.slice O.a O.len O.cap,.slice (some ⟨CQ (g ae),0,none⟩) 1 1]) al (λau an=>∃Z:Sl,au=.slice Z.a Z.len Z.cap/\((an)[(⟨CQ h,0,none⟩:Addr).block]?=((g ae))[(⟨CQ h,0,none⟩:Addr).block]?/\True)/\XRunU Tp (Al 64 (.pointer (some x7)) (.slice Z.a Z.len Z.cap)) an (λap=>((ap)[(⟨CQ h,0,none⟩:Addr).block]?=((g ae))[(⟨CQ h,0,none⟩:Addr).block]?/\True)/\XRunU Tp (Al 25 (.pointer (some x2)) (.agg #[.int .i64 aj,.string ai,.slice ac.a ac.len ac.cap,.slice aa.a aa.len aa.cap])) ap (λax=>R ax))))):
  zpa Tp 27 (Z1 (codeOf Tryz.f43)) [3,4] 5 C g R [(13,[],.int .i64 ay),(14,[],.agg #[.int .i64 ak,.string am,.slice af.a af.len af.cap,.slice ah.a ah.len ah.cap]),(2,[],.pointer (some x2)),(7,[],.pointer (some x7))] h:=
 Eq.mp (by kernel_rfl) H
theorem zfd(x1:Sl)(x2:Addr)(x5:Addr)(x7:Addr)(h:zb)(C:zb->Prop)(g:zb->zb)(R:Value->zb->Prop)
  (H:∃aa:Sl,zj h x7=some (.slice aa.a aa.len aa.cap)/\∃ai:Int,∃ah:Bt,∃O:Sl,∃Z:Sl,zd h x2 0 [.int .i64 ai,.string ah,.slice O.a O.len O.cap,.slice Z.a Z.len Z.cap]/\∃ac:Sl,zj h x7=some (.slice ac.a ac.len ac.cap)/\XRunU Tp (Al 25 (.pointer (some x5)) (.agg #[.int .i64 ai,.string ah,.slice O.a O.len O.cap,.slice Z.a Z.len Z.cap])) h (λaj=>((aj)[(x7:Addr).block]?=(h)[(x7:Addr).block]?/\True)/\C aj/\∃ak:Int,∃al:Bt,∃ae:Sl,∃af:Sl,zd (g aj) x5 0 [.int .i64 ak,.string al,.slice ae.a ae.len ae.cap,.slice af.a af.len af.cap]/\R (.tuple #[.slice aa.a aa.len aa.cap,.agg #[.int .i64 ak,.string al,.slice ae.a ae.len ae.cap,.slice af.a af.len af.cap],.bool ((((ac.len:Nat):Int):Int)==((x1.len:Nat):Int))]) (g aj))):
  z7t Tp 27 ((Z1 (codeOf Tryz.f43)) 6) (λe h1=>C h1/\z0s Tp (g h1) e [.tmp 4,.cell 5 25,.tmp 6] λvs=>R (zij vs) (g h1)) [(1,[],.slice x1.a x1.len x1.cap),(2,[],.pointer (some x2)),(5,[],.pointer (some x5)),(7,[],.pointer (some x7))] h:=
 Eq.mp (by kernel_rfl) H
end
section
variable {h0 g g' h:zb} {M:Fr} {sp sk si:Sl} {w:Tr}
theorem z7w:ElemT Tp 64 3 (.int .i64 0) 1 8:=⟨by kernel_rfl,⟨Tryz.t3,by kernel_rfl,by kernel_rfl,by kernel_rfl,by kernel_rfl⟩,rfl,by omega⟩
theorem qa5:yu Tp 64=true:=by kernel_rfl
theorem qa6:yr Tp 64=1:=by kernel_rfl
def zv4(l:List Int):List Value:=l.map (EX .i64)
structure LI (h0:zb) (M:Fr) (rec:Rec) (sp:Sl) (w x:Tr) (os:List Int) (g:zb):Prop where
 keep:Keep h0.size h0 g
 size:h0.size+7<=g.size
 v:∃sk si,Blk g h0.size (zc w.kind w.text sk si).toArray/\Rd M (.row .str) w.keys [slV sk]/\Rd M (.row .tree) w.items [slV si]
 z:Blk g (h0.size+1) (zc 0 ⟨#[]⟩ ⟨none,0,0⟩ ⟨none,0,0⟩).toArray
 o:∃so,Blk g (h0.size+2) #[slV so]/\Owns g (h0.size+7) 3 1 so (zv4 os)/\so.len=os.length
 c:∃sk si,Blk g (h0.size+3) (zc x.kind x.text sk si).toArray/\Rd M (.row .str) x.keys [slV sk]/\Rd M (.row .tree) x.items [slV si]
 p:Blk g (h0.size+4) #[slV sp]
 d:g[h0.size+5]?=some (.deferred (some []))
 l:g[h0.size+6]?=some (.loop (rec .ready none))
theorem LI.frame{rec:Rec}{w x:Tr}{os:List Int}(I:LI h0 M rec sp w x os g)(k:Keep g.size g g'):LI h0 M rec sp w x os g':=by
 have hs:=I.size
 have hk:=k.size
 obtain⟨sk,si,v1,v2,v3⟩:=I.v
 obtain⟨so,o1,o2,o3⟩:=I.o
 obtain⟨tk,ti,c1,c2,c3⟩:=I.c
 exact⟨⟨by have:=I.keep.size;omega,λi hi=>(k.get i (by omega)).trans (I.keep.get i hi)⟩,by omega,⟨sk,si,v1.ofKeep k,v2,v3⟩,I.z.ofKeep k,⟨so,o1.ofKeep k,o2.keepN k,o3⟩,⟨tk,ti,c1.ofKeep k,c2,c3⟩,I.p.ofKeep k,by rw[k.get _ (by omega)];exact I.d,by rw[k.get _ (by omega)];exact I.l⟩
theorem Yk{l i:Nat}{o:Obj}(hi:i≠l):(h.setIfInBounds l o)[i]?=h[i]?:=AH (Ne.symm hi)
theorem zpc{l:Nat}{o:Obj}(hl:l<h.size):(h.setIfInBounds l o)[l]?=some o:=Array.getElem?_setIfInBounds_self_of_lt hl
set_option maxRecDepth 100000 in
set_option maxHeartbeats 2000000 in
theorem z3f{rec:Rec}{w x:Tr}{os:List Int}(I:LI h0 M rec sp w x os h)(r:Int)(aG:os.length<1000000)(hk:Rd M (.row .str) x.keys [slV sk])(hi:Rd M (.row .tree) x.items [slV si]){K:Value->zb->Prop}
  (hK:∀h',LI h0 M rec sp x x (os++[r]) h'->K (.bool true) h'):
  zpa Tp 27 (Z1 (codeOf Tryz.f43)) [3,4] 5 (λh3=>h3[h0.size+6]?=some (.loop (rec .ready none))) (λh3=>h3.setIfInBounds (h0.size+6) (.loop (rec .busy none)))
   (λh4=>h4[h0.size+6]?=some (.loop (rec .busy none))/\K (.bool true) (h4.setIfInBounds (h0.size+6) (.loop (rec .ready none))))
   [(13,[],.int .i64 r),(14,[],.agg #[.int .i64 x.kind,.string x.text,.slice sk.a sk.len sk.cap,.slice si.a si.len si.cap]),(2,[],.pointer (some ⟨h0.size,0,none⟩)),(7,[],.pointer (some ⟨h0.size+2,0,none⟩))] h:=by
 have hs:=I.size
 obtain⟨so,o1,o2,o3⟩:=I.o
 obtain⟨vk,vi,v1,v2,v3⟩:=I.v
 obtain⟨ck,ci,c1,c2,c3⟩:=I.c
 have ae:∀p,so.a=some p->h0.size+7<=p.block/\p.block<h.size:=λp hp=>o2.base_le p hp
 refine zfc r x.kind x.text sk si ⟨h0.size,0,none⟩ ⟨h0.size+2,0,none⟩ h _ _ _ ?_
 intro ai
 have aM:ai.size=h.size+1:=Ak _
 have ay:Keep h.size h ai:=Keep.push _ _ (Ae _)
 have aF:Blk ai h.size (zc 0 ⟨#[]⟩ ⟨none,0,0⟩ ⟨none,0,0⟩).toArray:=Blk.new _ _ _
 clear_value ai
 refine qf aF rfl _ _ _ _ λar au aL aE=>?_
 have ak:∀i,i<h.size->ar[i]?=h[i]?:=λi hi=>(aE i (by omega)).trans (ay.get i hi)
 refine⟨by rw[ak _ (by omega)];exact I.l,?_⟩
 generalize hG:ar.setIfInBounds (h0.size+6) (.loop (rec .busy none))=G
 have zG:G.size=h.size+1:=by rw[<-hG,B4];omega
 have gG:∀i,i<h.size->i≠h0.size+6->G[i]?=h[i]?:=λi hi hn=>by rw[<-hG,Yk hn];exact ak i hi
 have lG:G[h0.size+6]?=some (.loop (rec .busy none)):=by rw[<-hG];exact zpc (by omega)
 have bG:Blk G h.size (zc x.kind x.text sk si).toArray:=au.keep (by rw[<-hG,Yk (by omega)])
 have oG:Blk G (h0.size+2) #[slV so]:=o1.keep (gG _ (by omega) (by omega))
 refine⟨so,oG.cell (o:=0) rfl,x.kind,x.text,sk,si,bG.ld (cs:=zc x.kind x.text sk si),?_⟩
 intro O
 have aI:O.size=h.size+2:=by show(G.push _).size=_;rw[Ak,zG]
 have aa:Keep G.size G O:=Keep.push _ _ (Ae _)
 have aC:Blk O G.size #[.int .i64 r]:=Blk.new _ _ _
 clear_value O
 refine⟨⟨aa.get _ (by show h.size<_;omega),aa.get _ (by show h0.size+2<_;omega),trivial⟩,?_⟩
 have ap:Owns O (h0.size+7) 3 1 so (zv4 os):=o2.keep λp hp=>by
  have:=ae p hp
  rw[aa.get _ (by omega),gG _ (by omega) (by omega)]
 refine Xw z7w ap (src:=⟨some ⟨G.size,0,none⟩,1,1⟩) (news:=[.int .i64 r]) (n:=O.size) ?_ rfl (by simp[Value.oneCell']) (by simp only;omega) (by simp only;omega) (by omega) λs' af q1 q2 q3 q4 q5=>⟨s',rfl,?_⟩
 ·refine .inr ⟨G.size,0,rfl,by omega,λi v hv=>?_⟩
  match i,hv with
  |0,hv=>cases hv;exact aC.cell rfl
 have aj:∀i,i<O.size->(∀p,so.a=some p->i≠p.block)->af[i]?=O[i]?:=q3
 have al:af[h.size]?=G[h.size]?:=(aj _ (by omega) λp hp=>by have:=ae p hp;omega).trans (aa.get _ (by omega))
 refine⟨⟨al,trivial⟩,?_⟩
 have Z:∀i,i<h0.size+7->i≠h0.size+6->af[i]?=h[i]?:=λi hi hn=>(aj i (by omega) λp hp=>by have:=ae p hp;omega).trans ((aa.get _ (by omega)).trans (gG i (by omega) hn))
 have aD:af[h0.size+6]?=some (.loop (rec .busy none)):=(aj _ (by omega) λp hp=>by have:=ae p hp;omega).trans ((aa.get _ (by omega)).trans lG)
 refine Q1 (vs:=[slV s']) qa5 (o1.keep (Z _ (by omega) (by omega))) rfl qa6 (by simp) (by simp[Value.oneCell',slV]) λaH an aJ ac=>?_
 have az:upd #[slV so] 0 [slV s']=#[slV s']:=by simp[upd]
 rw[az]at an
 refine⟨⟨(ac _ (by show h.size≠_;omega)).trans al,trivial⟩,?_⟩
 refine qf (v1.keep ((ac _ (by omega)).trans (Z _ (by omega) (by omega)))) rfl _ _ _ _ λam aB aN ah=>?_
 have ax:am[h0.size+6]?=some (.loop (rec .busy none)):=(ah _ (by omega)).trans ((ac _ (by omega)).trans aD)
 refine⟨ax,hK _ ?_⟩
 have low:∀i,i<h0.size+7->i≠h0.size+6->i≠h0.size->i≠h0.size+2->(am.setIfInBounds (h0.size+6) (.loop (rec .ready none)))[i]?=h[i]?:=λi hi h1 h2 h3=>(Yk h1).trans ((ah _ h2).trans ((ac _ h3).trans (Z i hi h1)))
 have aA:s'.len=so.len+1:=q1
 refine⟨⟨by rw[B4];have:=I.keep.size;omega,λi hi=>(low i (by omega) (by omega) (by omega) (by omega)).trans (I.keep.get i hi)⟩,by rw[B4];omega,⟨sk,si,aB.keep (Yk (by omega)),hk,hi⟩,I.z.keep (low _ (by omega) (by omega) (by omega) (by omega)),⟨s',an.keep ((Yk (by omega)).trans (ah _ (by omega))),?_,by rw[aA,o3];simp⟩,⟨ck,ci,c1.keep (low _ (by omega) (by omega) (by omega) (by omega)),c2,c3⟩,I.p.keep (low _ (by omega) (by omega) (by omega) (by omega)),(low _ (by omega) (by omega) (by omega) (by omega)).trans I.d,zpc (by omega)⟩
 have e:zv4 (os++[r])=zv4 os++[.int .i64 r]:=by unfold zv4;rw[Cq];rfl
 rw[e]
 refine q2.keep λp hp=>?_
 have:=q2.base_le p hp
 rw[Yk (by omega),ah _ (by omega),ac _ (by omega)]
theorem LI.setC{rec:Rec}{w x y:Tr}{os:List Int}(I:LI h0 M rec sp w x os g)(hz:g'.size=g.size)(hf:∀j,j≠h0.size+3->g'[j]?=g[j]?)(hb:Blk g' (h0.size+3) (zc y.kind y.text sk si).toArray)(hk:Rd M (.row .str) y.keys [slV sk])(hi:Rd M (.row .tree) y.items [slV si]):LI h0 M rec sp w y os g':=by
 have hs:=I.size
 obtain⟨vk,vi,v1,v2,v3⟩:=I.v
 obtain⟨so,o1,o2,o3⟩:=I.o
 refine⟨⟨by have:=I.keep.size;omega,λi hi=>(hf i (by omega)).trans (I.keep.get i hi)⟩,by omega,⟨vk,vi,v1.keep (hf _ (by omega)),v2,v3⟩,I.z.keep (hf _ (by omega)),⟨so,o1.keep (hf _ (by omega)),o2.keep λp hp=>hf _ (by have:=o2.base_le p hp;omega),o3⟩,⟨sk,si,hb,hk,hi⟩,I.p.keep (hf _ (by omega)),(hf _ (by omega)).trans I.d,(hf _ (by omega)).trans I.l⟩
theorem z3g(M:Fr)(xs:List Int):RowC M (.int .i64) xs (zv4 xs):=by
 refine⟨by simp[sz,zv4],λi hi=>?_⟩
 simp only[sz,B6]
 have O:i<(zv4 xs).length:=by unfold zv4;simpa using hi
 rw[AL O,B5,CM]
 simp only[zv4,List.getElem_map]
 rfl
theorem qa7(ag:AgM M h0)(k:Keep h0.size h0 h){base:Nat}(hb:h0.size<=base){so:Sl}{xs:List Int}(H:Owns h base 3 1 so (zv4 xs))(hl:so.len=xs.length)(hn:xs.length<=140737488355328):∃M',Later h0 M h M'/\RdV M' (.row (.int .i64)) xs (slV so):=by
 rcases Owns.blk H with⟨O,hc⟩|⟨b,cs,e1,e2,e3,e4,e5,e6⟩
 ·refine⟨M,Later.same ag k,?_⟩
  have:xs=[]:=Aw (by omega)
  subst this
  rw[zfn rfl]
  exact⟨_,rfl,so.a,so.cap,by rw[slV,O];rfl,⟨by simp,by simp⟩,.inl rfl⟩
 ·refine⟨MxL M h [b],MxL.later ag k (λx hx=>by simp at hx;omega),?_⟩
  rw[zfn rfl,slV,e1,hl]
  refine RowC.rd (cs:=cs) (z3g _ xs) (MxL.at (by simp) e3) ?_ ⟨hn,by omega⟩
  rw[<-e5,hl];rfl
set_option maxRecDepth 100000 in
set_option maxHeartbeats 800000 in
theorem z3h{gl:Fr}(hg:GL gl){v:Tr}(hv:Sm v)(ho:Y9 zy v=true){p:List Bt}(hp:SL p){R:List Int×Tr×Bool->Prop}(hR:R ((yb v p).map (λq=>(q.1:Int)),lastT v (yb v p),decide ((yb v p).length=p.length))):
  PC Tp gl 43 [Arg.mk .tree v,Arg.mk (.row .str) p] [.row (.int .i64),.tree,.bool] R:=by
 intro h M vs hM ag ha
 match vs,ha with
 |[u,w],⟨hu,hw,_⟩=>
  have hu:RdV M .tree v u:=hu
  obtain⟨sk,si,rfl,rk,ri⟩:=wq hu
  obtain⟨sp,rfl,hr⟩:=zin hw
  have hr:Rd M (.row .str) p [slV sp]:=hr
  obtain⟨aD,a6,bc⟩:=rowLen hr
  have a1:=hp.n
  apply PX.of
  obtain⟨RR,aA⟩:∃RR:Value->zb->Prop,RR=λv h'=>∃M' r,Later h M h' M'/\zak M' [.row (.int .i64),.tree,.bool] r v/\R r:=⟨_,rfl⟩
  refine XC.mono (R:=RR) ?_ (λv h' hx=>by rw[aA]at hx;exact hx)
  refine z3e (P:=Tp) Tryz.mixed (ro:=Z1 (codeOf Tryz.f43)) (n:=27) (rs:=[.tmp 4,.cell 5 25,.tmp 6]) Tryz.func43 (by kernel_rfl) (by kernel_rfl) (by kernel_rfl) (by kernel_rfl) (by kernel_rfl) (by kernel_rfl) (by decide) [.agg #[.int .i64 v.kind,.string v.text,slV sk,slV si],slV sp] (by kernel_rfl) ?_
  refine zfb v.kind v.text sk si sp h _ ?_
  intro h1 h2 h3
  have z1:h1.size=h.size+1:=Ak _
  have z2:h2.size=h1.size+1:=Ak _
  have z3:h3.size=h2.size+1:=Ak _
  have k1:Keep h.size h h1:=Keep.push _ _ (Ae _)
  have k2:Keep h1.size h1 h2:=Keep.push _ _ (Ae _)
  have k3:Keep h2.size h2 h3:=Keep.push _ _ (Ae _)
  have b1:Blk h1 h.size (zc v.kind v.text sk si).toArray:=Blk.new _ _ _
  have b2:Blk h2 h1.size (zc 0 ⟨#[]⟩ ⟨none,0,0⟩ ⟨none,0,0⟩).toArray:=Blk.new _ _ _
  have b3:Blk h3 h2.size #[slV ⟨none,0,0⟩]:=Blk.new _ _ _
  clear_value h1 h2 h3
  refine⟨v.kind,v.text,sk,si,((b1.ofKeep k2).ofKeep k3).ld (cs:=zc v.kind v.text sk si),?_⟩
  apply zhm v.kind v.text sk si sp
  intro h4 h5
  have z4:h4.size=h3.size+1:=Ak _
  have z5:h5.size=h4.size+1:=Ak _
  have k4:Keep h3.size h3 h4:=Keep.push _ _ (Ae _)
  have k5:Keep h4.size h4 h5:=Keep.push _ _ (Ae _)
  have b4:Blk h4 h3.size (zc v.kind v.text sk si).toArray:=Blk.new _ _ _
  have b5:Blk h5 h4.size #[slV sp]:=Blk.new _ _ _
  clear_value h4 h5
  have e1:h1.size=h.size+1:=z1
  have e2:h2.size=h.size+2:=by omega
  have e3:h3.size=h.size+3:=by omega
  have e4:h4.size=h.size+4:=by omega
  have e5:h5.size=h.size+5:=by omega
  refine⟨_,rfl,_,_,_,_,_,_,rfl,by kernel_rfl,?_⟩
  rw[e1,e2,e3,e4,e5,show h.size+5+1=h.size+6 from rfl]
  intro rec hY
  have K0:Keep h.size h h5:=(((k1.trans k2 (by omega)).trans k3 (by omega)).trans k4 (by omega)).trans k5 (by omega)
  obtain⟨g6,aa⟩:∃g6,(h5.push (.deferred (some []))).push (.loop (rec .ready none))=g6:=⟨_,rfl⟩
  have z6:g6.size=h.size+7:=by rw[<-aa,Ak,Ak];omega
  have k6:Keep h5.size h5 g6:=by
   rw[<-aa]
   exact(Keep.push h5 (.deferred (some [])) (Ae _)).trans (Keep.push _ _ (by rw[Ak];omega)) (Ae _)
  have I0:LI h M rec sp v v [] g6:=by
   refine⟨K0.trans k6 (by omega),by omega,⟨sk,si,(((b1.ofKeep k2).ofKeep k3).ofKeep k4 |>.ofKeep k5).ofKeep k6,rk,ri⟩,?_,⟨⟨none,0,0⟩,?_,Owns.nil _ _ _ _,rfl⟩,⟨sk,si,?_,rk,ri⟩,?_,?_,?_⟩
   ·rw[<-e1];exact((b2.ofKeep k3).ofKeep k4 |>.ofKeep k5).ofKeep k6
   ·rw[<-e2];exact((b3.ofKeep k4).ofKeep k5).ofKeep k6
   ·rw[<-e3];exact(b4.ofKeep k5).ofKeep k6
   ·rw[<-e4];exact b5.ofKeep k6
   ·rw[<-aa,BH,if_neg (by rw[Ak];omega),<-e5];exact j6 _ _
   ·rw[<-aa]
    have:=j6 (h5.push (.deferred (some []))) (.loop (rec .ready none))
    rw[Ak,e5]at this;exact this
  rw[aa]
  clear aa
  have ap:∀(w:Tr) (done:List (Nat×Tr)) (g:zb),yb v p=done->lastT v done=w->LI h M rec sp w w (done.map λq=>(q.1:Int)) g ->
    (g[h.size+6]?=some (.loop (rec .ready none))/\z7v Tp 27 (Z1 (codeOf Tryz.f43)) 6 [.tmp 4,.cell 5 25,.tmp 6] (h.size+5) RR
     [(1,[],.slice sp.a sp.len sp.cap),(2,[],.pointer (some ⟨h.size,0,none⟩)),(5,[],.pointer (some ⟨h.size+1,0,none⟩)),(7,[],.pointer (some ⟨h.size+2,0,none⟩))] (g.setIfInBounds (h.size+6) (.loop (rec .exhausted none)))):=by
   intro w done g ae aj I
   refine⟨I.l,?_⟩
   have hs:=I.size
   obtain⟨so,o1,o2,o3⟩:=I.o
   obtain⟨vk,vi,v1,v2,v3⟩:=I.v
   obtain⟨G,hG⟩:∃G,g.setIfInBounds (h.size+6) (.loop (rec .exhausted none))=G:=⟨_,rfl⟩
   have zG:G.size=g.size:=by rw[<-hG,B4]
   have gG:∀i,i≠h.size+6->G[i]?=g[i]?:=λi hi=>by rw[<-hG];exact Yk hi
   rw[hG]
   unfold z7v
   refine zfd sp ⟨h.size,0,none⟩ ⟨h.size+1,0,none⟩ ⟨h.size+2,0,none⟩ G (λh1=>h1[h.size+5]?=some (.deferred (some []))) (λh1=>h1.setIfInBounds (h.size+5) (.deferred none)) RR ?_
   have oG:Blk G (h.size+2) #[slV so]:=o1.keep (gG _ (by omega))
   refine⟨so,oG.cell (o:=0) rfl,w.kind,w.text,vk,vi,(v1.keep (gG _ (by omega))).ld (cs:=zc w.kind w.text vk vi),so,oG.cell (o:=0) rfl,?_⟩
   refine qf (I.z.keep (gG _ (by omega))) rfl _ _ _ _ λaH aZ be af=>?_
   refine⟨⟨af _ (by show h.size+2≠_;omega),trivial⟩,(af _ (by omega)).trans ((gG _ (by omega)).trans I.d),w.kind,w.text,vk,vi,(aZ.keep (Yk (by omega))).ld (cs:=zc w.kind w.text vk vi),?_⟩
   have KF:Keep h.size h (aH.setIfInBounds (h.size+5) (.deferred none)):=⟨by rw[B4];have:=I.keep.size;omega,λi hi=>by rw[Yk (by omega),af _ (by omega),gG _ (by omega)];exact I.keep.get i hi⟩
   have OF:Owns (aH.setIfInBounds (h.size+5) (.deferred none)) (h.size+7) 3 1 so (zv4 (done.map λq=>(q.1:Int))):=o2.keep λq hq=>by
    have:=o2.base_le q hq
    rw[Yk (by omega),af _ (by omega),gG _ (by omega)]
   have ah:=zko v p
   rw[ae]at ah
   obtain⟨M',L',aO⟩:=qa7 ag KF (by omega) OF o3 (by rw[Bv];omega)
   rw[aA]
   refine⟨M',(done.map (λq=>(q.1:Int)),w,decide (done.length=p.length)),L',⟨[slV so,.agg #[.int .i64 w.kind,.string w.text,slV vk,slV vi],.bool (decide (done.length=p.length))],⟨_,_,rfl,aO,_,_,rfl,yh (Rd.mono L'.le v2) (Rd.mono L'.le v3),_,rfl,rdBool _⟩,?_⟩,?_⟩
   ·have aP:(((so.len:Nat):Int)==((sp.len:Nat):Int))=decide (done.length=p.length):=by
     rw[o3,aD,Bv,AJ];simp;omega
    rw[aP];rfl
   ·rw[ae,aj]at hR;exact hR
  show XCI Tp 116 #[.func (.yield (h.size+6)) #[] #[],.pointer (some ⟨h.size+4,0,none⟩),.pointer (some ⟨h.size+3,0,none⟩)] g6 _
  refine zeb (h.size+6) ⟨h.size+4,0,none⟩ ⟨h.size+3,0,none⟩ g6 _ ?_
  refine⟨sp,I0.p.cell (o:=0) rfl,λi g=>∃(k:Nat) (w:Tr) (done:List (Nat×Tr)),i=k/\k<=p.length/\Sm w/\Y9 zy w=true/\done.length=k/\yb v p=done++yb w (p.drop k)/\lastT v done=w/\LI h M rec sp w w (done.map λq=>(q.1:Int)) g,λi _=>p.length-i.toNat,⟨0,v,[],rfl,by omega,hv,ho,rfl,by simp,rfl,I0⟩,?_⟩
  rintro i g ⟨k,w,done,rfl,hk,hw,au,ah,Z,an,I⟩
  refine⟨λhc=>?_,λhc=>?_⟩
  ·have O:k<p.length:=by simp at hc;omega
   have agg:AgM M g:=ag.keep I.keep
   refine zio agg hr O rfl rfl ?_
   obtain⟨ck,ci,c1,c2,c3⟩:=I.c
   refine⟨w.kind,w.text,ck,ci,c1.ld (cs:=zc w.kind w.text ck ci),?_⟩
   have aV:=hp.s _ (Ay O)
   have aM:PC Tp gl 117 [Arg.mk .tree w,Arg.mk .str p[k]] [.int .i64] (λr=>r=qo w p[k]):=z7q hg aV rfl
   refine aM.go (vs:=[.agg #[.int .i64 w.kind,.string w.text,slV ck,slV ci],.string p[k]]) hM agg (yj (yh c2 c3) (yj (rdStr _) wm)) λq aE ba r aJ ar ai=>?_
   have ai:r=qo w p[k]:=ai
   subst ai
   have al:=I.frame aJ.keep
   have ac:p.drop k=p[k]::p.drop (k+1):=AL O
   refine⟨qo w p[k],qbu ar,λaG=>?_,λay=>?_⟩
   ·have am:qo w p[k]<0:=by simpa using aG
    rw[ac,zhl am,Ba]at Z
    exact ap w done aE Z an al
   ·have aN:¬qo w p[k]<0:=by simpa using ay
    obtain⟨j,hj,ak⟩:∃j:Nat,qo w p[k]=j/\j<w.items.length:=by
     rcases zc3 (y5 au) p[k]with e|e
     ·omega
     ·exact e
    have ax:=c1.ofKeep aJ.keep
    have aC:AgM M aE:=ag.keep al.keep
    obtain⟨a8,_,_⟩:=rowLen c3
    obtain⟨a,xk,xi,ea,aY,az,aF⟩:=zok aC c3 ak
    have hm:w.items[j]∈w.items:=Ay ak
    rw[hj]
    refine⟨ci,ax.cellAdd (o:=0) (k:=3) rfl,a,⟨ea,by omega,by omega⟩,w.items[j].kind,w.items[j].text,xk,xi,by rw[Ah];exact aY,?_⟩
    refine qf ax rfl _ _ _ _ λaB aI aQ aS=>?_
    have aL:LI h M rec sp w w.items[j] (done.map λq=>(q.1:Int)) aB:=al.setC aQ aS aI az aF
    refine⟨w.items[j].kind,w.items[j].text,xk,xi,aI.ld (cs:=zc w.items[j].kind w.items[j].text xk xi),?_⟩
    have key:∀K:Value->zb->Prop,(∀h',LI h M rec sp w.items[j] w.items[j] ((done.map λq=>(q.1:Int))++[(j:Int)]) h'->K (.bool true) h')->YX Tp (h.size+6) #[.int .i64 (j:Int),.agg #[.int .i64 w.items[j].kind,.string w.items[j].text,.slice xk.a xk.len xk.cap,.slice xi.a xi.len xi.cap]] aB K:=λK hK=>
     @hY _ _ _ K aL.l (z3f (K:=K) aL (j:Int) (by rw[Bv];omega) az aF hK)
    refine key _ λa7 aU=>⟨true,rfl,λhx=>(by cases hx),λ_=>?_⟩
    have aT:=Zz O (by omega)
    rw[aT]
    refine⟨⟨k+1,w.items[j],done++[(j,w.items[j])],rfl,by omega,hw.item hm,y0 au hm,by simp[ah],?_,by unfold lastT;simp,by rw[Cq];exact aU⟩,by simp only[Ah];omega⟩
    rw[Z,ac,X8 hj ak];simp
  ·have O:k=p.length:=by simp at hc;omega
   subst O
   rw[C4]at Z
   have:yb w []=[]:=by simp[yb]
   rw[this,Ba]at Z
   exact ap w done g Z an I
end
section
variable {gl:Fr} {v:Tr}
theorem zzu(hg:GL gl)(hv:Sm v)(ho:ye v=true){R:Tr->Prop}(hR:R v):PC Tp gl 32 [Arg.mk .tree v] [.tree] R:=by
 intro h M vs hM ag ha
 match vs,ha with
 |[u],⟨hu,_⟩=>
  have hu:RdV M .tree v u:=hu
  have ac:=hu
  obtain⟨sk,si,rfl,rk,ri⟩:=wq hu
  apply PX.of
  apply zc5 v.kind v.text sk si
  intro h1 h2
  have z1:h1.size=h.size+1:=Ak _
  have z2:h2.size=h1.size+1:=Ak _
  have k1:Keep h.size h h1:=Keep.push _ _ (Ae _)
  have k2:Keep h1.size h1 h2:=Keep.push _ _ (Ae _)
  have b1:Blk h1 h.size (zc v.kind v.text sk si).toArray:=Blk.new _ _ _
  have b2:Blk h2 h1.size (zc 0 ⟨#[]⟩ ⟨none,0,0⟩ ⟨none,0,0⟩).toArray:=Blk.new _ _ _
  clear_value h1 h2
  have K2:Keep h.size h h2:=k1.trans k2 (by omega)
  have ae:=ag.keep K2
  refine⟨v.kind,v.text,sk,si,(b1.ofKeep k2).ld (cs:=zc v.kind v.text sk si),?_⟩
  have O:PC Tp gl 42 [Arg.mk .tree v] [.bool] (λr=>r=ye v):=zd9 hg hv rfl
  refine O.go (vs:=[.agg #[.int .i64 v.kind,.string v.text,slV sk,slV si]]) hM ae (yj ac wm) λw h3 M3 r L3 Z hr=>?_
  have hr:r=ye v:=hr
  refine⟨r,zdd Z,λhx=>?_,λhx=>?_⟩
  ·rw[hr,ho]at hx;cases hx
  ·refine⟨v.kind,v.text,sk,si,((b1.ofKeep k2).ofKeep L3.keep).ld (cs:=zc v.kind v.text sk si),?_⟩
   have K3:Keep h.size h h3:=K2.trans L3.keep (by have:=K2.size;omega)
   refine(zmn (tsz v) v (Ae _) hv (ag.keep K3) ac).mono ?_
   rintro w' h4 ⟨k4,bs,ck,ci,rfl,ot,aa⟩
   have z3:=L3.keep.size
   have z4:=k4.size
   refine⟨v.kind,v.text,ck,ci,rfl,?_⟩
   refine qf (((b2.ofKeep L3.keep).ofKeep k4)) rfl _ _ _ _ λh5 b5 z5 f5=>?_
   have K5:Keep h.size h h5:=⟨by have:=K3.size;omega,λi hi=>by rw[f5 i (by omega),k4.get i (by have:=K3.size;omega)];exact K3.get i hi⟩
   have af:=ot.frame λb hb=>f5 b (by have:=aa b hb;omega)
   have ah:=K3.size
   exact⟨v.kind,v.text,ck,ci,b5.ld (cs:=zc v.kind v.text ck ci),MxL M h5 bs,v,MxL.later ag K5 (λb hb=>by have:=aa b hb;omega),zcn.2 af.rdv,hR⟩
theorem zks{v x:Tr}(h:Wd v=true)(hx:x∈v.items):Wd x=true:=by
 unfold Wd at h ⊢
 simp at h ⊢
 have h1:=wn hx
 have h2:tdp x<=zhg v.items:=by
  have O:∀l:List Tr,x∈l->tdp x<=zhg l:=by
   intro l
   induction l with
   |nil=>intro hm;cases hm
   |cons y l ih=>
    intro hm
    rw[zhg]
    rcases Ad.1 hm with rfl|hm
    ·omega
    ·have:=ih hm;omega
  exact O _ hx
 have h3:=zyp v
 omega
theorem zzv{v x:Tr}(h:ye v=true)(hx:x∈v.items):ye x=true:=by
 unfold ye at h ⊢
 rw[AI]at h ⊢
 exact⟨zks h.1 hx,y0 h.2 hx⟩
theorem ztm(h:ye v=true):Y9 zy v=true:=by unfold ye at h;rw[AI]at h;exact h.2
theorem zzw(n:Nat):∀(v:Tr) (p:List Bt),p.length<=n->ye v=true->Sm v->ye (lastT v (yb v p))=true/\Sm (lastT v (yb v p)):=by
 induction n with
 |zero=>
  intro v p hp ho hs
  have:p=[]:=Aw (by omega)
  subst this
  exact⟨ho,hs⟩
 |succ n ih=>
  intro v p hp ho hs
  match p with
  |[]=>exact⟨ho,hs⟩
  |s::p=>
   rcases zc3 (y5 (ztm ho)) s with e|⟨k,e,hk⟩
   ·rw[zhl (by omega)];exact⟨ho,hs⟩
   ·rw[X8 e hk,zkn]
    have hm:=Ay hk
    exact ih v.items[k] p (by simpa using hp) (zzv ho hm) (hs.item hm)
theorem z7x(hg:GL gl)(hv:Sm v){p:List Bt}(hp:SL p){R:Tr×Bool->Prop}(hR:R (z7i v p)):PC Tp gl 20 [Arg.mk .tree v,Arg.mk (.row .str) p] [.tree,.bool] R:=by
 apply zg3
 rw[y8]
 unfold z7i at hR
 refine zd9 hg hv ⟨λb=>b=jc p,λ_=>zfy hg hp rfl,λb hb=>?_⟩
 cases ho:ye v with
 |false=>
  rw[ho]at hR
  exact⟨λ_=>hR,λhx=>by cases hx⟩
 |true=>
  have O:b=jc p:=hb (by rw[ho];rfl)
  subst O
  cases hr:jc p with
  |false=>
   rw[ho,hr]at hR
   exact⟨λ_=>hR,λhx=>by cases hx⟩
  |true=>
   rw[ho,hr,EG,if_pos rfl]at hR
   refine⟨λhx=>(by cases hx),λ_=>?_⟩
   refine z3h hg hv (ztm ho) hp ⟨λhx=>?_,λhx=>?_⟩
   ·have:qz v p=none:=by unfold qz;rw[if_neg (by simpa using hx)]
    rw[this]at hR;exact hR
   ·have:qz v p=some (lastT v (yb v p)):=by unfold qz;rw[if_pos (by simpa using hx)]
    rw[this]at hR
    obtain⟨h1,h2⟩:=zzw p.length v p (Ae _) ho hv
    rw[y8]
    refine zzu hg h2 h1 ?_
    rw[show Tr.mk (lastT v (yb v p)).kind (lastT v (yb v p)).text (lastT v (yb v p)).keys (lastT v (yb v p)).items=lastT v (yb v p)from y8 _]
    exact hR
end
section
theorem zht{gl:Fr}(hg:GL gl){v:Tr}(hv:Sm v)(ho:ye v=true){h:zb}{M:Fr}{u:Value}(hM:Fr.le gl M)(ag:AgM M h)(hu:RdV M .tree v u){K:Value->zb->Prop}
  (hK:∀(h':zb) (bs:List Nat) (sk si:Sl),Keep h.size h h'->OT h' v bs (zc v.kind v.text sk si)->(∀b∈bs,h.size<=b)->K (.agg #[.int .i64 v.kind,.string v.text,slV sk,slV si]) h'):XC Tp 32 #[u] h K:=by
 have ac:=hu
 obtain⟨sk,si,rfl,rk,ri⟩:=wq hu
 apply zc5 v.kind v.text sk si
 intro h1 h2
 have z1:h1.size=h.size+1:=Ak _
 have z2:h2.size=h1.size+1:=Ak _
 have k1:Keep h.size h h1:=Keep.push _ _ (Ae _)
 have k2:Keep h1.size h1 h2:=Keep.push _ _ (Ae _)
 have b1:Blk h1 h.size (zc v.kind v.text sk si).toArray:=Blk.new _ _ _
 have b2:Blk h2 h1.size (zc 0 ⟨#[]⟩ ⟨none,0,0⟩ ⟨none,0,0⟩).toArray:=Blk.new _ _ _
 clear_value h1 h2
 have K2:Keep h.size h h2:=k1.trans k2 (by omega)
 have ae:=ag.keep K2
 refine⟨v.kind,v.text,sk,si,(b1.ofKeep k2).ld (cs:=zc v.kind v.text sk si),?_⟩
 have O:PC Tp gl 42 [Arg.mk .tree v] [.bool] (λr=>r=ye v):=zd9 hg hv rfl
 refine O.go (vs:=[.agg #[.int .i64 v.kind,.string v.text,slV sk,slV si]]) hM ae (yj ac wm) λw h3 M3 r L3 Z hr=>?_
 have hr:r=ye v:=hr
 refine⟨r,zdd Z,λhx=>?_,λhx=>?_⟩
 ·rw[hr,ho]at hx;cases hx
 ·refine⟨v.kind,v.text,sk,si,((b1.ofKeep k2).ofKeep L3.keep).ld (cs:=zc v.kind v.text sk si),?_⟩
  have K3:Keep h.size h h3:=K2.trans L3.keep (by have:=K2.size;omega)
  refine(zmn (tsz v) v (Ae _) hv (ag.keep K3) ac).mono ?_
  rintro w' h4 ⟨k4,bs,ck,ci,rfl,ot,aa⟩
  have z3:=L3.keep.size
  have z4:=k4.size
  refine⟨v.kind,v.text,ck,ci,rfl,?_⟩
  refine qf (((b2.ofKeep L3.keep).ofKeep k4)) rfl _ _ _ _ λh5 b5 z5 f5=>?_
  have K5:Keep h.size h h5:=⟨by have:=K3.size;omega,λi hi=>by rw[f5 i (by omega),k4.get i (by have:=K3.size;omega)];exact K3.get i hi⟩
  have af:=ot.frame λb hb=>f5 b (by have:=aa b hb;omega)
  have ah:=K3.size
  exact⟨v.kind,v.text,ck,ci,b5.ld (cs:=zc v.kind v.text ck ci),hK h5 bs ck ci K5 af λb hb=>by have:=aa b hb;omega⟩
theorem OT.zero(h:zb):OT h zT [] (zc 0 ⟨#[]⟩ ⟨none,0,0⟩ ⟨none,0,0⟩):=
 OT.mk (k:=0) (s:=⟨#[]⟩) (ks:=[]) (xs:=[]) (sk:=⟨none,0,0⟩) (si:=⟨none,0,0⟩) (bk:=[]) (bb:=[]) (b:=0) (cs:=#[]) (bf:=λ_=>[]) ⟨rfl,by simp,by simp,.inl ⟨rfl,rfl,rfl⟩⟩ ⟨rfl,by simp,by simp⟩ (.inl ⟨rfl,rfl,rfl⟩) (λi hi=>absurd hi (by simp)) (by simp)
end
end Go.X
end
section
namespace Go.X
open Go Go.RowKit
section
variable {h h':zb} {v:Tr} {sk si si' sk':Sl} {bk bb bk' D:List Nat} {b n i k rb:Nat} {cs cs':Array Value} {c cw:List Value} {α:Type} {ks':List Bt}
structure OTp (h:zb) (v:Tr) (sk si:Sl) (bk bb:List Nat) (b:Nat) (cs:Array Value) (bf:Nat->List Nat):Prop where
 keys:OKeys h v.keys bk sk
 hn:si.len=v.items.length/\v.items.length<=140737488355328/\v.items.length<=si.cap
 hz:(v.items=[]/\bb=[]/\si.cap=0)\/(bb=[b]/\si.a=some ⟨b,0,none⟩/\Blk h b cs/\si.cap*4<=cs.size)
 hi:∀i (hx:i<v.items.length),OT h v.items[i] (bf i) (cut cs (i*4) 4)
 nk:bk.Nodup
 d1:∀c∈bk,c∉bb
 d2:∀c∈bk,∀i,i<v.items.length->c∉bf i
 d3:∀c∈bb,∀i,i<v.items.length->c∉bf i
 d4:∀i j,i<v.items.length->j<v.items.length->i≠j->∀c∈bf i,c∉bf j
def zi(v:Tr)(sk si:Sl):List Value:=[.int .i64 v.kind,.string v.text,slV sk,slV si]
theorem OTp.ot{bf:Nat->List Nat}(H:OTp h v sk si bk bb b cs bf):OT h v (bk++(bb++(BE v.items.length).flatMap bf)) (zi v sk si):=by
 obtain⟨k,s,ks,xs⟩:=v
 refine OT.mk (b:=b) (cs:=cs) H.keys H.hn H.hz H.hi ?_
 rw[A6]
 refine⟨H.nk,?_,λx hx y hy e=>?_⟩
 ·rw[A6]
  refine⟨?_,zmi.2 ⟨λi hi=>(H.hi i hi).nodup,λi j O hj x hx y hy e=>?_⟩,λx hx y hy e=>?_⟩
  ·rcases H.hz with⟨_,e,_⟩|⟨e,_⟩
   ·rw[e];exact Ek
   ·rw[e];simp
  ·subst e;exact H.d4 i j (Nat.lt_trans O hj) hj (by omega) x hx hy
  ·subst e
   obtain⟨i,hi,hy⟩:=Bp.1 hy
   exact H.d3 x hx i (by simpa using hi) hy
 ·subst e
  rcases An.1 hy with hy|hy
  ·exact H.d1 x hx hy
  ·obtain⟨i,hi,hy⟩:=Bp.1 hy
   exact H.d2 x hx i (by simpa using hi) hy
theorem OT.p{bs:List Nat}{cells:List Value}(H:OT h v bs cells):∃(sk si:Sl) (bk bb:List Nat) (b:Nat) (cs:Array Value) (bf:Nat->List Nat),cells=zi v sk si/\OTp h v sk si bk bb b cs bf/\bs=bk++(bb++(BE v.items.length).flatMap bf):=by
 cases H with
 | @mk kd s ks xs sk si bk bb b cs bf hk hn hz hi hd=>
  rw[A6]at hd
  obtain⟨ah,Z,aa⟩:=hd
  rw[A6]at Z
  obtain⟨ai,ac,af⟩:=Z
  have nf:=zmi.1 ac
  refine⟨sk,si,bk,bb,b,cs,bf,rfl,⟨hk,hn,hz,hi,ah,λc hc hm=>aa c hc c (Ao _ hm) rfl,λc hc i hi hm=>aa c hc c (AB _ (Bp.2 ⟨i,by simpa using hi,hm⟩)) rfl,λc hc i hi hm=>af c hc c (Bp.2 ⟨i,by simpa using hi,hm⟩) rfl,λi j hi hj ae c hc hm=>?_⟩,rfl⟩
  rcases Nat.lt_or_gt_of_ne ae with O|O
  ·exact nf.2 i j O hj c hc c hm rfl
  ·exact nf.2 j i O hi c hm c hc rfl
theorem ja{bf:Nat->List Nat}{n c:Nat}:c∈bk++(bb++(BE n).flatMap bf)↔c∈bk\/c∈bb\/∃i,i<n/\c∈bf i:=by
 simp only[An,Bp,BX]
theorem X9(h:i+4<=n):cut cs i 4=((cut cs 0 n).drop i).take 4:=by
 unfold cut
 rw[A2,Ep,Er,CP (by omega)]
def z7y(v:Tr)(k:Nat)(w:Tr):Tr:=.mk v.kind v.text v.keys (v.items.take k++w::v.items.drop k)
theorem z7z{xs:List α}{w:α}(hk:k<=xs.length)(h:i<(xs.take k++w::xs.drop k).length):
  (i<k/\∃h':i<xs.length,(xs.take k++w::xs.drop k)[i]=xs[i])\/(i=k/\(xs.take k++w::xs.drop k)[i]=w)\/(k<i/\∃h':i-1<xs.length,(xs.take k++w::xs.drop k)[i]=xs[i-1]):=by
 have hl:(xs.take k).length=k:=by rw[AY];omega
 simp only[Ar,Av,hl,AX]at h
 rcases Nat.lt_trichotomy i k with h1|h1|h1
 ·refine .inl ⟨h1,by omega,?_⟩
  rw[Dj (by rw[hl];exact h1),List.getElem_take]
 ·refine .inr (.inl ⟨h1,?_⟩)
  subst h1
  rw[CG (by rw[hl];exact Ae _)]
  simp[hl]
 ·refine .inr (.inr ⟨h1,by omega,?_⟩)
  rw[CG (by rw[hl];omega)]
  simp only[hl]
  have e:i-k=(i-1-k)+1:=by omega
  simp only[e,List.getElem_cons_succ,List.getElem_drop]
  congr 1;omega
theorem z8a(hc:c.length=n*4)(hw:cw.length=4)(hk:k<=n):
  (∀i,i<k->((c.take (k*4)++cw++c.drop (k*4)).drop (i*4)).take 4=(c.drop (i*4)).take 4)/\((c.take (k*4)++cw++c.drop (k*4)).drop (k*4)).take 4=cw/\∀i,k<i->((c.take (k*4)++cw++c.drop (k*4)).drop (i*4)).take 4=(c.drop ((i-1)*4)).take 4:=by
 have hl:(c.take (k*4)).length=k*4:=by rw[AY];omega
 refine⟨λi hi=>?_,?_,λi hi=>?_⟩
 ·apply AZ
  intro j
  rw[AC,AC]
  split
  ·rw[AE,AE,AQ,Bg (by rw[hl];omega),AC,if_pos (by omega)]
  ·rfl
 ·rw[AQ,List.drop_append,A7 (by rw[hl];exact Ae _),BJ,hl,Nat.sub_self,A2,List.take_append,hw,Nat.sub_self,CM,Ba,Be (by omega)]
 ·rw[List.drop_append,A7 (by rw[Ar,hl,hw];omega),BJ,Ar,hl,hw,Ce]
  congr 2;omega
theorem OTp.ins{bf:Nat->List Nat}(H:OTp h v sk si bk bb b cs bf)(hk:k<=v.items.length){w:Tr}{bw:List Nat}(ow:OT h' w bw cw)
  (hf:∀i,i<v.items.length->∀c∈bf i,h'[c]?=h[c]?) {b':Nat} (e1:si'.a=some ⟨b',0,none⟩) (e2:Blk h' b' cs') (e3:si'.len=v.items.length+1) (e4:v.items.length+1<=si'.cap) (e5:si'.cap*4<=cs'.size) (e6:v.items.length+1<=140737488355328)
  (e7:cut cs' 0 ((v.items.length+1)*4)=(cut cs 0 (v.items.length*4)).take (k*4)++cw++(cut cs 0 (v.items.length*4)).drop (k*4)) (am:∀i,i<v.items.length->b'∉bf i) (an:b'∉bw) (hw:∀c∈bw,∀i,i<v.items.length->c∉bf i) (ok:OKeys h' ks' bk' sk') (nk:bk'.Nodup) (ak:b'∉bk') (ah:∀c∈bk',∀i,i<v.items.length->c∉bf i) (al:∀c∈bk',c∉bw):
  OTp h' (.mk v.kind v.text ks' (v.items.take k++w::v.items.drop k)) sk' si' bk' [b'] b' cs' (λi=>if i<k then bf i else if i=k then bw else bf (i-1)):=by
 have O:(v.items.take k++w::v.items.drop k).length=v.items.length+1:=by simp;omega
 have af:∀i (hx:i<v.items.length),(cut cs 0 (v.items.length*4)).length=v.items.length*4:=by
  intro i hx
  rcases H.hz with⟨h0,_⟩|⟨_,_,_,ap⟩
  ·rw[h0]at hx;simp at hx
  ·unfold cut;simp;have:=H.hn.2.2;omega
 have ae:(cut cs 0 (v.items.length*4)).length=v.items.length*4:=by
  by_cases h0:0<v.items.length
  ·exact af 0 h0
  ·have:v.items.length=0:=by omega
   rw[this];unfold cut;simp
 have aj:cw.length=4:=ow.len
 obtain⟨c1,c2,c3⟩:=z8a ae aj hk
 have aa:∀i,i<v.items.length+1->∀c,c∈(if i<k then bf i else if i=k then bw else bf (i-1))->(∃j,j<v.items.length/\c∈bf j)\/c∈bw:=by
  intro i hi c hc
  split at hc
  ·exact .inl ⟨i,by omega,hc⟩
  ·split at hc
   ·exact .inr hc
   ·exact .inl ⟨i-1,by omega,hc⟩
 refine⟨ok,⟨by show si'.len=(v.items.take k++w::v.items.drop k).length;rw[O];exact e3,by show(v.items.take k++w::v.items.drop k).length<=_;rw[O];exact e6,by show(v.items.take k++w::v.items.drop k).length<=_;rw[O];exact e4⟩,.inr ⟨rfl,e1,e2,e5⟩,λi hx=>?_,nk,λc hc hm=>?_,λc hc i hi hm=>?_,λc hc i hi hm=>?_,λi j hi hj ai c hc hm=>?_⟩
 ·have ac:i<(v.items.take k++w::v.items.drop k).length:=hx
  have au:i<v.items.length+1:=by rw[<-O];exact ac
  rw[X9 (n:=(v.items.length+1)*4) (by omega),e7]
  show OT h' (v.items.take k++w::v.items.drop k)[i] _ _
  rcases z7z hk ac with⟨hi,h2,e⟩|⟨hi,e⟩|⟨hi,h2,e⟩
  ·rw[e,if_pos hi,c1 i hi,<-X9 (by omega)]
   exact(H.hi i h2).frame (hf i h2)
  ·subst hi
   rw[e,if_neg (by omega),if_pos rfl,c2];exact ow
  ·rw[e,if_neg (by omega),if_neg (by omega),c3 i hi,<-X9 (by omega)]
   exact(H.hi (i-1) h2).frame (hf (i-1) h2)
 ·simp at hm;subst hm;exact ak hc
 ·have Z:i<v.items.length+1:=by rw[<-O];exact hi
  rcases aa i Z c hm with⟨j,hj,hm⟩|hm
  ·exact ah c hc j hj hm
  ·exact al c hc hm
 ·have Z:i<v.items.length+1:=by rw[<-O];exact hi
  simp at hc;subst hc
  rcases aa i Z c hm with⟨j,hj,hm⟩|hm
  ·exact am j hj hm
  ·exact an hm
 ·have Z:i<v.items.length+1:=by rw[<-O];exact hi
  have ar:j<v.items.length+1:=by rw[<-O];exact hj
  try simp only at hc hm
  split at hc
  ·split at hm
   ·exact H.d4 i j (by omega) (by omega) ai c hc hm
   ·split at hm
    ·exact hw c hm i (by omega) hc
    ·exact H.d4 i (j-1) (by omega) (by omega) (by omega) c hc hm
  ·split at hc
   ·split at hm
    ·exact hw c hc j (by omega) hm
    ·split at hm
     ·omega
     ·exact hw c hc (j-1) (by omega) hm
   ·split at hm
    ·exact H.d4 (i-1) j (by omega) (by omega) (by omega) c hc hm
    ·split at hm
     ·exact hw c hm (i-1) (by omega) hc
     ·exact H.d4 (i-1) (j-1) (by omega) (by omega) (by omega) c hc hm
theorem z8b{xs:List α}(hk:k<xs.length)(h:i<(xs.take k++xs.drop (k+1)).length):
  (i<k/\∃h':i<xs.length,(xs.take k++xs.drop (k+1))[i]=xs[i])\/(k<=i/\∃h':i+1<xs.length,(xs.take k++xs.drop (k+1))[i]=xs[i+1]):=by
 have hl:(xs.take k).length=k:=by rw[AY];omega
 simp only[Ar,hl,AX]at h
 rcases AR i k with h1|h1
 ·refine .inl ⟨h1,by omega,?_⟩
  rw[Dj (by rw[hl];exact h1),List.getElem_take]
 ·refine .inr ⟨h1,by omega,?_⟩
  rw[CG (by rw[hl];omega)]
  simp only[hl,List.getElem_drop]
  congr 1;omega
theorem z8c(hc:c.length=n*4)(hk:k<n):
  (∀i,i<k->((c.take (k*4)++c.drop ((k+1)*4)).drop (i*4)).take 4=(c.drop (i*4)).take 4)/\∀i,k<=i->((c.take (k*4)++c.drop ((k+1)*4)).drop (i*4)).take 4=(c.drop ((i+1)*4)).take 4:=by
 have hl:(c.take (k*4)).length=k*4:=by rw[AY];omega
 refine⟨λi hi=>?_,λi hi=>?_⟩
 ·apply AZ
  intro j
  rw[AC,AC]
  split
  ·rw[AE,AE,Bg (by rw[hl];omega),AC,if_pos (by omega)]
  ·rfl
 ·rw[List.drop_append,A7 (by rw[hl];omega),BJ,hl,Ce]
  congr 2;omega
theorem OTp.del{bf:Nat->List Nat}(H:OTp h v sk si bk bb b cs bf)(hk:k<v.items.length)
  (hf:∀i,i<v.items.length->∀c∈bf i,h'[c]?=h[c]?) (e1:si'.a=si.a) (e2:Blk h' b cs') (e3:si'.len+1=v.items.length) (e4:si'.cap=si.cap) (e5:cs'.size=cs.size)
  (e7:cut cs' 0 ((v.items.length-1)*4)=(cut cs 0 (v.items.length*4)).take (k*4)++(cut cs 0 (v.items.length*4)).drop ((k+1)*4)) (ok:OKeys h' ks' bk' sk') (Z:∀c∈bk',c∈bk) (nk:bk'.Nodup):
  OTp h' (.mk v.kind v.text ks' (v.items.take k++v.items.drop (k+1))) sk' si' bk' [b] b cs' (λi=>if i<k then bf i else bf (i+1)):=by
 have O:(v.items.take k++v.items.drop (k+1)).length=v.items.length-1:=by simp;omega
 rcases H.hz with⟨h0,_⟩|⟨ai,ha,hb,ah⟩
 ·rw[h0]at hk;simp at hk
 obtain⟨n1,n2,n3⟩:=H.hn
 have af:(cut cs 0 (v.items.length*4)).length=v.items.length*4:=by unfold cut;simp;omega
 obtain⟨c1,c2⟩:=z8c af hk
 have aa:b∈bb:=by rw[ai];simp
 refine⟨ok,⟨by show si'.len=(v.items.take k++v.items.drop (k+1)).length;rw[O];omega,by show(v.items.take k++v.items.drop (k+1)).length<=_;rw[O];omega,by show(v.items.take k++v.items.drop (k+1)).length<=_;rw[O];omega⟩,.inr ⟨rfl,by rw[e1];exact ha,e2,by rw[e4,e5];exact ah⟩,λi hx=>?_,nk,λc hc hm=>?_,λc hc i hi hm=>?_,λc hc i hi hm=>?_,λi j hi hj aj c hc hm=>?_⟩
 ·have ac:i<(v.items.take k++v.items.drop (k+1)).length:=hx
  have al:i<v.items.length-1:=by rw[<-O];exact ac
  rw[X9 (n:=(v.items.length-1)*4) (by omega),e7]
  show OT h' (v.items.take k++v.items.drop (k+1))[i] _ _
  rcases z8b hk ac with⟨hi,h2,e⟩|⟨hi,h2,e⟩
  ·rw[e,if_pos hi,c1 i hi,<-X9 (by omega)]
   exact(H.hi i h2).frame (hf i h2)
  ·rw[e,if_neg (by omega),c2 i hi,<-X9 (by omega)]
   exact(H.hi (i+1) h2).frame (hf (i+1) h2)
 ·simp at hm;subst hm;exact H.d1 c (Z c hc) aa
 ·have ae:i<v.items.length-1:=by rw[<-O];exact hi
  try simp only at hm
  split at hm
  ·exact H.d2 c (Z c hc) i (by omega) hm
  ·exact H.d2 c (Z c hc) (i+1) (by omega) hm
 ·have ae:i<v.items.length-1:=by rw[<-O];exact hi
  simp at hc;subst hc
  try simp only at hm
  split at hm
  ·exact H.d3 c aa i (by omega) hm
  ·exact H.d3 c aa (i+1) (by omega) hm
 ·have ae:i<v.items.length-1:=by rw[<-O];exact hi
  have ak:j<v.items.length-1:=by rw[<-O];exact hj
  try simp only at hc hm
  split at hc
  ·split at hm
   ·exact H.d4 i j (by omega) (by omega) aj c hc hm
   ·exact H.d4 i (j+1) (by omega) (by omega) (by omega) c hc hm
  ·split at hm
   ·exact H.d4 (i+1) j (by omega) (by omega) (by omega) c hc hm
   ·exact H.d4 (i+1) (j+1) (by omega) (by omega) (by omega) c hc hm
structure Doc (h:zb) (rb:Nat) (v:Tr) (D:List Nat):Prop where
 ex:∃cs:Array Value,Blk h rb cs/\cs.size=4/\OT h v D cs.toList
 no:rb∉D
def Plc(h:zb)(D:List Nat)(rb:Nat)(p:Addr)(x:Tr)(T:Tr->Tr):Prop:=
 ∃(b o:Nat) (cs:Array Value) (bx:List Nat),p=⟨b,o,none⟩/\Blk h b cs/\o+4<=cs.size/\OT h x bx (cut cs o 4)/\b∉bx/\(b=rb\/b∈D)/\(∀c∈bx,c∈D)/\rb∉D/\(∀c∈D,c<h.size) /\
  ∀(h':zb) (x':Tr) (cells':List Value) (b':List Nat),(∀c,c≠b->c∉bx->(c=rb\/c∈D)->h'[c]?=h[c]?)->Blk h' b (upd cs o cells')->OT h' x' b' cells'->(∀c∈b',c∈bx\/(c≠rb/\c∉D)) ->
   ∃D',Doc h' rb (T x') D'/\∀c∈D',c∈D\/c∈b'
theorem Doc.plc(H:Doc h rb v D):Plc h D rb ⟨rb,0,none⟩ v id:=by
 obtain⟨⟨cs,hb,ae,ot⟩,O⟩:=H
 have Z:cut cs 0 4=cs.toList:=by unfold cut;rw[A2,Be (by simp;omega)]
 refine⟨rb,0,cs,D,rfl,hb,by omega,by rw[Z];exact ot,O,.inl rfl,λc hc=>hc,O,ot.lt,λh' x' cells' b' hf aa ho ac=>?_⟩
 have hl:=ho.len
 have hu:upd cs 0 cells'=cells'.toArray:=by
  unfold upd
  rw[CM,A7 (by simp;omega)];simp
 rw[hu]at aa
 refine⟨b',⟨⟨cells'.toArray,aa,by simpa using hl,ho⟩,λhm=>?_⟩,λc hc=>.inr hc⟩
 rcases ac rb hm with hx|hx
 ·exact O hx
 ·exact hx.1 rfl
theorem Plc.step{p:Addr}{x:Tr}{T:Tr->Tr}(H:Plc h D rb p x T)(hk:k<x.items.length):
  ∃(si:Sl) (a:Addr),zj h (p.add 3)=some (slV si)/\si.a=some a/\si.len=x.items.length/\Plc h D rb (a.add (k*4)) x.items[k] (λy=>T (zvm x k y)):=by
 obtain⟨b,o,cs,bx,rfl,hb,ho,ot,ai,ae,O,aB,ap,ac⟩:=H
 obtain⟨b2,az,si,ax,e3,ea,el,aA,aF,af,an,am,Z,ak⟩:=ot.put1 hk
 refine⟨si,⟨b2,0,none⟩,?_,ea,el,b2,k*4,az,ax,by rw[zh,AD],aA,by omega,an,am,.inr (O b2 af),λc hc=>O c (Z c hc),aB,ap,λh' x' cells' b' hf aD ay aj=>?_⟩
 ·rw[zh]
  refine hb.cell ?_
  rw[zp,if_pos (by omega)]at e3
  rw[<-AU];exact e3
 ·have au:b≠b2:=λe=>ai (e ▸ af)
  obtain⟨bn,al,aa⟩:=ak h' x' cells' b' (λc hc aE ar=>hf c ar aE (.inr (O c hc))) aD ay (λc hc=>(aj c hc).imp id λhx hm=>hx.2 (O c hm))
  obtain⟨D',hD,aC⟩:=ac h' (zvm x k x') (cut cs o 4) bn (λc hc ah ac=>hf c (λe=>ah (e ▸ af)) (λhm=>ah (Z c hm)) ac) (by
   rw[zs6 ho]
   exact hb.keep (hf b au (λhm=>ai (Z b hm)) ae)) al λc hc=>by
    rcases aa c hc with hx|hx
    ·exact .inl hx
    ·rcases aj c hx with hy|hy
     ·exact .inl (Z c hy)
     ·exact .inr hy
  refine⟨D',hD,λc hc=>?_⟩
  rcases aC c hc with hx|hx
  ·exact .inl hx
  ·rcases aa c hx with hy|hy
   ·exact .inl (O c hy)
   ·exact .inr hy
theorem Plc.keep{p:Addr}{x:Tr}{T:Tr->Tr}(H:Plc h D rb p x T)(k:∀c,c=rb\/c∈D->h'[c]?=h[c]?)(hs:h.size<=h'.size):Plc h' D rb p x T:=by
 obtain⟨b,o,cs,bx,rfl,hb,ho,ot,aa,O,Z,aj,ah,af⟩:=H
 refine⟨b,o,cs,bx,rfl,hb.keep (k b O),ho,ot.frame λc hc=>k c (.inr (Z c hc)),aa,O,Z,aj,λc hc=>by have:=ah c hc;omega,λh2 x' cells' b' hf ak ac ae=>af h2 x' cells' b' (λc hc ai hl=>(hf c hc ai hl).trans (k c hl)) ak ac ae⟩
theorem Doc.keep(H:Doc h rb v D)(k:∀c,c=rb\/c∈D->h'[c]?=h[c]?):Doc h' rb v D:=by
 obtain⟨⟨cs,hb,Z,ot⟩,O⟩:=H
 exact⟨⟨cs,hb.keep (k rb (.inl rfl)),Z,ot.frame λc hc=>k c (.inr hc)⟩,O⟩
theorem Doc.lt(H:Doc h rb v D):∀c,c=rb\/c∈D->c<h.size:=by
 obtain⟨⟨cs,hb,Z,ot⟩,O⟩:=H
 rintro c (rfl|hc)
 ·exact hb.lt
 ·exact ot.lt c hc
end
end Go.X
end
section
namespace Go.X
section
theorem J8(gl:Fr)(l0:List (Bt×(List Bt)×(List Bt)×Tr))(v1:Tr)(R:Bool->Prop)
  (H:PC Tp gl 9 [] [.bool] (λa:Bool=>PC Tp gl 10 [Arg.mk .tree (Tr.mk v1.kind v1.text v1.keys v1.items),Arg.mk (.int .i64) 300] [.bool] (λb:Bool=>∃c:Bool->Prop,(b=true->PC Tp gl 11 [Arg.mk (.row (.pair .str (.pair (.row .str) (.pair (.row .str) .tree)))) l0] [.bool] c)/\∀d:Bool,(b=true->c d)->((!(bif b then d else false))=true->R a)/\((!(bif b then d else false))=false->PC Tp gl 22 [Arg.mk (.row (.pair .str (.pair (.row .str) (.pair (.row .str) .tree)))) l0] [.tree,.int .i64] (λe:Tr×Int=>∀f:Prop,((PC Tp gl 24 [Arg.mk .tree (Tr.mk v1.kind v1.text v1.keys v1.items)] [.row (.pair .str (.pair (.row .str) (.pair (.row .str) .tree))),.int .i64,.int .i64] (λg:(List (Bt×(List Bt)×(List Bt)×Tr))×Int×Int=>((g.2.2 != 0)=true->R (bif (bif (bif a then((g.1.length:Int)==0)else false)then(decide (g.2.1>=0))else false)then(decide (g.2.1<=v1.items.length))else false))/\((g.2.2 != 0)=false->∃(i:Int->Prop) (j:Int->Nat),i 0/\∀k:Int,i k->((decide (k<g.1.length)=true->∃l:Bt×(List Bt)×(List Bt)×Tr,(0<=k/\g.1[k.toNat]?=some l)/\PC Tp gl 17 [Arg.mk (.pair .str (.pair (.row .str) (.pair (.row .str) .tree))) (l.1,(l.2.1,(l.2.2.1,Tr.mk l.2.2.2.kind l.2.2.2.text l.2.2.2.keys l.2.2.2.items)))] [.bool] (λm:Bool=>((!m)=true->R false)/\((!m)=false->(i (Ab .i64 (k+1))/\j (Ab .i64 (k+1))<j k))))/\(decide (k<g.1.length)=false->PC Tp gl 22 [Arg.mk (.row (.pair .str (.pair (.row .str) (.pair (.row .str) .tree)))) g.1] [.tree,.int .i64] (λn:Tr×Int=>PC Tp gl 24 [Arg.mk .tree (Tr.mk n.1.kind n.1.text n.1.keys n.1.items)] [.row (.pair .str (.pair (.row .str) (.pair (.row .str) .tree))),.int .i64,.int .i64] (λo:(List (Bt×(List Bt)×(List Bt)×Tr))×Int×Int=>∃p:Bool->Prop,((((bif a then(g.2.1==g.1.length)else false)&&(!(n.2 != 0)))&&(o.2.2==0))=true->PC Tp gl 26 [Arg.mk (.row (.pair .str (.pair (.row .str) (.pair (.row .str) .tree)))) o.1,Arg.mk (.row (.pair .str (.pair (.row .str) (.pair (.row .str) .tree)))) g.1] [.bool] p)/\∀q:Bool,((((bif a then(g.2.1==g.1.length)else false)&&(!(n.2 != 0)))&&(o.2.2==0))=true->p q)->R (bif (bif a then(g.2.1==g.1.length)else false)then(bif (n.2 != 0)then true else(bif (o.2.2==0)then q else false))else false))))))))->f)->((e.2==0)=true->PC Tp gl 24 [Arg.mk .tree (Tr.mk e.1.kind e.1.text e.1.keys e.1.items)] [.row (.pair .str (.pair (.row .str) (.pair (.row .str) .tree))),.int .i64,.int .i64] (λr:(List (Bt×(List Bt)×(List Bt)×Tr))×Int×Int=>∃s:Bool->Prop,((!(bif (r.2.2 != 0)then true else(r.2.1 != l0.length)))=true->PC Tp gl 26 [Arg.mk (.row (.pair .str (.pair (.row .str) (.pair (.row .str) .tree)))) l0,Arg.mk (.row (.pair .str (.pair (.row .str) (.pair (.row .str) .tree)))) r.1] [.bool] s)/\∀t:Bool,((!(bif (r.2.2 != 0)then true else(r.2.1 != l0.length)))=true->s t)->((bif (bif (r.2.2 != 0)then true else(r.2.1 != l0.length))then true else(!t))=true->R false)/\((bif (bif (r.2.2 != 0)then true else(r.2.1 != l0.length))then true else(!t))=false->f)))/\((e.2==0)=false->f)))))):
  PC Tp gl 8 [Arg.mk (.row (.pair .str (.pair (.row .str) (.pair (.row .str) .tree)))) l0,Arg.mk .tree v1] [.bool] R:=
 PF ⟨[],[],[(14,⟨[(15,.one (.dat (.int .i64)))],[],[],[100960]⟩)],[(10,⟨[],[],[3],[]⟩)]⟩ [.tmp 4] 126 Tryz.func8 H
theorem zbo(gl:Fr)(R:Bool->Prop)
  (H:PC Tp gl 27 [Arg.mk (.int .i64) 1] [.tree] (λa:Tr=>PC Tp gl 27 [Arg.mk (.int .i64) 2] [.tree] (λb:Tr=>PC Tp gl 29 [Arg.mk (.row .tree) [Tr.mk a.kind a.text a.keys a.items,Tr.mk b.kind b.text b.keys b.items]] [.tree] (λc:Tr=>PC Tp gl 28 [Arg.mk (.row .str) ([(⟨#[97]⟩:Bt)]:List Bt),Arg.mk (.row .tree) [Tr.mk c.kind c.text c.keys c.items]] [.tree] (λd:Tr=>PC Tp gl 27 [Arg.mk (.int .i64) 9] [.tree] (λe:Tr=>PC Tp gl 13 [Arg.mk .tree (Tr.mk d.kind d.text d.keys d.items),Arg.mk (.row (.pair .str (.pair (.row .str) (.pair (.row .str) .tree)))) ([((⟨#[97,100,100]⟩:Bt),(([(⟨#[97]⟩:Bt),(⟨#[49]⟩:Bt)]:List Bt),([],Tr.mk e.kind e.text e.keys e.items))),((⟨#[114,101,109,111,118,101]⟩:Bt),(([(⟨#[97]⟩:Bt),(⟨#[48]⟩:Bt)]:List Bt),([],Tr.mk 0 (⟨#[]⟩:Bt) [] [])))]:List (Bt×(List Bt)×(List Bt)×Tr))] [.tree,.int .i64,.int .i64] (λf:Tr×Int×Int=>PC Tp gl 29 [Arg.mk (.row .tree) [Tr.mk a.kind a.text a.keys a.items]] [.tree] (λg:Tr=>PC Tp gl 13 [Arg.mk .tree (Tr.mk g.kind g.text g.keys g.items),Arg.mk (.row (.pair .str (.pair (.row .str) (.pair (.row .str) .tree)))) ([((⟨#[109,111,118,101]⟩:Bt),(([(⟨#[48]⟩:Bt)]:List Bt),(([(⟨#[48]⟩:Bt),(⟨#[48]⟩:Bt)]:List Bt),Tr.mk 0 (⟨#[]⟩:Bt) [] [])))]:List (Bt×(List Bt)×(List Bt)×Tr))] [.tree,.int .i64,.int .i64] (λi:Tr×Int×Int=>PC Tp gl 29 [Arg.mk (.row .tree) [Tr.mk a.kind a.text a.keys a.items]] [.tree] (λj:Tr=>PC Tp gl 27 [Arg.mk (.int .i64) 2] [.tree] (λk:Tr=>PC Tp gl 13 [Arg.mk .tree (Tr.mk j.kind j.text j.keys j.items),Arg.mk (.row (.pair .str (.pair (.row .str) (.pair (.row .str) .tree)))) ([((⟨#[116,101,115,116]⟩:Bt),(([(⟨#[48]⟩:Bt)]:List Bt),([],Tr.mk k.kind k.text k.keys k.items)))]:List (Bt×(List Bt)×(List Bt)×Tr))] [.tree,.int .i64,.int .i64] (λl:Tr×Int×Int=>PC Tp gl 20 [Arg.mk .tree (Tr.mk f.1.kind f.1.text f.1.keys f.1.items),Arg.mk (.row .str) ([(⟨#[97]⟩:Bt),(⟨#[48]⟩:Bt)]:List Bt)] [.tree,.bool] (λm:Tr×Bool=>R (bif (bif (bif (bif (bif (bif (bif (f.2.2==0)then(f.2.1==2)else false)then m.2 else false)then(m.1.text.toList==(⟨#[57]⟩:Bt).toList)else false)then(i.2.1==0)else false)then(i.2.2==8)else false)then(l.2.1==0)else false)then(l.2.2==9)else false)))))))))))))):
  PC Tp gl 9 [] [.bool] R:=
 PF ⟨[],[(2,8,[],[0,1,7,2,3,4,5,6],[]),(3,13,[],[0,1,4,5,12,2,3,6,7,8,9,10,11],[10,11])],[],[]⟩ [.tmp 0] 94 Tryz.func9 H
theorem zec(gl:Fr)(l0:List (Bt×(List Bt)×(List Bt)×Tr))(R:Bool->Prop)
  (H:∃(a:Int->Prop) (b:Int->Nat),a 0/\∀c:Int,a c->(((bif (decide (c<l0.length))then(decide (c<40))else false)=true->∃d:Bt×(List Bt)×(List Bt)×Tr,(0<=c/\l0[c.toNat]?=some d)/\PC Tp gl 19 [Arg.mk (.row .str) d.2.1] [.bool] (λe:Bool=>∃f:Bt×(List Bt)×(List Bt)×Tr,(e=true->(0<=c/\l0[c.toNat]?=some f))/\∃g:Bool->Prop,(e=true->PC Tp gl 19 [Arg.mk (.row .str) f.2.2.1] [.bool] g)/\∀i:Bool,(e=true->g i)->∃j:Bt×(List Bt)×(List Bt)×Tr,((bif e then i else false)=true->(0<=c/\l0[c.toNat]?=some j))/\∃k:Bool->Prop,((bif e then i else false)=true->PC Tp gl 10 [Arg.mk .tree (Tr.mk j.2.2.2.kind j.2.2.2.text j.2.2.2.keys j.2.2.2.items),Arg.mk (.int .i64) 200] [.bool] k)/\∀l:Bool,((bif e then i else false)=true->k l)->∃m:Bt×(List Bt)×(List Bt)×Tr,((!(!(bif (bif e then i else false)then l else false)))=true->(0<=c/\l0[c.toNat]?=some m))/\((bif (!(bif (bif e then i else false)then l else false))then true else(decide ((m.1.size:Int)>100)))=true->R false)/\((bif (!(bif (bif e then i else false)then l else false))then true else(decide ((m.1.size:Int)>100)))=false->(a (Ab .i64 (c+1))/\b (Ab .i64 (c+1))<b c))))/\((bif (decide (c<l0.length))then(decide (c<40))else false)=false->R (decide ((l0.length:Int)<=30))))):
  PC Tp gl 11 [Arg.mk (.row (.pair .str (.pair (.row .str) (.pair (.row .str) .tree)))) l0] [.bool] R:=
 PF ⟨[],[],[(2,⟨[(3,.one (.dat (.int .i64)))],[],[],[100192]⟩)],[]⟩ [.tmp 2] 51 Tryz.func11 H
theorem zi8(gl:Fr)(o0:Bt×(List Bt)×(List Bt)×Tr)(R:Bool->Prop)
  (H:PC Tp gl 36 [Arg.mk .str o0.1] [.bool,.bool,.bool] (λa:Bool×Bool×Bool=>∀b:Bool->Prop,(∀c:Bool,((c=true->R false)/\(c=false->(a.1=true->PC Tp gl 21 [Arg.mk .tree (Tr.mk o0.2.2.2.kind o0.2.2.2.text o0.2.2.2.keys o0.2.2.2.items)] [.bool] (λd:Bool=>R d))/\(a.1=false->PC Tp gl 38 [Arg.mk .tree (Tr.mk o0.2.2.2.kind o0.2.2.2.text o0.2.2.2.keys o0.2.2.2.items)] [.bool] (λe:Bool=>R e))))->b c)->((!a.2.2)=true->b (!a.2.2))/\((!a.2.2)=false->PC Tp gl 37 [Arg.mk (.row .str) o0.2.1] [.bool] (λf:Bool=>((!f)=true->b (!f))/\((!f)=false->PC Tp gl 37 [Arg.mk (.row .str) o0.2.2.1] [.bool] (λg:Bool=>((!g)=true->b (!g))/\((!g)=false->b (bif (!a.2.1)then(decide ((o0.2.2.1.length:Int)>0))else false)))))))):
  PC Tp gl 17 [Arg.mk (.pair .str (.pair (.row .str) (.pair (.row .str) .tree))) o0] [.bool] R:=
 PF ⟨[],[],[],[(6,⟨[(13,.one (.dat .bool))],[],[1],[100832]⟩)]⟩ [.tmp 2] 40 Tryz.func17 H
theorem zi9(gl:Fr)(v0:Tr)(R:((List (Bt×(List Bt)×(List Bt)×Tr))×Int×Int)->Prop)
  (H:PC Tp gl 21 [Arg.mk .tree (Tr.mk v0.kind v0.text v0.keys v0.items)] [.bool] (λa:Bool=>((bif (!a)then true else(v0.kind != 5))=true->R ([],0,2))/\((bif (!a)then true else(v0.kind != 5))=false->∃(b:(List (Bt×(List Bt)×(List Bt)×Tr))->Int->Prop) (c:(List (Bt×(List Bt)×(List Bt)×Tr))->Int->Nat),b [] 0/\∀d:List (Bt×(List Bt)×(List Bt)×Tr),∀e:Int,b d e->((decide (e<v0.items.length)=true->∃f,(0<=e/\v0.items[e.toNat]?=some f)/\((e==4096)=true->R ([],e,6))/\((e==4096)=false->PC Tp gl 53 [Arg.mk .tree (Tr.mk f.kind f.text f.keys f.items)] [.pair .str (.pair (.row .str) (.pair (.row .str) .tree)),.bool] (λg:(Bt×(List Bt)×(List Bt)×Tr)×Bool=>((!g.2)=true->R ([],e,2))/\((!g.2)=false->((d.length+CN ([(g.1.1,(g.1.2.1,(g.1.2.2.1,Tr.mk g.1.2.2.2.kind g.1.2.2.2.text g.1.2.2.2.keys g.1.2.2.2.items)))]:List (Bt×(List Bt)×(List Bt)×Tr)))*136<=140737488355328/\(b (d++[(g.1.1,(g.1.2.1,(g.1.2.2.1,Tr.mk g.1.2.2.2.kind g.1.2.2.2.text g.1.2.2.2.keys g.1.2.2.2.items)))]) (Ab .i64 (e+1))/\c (d++[(g.1.1,(g.1.2.1,(g.1.2.2.1,Tr.mk g.1.2.2.2.kind g.1.2.2.2.text g.1.2.2.2.keys g.1.2.2.2.items)))]) (Ab .i64 (e+1))<c d e))))))/\(decide (e<v0.items.length)=false->R (d,(d.length:Int),0)))))):
  PC Tp gl 24 [Arg.mk .tree v0] [.row (.pair .str (.pair (.row .str) (.pair (.row .str) .tree))),.int .i64,.int .i64] R:=
 PF ⟨[],[],[(5,⟨[(5,.one (.own 38 (.pair .str (.pair (.row .str) (.pair (.row .str) .tree))))),(21,.one (.dat (.int .i64)))],[],[],[100320,101344]⟩)],[]⟩ [.tmp 2,.tmp 3,.tmp 4] 45 Tryz.func24 H
theorem zc8(gl:Fr)(a0:List (Bt×(List Bt)×(List Bt)×Tr))(b1:List (Bt×(List Bt)×(List Bt)×Tr))(R:Bool->Prop)
  (H:(((a0.length:Int) != (b1.length:Int))=true->R false)/\(((a0.length:Int) != (b1.length:Int))=false->∃(a:Int->Prop) (b:Int->Nat),a 0/\∀c:Int,a c->((decide (c<a0.length)=true->∃d:Bt×(List Bt)×(List Bt)×Tr,(0<=c/\a0[c.toNat]?=some d)/\∃e:Bt×(List Bt)×(List Bt)×Tr,(0<=c/\b1[c.toNat]?=some e)/\PC Tp gl 15 [Arg.mk .tree (Tr.mk d.2.2.2.kind d.2.2.2.text d.2.2.2.keys d.2.2.2.items),Arg.mk .tree (Tr.mk e.2.2.2.kind e.2.2.2.text e.2.2.2.keys e.2.2.2.items)] [.bool] (λf:Bool=>∃g:Bt×(List Bt)×(List Bt)×Tr,((!(!f))=true->(0<=c/\a0[c.toNat]?=some g))/\∃i:Bt×(List Bt)×(List Bt)×Tr,((!(!f))=true->(0<=c/\b1[c.toNat]?=some i))/\∃j:Bt×(List Bt)×(List Bt)×Tr,((!(bif (!f)then true else(!(g.1.toList==i.1.toList))))=true->(0<=c/\a0[c.toNat]?=some j))/\∃k:Bt×(List Bt)×(List Bt)×Tr,((!(bif (!f)then true else(!(g.1.toList==i.1.toList))))=true->(0<=c/\b1[c.toNat]?=some k))/\∃l:Bool->Prop,((!(bif (!f)then true else(!(g.1.toList==i.1.toList))))=true->PC Tp gl 55 [Arg.mk (.row .str) j.2.1,Arg.mk (.row .str) k.2.1] [.bool] l)/\∀m:Bool,((!(bif (!f)then true else(!(g.1.toList==i.1.toList))))=true->l m)->∃n:Bt×(List Bt)×(List Bt)×Tr,((!(bif (bif (!f)then true else(!(g.1.toList==i.1.toList)))then true else(!m)))=true->(0<=c/\a0[c.toNat]?=some n))/\∃o:Bt×(List Bt)×(List Bt)×Tr,((!(bif (bif (!f)then true else(!(g.1.toList==i.1.toList)))then true else(!m)))=true->(0<=c/\b1[c.toNat]?=some o))/\∃p:Bool->Prop,((!(bif (bif (!f)then true else(!(g.1.toList==i.1.toList)))then true else(!m)))=true->PC Tp gl 55 [Arg.mk (.row .str) n.2.2.1,Arg.mk (.row .str) o.2.2.1] [.bool] p)/\∀q:Bool,((!(bif (bif (!f)then true else(!(g.1.toList==i.1.toList)))then true else(!m)))=true->p q)->((bif (bif (bif (!f)then true else(!(g.1.toList==i.1.toList)))then true else(!m))then true else(!q))=true->R false)/\((bif (bif (bif (!f)then true else(!(g.1.toList==i.1.toList)))then true else(!m))then true else(!q))=false->(a (Ab .i64 (c+1))/\b (Ab .i64 (c+1))<b c))))/\(decide (c<a0.length)=false->R true)))):
  PC Tp gl 26 [Arg.mk (.row (.pair .str (.pair (.row .str) (.pair (.row .str) .tree)))) a0,Arg.mk (.row (.pair .str (.pair (.row .str) (.pair (.row .str) .tree)))) b1] [.bool] R:=
 PF ⟨[(6,10)],[(7,40,[],[0,1,2,3,4,5,6,7,8,9,10,11,12,13,14,15,16,17,18,19,20,21,22,23,24,25,26,27,28,29,30,31,32,33,34,35,36,37,38,39],[])],[(4,⟨[(5,.one (.dat (.int .i64)))],[],[],[100320]⟩)],[]⟩ [.tmp 4] 72 Tryz.func26 H
theorem zja(gl:Fr)(O:Bt)(R:(Bool×Bool×Bool)->Prop)
  (H:∀a:Bool->Prop,(∀b:Bool,((b=true->R (true,false,true))/\(b=false->((O.toList==(⟨#[109,111,118,101]⟩:Bt).toList)=true->((O.toList==(⟨#[109,111,118,101]⟩:Bt).toList)=true->R (false,true,true))/\((O.toList==(⟨#[109,111,118,101]⟩:Bt).toList)=false->R (false,false,(O.toList==(⟨#[114,101,109,111,118,101]⟩:Bt).toList))))/\((O.toList==(⟨#[109,111,118,101]⟩:Bt).toList)=false->((O.toList==(⟨#[99,111,112,121]⟩:Bt).toList)=true->R (false,true,true))/\((O.toList==(⟨#[99,111,112,121]⟩:Bt).toList)=false->R (false,false,(O.toList==(⟨#[114,101,109,111,118,101]⟩:Bt).toList))))))->a b)->((O.toList==(⟨#[97,100,100]⟩:Bt).toList)=true->a (O.toList==(⟨#[97,100,100]⟩:Bt).toList))/\((O.toList==(⟨#[97,100,100]⟩:Bt).toList)=false->((O.toList==(⟨#[114,101,112,108,97,99,101]⟩:Bt).toList)=true->a (O.toList==(⟨#[114,101,112,108,97,99,101]⟩:Bt).toList))/\((O.toList==(⟨#[114,101,112,108,97,99,101]⟩:Bt).toList)=false->a (O.toList==(⟨#[116,101,115,116]⟩:Bt).toList)))):
  PC Tp gl 36 [Arg.mk .str O] [.bool,.bool,.bool] R:=
 PF ⟨[],[],[],[(5,⟨[(6,.one (.dat .bool))],[],[],[100384]⟩)]⟩ [.tmp 2,.tmp 3,.tmp 4] 15 Tryz.func36 H
theorem zmv(gl:Fr)(v0:Tr)(R:Bool->Prop)
  (H:R (bif (bif (v0.kind==0)then(v0.text.toList==(⟨#[]⟩:Bt).toList)else false)then((Ab .i64 ((v0.keys.length:Int)+(v0.items.length:Int)))==0)else false)):
  PC Tp gl 38 [Arg.mk .tree v0] [.bool] R:=
 PF ⟨[],[],[],[]⟩ [.tmp 2] 21 Tryz.func38 H
theorem zfe(gl:Fr)(v0:Tr)(R:Bool->Prop)
  (H:∃a:Bool->Prop,((v0.kind != 7)=true->PC Tp gl 47 [Arg.mk .tree (Tr.mk v0.kind v0.text v0.keys v0.items)] [.bool] a)/\∀b:Bool,((v0.kind != 7)=true->a b)->R (bif (v0.kind != 7)then b else false)):
  PC Tp gl 46 [Arg.mk .tree v0] [.bool] R:=
 PF ⟨[],[],[],[]⟩ [.tmp 2] 10 Tryz.func46 H
theorem zhu(gl:Fr)(o0:Bt×(List Bt)×(List Bt)×Tr)(R:Bool->Prop)
  (H:PC Tp gl 17 [Arg.mk (.pair .str (.pair (.row .str) (.pair (.row .str) .tree))) (o0.1,(o0.2.1,(o0.2.2.1,Tr.mk o0.2.2.2.kind o0.2.2.2.text o0.2.2.2.keys o0.2.2.2.items)))] [.bool] (λa:Bool=>R (!a))):
  PC Tp gl 49 [Arg.mk (.pair .str (.pair (.row .str) (.pair (.row .str) .tree))) o0] [.bool] R:=
 PF ⟨[],[],[],[]⟩ [.tmp 2] 6 Tryz.func49 H
theorem zq9(gl:Fr)(O:Bt)(R:Tr->Prop)
  (H:R (Tr.mk 4 O [] [])):
  PC Tp gl 88 [Arg.mk .str O] [.tree] R:=
 PF ⟨[],[],[],[]⟩ [.cell 2 25] 5 Tryz.func88 H
theorem zmw(gl:Fr)(v0:Tr)(O:Bt)(R:(Bt×Bool)->Prop)
  (H:PC Tp gl 92 [Arg.mk .tree (Tr.mk v0.kind v0.text v0.keys v0.items),Arg.mk .str O] [.tree,.bool] (λa:Tr×Bool=>R (a.1.text,bif a.2 then(a.1.kind==4)else false))):
  PC Tp gl 90 [Arg.mk .tree v0,Arg.mk .str O] [.str,.bool] R:=
 PF ⟨[],[],[],[]⟩ [.tmp 4,.tmp 5] 22 Tryz.func90 H
theorem zmx(gl:Fr)(v0:Tr)(O:Bt)(R:((List Bt)×Bool)->Prop)
  (H:PC Tp gl 90 [Arg.mk .tree (Tr.mk v0.kind v0.text v0.keys v0.items),Arg.mk .str O] [.str,.bool] (λa:Bt×Bool=>((!a.2)=true->R ([],false))/\((!a.2)=false->PC Tp gl 124 [Arg.mk .str a.1] [.row .str,.int .i64] (λb:(List Bt)×Int=>R (b.1,b.2==0))))):
  PC Tp gl 91 [Arg.mk .tree v0,Arg.mk .str O] [.row .str,.bool] R:=
 PF ⟨[],[],[],[]⟩ [.tmp 4,.tmp 5] 26 Tryz.func91 H
theorem zmy(gl:Fr)(a0:Tr)(b1:Tr)(R:Bool->Prop)
  (H:PC Tp gl 42 [Arg.mk .tree (Tr.mk a0.kind a0.text a0.keys a0.items)] [.bool] (λa:Bool=>∃b:Bool->Prop,(a=true->PC Tp gl 42 [Arg.mk .tree (Tr.mk b1.kind b1.text b1.keys b1.items)] [.bool] b)/\∀c:Bool,(a=true->b c)->∃d:Bool->Prop,((bif a then c else false)=true->PC Tp gl 137 [Arg.mk .tree (Tr.mk a0.kind a0.text a0.keys a0.items),Arg.mk .tree (Tr.mk b1.kind b1.text b1.keys b1.items)] [.bool] d)/\∀e:Bool,((bif a then c else false)=true->d e)->R (bif (bif a then c else false)then e else false))):
  PC Tp gl 105 [Arg.mk .tree a0,Arg.mk .tree b1] [.bool] R:=
 PF ⟨[],[],[],[]⟩ [.tmp 4] 16 Tryz.func105 H
theorem zjb(gl:Fr)(v0:Tr)(O:Bt)(R:Int->Prop)
  (H:((v0.kind==6)=true->PC Tp gl 144 [Arg.mk (.row .str) v0.keys,Arg.mk .str O] [.int .i64] (λa:Int=>R a))/\((v0.kind==6)=false->PC Tp gl 145 [Arg.mk .str O] [.int .i64,.bool] (λb:Int×Bool=>((bif (bif b.2 then(v0.kind==5)else false)then(decide (b.1<v0.items.length))else false)=true->R b.1)/\((bif (bif b.2 then(v0.kind==5)else false)then(decide (b.1<v0.items.length))else false)=false->R (-1))))):
  PC Tp gl 134 [Arg.mk .tree v0,Arg.mk .str O] [.int .i64] R:=
 PF ⟨[],[],[],[]⟩ [.tmp 4] 33 Tryz.func134 H
end
section
theorem zjc(b:Int)(c:Bt)(d:Sl)(e:Sl)(l1:Sl)(h:zb)(R:Value->zb->Prop)
  (H:let f:=h.push (.cells #[.int .i64 b,.string c,slV d,slV e] 25);let g:=f.push (.cells #[.int .i64 0,.string (⟨#[]⟩:Bt),.slice none 0 0,.slice none 0 0] 25);∃i j k l,zd g ⟨h.size,0,none⟩ 0 [.int .i64 i,.string j,slV k,slV l]/\XC Tp 21 #[.agg #[.int .i64 i,.string j,slV k,slV l]] g (λm n=>∃o,m=.bool o/\((!o)=true->XRunU Tp (Al 25 (.pointer (some ⟨f.size,0,none⟩)) (.agg #[.int .i64 0,.string (⟨#[]⟩:Bt),.slice none 0 0,.slice none 0 0])) n (λp=>∃q r s t,zd p ⟨f.size,0,none⟩ 0 [.int .i64 q,.string r,slV s,slV t]/\R (.tuple #[.agg #[.int .i64 q,.string r,slV s,slV t],.int .i64 0,.int .i64 1]) p))/\((!o)=false->∃u v w x,zd n ⟨h.size,0,none⟩ 0 [.int .i64 u,.string v,slV w,slV x]/\XC Tp 32 #[.agg #[.int .i64 u,.string v,slV w,slV x]] n (λy z=>∃A B C D,y=.agg #[.int .i64 A,.string B,slV C,slV D]/\let E:=z.push (.cells #[.int .i64 A,.string B,slV C,slV D] 59);∃(F:Int->zb->Prop) (G:Int->zb->Nat),F 0 E/\∀I:Int,∀J:zb,F I J->((decide (I<l1.len)=true->∃L,(l1.a=some L/\0<=I/\I<l1.len)/\∃M N O P Q S T,zd J (L.add (I.toNat*7)) 0 [.string M,slV N,slV O,.int .i64 P,.string Q,slV S,slV T]/\let U:=J.push (.cells #[.string (⟨#[]⟩:Bt),.slice none 0 0,.slice none 0 0,.int .i64 0,.string (⟨#[]⟩:Bt),.slice none 0 0,.slice none 0 0] 38);XRunU Tp (Al 38 (.pointer (some ⟨J.size,0,none⟩)) (.agg #[.string M,slV N,slV O,.int .i64 P,.string Q,slV S,slV T])) U (λV=>∃W X Y Z aa ab ac,zd V ⟨J.size,0,none⟩ 0 [.string W,slV X,slV Y,.int .i64 Z,.string aa,slV ab,slV ac]/\XC Tp 33 #[.pointer (some ⟨z.size,0,none⟩),.agg #[.string W,slV X,slV Y,.int .i64 Z,.string aa,slV ab,slV ac]] V (λad ae=>∃af,ad=.int .i64 af/\((af != 0)=true->XRunU Tp (Al 25 (.pointer (some ⟨f.size,0,none⟩)) (.agg #[.int .i64 0,.string (⟨#[]⟩:Bt),.slice none 0 0,.slice none 0 0])) ae (λag=>∃ah ai aj ak,zd ag ⟨f.size,0,none⟩ 0 [.int .i64 ah,.string ai,slV aj,slV ak]/\R (.tuple #[.agg #[.int .i64 ah,.string ai,slV aj,slV ak],.int .i64 I,.int .i64 af]) ag))/\((af != 0)=false->(F (Ab .i64 (I+1)) ae/\G (Ab .i64 (I+1)) ae<G I J)))))/\(decide (I<l1.len)=false->∃al,some ⟨z.size,0,none⟩=some al/\∃am an ao ap,zd J (Aj al 0) 0 [.int .i64 am,.string an,slV ao,slV ap]/\XRunU Tp (Al 25 (.pointer (some ⟨f.size,0,none⟩)) (.agg #[.int .i64 am,.string an,slV ao,slV ap])) J (λaq=>∃ar au av aw,zd aq ⟨f.size,0,none⟩ 0 [.int .i64 ar,.string au,slV av,slV aw]/\R (.tuple #[.agg #[.int .i64 ar,.string au,slV av,slV aw],.int .i64 (l1.len:Int),.int .i64 0]) aq))))))):
  XC Tp 13 #[.agg #[.int .i64 b,.string c,.slice d.a d.len d.cap,.slice e.a e.len e.cap],.slice l1.a l1.len l1.cap] h R:=
 XF ⟨[],[(5,[(21,.one (.int .i64))])],[]⟩ [.cell 4 25,.tmp 5,.tmp 6] 41 Tryz.func13 H
theorem zed(d0:Option Addr)(b:Bt)(c:Sl)(d:Sl)(e:Int)(f:Bt)(g:Sl)(i:Sl)(h:zb)(R:Value->zb->Prop)
  (H:let j:=h.push (.cells #[.string b,slV c,slV d,.int .i64 e,.string f,slV g,slV i] 38);∃k l m n o p q,zd j ⟨h.size,0,none⟩ 0 [.string k,slV l,slV m,.int .i64 n,.string o,slV p,slV q]/\XC Tp 17 #[.agg #[.string k,slV l,slV m,.int .i64 n,.string o,slV p,slV q]] j (λr s=>∃t,r=.bool t/\((!t)=true->R (.int .i64 1) s)/\((!t)=false->∀u:Value->zb->Prop,(∀v:Value,∀w:zb,(∃x y z A B C D,zd w ⟨h.size,0,none⟩ 0 [.string x,slV y,slV z,.int .i64 A,.string B,slV C,slV D]/\z9h Tp v #[.agg #[.string x,slV y,slV z,.int .i64 A,.string B,slV C,slV D]] (λE F=>XC Tp E F w (λG I=>∃J,G=.int .i64 J/\((J != 0)=true->R (.int .i64 J) I)/\((J != 0)=false->∃L,d0=some L/\∃M N O P,zd I (Aj L 0) 0 [.int .i64 M,.string N,slV O,slV P]/\XC Tp 21 #[.agg #[.int .i64 M,.string N,slV O,slV P]] I (λQ S=>∃T,Q=.bool T/\((!T)=true->R (.int .i64 1) S)/\((!T)=false->R (.int .i64 0) S))))))->u v w)->∃U,zj s (Aj ⟨h.size,0,none⟩ 0)=some (.string U)/\((U.toList==(⟨#[114,101,109,111,118,101]⟩:Bt).toList)=true->u (.func (.func 60) #[.pointer d0] #[]) s)/\((U.toList==(⟨#[114,101,109,111,118,101]⟩:Bt).toList)=false->((U.toList==(⟨#[114,101,112,108,97,99,101]⟩:Bt).toList)=true->u (.func (.func 61) #[.pointer d0] #[]) s)/\((U.toList==(⟨#[114,101,112,108,97,99,101]⟩:Bt).toList)=false->((U.toList==(⟨#[109,111,118,101]⟩:Bt).toList)=true->u (.func (.func 62) #[.pointer d0] #[]) s)/\((U.toList==(⟨#[109,111,118,101]⟩:Bt).toList)=false->((U.toList==(⟨#[99,111,112,121]⟩:Bt).toList)=true->u (.func (.func 63) #[.pointer d0] #[]) s)/\((U.toList==(⟨#[99,111,112,121]⟩:Bt).toList)=false->((U.toList==(⟨#[116,101,115,116]⟩:Bt).toList)=true->u (.func (.func 64) #[.pointer d0] #[]) s)/\((U.toList==(⟨#[116,101,115,116]⟩:Bt).toList)=false->u (.func (.func 59) #[.pointer d0] #[]) s)))))))):
  XC Tp 33 #[.pointer d0,.agg #[.string b,.slice c.a c.len c.cap,.slice d.a d.len d.cap,.int .i64 e,.string f,.slice g.a g.len g.cap,.slice i.a i.len i.cap]] h R:=
 XF ⟨[],[],[(15,[(5,.one (.raw))])]⟩ [.tmp 4] 46 Tryz.func33 H
theorem zc9(d0:Option Addr)(b:Bt)(c:Sl)(d:Sl)(e:Int)(f:Bt)(g:Sl)(i:Sl)(h:zb)(R:Value->zb->Prop)
  (H:let j:=h.push (.cells #[.string b,slV c,slV d,.int .i64 e,.string f,slV g,slV i] 38);∃k,zj j (Aj ⟨h.size,0,none⟩ 1)=some (slV k)/\∃l m n o,zd j (Aj ⟨h.size,0,none⟩ 3) 0 [.int .i64 l,.string m,slV n,slV o]/\XC Tp 32 #[.agg #[.int .i64 l,.string m,slV n,slV o]] j (λp q=>∃r s t u,p=.agg #[.int .i64 r,.string s,slV t,slV u]/\Keep j.size j q/\XC Tp 101 #[.pointer d0,slV k,.agg #[.int .i64 r,.string s,slV t,slV u]] q (λv w=>∃x,v=.int .i64 x/\R (.int .i64 x) w))):
  XC Tp 59 #[.pointer d0,.agg #[.string b,.slice c.a c.len c.cap,.slice d.a d.len d.cap,.int .i64 e,.string f,.slice g.a g.len g.cap,.slice i.a i.len i.cap]] h R:=
 XF ⟨[(1,2000)],[],[]⟩ [.tmp 4] 12 Tryz.func59 H
theorem Xl(d0:Option Addr)(b:Bt)(c:Sl)(d:Sl)(e:Int)(f:Bt)(g:Sl)(i:Sl)(h:zb)(R:Value->zb->Prop)
  (H:let j:=h.push (.cells #[.string b,slV c,slV d,.int .i64 e,.string f,slV g,slV i] 38);∃k,zj j (Aj ⟨h.size,0,none⟩ 1)=some (slV k)/\XC Tp 102 #[.pointer d0,slV k] j (λl m=>∃n:Option Addr,l=.pointer n/\(n.isNone=true->R (.int .i64 8) m)/\(n.isNone=false->∃o,zj m (Aj ⟨h.size,0,none⟩ 1)=some (slV o)/\XC Tp 103 #[.pointer d0,slV o] m (λp q=>∃r,p=.int .i64 r/\R (.int .i64 r) q)))):
  XC Tp 60 #[.pointer d0,.agg #[.string b,.slice c.a c.len c.cap,.slice d.a d.len d.cap,.int .i64 e,.string f,.slice g.a g.len g.cap,.slice i.a i.len i.cap]] h R:=
 XF ⟨[],[],[]⟩ [.tmp 4] 14 Tryz.func60 H
theorem Wh(d0:Option Addr)(b:Bt)(c:Sl)(d:Sl)(e:Int)(f:Bt)(g:Sl)(i:Sl)(h:zb)(R:Value->zb->Prop)
  (H:let j:=h.push (.cells #[.string b,slV c,slV d,.int .i64 e,.string f,slV g,slV i] 38);∃k,zj j (Aj ⟨h.size,0,none⟩ 1)=some (slV k)/\XC Tp 102 #[.pointer d0,slV k] j (λl m=>∃n:Option Addr,l=.pointer n/\(n.isNone=true->R (.int .i64 8) m)/\(n.isNone=false->∃o p q r,zd m (Aj ⟨h.size,0,none⟩ 3) 0 [.int .i64 o,.string p,slV q,slV r]/\XC Tp 32 #[.agg #[.int .i64 o,.string p,slV q,slV r]] m (λs t=>∃u v w x,s=.agg #[.int .i64 u,.string v,slV w,slV x]/\∃y,n=some y/\XRunU Tp (Al 25 (.pointer (some y)) (.agg #[.int .i64 u,.string v,slV w,slV x])) t (λz=>R (.int .i64 0) z))))):
  XC Tp 61 #[.pointer d0,.agg #[.string b,.slice c.a c.len c.cap,.slice d.a d.len d.cap,.int .i64 e,.string f,.slice g.a g.len g.cap,.slice i.a i.len i.cap]] h R:=
 XF ⟨[],[],[]⟩ [.tmp 4] 17 Tryz.func61 H
theorem zbp(d0:Option Addr)(b:Bt)(c:Sl)(d:Sl)(e:Int)(f:Bt)(g:Sl)(i:Sl)(h:zb)(R:Value->zb->Prop)
  (H:let j:=h.push (.cells #[.string b,slV c,slV d,.int .i64 e,.string f,slV g,slV i] 38);∃k,zj j (Aj ⟨h.size,0,none⟩ 2)=some (slV k)/\XC Tp 102 #[.pointer d0,slV k] j (λl m=>∃n:Option Addr,l=.pointer n/\∃o,zj m (Aj ⟨h.size,0,none⟩ 2)=some (slV o)/\(n.isNone=true->R (.int .i64 8) m)/\(n.isNone=false->∃p,zj m (Aj ⟨h.size,0,none⟩ 1)=some (slV p)/\∃q,(decide ((p.len:Int)>=(o.len:Int))=true->zj m (Aj ⟨h.size,0,none⟩ 1)=some (slV q))/\((none:Option Value)=none\/∃v,(some (.int .i64 (o.len:Int)):Option Value)=some v)/\(decide ((p.len:Int)>=(o.len:Int))=true->(0<=(0:Int)/\(0:Int)<=(o.len:Int)/\(o.len:Int)<=(q.cap:Int)/\(q.cap:Int)<=(q.cap:Int)))/\∃r,(decide ((p.len:Int)>=(o.len:Int))=true->zj m (Aj ⟨h.size,0,none⟩ 2)=some (slV r))/\∃s,(decide ((p.len:Int)>=(o.len:Int))=true->XC Tp 104 #[.slice (Q4 q.a 1 ((0:Int).toNat) ((q.cap:Int).toNat)) ((o.len:Int).toNat-(0:Int).toNat) ((q.cap:Int).toNat-(0:Int).toNat),slV r] m (λt u=>t=.bool s/\u=m))/\((bif (decide ((p.len:Int)>=(o.len:Int)))then s else false)=true->∃w,zj m (Aj ⟨h.size,0,none⟩ 1)=some (slV w)/\(decide ((w.len:Int)>(o.len:Int))=true->R (.int .i64 1) m)/\(decide ((w.len:Int)>(o.len:Int))=false->R (.int .i64 0) m))/\((bif (decide ((p.len:Int)>=(o.len:Int)))then s else false)=false->∃x,n=some x/\∃y z A B,zd m x 0 [.int .i64 y,.string z,slV A,slV B]/\XC Tp 32 #[.agg #[.int .i64 y,.string z,slV A,slV B]] m (λC D=>∃E F G I,C=.agg #[.int .i64 E,.string F,slV G,slV I]/\let J:=D.push (.cells #[.int .i64 0,.string (⟨#[]⟩:Bt),.slice none 0 0,.slice none 0 0] 25);XRunU Tp (Al 25 (.pointer (some ⟨D.size,0,none⟩)) (.agg #[.int .i64 E,.string F,slV G,slV I])) J (λL=>∃M,zj L (Aj ⟨h.size,0,none⟩ 2)=some (slV M)/\XC Tp 103 #[.pointer d0,slV M] L (λN O=>∃P,N=.int .i64 P/\((P != 0)=true->R (.int .i64 P) O)/\((P != 0)=false->∃Q,zj O (Aj ⟨h.size,0,none⟩ 1)=some (slV Q)/\∃S T U V,zd O ⟨D.size,0,none⟩ 0 [.int .i64 S,.string T,slV U,slV V]/\XC Tp 101 #[.pointer d0,slV Q,.agg #[.int .i64 S,.string T,slV U,slV V]] O (λW X=>∃Y,W=.int .i64 Y/\R (.int .i64 Y) X))))))))):
  XC Tp 62 #[.pointer d0,.agg #[.string b,.slice c.a c.len c.cap,.slice d.a d.len d.cap,.int .i64 e,.string f,.slice g.a g.len g.cap,.slice i.a i.len i.cap]] h R:=
 XF ⟨[],[],[]⟩ [.tmp 4] 55 Tryz.func62 H
theorem zbq(d0:Option Addr)(b:Bt)(c:Sl)(d:Sl)(e:Int)(f:Bt)(g:Sl)(i:Sl)(h:zb)(R:Value->zb->Prop)
  (H:let j:=h.push (.cells #[.string b,slV c,slV d,.int .i64 e,.string f,slV g,slV i] 38);∃k,zj j (Aj ⟨h.size,0,none⟩ 2)=some (slV k)/\XC Tp 102 #[.pointer d0,slV k] j (λl m=>∃n:Option Addr,l=.pointer n/\(n.isNone=true->R (.int .i64 8) m)/\(n.isNone=false->∃o,zj m (Aj ⟨h.size,0,none⟩ 1)=some (slV o)/\∃p,n=some p/\∃q r s t,zd m p 0 [.int .i64 q,.string r,slV s,slV t]/\XC Tp 32 #[.agg #[.int .i64 q,.string r,slV s,slV t]] m (λu v=>∃w x y z,u=.agg #[.int .i64 w,.string x,slV y,slV z]/\Keep m.size m v/\XC Tp 101 #[.pointer d0,slV o,.agg #[.int .i64 w,.string x,slV y,slV z]] v (λA B=>∃C,A=.int .i64 C/\R (.int .i64 C) B))))):
  XC Tp 63 #[.pointer d0,.agg #[.string b,.slice c.a c.len c.cap,.slice d.a d.len d.cap,.int .i64 e,.string f,.slice g.a g.len g.cap,.slice i.a i.len i.cap]] h R:=
 XF ⟨[(4,2000)],[],[]⟩ [.tmp 4] 20 Tryz.func63 H
theorem zbr(d0:Option Addr)(b:Bt)(c:Sl)(d:Sl)(e:Int)(f:Bt)(g:Sl)(i:Sl)(h:zb)(R:Value->zb->Prop)
  (H:let j:=h.push (.cells #[.string b,slV c,slV d,.int .i64 e,.string f,slV g,slV i] 38);∃k,zj j (Aj ⟨h.size,0,none⟩ 1)=some (slV k)/\XC Tp 102 #[.pointer d0,slV k] j (λl m=>∃n:Option Addr,l=.pointer n/\(n.isNone=true->R (.int .i64 8) m)/\(n.isNone=false->∃o,n=some o/\∃p q r s,zd m o 0 [.int .i64 p,.string q,slV r,slV s]/\∃t u v w,zd m (Aj ⟨h.size,0,none⟩ 3) 0 [.int .i64 t,.string u,slV v,slV w]/\∃x,(∀y:zb,Keep m.size m y->XC Tp 105 #[.agg #[.int .i64 p,.string q,slV r,slV s],.agg #[.int .i64 t,.string u,slV v,slV w]] y (λz A=>z=.bool x/\Keep y.size y A))/\∀B:zb,Keep m.size m B->((!x)=true->R (.int .i64 9) B)/\((!x)=false->R (.int .i64 0) B)))):
  XC Tp 64 #[.pointer d0,.agg #[.string b,.slice c.a c.len c.cap,.slice d.a d.len d.cap,.int .i64 e,.string f,.slice g.a g.len g.cap,.slice i.a i.len i.cap]] h R:=
 XF ⟨[(4,1000)],[],[]⟩ [.tmp 4] 21 Tryz.func64 H
theorem zff(d0:Option Addr)(aN:Sl)(b:Int)(c:Bt)(d:Sl)(e:Sl)(h:zb)(R:Value->zb->Prop)
  (H:let f:=h.push (.cells #[.int .i64 b,.string c,slV d,slV e] 25);(((aN.len:Int)==0)=true->∃g i j k,zd f ⟨h.size,0,none⟩ 0 [.int .i64 g,.string i,slV j,slV k]/\∃l,d0=some l/\XRunU Tp (Al 25 (.pointer (some (Aj l 0))) (.agg #[.int .i64 g,.string i,slV j,slV k])) f (λm=>R (.int .i64 0) m))/\(((aN.len:Int)==0)=false->∃n,(aN.a=some n/\0<=(Ab .i64 ((aN.len:Int)-1))/\(Ab .i64 ((aN.len:Int)-1))<(aN.len:Int))/\∃o,zj f (n.add ((Ab .i64 ((aN.len:Int)-1)).toNat*1))=some (.string o)/\((none:Option Value)=none\/∃v,(some (.int .i64 (Ab .i64 ((aN.len:Int)-1))):Option Value)=some v)/\(0<=(0:Int)/\(0:Int)<=(Ab .i64 ((aN.len:Int)-1))/\(Ab .i64 ((aN.len:Int)-1))<=(aN.cap:Int)/\(aN.cap:Int)<=(aN.cap:Int))/\XC Tp 102 #[.pointer d0,.slice (Q4 aN.a 1 ((0:Int).toNat) ((aN.cap:Int).toNat)) ((Ab .i64 ((aN.len:Int)-1)).toNat-(0:Int).toNat) ((aN.cap:Int).toNat-(0:Int).toNat)] f (λp q=>∃r:Option Addr,p=.pointer r/\(r.isNone=true->R (.int .i64 8) q)/\(r.isNone=false->∃s,r=some s/\∃t,zj q (Aj s 0)=some (.int .i64 t)/\((t==5)=true->∃u w x y,zd q ⟨h.size,0,none⟩ 0 [.int .i64 u,.string w,slV x,slV y]/\XC Tp 133 #[.pointer r,.string o,.agg #[.int .i64 u,.string w,slV x,slV y]] q (λz A=>∃B,z=.int .i64 B/\R (.int .i64 B) A))/\((t==5)=false->∃C,r=some C/\∃D,zj q (Aj C 0)=some (.int .i64 D)/\((D != 6)=true->R (.int .i64 8) q)/\((D != 6)=false->∃E,r=some E/\∃F G I J,zd q E 0 [.int .i64 F,.string G,slV I,slV J]/\XC Tp 134 #[.agg #[.int .i64 F,.string G,slV I,slV J],.string o] q (λL M=>∃N,L=.int .i64 N/\(decide (N>=0)=true->∃O,r=some O/\∃P,zj M (Aj O 3)=some (slV P)/\∃Q S T U,zd M ⟨h.size,0,none⟩ 0 [.int .i64 Q,.string S,slV T,slV U]/\∃V,(P.a=some V/\0<=N/\N<P.len)/\XRunU Tp (Al 25 (.pointer (some (V.add (N.toNat*4)))) (.agg #[.int .i64 Q,.string S,slV T,slV U])) M (λW=>R (.int .i64 0) W))/\(decide (N>=0)=false->∃X,r=some X/\∃Y,zj M (Aj X 2)=some (slV Y)/\∃Z,r=some Z/\∃aa,zj M (Aj Z 3)=some (slV aa)/\∃ab ac ad ae,zd M ⟨h.size,0,none⟩ 0 [.int .i64 ab,.string ac,slV ad,slV ae]/\∃af,r=some af/\∃ag,r=some ag/\(let ah:=M.push (.cells #[.string o] 9);(ah)[(⟨h.size,0,none⟩:Addr).block]?=(M)[(⟨h.size,0,none⟩:Addr).block]?/\(ah)[((Aj Z 3):Addr).block]?=(M)[((Aj Z 3):Addr).block]?/\(ah)[((Aj X 2):Addr).block]?=(M)[((Aj X 2):Addr).block]?/\(XRun Tp (Ax #[22,22] 22 #[slV Y,.slice (some ⟨M.size,0,none⟩) 1 1]) ah (λai aj=>∃ak,ai=slV ak/\(aj)[(⟨h.size,0,none⟩:Addr).block]?=(M)[(⟨h.size,0,none⟩:Addr).block]?/\(aj)[((Aj Z 3):Addr).block]?=(M)[((Aj Z 3):Addr).block]?/\let al:=aj.push (.cells #[.int .i64 ab,.string ac,slV ad,slV ae] 25);(al)[((Aj Z 3):Addr).block]?=(M)[((Aj Z 3):Addr).block]?/\XRun Tp (Ax #[23,23] 23 #[slV aa,.slice (some ⟨aj.size,0,none⟩) 1 1]) al (λam an=>∃ao,am=slV ao/\XRunU Tp (Al 22 (.pointer (some (Aj af 2))) (slV ak)) an (λap=>XRunU Tp (Al 23 (.pointer (some (Aj ag 3))) (slV ao)) ap (λaq=>R (.int .i64 0) aq)))))/\(let ar:=ah.push (.cells #[.int .i64 ab,.string ac,slV ad,slV ae] 25);(ar)[((Aj Z 3):Addr).block]?=(M)[((Aj Z 3):Addr).block]?/\(ar)[((Aj X 2):Addr).block]?=(M)[((Aj X 2):Addr).block]?/\XRun Tp (Ax #[22,22] 22 #[slV Y,.slice (some ⟨M.size,0,none⟩) 1 1]) ar (λau av=>∃aw,au=slV aw/\(av)[((Aj Z 3):Addr).block]?=(M)[((Aj Z 3):Addr).block]?/\XRun Tp (Ax #[23,23] 23 #[slV aa,.slice (some ⟨ah.size,0,none⟩) 1 1]) av (λax ay=>∃az,ax=slV az/\XRunU Tp (Al 22 (.pointer (some (Aj af 2))) (slV aw)) ay (λaA=>XRunU Tp (Al 23 (.pointer (some (Aj ag 3))) (slV az)) aA (λaB=>R (.int .i64 0) aB))))))/\(let aC:=M.push (.cells #[.int .i64 ab,.string ac,slV ad,slV ae] 25);(aC)[((Aj Z 3):Addr).block]?=(M)[((Aj Z 3):Addr).block]?/\(aC)[((Aj X 2):Addr).block]?=(M)[((Aj X 2):Addr).block]?/\let aD:=aC.push (.cells #[.string o] 9);(aD)[((Aj Z 3):Addr).block]?=(M)[((Aj Z 3):Addr).block]?/\(aD)[((Aj X 2):Addr).block]?=(M)[((Aj X 2):Addr).block]?/\XRun Tp (Ax #[22,22] 22 #[slV Y,.slice (some ⟨aC.size,0,none⟩) 1 1]) aD (λaE aF=>∃aG,aE=slV aG/\(aF)[((Aj Z 3):Addr).block]?=(M)[((Aj Z 3):Addr).block]?/\XRun Tp (Ax #[23,23] 23 #[slV aa,.slice (some ⟨M.size,0,none⟩) 1 1]) aF (λaH aI=>∃aJ,aH=slV aJ/\XRunU Tp (Al 22 (.pointer (some (Aj af 2))) (slV aG)) aI (λaL=>XRunU Tp (Al 23 (.pointer (some (Aj ag 3))) (slV aJ)) aL (λaM=>R (.int .i64 0) aM))))))))))))):
  XC Tp 101 #[.pointer d0,.slice aN.a aN.len aN.cap,.agg #[.int .i64 b,.string c,.slice d.a d.len d.cap,.slice e.a e.len e.cap]] h R:=
 XF ⟨[(14,7),(16,6000)],[],[]⟩ [.tmp 6] 83 Tryz.func101 H
theorem zhv(d0:Option Addr)(O:Sl)(h:zb)(R:Value->zb->Prop)
  (H:∃b,d0=some b/\∃(c:Option Addr->Int->zb->Prop) (d:Option Addr->Int->zb->Nat),c (some (Aj b 0)) 0 h/\∀e:Option Addr,∀f:Int,∀g:zb,c e f g->((decide (f<O.len)=true->∃i,(O.a=some i/\0<=f/\f<O.len)/\∃j,zj g (i.add (f.toNat*1))=some (.string j)/\∃k,e=some k/\∃l m n o,zd g k 0 [.int .i64 l,.string m,slV n,slV o]/\XC Tp 134 #[.agg #[.int .i64 l,.string m,slV n,slV o],.string j] g (λp q=>∃r,p=.int .i64 r/\(decide (r<0)=true->R (.pointer none) q)/\(decide (r<0)=false->∃s,e=some s/\∃t,zj q (Aj s 3)=some (slV t)/\∃u,(t.a=some u/\0<=r/\r<t.len)/\(c (some (u.add (r.toNat*4))) (Ab .i64 (f+1)) q/\d (some (u.add (r.toNat*4))) (Ab .i64 (f+1)) q<d e f g))))/\(decide (f<O.len)=false->R (.pointer e) g))):
  XC Tp 102 #[.pointer d0,.slice O.a O.len O.cap] h R:=
 XF ⟨[],[(3,[(5,.one (.ptr)),(14,.one (.int .i64))])],[]⟩ [.tmp 4] 33 Tryz.func102 H
theorem zbs(d0:Option Addr)(O:Sl)(h:zb)(R:Value->zb->Prop)
  (H:(((O.len:Int)==0)=true->R (.int .i64 1) h)/\(((O.len:Int)==0)=false->∃b,(O.a=some b/\0<=(Ab .i64 ((O.len:Int)-1))/\(Ab .i64 ((O.len:Int)-1))<(O.len:Int))/\∃c,zj h (b.add ((Ab .i64 ((O.len:Int)-1)).toNat*1))=some (.string c)/\((none:Option Value)=none\/∃v,(some (.int .i64 (Ab .i64 ((O.len:Int)-1))):Option Value)=some v)/\(0<=(0:Int)/\(0:Int)<=(Ab .i64 ((O.len:Int)-1))/\(Ab .i64 ((O.len:Int)-1))<=(O.cap:Int)/\(O.cap:Int)<=(O.cap:Int))/\XC Tp 102 #[.pointer d0,.slice (Q4 O.a 1 ((0:Int).toNat) ((O.cap:Int).toNat)) ((Ab .i64 ((O.len:Int)-1)).toNat-(0:Int).toNat) ((O.cap:Int).toNat-(0:Int).toNat)] h (λd e=>∃f:Option Addr,d=.pointer f/\∃g,f=some g/\∃i j k l,zd e g 0 [.int .i64 i,.string j,slV k,slV l]/\XC Tp 134 #[.agg #[.int .i64 i,.string j,slV k,slV l],.string c] e (λm n=>∃o,m=.int .i64 o/\∃p,f=some p/\∃q,zj n (Aj p 3)=some (slV q)/\XC Tp 135 #[slV q,.int .i64 o,.int .i64 (Ab .i64 (o+1))] n (λr s=>∃t,r=slV t/\∃u,f=some u/\XRunU Tp (Al 23 (.pointer (some (Aj u 3))) (slV t)) s (λw=>∃x,f=some x/\∃y,zj w (Aj x 0)=some (.int .i64 y)/\((y==6)=true->∃z,f=some z/\∃A,zj w (Aj z 2)=some (slV A)/\XC Tp 136 #[slV A,.int .i64 o,.int .i64 (Ab .i64 (o+1))] w (λB C=>∃D,B=slV D/\∃E,f=some E/\XRunU Tp (Al 22 (.pointer (some (Aj E 2))) (slV D)) C (λF=>R (.int .i64 0) F)))/\((y==6)=false->R (.int .i64 0) w))))))):
  XC Tp 103 #[.pointer d0,.slice O.a O.len O.cap] h R:=
 XF ⟨[],[],[]⟩ [.tmp 4] 56 Tryz.func103 H
theorem zhw(v0:Option Addr)(O:Bt)(b:Int)(c:Bt)(d:Sl)(e:Sl)(h:zb)(R:Value->zb->Prop)
  (H:let f:=h.push (.cells #[.int .i64 b,.string c,slV d,slV e] 25);XC Tp 145 #[.string O] f (λg i=>∃j k,g=.tuple #[.int .i64 j,.bool k]/\∀l:Int->zb->Prop,(∀m:Int,∀n:zb,(∃o,v0=some o/\∃p,zj n (Aj o 3)=some (slV p)/\∃q r s t,zd n ⟨h.size,0,none⟩ 0 [.int .i64 q,.string r,slV s,slV t]/\∃u,v0=some u/\let v:=n.push (.cells #[.int .i64 q,.string r,slV s,slV t] 25);Keep n.size n v/\XC Tp 164 #[slV p,.int .i64 m,.slice (some ⟨n.size,0,none⟩) 1 1] v (λw x=>∃y,w=slV y/\XRunU Tp (Al 23 (.pointer (some (Aj u 3))) (slV y)) x (λz=>R (.int .i64 0) z)))->l m n)->((O.toList==(⟨#[45]⟩:Bt).toList)=true->∃A,v0=some A/\∃B,zj i (Aj A 3)=some (slV B)/\l (B.len:Int) i)/\((O.toList==(⟨#[45]⟩:Bt).toList)=false->∃C,((!(!k))=true->v0=some C)/\∃D,((!(!k))=true->zj i (Aj C 3)=some (slV D))/\((bif (!k)then true else(decide (j>D.len)))=true->R (.int .i64 8) i)/\((bif (!k)then true else(decide (j>D.len)))=false->l j i)))):
  XC Tp 133 #[.pointer v0,.string O,.agg #[.int .i64 b,.string c,.slice d.a d.len d.cap,.slice e.a e.len e.cap]] h R:=
 XF ⟨[(6,5000)],[],[(6,[(7,.one (.int .i64))])]⟩ [.tmp 6] 45 Tryz.func133 H
theorem w8(s0:Sl)(i1:Int)(j2:Int)(h:zb)(R:Value->zb->Prop)
  (H:((some (.int .i64 (s0.len:Int)):Option Value)=none\/∃v,(some (.int .i64 j2):Option Value)=some v)/\(0<=i1/\i1<=j2/\j2<=s0.len/\(s0.len:Int)<=(s0.cap:Int))/\((i1==j2)=true->R (slV s0) h)/\((i1==j2)=false->((none:Option Value)=none\/∃v,(some (.int .i64 i1):Option Value)=some v)/\(0<=(0:Int)/\(0:Int)<=i1/\i1<=s0.cap/\(s0.cap:Int)<=(s0.cap:Int))/\((none:Option Value)=none\/∃v,(none:Option Value)=some v)/\(0<=j2/\j2<=s0.len/\(s0.len:Int)<=(s0.cap:Int)/\(s0.cap:Int)<=(s0.cap:Int))/\XRun Tp (Ax #[23,23] 23 #[.slice (Q4 s0.a 4 ((0:Int).toNat) ((s0.cap:Int).toNat)) (i1.toNat-(0:Int).toNat) ((s0.cap:Int).toNat-(0:Int).toNat),.slice (Q4 s0.a 4 j2.toNat ((s0.cap:Int).toNat)) ((s0.len:Int).toNat-j2.toNat) ((s0.cap:Int).toNat-j2.toNat)]) h (λb c=>∃d,b=slV d/\((none:Option Value)=none\/∃v,(some (.int .i64 (s0.len:Int)):Option Value)=some v)/\(0<=(d.len:Int)/\(d.len:Int)<=(s0.len:Int)/\(s0.len:Int)<=(d.cap:Int)/\(d.cap:Int)<=(d.cap:Int))/\XRun Tp (D3 #[23] 0 #[.slice (Q4 d.a 4 ((d.len:Int).toNat) ((d.cap:Int).toNat)) ((s0.len:Int).toNat-(d.len:Int).toNat) ((d.cap:Int).toNat-(d.len:Int).toNat)]) c (λe f=>e=.tuple #[]/\R (slV d) f)))):
  XC Tp 135 #[.slice s0.a s0.len s0.cap,.int .i64 i1,.int .i64 j2] h R:=
 XF ⟨[(5,6)],[],[]⟩ [.tmp 6] 33 Tryz.func135 H
theorem Z2(s0:Sl)(i1:Int)(j2:Int)(h:zb)(R:Value->zb->Prop)
  (H:((some (.int .i64 (s0.len:Int)):Option Value)=none\/∃v,(some (.int .i64 j2):Option Value)=some v)/\(0<=i1/\i1<=j2/\j2<=s0.len/\(s0.len:Int)<=(s0.cap:Int))/\((i1==j2)=true->R (slV s0) h)/\((i1==j2)=false->((none:Option Value)=none\/∃v,(some (.int .i64 i1):Option Value)=some v)/\(0<=(0:Int)/\(0:Int)<=i1/\i1<=s0.cap/\(s0.cap:Int)<=(s0.cap:Int))/\((none:Option Value)=none\/∃v,(none:Option Value)=some v)/\(0<=j2/\j2<=s0.len/\(s0.len:Int)<=(s0.cap:Int)/\(s0.cap:Int)<=(s0.cap:Int))/\XRun Tp (Ax #[22,22] 22 #[.slice (Q4 s0.a 1 ((0:Int).toNat) ((s0.cap:Int).toNat)) (i1.toNat-(0:Int).toNat) ((s0.cap:Int).toNat-(0:Int).toNat),.slice (Q4 s0.a 1 j2.toNat ((s0.cap:Int).toNat)) ((s0.len:Int).toNat-j2.toNat) ((s0.cap:Int).toNat-j2.toNat)]) h (λb c=>∃d,b=slV d/\((none:Option Value)=none\/∃v,(some (.int .i64 (s0.len:Int)):Option Value)=some v)/\(0<=(d.len:Int)/\(d.len:Int)<=(s0.len:Int)/\(s0.len:Int)<=(d.cap:Int)/\(d.cap:Int)<=(d.cap:Int))/\XRun Tp (D3 #[22] 0 #[.slice (Q4 d.a 1 ((d.len:Int).toNat) ((d.cap:Int).toNat)) ((s0.len:Int).toNat-(d.len:Int).toNat) ((d.cap:Int).toNat-(d.len:Int).toNat)]) c (λe f=>e=.tuple #[]/\R (slV d) f)))):
  XC Tp 136 #[.slice s0.a s0.len s0.cap,.int .i64 i1,.int .i64 j2] h R:=
 XF ⟨[(5,6)],[],[]⟩ [.tmp 6] 33 Tryz.func136 H
theorem w9(s0:Sl)(i1:Int)(v2:Sl)(h:zb)(R:Value->zb->Prop)
  (H:((none:Option Value)=none\/∃v,(none:Option Value)=some v)/\(0<=i1/\i1<=s0.len/\(s0.len:Int)<=(s0.cap:Int)/\(s0.cap:Int)<=(s0.cap:Int))/\(((v2.len:Int)==0)=true->R (.slice s0.a s0.len s0.cap) h)/\(((v2.len:Int)==0)=false->((i1==s0.len)=true->XRun Tp (Ax #[23,23] 23 #[.slice s0.a s0.len s0.cap,.slice v2.a v2.len v2.cap]) h (λb c=>∃d:Sl,b=.slice d.a d.len d.cap/\R (.slice d.a d.len d.cap) c))/\((i1==s0.len)=false->((decide ((Ab .i64 ((s0.len:Int)+(v2.len:Int)))>(s0.cap:Int)))=true->((none:Option Value)=none\/∃v,(some (.int .i64 i1):Option Value)=some v)/\(0<=(0:Int)/\(0:Int)<=i1/\i1<=s0.cap/\(s0.cap:Int)<=(s0.cap:Int))/\XRun Tp (Ax #[23,3] 23 #[.slice (Q4 s0.a 4 ((0:Int).toNat) ((s0.cap:Int).toNat)) (i1.toNat-(0:Int).toNat) ((s0.cap:Int).toNat-(0:Int).toNat),.int .i64 (Ab .i64 ((Ab .i64 ((s0.len:Int)+(v2.len:Int)))-i1))]) h (λe f=>∃g:Sl,e=.slice g.a g.len g.cap/\((none:Option Value)=none\/∃v,(none:Option Value)=some v)/\(0<=i1/\i1<=g.len/\(g.len:Int)<=(g.cap:Int)/\(g.cap:Int)<=(g.cap:Int))/\XRun Tp (Di #[23,23] 3 #[.slice (Q4 g.a 4 i1.toNat ((g.cap:Int).toNat)) ((g.len:Int).toNat-i1.toNat) ((g.cap:Int).toNat-i1.toNat),.slice v2.a v2.len v2.cap]) f (λi j=>∃k,i=.int .i64 k/\((none:Option Value)=none\/∃v,(none:Option Value)=some v)/\(0<=(Ab .i64 (i1+(v2.len:Int)))/\(Ab .i64 (i1+(v2.len:Int)))<=(g.len:Int)/\(g.len:Int)<=(g.cap:Int)/\(g.cap:Int)<=(g.cap:Int))/\((none:Option Value)=none\/∃v,(none:Option Value)=some v)/\(0<=i1/\i1<=s0.len/\(s0.len:Int)<=(s0.cap:Int)/\(s0.cap:Int)<=(s0.cap:Int))/\XRun Tp (Di #[23,23] 3 #[.slice (Q4 g.a 4 ((Ab .i64 (i1+(v2.len:Int))).toNat) ((g.cap:Int).toNat)) ((g.len:Int).toNat-(Ab .i64 (i1+(v2.len:Int))).toNat) ((g.cap:Int).toNat-(Ab .i64 (i1+(v2.len:Int))).toNat),.slice (Q4 s0.a 4 i1.toNat ((s0.cap:Int).toNat)) ((s0.len:Int).toNat-i1.toNat) ((s0.cap:Int).toNat-i1.toNat)]) j (λl m=>∃n,l=.int .i64 n/\R (.slice g.a g.len g.cap) m))))/\((decide ((Ab .i64 ((s0.len:Int)+(v2.len:Int)))>(s0.cap:Int)))=false->((none:Option Value)=none\/∃v,(some (.int .i64 (Ab .i64 ((s0.len:Int)+(v2.len:Int)))):Option Value)=some v)/\(0<=(0:Int)/\(0:Int)<=(Ab .i64 ((s0.len:Int)+(v2.len:Int)))/\(Ab .i64 ((s0.len:Int)+(v2.len:Int)))<=(s0.cap:Int)/\(s0.cap:Int)<=(s0.cap:Int))/\((none:Option Value)=none\/∃v,(none:Option Value)=some v)/\(0<=(Ab .i64 (i1+(v2.len:Int)))/\(Ab .i64 (i1+(v2.len:Int)))<=((Ab .i64 ((s0.len:Int)+(v2.len:Int))).toNat-(0:Int).toNat:Int)/\(((Ab .i64 ((s0.len:Int)+(v2.len:Int))).toNat-(0:Int).toNat:Int):Int)<=((s0.cap:Int).toNat-(0:Int).toNat:Int)/\((s0.cap:Int).toNat-(0:Int).toNat:Int)<=((s0.cap:Int).toNat-(0:Int).toNat:Int))/\qb0 Tp 196 #[.slice v2.a v2.len v2.cap,.slice (Q4 (Q4 s0.a 4 ((0:Int).toNat) ((s0.cap:Int).toNat)) 4 ((Ab .i64 (i1+(v2.len:Int))).toNat) (((s0.cap:Int).toNat-(0:Int).toNat:Int).toNat)) ((((Ab .i64 ((s0.len:Int)+(v2.len:Int))).toNat-(0:Int).toNat:Int):Int).toNat-(Ab .i64 (i1+(v2.len:Int))).toNat) (((s0.cap:Int).toNat-(0:Int).toNat:Int).toNat-(Ab .i64 (i1+(v2.len:Int))).toNat)] h (λo p=>∃q,o=.bool q/\((!q)=true->((none:Option Value)=none\/∃v,(none:Option Value)=some v)/\(0<=(Ab .i64 (i1+(v2.len:Int)))/\(Ab .i64 (i1+(v2.len:Int)))<=((Ab .i64 ((s0.len:Int)+(v2.len:Int))).toNat-(0:Int).toNat:Int)/\(((Ab .i64 ((s0.len:Int)+(v2.len:Int))).toNat-(0:Int).toNat:Int):Int)<=((s0.cap:Int).toNat-(0:Int).toNat:Int)/\((s0.cap:Int).toNat-(0:Int).toNat:Int)<=((s0.cap:Int).toNat-(0:Int).toNat:Int))/\((none:Option Value)=none\/∃v,(none:Option Value)=some v)/\(0<=i1/\i1<=((Ab .i64 ((s0.len:Int)+(v2.len:Int))).toNat-(0:Int).toNat:Int)/\(((Ab .i64 ((s0.len:Int)+(v2.len:Int))).toNat-(0:Int).toNat:Int):Int)<=((s0.cap:Int).toNat-(0:Int).toNat:Int)/\((s0.cap:Int).toNat-(0:Int).toNat:Int)<=((s0.cap:Int).toNat-(0:Int).toNat:Int))/\XRun Tp (Di #[23,23] 3 #[.slice (Q4 (Q4 s0.a 4 ((0:Int).toNat) ((s0.cap:Int).toNat)) 4 ((Ab .i64 (i1+(v2.len:Int))).toNat) (((s0.cap:Int).toNat-(0:Int).toNat:Int).toNat)) ((((Ab .i64 ((s0.len:Int)+(v2.len:Int))).toNat-(0:Int).toNat:Int):Int).toNat-(Ab .i64 (i1+(v2.len:Int))).toNat) (((s0.cap:Int).toNat-(0:Int).toNat:Int).toNat-(Ab .i64 (i1+(v2.len:Int))).toNat),.slice (Q4 (Q4 s0.a 4 ((0:Int).toNat) ((s0.cap:Int).toNat)) 4 i1.toNat (((s0.cap:Int).toNat-(0:Int).toNat:Int).toNat)) ((((Ab .i64 ((s0.len:Int)+(v2.len:Int))).toNat-(0:Int).toNat:Int):Int).toNat-i1.toNat) (((s0.cap:Int).toNat-(0:Int).toNat:Int).toNat-i1.toNat)]) p (λr s=>∃t,r=.int .i64 t/\((none:Option Value)=none\/∃v,(none:Option Value)=some v)/\(0<=i1/\i1<=((Ab .i64 ((s0.len:Int)+(v2.len:Int))).toNat-(0:Int).toNat:Int)/\(((Ab .i64 ((s0.len:Int)+(v2.len:Int))).toNat-(0:Int).toNat:Int):Int)<=((s0.cap:Int).toNat-(0:Int).toNat:Int)/\((s0.cap:Int).toNat-(0:Int).toNat:Int)<=((s0.cap:Int).toNat-(0:Int).toNat:Int))/\XRun Tp (Di #[23,23] 3 #[.slice (Q4 (Q4 s0.a 4 ((0:Int).toNat) ((s0.cap:Int).toNat)) 4 i1.toNat (((s0.cap:Int).toNat-(0:Int).toNat:Int).toNat)) ((((Ab .i64 ((s0.len:Int)+(v2.len:Int))).toNat-(0:Int).toNat:Int):Int).toNat-i1.toNat) (((s0.cap:Int).toNat-(0:Int).toNat:Int).toNat-i1.toNat),.slice v2.a v2.len v2.cap]) s (λu w=>∃x,u=.int .i64 x/\R (.slice (Q4 s0.a 4 ((0:Int).toNat) ((s0.cap:Int).toNat)) ((Ab .i64 ((s0.len:Int)+(v2.len:Int))).toNat-(0:Int).toNat) ((s0.cap:Int).toNat-(0:Int).toNat)) w)))/\((!q)=false->((none:Option Value)=none\/∃v,(none:Option Value)=some v)/\(0<=(s0.len:Int)/\(s0.len:Int)<=((Ab .i64 ((s0.len:Int)+(v2.len:Int))).toNat-(0:Int).toNat:Int)/\(((Ab .i64 ((s0.len:Int)+(v2.len:Int))).toNat-(0:Int).toNat:Int):Int)<=((s0.cap:Int).toNat-(0:Int).toNat:Int)/\((s0.cap:Int).toNat-(0:Int).toNat:Int)<=((s0.cap:Int).toNat-(0:Int).toNat:Int))/\XRun Tp (Di #[23,23] 3 #[.slice (Q4 (Q4 s0.a 4 ((0:Int).toNat) ((s0.cap:Int).toNat)) 4 ((s0.len:Int).toNat) (((s0.cap:Int).toNat-(0:Int).toNat:Int).toNat)) ((((Ab .i64 ((s0.len:Int)+(v2.len:Int))).toNat-(0:Int).toNat:Int):Int).toNat-(s0.len:Int).toNat) (((s0.cap:Int).toNat-(0:Int).toNat:Int).toNat-(s0.len:Int).toNat),.slice v2.a v2.len v2.cap]) p (λy z=>∃A,y=.int .i64 A/\((none:Option Value)=none\/∃v,(none:Option Value)=some v)/\(0<=i1/\i1<=((Ab .i64 ((s0.len:Int)+(v2.len:Int))).toNat-(0:Int).toNat:Int)/\(((Ab .i64 ((s0.len:Int)+(v2.len:Int))).toNat-(0:Int).toNat:Int):Int)<=((s0.cap:Int).toNat-(0:Int).toNat:Int)/\((s0.cap:Int).toNat-(0:Int).toNat:Int)<=((s0.cap:Int).toNat-(0:Int).toNat:Int))/\XC Tp 197 #[.slice (Q4 (Q4 s0.a 4 ((0:Int).toNat) ((s0.cap:Int).toNat)) 4 i1.toNat (((s0.cap:Int).toNat-(0:Int).toNat:Int).toNat)) ((((Ab .i64 ((s0.len:Int)+(v2.len:Int))).toNat-(0:Int).toNat:Int):Int).toNat-i1.toNat) (((s0.cap:Int).toNat-(0:Int).toNat:Int).toNat-i1.toNat),.int .i64 (v2.len:Int)] z (λB C=>B=.tuple #[]/\R (.slice (Q4 s0.a 4 ((0:Int).toNat) ((s0.cap:Int).toNat)) ((Ab .i64 ((s0.len:Int)+(v2.len:Int))).toNat-(0:Int).toNat) ((s0.cap:Int).toNat-(0:Int).toNat)) C)))))))):
  XC Tp 164 #[.slice s0.a s0.len s0.cap,.int .i64 i1,.slice v2.a v2.len v2.cap] h R:=
 XF ⟨[(11,8),(15,8)],[],[]⟩ [.tmp 6] 95 Tryz.func164 H
theorem zmz(b:Int)(c:Bt)(d:Sl)(e:Sl)(f:Int)(g:Bt)(i:Sl)(j:Sl)(h:zb)(R:Value->zb->Prop)
  (H:let k:=h.push (.cells #[.int .i64 b,.string c,slV d,slV e] 25);let l:=k.push (.cells #[.int .i64 f,.string g,slV i,slV j] 25);∀m:Bool->zb->Prop,(∀n:Bool,∀o:zb,((n=true->R (.bool false) o)/\(n=false->∃p,zj o (Aj ⟨h.size,0,none⟩ 0)=some (.int .i64 p)/\((p != 6)=true->∃q,zj o (Aj ⟨h.size,0,none⟩ 3)=some (slV q)/\∃r,zj o (Aj ⟨k.size,0,none⟩ 3)=some (slV r)/\XC Tp 165 #[slV q,slV r,.func (.func 137) #[] #[]] o (λs t=>∃u,s=.bool u/\R (.bool u) t))/\((p != 6)=false->∃v w x y,zd o ⟨h.size,0,none⟩ 0 [.int .i64 v,.string w,slV x,slV y]/\∃z A B C,zd o ⟨k.size,0,none⟩ 0 [.int .i64 z,.string A,slV B,slV C]/\XC Tp 125 #[.agg #[.int .i64 v,.string w,slV x,slV y]] o (λD E=>∃F:Option Nat,D=.map F/\Keep o.size o E/\XC Tp 125 #[.agg #[.int .i64 z,.string A,slV B,slV C]] E (λG I=>∃J:Option Nat,G=.map J/\XC Tp 166 #[.map F,.map J,.func (.func 137) #[] #[]] I (λL M=>∃N,L=.bool N/\R (.bool N) M))))))->m n o)->∃O,zj l (Aj ⟨h.size,0,none⟩ 0)=some (.int .i64 O)/\∃P,zj l (Aj ⟨k.size,0,none⟩ 0)=some (.int .i64 P)/\((O != P)=true->m (O != P) l)/\((O != P)=false->∃Q,zj l (Aj ⟨h.size,0,none⟩ 1)=some (.string Q)/\∃S,zj l (Aj ⟨k.size,0,none⟩ 1)=some (.string S)/\((!(Q.toList==S.toList))=true->m (!(Q.toList==S.toList)) l)/\((!(Q.toList==S.toList))=false->∃T,zj l (Aj ⟨h.size,0,none⟩ 3)=some (slV T)/\∃U,zj l (Aj ⟨k.size,0,none⟩ 3)=some (slV U)/\m ((T.len:Int) != (U.len:Int)) l))):
  XC Tp 137 #[.agg #[.int .i64 b,.string c,.slice d.a d.len d.cap,.slice e.a e.len e.cap],.agg #[.int .i64 f,.string g,.slice i.a i.len i.cap,.slice j.a j.len j.cap]] h R:=
 XF ⟨[(7,2000)],[],[(4,[(5,.one (.bool))])]⟩ [.tmp 4] 37 Tryz.func137 H
theorem zfg(b:Int)(c:Bt)(d:Sl)(e:Sl)(h:zb)(R:Value->zb->Prop)
  (H:let f:=h.push (.cells #[.int .i64 b,.string c,slV d,slV e] 25);∃g,zj f (Aj ⟨h.size,0,none⟩ 2)=some (slV g)/\let i:=f.push (.map #[] 0);∃j,zj i (Aj ⟨h.size,0,none⟩ 2)=some (slV j)/\∃(k:Int->zb->Prop) (l:Int->zb->Nat),k 0 i/\∀m:Int,∀n:zb,k m n->((decide (m<j.len)=true->∃o,(j.a=some o/\0<=m/\m<j.len)/\∃p,zj n (o.add (m.toNat*1))=some (.string p)/\∃q,zj n (Aj ⟨h.size,0,none⟩ 3)=some (slV q)/\∃r,(q.a=some r/\0<=m/\m<q.len)/\∃s t u v,zd n (r.add (m.toNat*4)) 0 [.int .i64 s,.string t,slV u,slV v]/\XRunU Tp (CO 137 (.map (some f.size)) (.string p) (.agg #[.int .i64 s,.string t,slV u,slV v])) n (λw=>(k (Ab .i64 (m+1)) w/\l (Ab .i64 (m+1)) w<l m n)))/\(decide (m<j.len)=false->R (.map (some f.size)) n))):
  XC Tp 125 #[.agg #[.int .i64 b,.string c,.slice d.a d.len d.cap,.slice e.a e.len e.cap]] h R:=
 XF ⟨[],[(3,[(13,.one (.int .i64))])],[]⟩ [.tmp 2] 27 Tryz.func125 H
theorem ya(O:Sl)(Z:Sl)(aa:FuncId)(ae:Array Value)(ac:Array Value)(h:zb)(R:Value->zb->Prop)
  (H:(((O.len:Int) != (Z.len:Int))=true->R (.bool false) h)/\(((O.len:Int) != (Z.len:Int))=false->∃(b:Int->zb->Prop) (c:Int->zb->Nat),b 0 h/\∀d:Int,∀e:zb,b d e->((decide (d<O.len)=true->∃f,(O.a=some f/\0<=d/\d<O.len)/\∃g i j k,zd e (f.add (d.toNat*4)) 0 [.int .i64 g,.string i,slV j,slV k]/\let l:=e.push (.cells #[.int .i64 0,.string (⟨#[]⟩:Bt),.slice none 0 0,.slice none 0 0] 25);XRunU Tp (Al 25 (.pointer (some ⟨e.size,0,none⟩)) (.agg #[.int .i64 g,.string i,slV j,slV k])) l (λm=>∃n,(Z.a=some n/\0<=d/\d<Z.len)/\∃o p q r,zd m (n.add (d.toNat*4)) 0 [.int .i64 o,.string p,slV q,slV r]/\let s:=m.push (.cells #[.int .i64 0,.string (⟨#[]⟩:Bt),.slice none 0 0,.slice none 0 0] 25);XRunU Tp (Al 25 (.pointer (some ⟨m.size,0,none⟩)) (.agg #[.int .i64 o,.string p,slV q,slV r])) s (λt=>∃u v w x,zd t ⟨e.size,0,none⟩ 0 [.int .i64 u,.string v,slV w,slV x]/\∃y z A B,zd t ⟨m.size,0,none⟩ 0 [.int .i64 y,.string z,slV A,slV B]/\qk Tp aa=true/\XC Tp aa (ae++#[.agg #[.int .i64 u,.string v,slV w,slV x],.agg #[.int .i64 y,.string z,slV A,slV B]]++ac) t (λC D=>∃E,C=.bool E/\((!E)=true->R (.bool false) D)/\((!E)=false->(b (Ab .i64 (d+1)) D/\c (Ab .i64 (d+1)) D<c d e))))))/\(decide (d<O.len)=false->R (.bool true) e)))):
  XC Tp 165 #[.slice O.a O.len O.cap,.slice Z.a Z.len Z.cap,.func (.func aa) ae ac] h R:=
 XF ⟨[],[(4,[(17,.one (.int .i64))])],[]⟩ [.tmp 6] 32 Tryz.func165 H
theorem zjd(b:Int)(c:Bt)(d:Sl)(e:Sl)(h:zb)(R:Value->zb->Prop)
  (H:let f:=h.push (.cells #[.int .i64 b,.string c,slV d,slV e] 25);∃g i j k,zd f ⟨h.size,0,none⟩ 0 [.int .i64 g,.string i,slV j,slV k]/\XC Tp 44 #[.agg #[.int .i64 g,.string i,slV j,slV k]] f (λl m=>∃n,l=.bool n/\∃o p q r,(n=true->zd m ⟨h.size,0,none⟩ 0 [.int .i64 o,.string p,slV q,slV r])/\∃s:Value->zb->Prop,(n=true->XC Tp 45 #[.agg #[.int .i64 o,.string p,slV q,slV r],.func (.func 46) #[] #[]] m (λt u=>∃v,t=.bool v/\s (.bool v) u))/\(n=false->∃w,s (.bool w) m)/\(n=true->∀x y,s x y->∃z,x=.bool z)/\∀A:Bool,∀B,s (.bool A) B->R (.bool (bif n then A else false)) B)):
  XC Tp 21 #[.agg #[.int .i64 b,.string c,.slice d.a d.len d.cap,.slice e.a e.len e.cap]] h R:=
 XF ⟨[],[],[]⟩ [.tmp 2] 9 Tryz.func21 H
theorem zpd(b:Int)(c:Bt)(d:Sl)(e:Sl)(ac:Bt)(h:zb)(R:Value->zb->Prop)
  (H:let f:=h.push (.cells #[.int .i64 b,.string c,slV d,slV e] 25);let g:=f.push (.cells #[.int .i64 0,.string (⟨#[]⟩:Bt),.slice none 0 0,.slice none 0 0] 25);∃i j k l,zd g ⟨h.size,0,none⟩ 0 [.int .i64 i,.string j,slV k,slV l]/\XC Tp 42 #[.agg #[.int .i64 i,.string j,slV k,slV l]] g (λm n=>∃o,m=.bool o/\∃p,((!(!o))=true->zj n (Aj ⟨h.size,0,none⟩ 0)=some (.int .i64 p))/\((bif (!o)then true else(p != 6))=true->XRunU Tp (Al 25 (.pointer (some ⟨f.size,0,none⟩)) (.agg #[.int .i64 0,.string (⟨#[]⟩:Bt),.slice none 0 0,.slice none 0 0])) n (λq=>∃r s t u,zd q ⟨f.size,0,none⟩ 0 [.int .i64 r,.string s,slV t,slV u]/\R (.tuple #[.agg #[.int .i64 r,.string s,slV t,slV u],.bool false]) q))/\((bif (!o)then true else(p != 6))=false->∃v w x y,zd n ⟨h.size,0,none⟩ 0 [.int .i64 v,.string w,slV x,slV y]/\XC Tp 125 #[.agg #[.int .i64 v,.string w,slV x,slV y]] n (λz A=>∃B:Option Nat,z=.map B/\∃C D E F G,QExec Tp (D6 137 (.map B) (.string ac) true) A (.tuple #[.agg #[.int .i64 C,.string D,slV E,slV F],.bool G])/\let I:=A.push (.cells #[.int .i64 0,.string (⟨#[]⟩:Bt),.slice none 0 0,.slice none 0 0] 25);XRunU Tp (Al 25 (.pointer (some ⟨A.size,0,none⟩)) (.agg #[.int .i64 C,.string D,slV E,slV F])) I (λJ=>∃L M N O,zd J ⟨A.size,0,none⟩ 0 [.int .i64 L,.string M,slV N,slV O]/\XC Tp 58 #[.agg #[.int .i64 L,.string M,slV N,slV O]] J (λP Q=>∃S T U V,P=.agg #[.int .i64 S,.string T,slV U,slV V]/\XRunU Tp (Al 25 (.pointer (some ⟨f.size,0,none⟩)) (.agg #[.int .i64 S,.string T,slV U,slV V])) Q (λW=>∃X Y Z aa,zd W ⟨f.size,0,none⟩ 0 [.int .i64 X,.string Y,slV Z,slV aa]/\R (.tuple #[.agg #[.int .i64 X,.string Y,slV Z,slV aa],.bool G]) W))))))):
  XC Tp 92 #[.agg #[.int .i64 b,.string c,.slice d.a d.len d.cap,.slice e.a e.len e.cap],.string ac] h R:=
 XF ⟨[],[],[]⟩ [.cell 4 25,.tmp 5] 27 Tryz.func92 H
theorem zx(aH:Option Nat)(aG:Option Nat)(aD:FuncId)(aF:Array Value)(aE:Array Value)(h:zb)(R:Value->zb->Prop)
  (H:∃b,QExec Tp (CK #[137] 3 #[.map aH]) h (.int .i64 b)/\∃c,QExec Tp (CK #[137] 3 #[.map aG]) h (.int .i64 c)/\((b != c)=true->R (.bool false) h)/\((b != c)=false->XRun Tp (EU 137 (.map aH)) h (λd e=>∃f:Option Addr,d=.pointer f/\∃(g:zb->Prop) (i:zb->Nat),g e/\∀j:zb,g j->(XRun Tp (EZ (.pointer f) false 0) j (λk l=>(k=.tuple #[.bool false]/\(false=true->XRun Tp (Instr.entry (.pointer f)) l (λm n=>∃o p:Value,m=.tuple #[o,p]/\let q:=n.push (.cells #[.int .i64 0,.string (⟨#[]⟩:Bt),.slice none 0 0,.slice none 0 0] 25);XRunU Tp (Al 25 (.pointer (some ⟨n.size,0,none⟩)) p) q (λr=>∃s t u v w,QExec Tp (D6 137 (.map aG) o true) r (.tuple #[.agg #[.int .i64 s,.string t,slV u,slV v],.bool w])/\let x:=r.push (.cells #[.int .i64 0,.string (⟨#[]⟩:Bt),.slice none 0 0,.slice none 0 0] 25);XRunU Tp (Al 25 (.pointer (some ⟨r.size,0,none⟩)) (.agg #[.int .i64 s,.string t,slV u,slV v])) x (λy=>∃z A B C,((!(!w))=true->zd y ⟨n.size,0,none⟩ 0 [.int .i64 z,.string A,slV B,slV C])/\∃D E F G,((!(!w))=true->zd y ⟨r.size,0,none⟩ 0 [.int .i64 D,.string E,slV F,slV G])/\∃I:Value->zb->Prop,((!(!w))=true->qk Tp aD=true/\XC Tp aD (aF++#[.agg #[.int .i64 z,.string A,slV B,slV C],.agg #[.int .i64 D,.string E,slV F,slV G]]++aE) y (λJ L=>∃M,J=.bool M/\I (.bool M) L))/\((!(!w))=false->∃N,I (.bool N) y)/\((!(!w))=true->∀O P,I O P->∃Q,O=.bool Q)/\∀S:Bool,∀T,I (.bool S) T->((bif (!w)then true else(!S))=true->R (.bool false) T)/\((bif (!w)then true else(!S))=false->(g T/\i T<i j))))))/\(false=false->R (.bool true) l))\/∃U V:Value,k=.tuple #[.bool true,U,V]/\(true=true->XRun Tp (Instr.entry (.pointer f)) l (λW X=>∃Y Z:Value,W=.tuple #[Y,Z]/\let aa:=X.push (.cells #[.int .i64 0,.string (⟨#[]⟩:Bt),.slice none 0 0,.slice none 0 0] 25);XRunU Tp (Al 25 (.pointer (some ⟨X.size,0,none⟩)) Z) aa (λab=>∃ac ad ae af ag,QExec Tp (D6 137 (.map aG) Y true) ab (.tuple #[.agg #[.int .i64 ac,.string ad,slV ae,slV af],.bool ag])/\let ah:=ab.push (.cells #[.int .i64 0,.string (⟨#[]⟩:Bt),.slice none 0 0,.slice none 0 0] 25);XRunU Tp (Al 25 (.pointer (some ⟨ab.size,0,none⟩)) (.agg #[.int .i64 ac,.string ad,slV ae,slV af])) ah (λai=>∃aj ak al am,((!(!ag))=true->zd ai ⟨X.size,0,none⟩ 0 [.int .i64 aj,.string ak,slV al,slV am])/\∃an ao ap aq,((!(!ag))=true->zd ai ⟨ab.size,0,none⟩ 0 [.int .i64 an,.string ao,slV ap,slV aq])/\∃ar:Value->zb->Prop,((!(!ag))=true->qk Tp aD=true/\XC Tp aD (aF++#[.agg #[.int .i64 aj,.string ak,slV al,slV am],.agg #[.int .i64 an,.string ao,slV ap,slV aq]]++aE) ai (λau av=>∃aw,au=.bool aw/\ar (.bool aw) av))/\((!(!ag))=false->∃ax,ar (.bool ax) ai)/\((!(!ag))=true->∀ay az,ar ay az->∃aA,ay=.bool aA)/\∀aB:Bool,∀aC,ar (.bool aB) aC->((bif (!ag)then true else(!aB))=true->R (.bool false) aC)/\((bif (!ag)then true else(!aB))=false->(g aC/\i aC<i j))))))/\(true=false->R (.bool true) l)))))):
  XC Tp 166 #[.map aH,.map aG,.func (.func aD) aF aE] h R:=
 XF ⟨[],[(4,[])],[]⟩ [.tmp 6] 38 Tryz.func166 H
theorem Qa(O:Sl)(Z:Sl)(h:zb)(R:Value->zb->Prop)
  (H:(((O.len:Int) != (Z.len:Int))=true->R (.bool false) h)/\(((O.len:Int) != (Z.len:Int))=false->∃(b:Int->zb->Prop) (c:Int->zb->Nat),b 0 h/\∀d:Int,∀e:zb,b d e->((decide (d<O.len)=true->∃f,(O.a=some f/\0<=d/\d<O.len)/\∃g,zj e (f.add (d.toNat*1))=some (.string g)/\∃i,(Z.a=some i/\0<=d/\d<Z.len)/\∃j,zj e (i.add (d.toNat*1))=some (.string j)/\((!(g.toList==j.toList))=true->R (.bool false) e)/\((!(g.toList==j.toList))=false->(b (Ab .i64 (d+1)) e/\c (Ab .i64 (d+1)) e<c d e)))/\(decide (d<O.len)=false->R (.bool true) e)))):
  XC Tp 104 #[.slice O.a O.len O.cap,.slice Z.a Z.len Z.cap] h R:=
 XF ⟨[],[(4,[(13,.one (.int .i64))])],[]⟩ [.tmp 4] 26 Tryz.func104 H
end
section
variable {gl M:Fr} {v:Tr} {h:zb} {D:List Nat} {rb:Nat}
theorem zm0(hg:GL gl){s:Bt}(hs:(lb s).length<=1048576){R:Int->Prop}(h:R (qo v s)):PC Tp gl 134 [Arg.mk .tree v,Arg.mk .str s] [.int .i64] R:=by
 apply zjb
 unfold qo at h
 refine⟨λh6=>?_,λh6=>?_⟩
 ·have O:v.kind=6:=by simpa using h6
  rw[if_pos O]at h
  exact zam h
 ·have O:v.kind≠6:=by simpa using h6
  rw[if_neg O]at h
  have hi:=zhq hg (l:=lb s) hs (R:=λr=>r=zc2 (lb s)) rfl
  rw[W8]at hi
  refine hi.mono λr hr=>?_
  subst hr
  refine⟨λhx=>?_,λhx=>?_⟩
  ·have Z:((zc2 (lb s)).2=true/\v.kind=5)/\(zc2 (lb s)).1<v.items.length:=by simpa using hx
   rw[if_pos Z.1.2,if_pos ⟨Z.1.1,Z.2⟩]at h;exact h
  ·by_cases h5:v.kind=5
   ·rw[if_pos h5,if_neg (λhc=>by simp[hc.1,h5,hc.2]at hx)]at h;exact h
   ·rw[if_neg h5]at h;exact h
theorem Xm(ag:AgM M h)(bs:List Nat):Fr.le M (MxL M h bs):=by
 intro b c e
 unfold MxL
 split
 ·obtain⟨T,m,e'⟩:=ag b c e
  rw[e']
 ·exact e
theorem Plc.ld{p:Addr}{x:Tr}{T:Tr->Tr}(H:Plc h D rb p x T):∃(sk si:Sl) (bx:List Nat),zd h p 0 (zi x sk si)/\OT h x bx (zi x sk si)/\(∀c∈bx,c∈D)/\p.spot=none/\(p.block=rb\/p.block∈D)/\p.block∉bx:=by
 obtain⟨b,o,cs,bx,rfl,hb,ho,ot,aa,O,Z,af,ae,ac⟩:=H
 obtain⟨sk,si,e⟩:=ot.cells
 have e':cut cs o 4=zi x sk si:=e
 rw[e']at ot
 exact⟨sk,si,bx,zml hb (vs:=zi x sk si) (o:=o) (i:=0) e',ot,Z,rfl,O,aa⟩
theorem Plc.keepK{h h':zb}{p:Addr}{x:Tr}{T:Tr->Tr}(H:Plc h D rb p x T)(Z:rb<h.size)(k:Keep h.size h h'):Plc h' D rb p x T:=by
 have hD:∀c∈D,c<h.size:=by
  obtain⟨b,o,cs,bx,_,_,_,_,_,_,_,_,O,_⟩:=H
  exact O
 exact H.keep (λc hc=>k.get c (by
  rcases hc with rfl|hc
  ·exact Z
  ·exact hD c hc)) k.size
set_option maxHeartbeats 1000000 in
theorem z8d(hg:GL gl)(hv:Sm v)(ho:Y9 zy v=true){p:List Bt}(hp:SL p){u2:Value}(hM:Fr.le gl M)(ag:AgM M h)(hD:Doc h rb v D)(an:RdV M (.row .str) p u2){K:Value->zb->Prop}
  (ar:qz v p=none->∀h',Keep h.size h h'->K (.pointer none) h')
  (ak:∀x,qz v p=some x->Sm x->Y9 zy x=true->∀h' pa,Keep h.size h h'->Plc h' D rb pa x (λy=>Xk v p y)->K (.pointer (some pa)) h'):
  XC Tp 102 #[.pointer (some ⟨rb,0,none⟩),u2] h K:=by
 obtain⟨sp,rfl,rp⟩:=zin an
 obtain⟨am,aG,aE⟩:=rowLen rp
 have aD:=hp.n
 have aC:=hD.lt rb (.inl rfl)
 apply zhv (some ⟨rb,0,none⟩) sp
 refine⟨⟨rb,0,none⟩,rfl,λpl i g=>∃(k:Nat) (pa:Addr) (x:Tr) (T:Tr->Tr),i=(k:Int)/\k<=p.length/\pl=some pa/\Keep h.size h g/\Plc g D rb pa x T/\Sm x/\Y9 zy x=true/\qz v p=qz x (p.drop k)/\(qz v p≠none->∀y,T (Xk x (p.drop k) y)=Xk v p y),λ_ i _=>p.length-i.toNat,⟨0,_,v,id,rfl,by omega,rfl,Keep.refl _ _,?_,hv,ho,by simp,λ_ y=>by simp⟩,?_⟩
 ·rw[zh];exact hD.plc
 rintro pl i g ⟨k,pa,x,T,rfl,hk,rfl,kg,plc,hx,ae,hf,hT⟩
 have zg:=kg.size
 refine⟨λhc=>?_,λhc=>?_⟩
 ·have O:k<p.length:=by rw[am]at hc;simp at hc;omega
  have Z:p.drop k=p[k]::p.drop (k+1):=AL O
  rw[Z]at hf hT
  have agg:=ag.keep kg
  refine zio agg rp O rfl rfl ?_
  obtain⟨sk,si,bx,ap,ot,aF,_⟩:=Plc.ld plc
  refine⟨pa,rfl,x.kind,x.text,sk,si,ap,?_⟩
  have au:PC Tp gl 134 [Arg.mk .tree x,Arg.mk .str p[k]] [.int .i64] (λr=>r=qo x p[k]):=zm0 hg (hp.s _ (Ay O)) rfl
  refine au.go (vs:=[.agg #[.int .i64 x.kind,.string x.text,slV sk,slV si],.string p[k]]) (hM.trans (Xm agg bx)) (MxL.ag agg bx) (yj ot.rdv (yj (rdStr _) wm)) λw ai aB r ac ah hr=>?_
  have hr:r=qo x p[k]:=hr
  subst hr
  have aA:=ac.keep.size
  have aj:Keep h.size h ai:=kg.trans ac.keep zg
  refine⟨qo x p[k],qbu ah,λax=>?_,λal=>?_⟩
  ·refine ar ?_ ai aj
   rw[hf,zfw (by simpa using ax)]
  ·rcases zc3 (y5 ae) p[k]with e|⟨j,e,hj⟩
   ·rw[e]at al;simp at al
   ·have af:=Plc.keepK plc (by omega) ac.keep
    obtain⟨xi,aa,f1,f2,f3,f4⟩:=af.step hj
    rw[e]
    refine⟨pa,rfl,xi,f1,aa,⟨f2,by omega,by omega⟩,?_⟩
    rw[Zz O (by omega),Ah]
    have hm:=Ay hj
    rw[Q0 e hj]at hf
    refine⟨⟨k+1,aa.add (j*4),x.items[j],_,rfl,by omega,rfl,aj,f4,hx.item hm,y0 ae hm,hf,λay y=>?_⟩,by simp only[Ah];omega⟩
    have:=hT ay y
    rw[zs7 e hj]at this
    exact this
 ·have O:k=p.length:=by rw[am]at hc;simp at hc;omega
  subst O
  rw[C4,Jb]at hf
  refine ak x hf hx ae g pa kg ?_
  have az:T=λy=>Xk v p y:=funext λy=>by
   have:=hT (by rw[hf];exact λh=>by cases h) y
   rw[C4]at this
   exact this
  rw[<-az];exact plc
end
end Go.X
end
section
namespace Go.X
open Go Go.RowKit
section
variable {cs:Array Value} {o n b k:Nat} {h:zb} {P:Program} {t e ty:TypeId} {z:Value} {K:Value -> zb -> Prop}
theorem we(h:o+n<=cs.size):(cut cs o n).length=n:=by unfold cut;simp;omega
theorem zm1(H:Blk h b cs):Arr h.size h (some ⟨b,o,none⟩) (cut cs o n):=by
 refine .inr ⟨b,o,rfl,H.lt,λi v hv=>H.cell ?_⟩
 rw[zp]at hv
 split at hv
 ·rw[<-AU];exact hv
 ·cases hv
theorem zhx(H:Blk h b cs){vs:List Value}(hl:o+vs.length<=cs.size)(h1:∀u∈vs,u.oneCell'=true)(B:World)(d:Nat):
  ∃h',(storeCells ⟨b,o,none⟩ vs 0).run P (mk B d h)=.ok () (mk B d h')/\Blk h' b (upd cs o vs)/\h'.size=h.size/\∀j,j≠b->h'[j]?=h[j]?:=by
 obtain⟨T,e⟩:=H
 obtain⟨h',r1,r2,r3,r4⟩:=zn9 (P:=P) e hl h1 B d
 exact⟨h',r1,⟨T,r2⟩,r3,r4⟩
theorem z4u{sz bytes:Nat}(T:ElemT P t e z sz bytes){s:Sl}(ha:s.a=some ⟨b,0,none⟩)(hb:Blk h b cs)(hc:s.cap*sz<=cs.size)(hl:s.len<=s.cap)(h1:∀u∈cut cs 0 (s.len*sz),u.oneCell'=true)(hk:k<s.len)
  (hK:∀h':zb,Blk h' b (upd cs (k*sz) (cut cs ((k+1)*sz) ((s.len-(k+1))*sz)))->h'.size=h.size->(∀j,j≠b->h'[j]?=h[j]?)->K (.slice s.a (s.len-1) s.cap) h'):
  XRun P (Ax #[t,t] ty #[.slice s.a k s.cap,.slice (Q4 s.a sz (k+1) s.cap) (s.len-(k+1)) (s.cap-(k+1))]) h K:=by
 intro B d
 have m1:s.len*sz<=s.cap*sz:=AM _ hl
 have m2:(k+1)*sz+(s.len-(k+1))*sz=s.len*sz:=by rw[<-BB];congr 1;omega
 have m3:(k+1)*sz=k*sz+sz:=Du _ _
 have aa:(cut cs ((k+1)*sz) ((s.len-(k+1))*sz)).length=(s.len-(k+1))*sz:=we (by omega)
 have O:∀u∈cut cs ((k+1)*sz) ((s.len-(k+1))*sz),u.oneCell'=true:=λu hu=>h1 u (by
  unfold cut at hu ⊢
  rw[A2,List.take_drop,m2]at *
  exact Cy hu)
 have Z:Arr h.size h (Q4 s.a sz (k+1) s.cap) (cut cs ((k+1)*sz) ((s.len-(k+1))*sz)):=by
  unfold Q4
  by_cases ac:s.cap=k+1
  ·have h0:s.len-(k+1)=0:=by omega
   rw[h0,Dc];exact .inl (by unfold cut;simp)
  ·rw[if_neg ac,ha]
   have:(Option.map (λx=>Aj x ((k+1)*sz)) (some (⟨b,0,none⟩:Addr)))=some ⟨b,(k+1)*sz,none⟩:=by simp[zh]
   rw[this];exact zm1 hb
 have hS:=zgq (P:=P) (s:=⟨Q4 s.a sz (k+1) s.cap,s.len-(k+1),s.cap-(k+1)⟩) Z aa T.pos O T.slice B d
 obtain⟨h',r1,r2,r3,r4⟩:=zhx (P:=P) hb (o:=k*sz) (vs:=cut cs ((k+1)*sz) ((s.len-(k+1))*sz)) (by rw[aa];omega) O B d
 have hr:=Zq (P:=P) (ty:=ty) T (s:=⟨s.a,k,s.cap⟩) (h':=h') hS (by simp only;omega) (λp hp=>by
  simp only at hp ⊢
  rw[ha]at hp
  cases hp
  rw[zh,AD];exact r1) (λhn=>by simp only at hn;rw[ha]at hn;cases hn)
 refine⟨_,d,h',hr,?_⟩
 have:=hK h' r2 r3 r4
 rw[show k+(s.len-(k+1))=s.len-1 by omega]
 exact this
theorem zpe{sz n k:Nat}(hn:n*sz<=cs.size)(hk:k<n){c2:Array Value}(h2:∀q,q<(n-1)*sz->c2.toList[q]?=(upd cs (k*sz) (cut cs ((k+1)*sz) ((n-(k+1))*sz))).toList[q]?):
  cut c2 0 ((n-1)*sz)=(cut cs 0 (n*sz)).take (k*sz)++(cut cs 0 (n*sz)).drop ((k+1)*sz):=by
 have m2:(k+1)*sz+(n-(k+1))*sz=n*sz:=by rw[<-BB];congr 1;omega
 have m3:(k+1)*sz=k*sz+sz:=Du _ _
 have m4:(n-1)*sz=k*sz+(n-(k+1))*sz:=by rw[<-BB];congr 1;omega
 have aa:(cut cs ((k+1)*sz) ((n-(k+1))*sz)).length=(n-(k+1))*sz:=we (by omega)
 have hu:k*sz+(cut cs ((k+1)*sz) ((n-(k+1))*sz)).length<=cs.size:=by rw[aa];omega
 have O:(cut cs 0 (n*sz)).length=n*sz:=we (by omega)
 apply AZ
 intro q
 rw[zp]
 split
 ·rename_i hq
  rw[AD,h2 q hq,jh hu,aa]
  split
  ·rename_i Z
   rw[Bg (by rw[AY,O];omega),AC,if_pos Z,zp,if_pos (by omega),AD]
  ·rename_i Z
   rw[if_pos (by omega),Bb (by rw[AY,O];omega),AY,O,CP (by omega),AE,zp,zp,if_pos (by omega),if_pos (by omega)]
   congr 1;omega
 ·rename_i hq
  rw[Bj]
  rw[Ar,AY,AX,O];omega
theorem ztn{sz bytes:Nat}(T:ElemT P t e z sz bytes)(Z:∀v∈(Bl z.cells 1).toList,v.oneCell'=true)(O:(Bl z.cells 1).toList.length=1*sz){a:Option Addr}{n cap:Nat}(ha:a=some ⟨b,0,none⟩)(hb:Blk h b cs)(hc:cap*sz<=cs.size)(hn:n+1<=cap)
  (hK:∀(h':zb) (cs':Array Value),Blk h' b cs'->cs'.size=cs.size->(∀q,q<n*sz->cs'.toList[q]?=cs.toList[q]?)->h'.size=h.size->(∀j,j≠b->h'[j]?=h[j]?)->K (.tuple #[]) h'):
  XRun P (D3 #[t] ty #[.slice (Q4 a sz n cap) (n+1-n) (cap-n)]) h K:=by
 have e1:Q4 a sz n cap=some ⟨b,n*sz,none⟩:=by
  unfold Q4
  rw[if_neg (by omega),ha];simp[zh]
 have e2:n+1-n=1:=by omega
 rw[e1,e2]
 obtain⟨X,hX⟩:=hb
 have m1:(n+1)*sz<=cap*sz:=AM _ hn
 have m2:(n+1)*sz=n*sz+sz:=Du _ _
 refine zws T hX (n:=1) (by rw[Dd];omega) Z O (λh' q1 q2 q3=>?_) (by omega)
 have hl:n*sz+(Bl z.cells 1).toList.length<=cs.size:=by rw[O];omega
 refine hK h' (upd cs (n*sz) (Bl z.cells 1).toList) ⟨X,by rw[q1];unfold upd;rw[O]⟩ (y7 hl) (λq hq=>?_) q2 q3
 rw[jh hl,if_pos hq]
end
section
variable {P:Program} {t e ty:TypeId} {z:Value} {h:zb} {b m:Nat} {cs:Array Value} {K:Value -> zb -> Prop} {vs:List Value}
theorem zm2{sz bytes:Nat}(T:ElemT P t e z sz bytes){b o aa af:Nat}(hb:Blk h b cs){b2 o2 Z ac:Nat}{O:Array Value}(ai:Blk h b2 O)(hm:m=Nat.min Z aa)(h2:o2+m*sz<=O.size)(ae:o+m*sz<=cs.size)(h1:∀u∈cut O o2 (m*sz),u.oneCell'=true)
  (hK:∀h':zb,Blk h' b (upd cs o (cut O o2 (m*sz)))->h'.size=h.size->(∀j,j≠b->h'[j]?=h[j]?)->K (.int .i64 (m:Int)) h'):
  XRun P (Di #[t,t] ty #[.slice (some ⟨b,o,none⟩) aa af,.slice (some ⟨b2,o2,none⟩) Z ac]) h K:=by
 intro B d
 obtain⟨i,hi,hz,ah,aj⟩:=T.info
 have hl:(cut O o2 (m*sz)).length=m*sz:=we h2
 have hf:=run_firstCells_some (P:=P) (mk B d h) sz m ⟨b2,o2,none⟩ Z ac (cut O o2 (m*sz)) hl (λj u hu=>by
  rw[zh]
  rw[zp]at hu
  split at hu
  ·exact ai.cell (by rw[<-AU];exact hu)
  ·cases hu)
 obtain⟨h',r1,r2,r3,r4⟩:=zhx (P:=P) hb (o:=o) (vs:=cut O o2 (m*sz)) (by rw[hl];exact ae) h1 B d
 refine⟨.int .i64 (m:Int),d,h',?_,hK h' r2 r3 r4⟩
 simp[Di,run_underlying T.slice,Builtin.lenOf,sizeOf,typeInfo,hi,ah,<-hm,hf,r1,goInt]
structure RowO (h:zb) (s:Sl) (b:Nat) (cs:Array Value) (sz:Nat):Prop where
 le:s.len<=s.cap
 at_:(s.len=0/\s.cap=0)\/(s.a=some ⟨b,0,none⟩/\Blk h b cs/\s.cap*sz<=cs.size)
structure RowN (h h':zb) (s':Sl) (b b':Nat) (cs':Array Value) (sz n:Nat) (cells:List Value):Prop where
 a:s'.a=some ⟨b',0,none⟩
 len:s'.len=n
 cap:n<=s'.cap
 blk:Blk h' b' cs'
 size:s'.cap*sz<=cs'.size
 cut:cut cs' 0 (n*sz)=cells
 new:b'=b\/h.size<=b'
 grow:h.size<=h'.size
 old:∀j,j<h.size->j≠b'->h'[j]?=h[j]?
theorem z8e{n m:Nat}(hl:n+vs.length<=cs.size)(hm:m=n+vs.length):cut (upd cs n vs) 0 m=cut cs 0 n++vs:=by
 subst hm
 have O:(cut cs 0 n).length=n:=we (by omega)
 apply AZ
 intro q
 rw[zp]
 split
 ·rename_i hq
  rw[AD,jh hl]
  split
  ·rename_i h1
   rw[Bg (by rw[O];exact h1),zp,if_pos h1,AD]
  ·rename_i h1
   rw[Bb (by rw[O];omega),O]
 ·rename_i hq
  rw[Bj]
  rw[Ar,O];omega
theorem zm3{sz bytes:Nat}(T:ElemT P t e z sz bytes){s:Sl}(H:RowO h s b cs sz){bv cv:Nat}(hv:Blk h bv vs.toArray)(Z:vs.length=sz)(h1:∀u∈vs,u.oneCell'=true)(hb:(s.len+1)*bytes<=140737488355328)(hm:s.len+1<=140737488355328)
  (hK:∀(s':Sl) (h':zb) (b':Nat) (cs':Array Value),RowN h h' s' b b' cs' sz (s.len+1) (cut cs 0 (s.len*sz)++vs)->K (.slice s'.a s'.len s'.cap) h'):
  XRun P (Ax #[t,t] ty #[.slice s.a s.len s.cap,.slice (some ⟨bv,0,none⟩) 1 cv]) h K:=by
 intro B d
 have ac:Arr h.size h (some ⟨bv,0,none⟩) vs:=by
  have:=zm1 hv (o:=0) (n:=vs.length)
  rw[show cut vs.toArray 0 vs.length=vs by unfold cut;simp]at this
  exact this
 have hS:∀B d,Src P sz t (.slice (some ⟨bv,0,none⟩) 1 cv) 1 vs (mk B d h):=λB d=>zgq (P:=P) (s:=⟨some ⟨bv,0,none⟩,1,cv⟩) ac (by simp[Z]) T.pos h1 T.slice B d
 have m0:(s.len+1)*sz=s.len*sz+sz:=Du _ _
 by_cases hr:s.len+1<=s.cap
 ·rcases H.at_ with⟨_,h0⟩|⟨ha,aa,hc⟩
  ·omega
  have m1:(s.len+1)*sz<=s.cap*sz:=AM _ hr
  obtain⟨h',r1,r2,r3,r4⟩:=zhx (P:=P) aa (o:=s.len*sz) (vs:=vs) (by rw[Z];omega) h1 B d
  have af:=Zq (P:=P) (ty:=ty) T (s:=s) (h':=h') (hS B d) hr (λp hp=>by
   rw[ha]at hp
   cases hp
   rw[zh,AD];exact r1) (λhn=>by rw[ha]at hn;cases hn)
  refine⟨_,d,h',af,hK ⟨s.a,s.len+1,s.cap⟩ h' b _ ⟨ha,rfl,hr,r2,by rw[y7 (by rw[Z];omega)];exact hc,z8e (by rw[Z];omega) (by rw[Z];exact m0),.inl rfl,by omega,λj hj ae=>r4 j ae⟩⟩
 ·have O:Arr h.size h s.a (cut cs 0 (s.len*sz))/\(cut cs 0 (s.len*sz)).length=s.len*sz:=by
   rcases H.at_ with⟨h0,_⟩|⟨ha,aa,hc⟩
   ·rw[h0,Dc];exact⟨.inl (by unfold cut;simp),by unfold cut;simp⟩
   ·have m1:s.len*sz<=s.cap*sz:=AM _ H.le
    rw[ha];exact⟨zm1 aa,we (by omega)⟩
  obtain⟨c,blk,q1,q2,q3,q4,q5⟩:=Ju (P:=P) (ty:=ty) (base:=0) T O.2 (λB d=>Zy O.1 O.2 T.pos B d) hS hb hm (CW _) (by omega) B d
  refine⟨_,d+1,_,q1,hK ⟨some ⟨h.size,0,none⟩,s.len+1,c⟩ _ h.size blk ⟨rfl,rfl,q2,Blk.new _ _ _,by rw[q4];exact Ae _,by unfold cut;rw[A2];exact q5,.inr (Ae _),by simp,λj hj ae=>by rw[BH,if_neg (by omega)]⟩⟩
end
end Go.X
end
section
namespace Go.X
section
variable {h:zb} {b k c m bv:Nat} {cs c2:Array Value} {K:Value -> zb -> Prop} {vs X:List Value}
theorem zpf:(∀v∈(Bl (EY #[.int .i64 0,.string ⟨#[]⟩,.slice none 0 0,.slice none 0 0]).cells 1).toList,v.oneCell'=true)/\(Bl (EY #[.int .i64 0,.string ⟨#[]⟩,.slice none 0 0,.slice none 0 0]).cells 1).toList.length=1*4:=by decide +kernel
theorem zto:(∀v∈(Bl (AW ⟨#[]⟩).cells 1).toList,v.oneCell'=true)/\(Bl (AW ⟨#[]⟩).cells 1).toList.length=1*1:=by decide +kernel
theorem zra{s:Sl}(ha:s.a=some ⟨b,0,none⟩)(hb:Blk h b cs)(hc:s.cap*4<=cs.size)(hl:s.len<=s.cap)(h1:∀u∈cut cs 0 (s.len*4),u.oneCell'=true)(hk:k<s.len)(Z:s.len<=140737488355328)
  (hK:∀(h':zb) (cs':Array Value),Blk h' b cs'->cs'.size=cs.size->h'.size=h.size->(∀j,j≠b->h'[j]?=h[j]?)->cut cs' 0 ((s.len-1)*4)=(cut cs 0 (s.len*4)).take (k*4)++(cut cs 0 (s.len*4)).drop ((k+1)*4)->K (.slice s.a (s.len-1) s.cap) h'):
  XC Tp 135 #[slV s,.int .i64 (k:Int),.int .i64 ((k+1:Nat):Int)] h K:=by
 apply w8 s (k:Int) ((k+1:Nat):Int)
 refine⟨.inr ⟨_,rfl⟩,⟨by omega,by omega,by omega,by omega⟩,λhx=>?_,λ_=>⟨.inl rfl,⟨by omega,by omega,by omega,by omega⟩,.inl rfl,⟨by omega,by omega,by omega,by omega⟩,?_⟩⟩
 ·simp at hx;omega
 ·simp only[Ah,C8,Cm,Qr]
  refine z4u elemTree ha hb hc hl h1 hk λh2 b2 z2 f2=>⟨⟨s.a,s.len-1,s.cap⟩,rfl,.inr ⟨_,rfl⟩,⟨by simp only;omega,by simp only;omega,by simp only;omega,by simp only;omega⟩,?_⟩
  simp only[Ah]
  have m1:s.len*4<=s.cap*4:=AM _ hl
  have O:(upd cs (k*4) (cut cs ((k+1)*4) ((s.len-(k+1))*4))).size=cs.size:=y7 (by rw[we (by omega)];omega)
  have e:s.len=s.len-1+1:=by omega
  rw[show s.len-(s.len-1)=s.len-1+1-(s.len-1)by omega]
  refine ztn elemTree zpf.1 zpf.2 ha b2 (by rw[O];exact hc) (by omega) λh3 c3 b3 s3 q3 z3 f3=>⟨rfl,?_⟩
  exact hK h3 c3 b3 (by rw[s3,O]) (by omega) (λj hj=>(f3 j hj).trans (f2 j hj)) (zpe (by omega) hk q3)
theorem zvs{s:Sl}(ha:s.a=some ⟨b,0,none⟩)(hb:Blk h b cs)(hc:s.cap*1<=cs.size)(hl:s.len<=s.cap)(h1:∀u∈cut cs 0 (s.len*1),u.oneCell'=true)(hk:k<s.len)(Z:s.len<=140737488355328)
  (hK:∀(h':zb) (cs':Array Value),Blk h' b cs'->cs'.size=cs.size->h'.size=h.size->(∀j,j≠b->h'[j]?=h[j]?)->cut cs' 0 ((s.len-1)*1)=(cut cs 0 (s.len*1)).take (k*1)++(cut cs 0 (s.len*1)).drop ((k+1)*1)->K (.slice s.a (s.len-1) s.cap) h'):
  XC Tp 136 #[slV s,.int .i64 (k:Int),.int .i64 ((k+1:Nat):Int)] h K:=by
 apply Z2 s (k:Int) ((k+1:Nat):Int)
 refine⟨.inr ⟨_,rfl⟩,⟨by omega,by omega,by omega,by omega⟩,λhx=>?_,λ_=>⟨.inl rfl,⟨by omega,by omega,by omega,by omega⟩,.inl rfl,⟨by omega,by omega,by omega,by omega⟩,?_⟩⟩
 ·simp at hx;omega
 ·simp only[Ah,C8,Cm,Qr]
  refine z4u zho ha hb hc hl h1 hk λh2 b2 z2 f2=>⟨⟨s.a,s.len-1,s.cap⟩,rfl,.inr ⟨_,rfl⟩,⟨by simp only;omega,by simp only;omega,by simp only;omega,by simp only;omega⟩,?_⟩
  simp only[Ah]
  have m1:s.len*1<=s.cap*1:=AM _ hl
  have O:(upd cs (k*1) (cut cs ((k+1)*1) ((s.len-(k+1))*1))).size=cs.size:=y7 (by rw[we (by omega)];omega)
  rw[show s.len-(s.len-1)=s.len-1+1-(s.len-1)by omega]
  refine ztn zho zto.1 zto.2 ha b2 (by rw[O];exact hc) (by omega) λh3 c3 b3 s3 q3 z3 f3=>⟨rfl,?_⟩
  exact hK h3 c3 b3 (by rw[s3,O]) (by omega) (λj hj=>(f3 j hj).trans (f2 j hj)) (zpe (by omega) hk q3)
theorem zhy{a:Option Addr}(ha:a=some ⟨b,0,none⟩)(h:k<c):Q4 a 4 k c=some ⟨b,k*4,none⟩:=by
 unfold Q4
 rw[if_neg (by omega),ha];simp[zh]
theorem ztp{P vs X:List Value}{k q:Nat}(hP:P.length=k*4)(hv:vs.length=4):(P++vs++X)[q]?=if q<k*4 then P[q]? else if q<(k+1)*4 then vs[q-k*4]? else X[q-(k+1)*4]?:=by
 split
 ·rw[AQ,Bg (by omega)]
 ·split
  ·rw[AQ,Bb (by omega),hP,Bg (by omega)]
  ·rw[Bb (by rw[Ar];omega),Ar,hP,hv]
   congr 1;omega
theorem zvt(hv:vs.length=4)(hl:(k+1)*4+X.length<=c2.size)(hm:m=(k+1)*4+X.length):cut (upd (upd c2 ((k+1)*4) X) (k*4) vs) 0 m=cut c2 0 (k*4)++vs++X:=by
 subst hm
 have hs:=y7 hl
 have hP:(cut c2 0 (k*4)).length=k*4:=we (by omega)
 apply AZ
 intro q
 rw[zp,ztp hP hv]
 split
 ·rw[AD,jh (by rw[hs,hv];omega),hv]
  split
  ·rw[jh hl,if_pos (by omega),zp,if_pos (by assumption),AD]
  ·by_cases h2:q<(k+1)*4
   ·rw[if_pos (by omega),if_pos h2]
   ·rw[if_neg (by omega),if_neg h2,jh hl,if_neg (by omega),if_pos (by omega)]
 ·rw[if_neg (by omega),if_neg (by omega),Bj (by omega)]
theorem zvu(hv:vs.length=4)(hl:(k+1)*4+X.length<=c2.size)(hm:m=(k+1)*4+X.length):cut (upd (upd c2 (k*4) vs) ((k+1)*4) X) 0 m=cut c2 0 (k*4)++vs++X:=by
 subst hm
 have O:k*4+vs.length<=c2.size:=by omega
 have hs:=y7 O
 have hP:(cut c2 0 (k*4)).length=k*4:=we (by omega)
 apply AZ
 intro q
 rw[zp,ztp hP hv]
 split
 ·rw[AD,jh (by rw[hs];omega)]
  by_cases h1:q<k*4
  ·rw[if_pos (by omega),if_pos h1,jh O,if_pos h1,zp,if_pos h1,AD]
  ·rw[if_neg h1]
   by_cases h2:q<(k+1)*4
   ·rw[if_pos h2,if_pos h2,jh O,if_neg h1,if_pos (by omega)]
   ·rw[if_neg h2,if_neg h2,if_pos (by omega)]
 ·rw[if_neg (by omega),if_neg (by omega),Bj (by omega)]
theorem zrb{vs cs:Array Value}(hv:Blk h bv vs)(hb:Blk h b cs)(ac:0<cs.size)(Z:bv≠b){o l c:Nat}(hK:K (.bool false) h):
  qb0 Tp 196 #[.slice (some ⟨bv,0,none⟩) 1 1,.slice (some ⟨b,o,none⟩) l c] h K:=by
 intro B d
 obtain⟨T1,e1⟩:=hv
 obtain⟨T2,e2⟩:=hb
 refine⟨.bool false,d,h,?_,hK⟩
 obtain⟨i,hi,hz,O,aa⟩:=elemTree.info
 rw[run_callFunc_extern Tryz.func196 (by kernel_rfl) (by kernel_rfl) (by kernel_rfl) (e:=Extern.SlicesOverlaps.overlaps #[23,23] #[4]) (by kernel_rfl),
  Lib.run_overlaps_apart (mk B d h) 23 4 25 elemTree.slice 4 (λw=>by simp[Go.sizeOf,typeInfo,hi,O]) ⟨bv,0,none⟩ ⟨b,o,none⟩ 1 1 l c Z T1 T2 vs.size cs.size (by
   show(match h[bv]? with
    |some (.cells c elem _)=>some (elem,c.size)
    |_=>none)=_
   rw[e1]) (by
   show(match h[b]? with
    |some (.cells c elem _)=>some (elem,c.size)
    |_=>none)=_
   rw[e2]) (by omega) (by
   show(match h[bv]? with
    |some (.cells _ _ (lo,hi))=>decide (lo<=0)&&decide (0<hi)
    |_=>false)=_
   rw[e1];simp) (by
   show(match h[bv]? with
    |some (.cells _ _ (lo,hi))=>decide (lo<=vs.size)&&decide (vs.size<hi)
    |_=>false)=_
   rw[e1];simp)]
 rfl
set_option maxHeartbeats 1000000 in
theorem zzx{s:Sl}(H:RowO h s b cs 4)(h1:∀u∈cut cs 0 (s.len*4),u.oneCell'=true)(hv:Blk h bv vs.toArray)(Z:vs.length=4)(ah:∀u∈vs,u.oneCell'=true)(O:bv≠b)(aD:(s.len+1)*72<=140737488355328)(hk:k<=s.len)
  (hK:∀(s':Sl) (h':zb) (b':Nat) (cs':Array Value),RowN h h' s' b b' cs' 4 (s.len+1) ((cut cs 0 (s.len*4)).take (k*4)++vs++(cut cs 0 (s.len*4)).drop (k*4))->K (slV s') h'):
  XC Tp 164 #[slV s,.int .i64 (k:Int),.slice (some ⟨bv,0,none⟩) 1 1] h K:=by
 have aF:=H.le
 apply w9 s (k:Int) ⟨some ⟨bv,0,none⟩,1,1⟩
 simp only
 have w1:Ab .i64 (((s.len:Nat):Int)+((1:Nat):Int))=((s.len+1:Nat):Int):=Zz (n:=s.len+1) (by omega) (by omega)
 have w2:Ab .i64 ((k:Int)+((1:Nat):Int))=((k+1:Nat):Int):=Zz (n:=k+1) (by omega) (by omega)
 refine⟨.inl trivial,⟨by omega,by omega,by omega,by omega⟩,λhx=>by simp at hx,λ_=>⟨λhx=>?_,λhx=>?_⟩⟩
 ·have au:k=s.len:=by simp at hx;omega
  subst au
  refine zm3 elemTree H hv Z ah (by omega) (by omega) λs' h' b' cs' N=>⟨s',rfl,?_⟩
  refine hK s' h' b' cs' ?_
  have ae:(cut cs 0 (s.len*4)).length<=s.len*4:=by unfold cut;simp;omega
  rw[Be ae,A7 ae,Ba]
  exact N
 ·have au:k<s.len:=by(have:k≠s.len:=by simp at hx;omega);omega
  rcases H.at_ with⟨h0,_⟩|⟨ha,hb,hc⟩
  ·omega
  have ae:(cut cs 0 (s.len*4)).length=s.len*4:=we (by omega)
  have t1:(cut cs 0 (s.len*4)).take (k*4)=cut cs 0 (k*4):=by
   unfold cut;rw[A2,Er,CP (by omega)]
  have t2:(cut cs 0 (s.len*4)).drop (k*4)=cut cs (k*4) ((s.len-k)*4):=by
   unfold cut;rw[A2,Ep];congr 1;omega
  rw[w1,w2]
  have ac:∀u∈cut cs (k*4) ((s.len-k)*4),u.oneCell'=true:=λu hu=>h1 u (Cy (t2 ▸ hu))
  refine⟨λhg=>?_,λhg=>?_⟩
  ·have ap:s.cap<s.len+1:=by simp at hg;omega
   simp only[Ah,C8,Cm,Qr]
   have w3:Ab .i64 (((s.len+1:Nat):Int)-(k:Int))=((s.len+1-k:Nat):Int):=by rw[w64 (by omega)];omega
   rw[w3]
   refine⟨.inr ⟨_,rfl⟩,⟨by omega,by omega,by omega,by omega⟩,?_⟩
   intro B d
   obtain⟨i,hi,hz,al,am⟩:=elemTree.info
   have af:(Cr i.size k (.slice s.a k s.cap)).run Tp (mk B d h).drew=.ok (cut cs 0 (k*4)).toArray (mk B d h).drew:=by
    rw[al]
    exact Zy (s:=⟨s.a,k,s.cap⟩) (n:=h.size) (by rw[ha];exact zm1 hb) (we (by simp only;omega)) (by omega) B (d+1)
   have hr:=Lib.run_append_grow_zeros (P:=Tp) (mk B d h) 23 3 23 25 i _ .i64 .i64 elemTree.slice (by kernel_rfl) hi hz s.a k s.cap (cut cs 0 (k*4)) af (s.len+1-k) (by omega) (by rw[al];omega) (by omega) (by omega) (by rw[am];omega) (by rw[am];exact growslice_fits (by omega) (by omega))
   have an:=grownCap_ge (mk B d h) (k+(s.len+1-k)) s.cap 25
   generalize grownCap (mk B d h) (k+(s.len+1-k)) s.cap 25=c at *
   rw[show k+(s.len+1-k)=s.len+1 by omega]at hr an
   refine⟨_,d+1,_,hr,⟨some ⟨h.size,0,none⟩,s.len+1,c⟩,rfl,.inl trivial,⟨by omega,by simp only;omega,by simp only;omega,by simp only;omega⟩,?_⟩
   simp only
   generalize ak:(cut cs 0 (k*4)).toArray++Bl (EY #[.int .i64 0,.string ⟨#[]⟩,.slice none 0 0,.slice none 0 0]).cells (s.len+1-k)++Bl (EY #[.int .i64 0,.string ⟨#[]⟩,.slice none 0 0,.slice none 0 0]).cells (c-(s.len+1))=blk
   have ar:∀m,(Bl (EY #[.int .i64 0,.string ⟨#[]⟩,.slice none 0 0,.slice none 0 0]).cells m).size=m*4:=λm=>by rw[size_zeroCells,elemTree.zero]
   have hP:(cut cs 0 (k*4)).length=k*4:=we (by omega)
   have az:blk.size=c*4:=by
    rw[<-ak,Array.size_append,Array.size_append,ar,ar];simp only[DO,hP];omega
   have ay:cut blk 0 (k*4)=cut cs 0 (k*4):=by
    rw[<-ak]
    unfold cut
    rw[A2,Array.toList_append,Array.toList_append,AQ]
    rw[show((List.take (k*4) (List.drop 0 cs.toList)).toArray).toList=cut cs 0 (k*4)from rfl,List.take_append,Be (by omega),hP,Nat.sub_self,CM,Ba];rfl
   have bN:Blk (h.push (.cells blk 25)) h.size blk:=Blk.new _ _ _
   have kN:Keep h.size h (h.push (.cells blk 25)):=Keep.push _ _ (Ae _)
   show XRun Tp _ (h.push (.cells blk 25)) _
   have sN:(h.push (.cells blk 25)).size=h.size+1:=Ak _
   generalize h.push (.cells blk 25)=hN at *
   rw[zhy (a:=some ⟨h.size,0,none⟩) rfl (show k<c by omega),zhy (a:=some ⟨h.size,0,none⟩) rfl (show k+1<c by omega),zhy ha (show k<s.cap by omega)]
   have aA:=hv.ofKeep kN
   have cv:cut vs.toArray 0 (1*4)=vs:=by unfold cut;rw[A2];exact Be (by simp[Z])
   refine zm2 elemTree bN aA (m:=1) (by show _=min _ _;omega) (by simp[Z]) (by omega) (by rw[cv];exact ah) λh8 b8 z8 f8=>⟨1,rfl,.inl trivial,⟨by omega,by omega,by omega,by omega⟩,.inl trivial,⟨by omega,by omega,by omega,by omega⟩,?_⟩
   rw[cv]at b8
   have aE:=hb.lt
   have aC:Blk h8 b cs:=(hb.ofKeep kN).keep (f8 b (by omega))
   have s8:(upd blk (k*4) vs).size=blk.size:=y7 (by omega)
   have hX:(cut cs (k*4) ((s.len-k)*4)).length=(s.len-k)*4:=we (by omega)
   refine zm2 elemTree b8 aC (m:=s.len-k) (by show _=min _ _;omega) (by omega) (by rw[s8];omega) ac λai aa aB aj=>⟨((s.len-k:Nat):Int),rfl,?_⟩
   refine hK ⟨some ⟨h.size,0,none⟩,s.len+1,c⟩ ai h.size _ ⟨rfl,rfl,an,aa,by rw[y7 (by rw[s8,hX];omega),s8,az];exact Ae _,?_,.inr (Ae _),by omega,λj hj O=>by rw[aj j O,f8 j O];exact kN.get j hj⟩
   rw[t1,t2,zvu Z (by rw[hX];omega) (by rw[hX];omega),ay]
  ·have ap:s.len+1<=s.cap:=by simp at hg;omega
   simp only[Ah,C8,Cm,Qr,Int.cast_ofNat_Int,Int.sub_zero]
   rw[zhy ha (show k<s.cap by omega),zhy ha (show k+1<s.cap by omega)]
   refine⟨.inr ⟨_,rfl⟩,⟨by omega,by omega,by omega,by omega⟩,.inl trivial,⟨by omega,by omega,by omega,by omega⟩,?_⟩
   refine zrb hv hb (by omega) O ⟨false,rfl,λ_=>⟨.inl trivial,⟨by omega,by omega,by omega,by omega⟩,.inl trivial,⟨by omega,by omega,by omega,by omega⟩,?_⟩,λhx=>by cases hx⟩
   have hX:(cut cs (k*4) ((s.len-k)*4)).length=(s.len-k)*4:=we (by omega)
   refine zm2 elemTree hb hb (m:=s.len-k) (by show _=min _ _;omega) (by omega) (by omega) ac λh8 b8 z8 f8=>⟨((s.len-k:Nat):Int),rfl,.inl trivial,⟨by omega,by omega,by omega,by omega⟩,?_⟩
   have s8:(upd cs ((k+1)*4) (cut cs (k*4) ((s.len-k)*4))).size=cs.size:=y7 (by rw[hX];omega)
   have ax:Blk h8 bv vs.toArray:=hv.keep (f8 bv O)
   have cv:cut vs.toArray 0 (1*4)=vs:=by unfold cut;rw[A2];exact Be (by simp[Z])
   refine zm2 elemTree b8 ax (m:=1) (by show _=min _ _;omega) (by simp[Z]) (by rw[s8];omega) (by rw[cv];exact ah) λai aa aB aj=>⟨1,rfl,?_⟩
   rw[cv]at aa
   refine hK ⟨s.a,s.len+1,s.cap⟩ ai b _ ⟨ha,rfl,ap,aa,by rw[y7 (by rw[s8];omega),s8];exact hc,?_,.inl rfl,by omega,λj hj O=>(aj j O).trans (f8 j O)⟩
   rw[t1,t2,zvt Z (by rw[hX];omega) (by rw[hX];omega)]
end
section
variable {h:zb} {cs0 cs:Array Value} {o:Nat} {a b c d v:Value} {sk si:Sl} {bk bb:List Nat}
structure PlcP (h:zb) (D:List Nat) (rb:Nat) (p:Addr) (x:Tr) (T:Tr->Tr) (pb o:Nat) (cs0:Array Value) (sk si:Sl) (bk bb:List Nat) (b:Nat) (cs:Array Value) (bf:Nat->List Nat):Prop where
 ad:p=⟨pb,o,none⟩
 blk:Blk h pb cs0
 fit:o+4<=cs0.size
 cell:cut cs0 o 4=zi x sk si
 tr:OTp h x sk si bk bb b cs bf
 pin:pb=rb\/pb∈D
 nk:pb∉bk
 nb:pb∉bb
 nf:∀i,i<x.items.length->pb∉bf i
 ik:∀c∈bk,c∈D
 ib:∀c∈bb,c∈D
 jf:∀i,i<x.items.length->∀c∈bf i,c∈D
 rn:rb∉D
 lt:∀c∈D,c<h.size
 put:∀(h':zb) (x':Tr) (cells':List Value) (b':List Nat),(∀c,c≠pb->c∉bk->c∉bb->(∀i,i<x.items.length->c∉bf i)->(c=rb\/c∈D)->h'[c]?=h[c]?)->Blk h' pb (upd cs0 o cells')->OT h' x' b' cells'->(∀c∈b',(c∈bk\/c∈bb\/∃i,i<x.items.length/\c∈bf i)\/(c≠rb/\c∉D)) ->
   ∃D',Doc h' rb (T x') D'/\∀c∈D',c∈D\/c∈b'
theorem Plc.parts{D:List Nat}{rb:Nat}{p:Addr}{x:Tr}{T:Tr->Tr}(H:Plc h D rb p x T):∃pb o cs0 sk si bk bb b cs bf,PlcP h D rb p x T pb o cs0 sk si bk bb b cs bf:=by
 obtain⟨pb,o,cs0,bx,rfl,hb,ho,ot,aa,Z,O,ai,ae,ac⟩:=H
 obtain⟨sk,si,bk,bb,b,cs,bf,e,P,rfl⟩:=ot.p
 refine⟨pb,o,cs0,sk,si,bk,bb,b,cs,bf,rfl,hb,ho,e,P,Z,λhm=>aa (ja.2 (.inl hm)),λhm=>aa (ja.2 (.inr (.inl hm))),λi hi hm=>aa (ja.2 (.inr (.inr ⟨i,hi,hm⟩))),λc hc=>O c (ja.2 (.inl hc)),λc hc=>O c (ja.2 (.inr (.inl hc))),λi hi c hc=>O c (ja.2 (.inr (.inr ⟨i,hi,hc⟩))),ai,ae,λh' x' cells' b' hf aj af ah=>?_⟩
 exact ac h' x' cells' b' (λc h1 h2 h3=>hf c h1 (λhm=>h2 (ja.2 (.inl hm))) (λhm=>h2 (ja.2 (.inr (.inl hm)))) (λi hi hm=>h2 (ja.2 (.inr (.inr ⟨i,hi,hm⟩)))) h3) aj af λc hc=>(ah c hc).imp ja.2 id
theorem zzy(hf:o+4<=cs0.size)(e:cut cs0 o 4=[a,b,c,d]):upd cs0 (o+3) [v]=upd cs0 o [a,b,c,v]:=by
 apply ED
 apply AZ
 intro q
 rw[jh (by simp;omega),jh (by simp;omega)]
 simp only[Av,Ef]
 have hq:∀j,j<4->cs0.toList[o+j]?=[a,b,c,d][j]?:=λj hj=>by rw[<-e,zp,if_pos hj]
 by_cases h1:q<o
 ·rw[if_pos (by omega),if_pos h1]
 ·rw[if_neg h1]
  by_cases h2:q<o+3
  ·rw[if_pos h2,if_pos (by omega)]
   have:=hq (q-o) (by omega)
   rw[show o+(q-o)=q by omega]at this
   rw[this]
   rcases(show q-o=0\/q-o=1\/q-o=2 by omega)with e|e|e <;> rw[e] <;> rfl
  ·rw[if_neg h2]
   by_cases h3:q<o+4
   ·rw[if_pos (by omega),if_pos (by omega),show q-(o+3)=0 by omega,show q-o=3 by omega];rfl
   ·rw[if_neg (by omega),if_neg (by omega)]
theorem z4v(hf:o+4<=cs0.size)(e:cut cs0 o 4=[a,b,c,d]):upd cs0 (o+2) [v]=upd cs0 o [a,b,v,d]:=by
 apply ED
 apply AZ
 intro q
 rw[jh (by simp;omega),jh (by simp;omega)]
 simp only[Av,Ef]
 have hq:∀j,j<4->cs0.toList[o+j]?=[a,b,c,d][j]?:=λj hj=>by rw[<-e,zp,if_pos hj]
 by_cases h1:q<o
 ·rw[if_pos (by omega),if_pos h1]
 ·rw[if_neg h1]
  by_cases h2:q<o+2
  ·rw[if_pos h2,if_pos (by omega)]
   have:=hq (q-o) (by omega)
   rw[show o+(q-o)=q by omega]at this
   rw[this]
   rcases(show q-o=0\/q-o=1 by omega)with e|e <;> rw[e] <;> rfl
  ·rw[if_neg h2]
   by_cases h3:q<o+3
   ·rw[if_pos (by omega),if_pos (by omega),show q-(o+2)=0 by omega,show q-o=2 by omega];rfl
   ·rw[if_neg (by omega)]
    by_cases h4:q<o+4
    ·rw[if_pos (by omega),show q=o+3 by omega,hq 3 (by omega),show o+3-o=3 by omega];rfl
    ·rw[if_neg (by omega)]
theorem OTp.one{v:Tr}{b:Nat}{bf:Nat->List Nat}(H:OTp h v sk si bk bb b cs bf):∀u∈cut cs 0 (si.len*4),u.oneCell'=true:=by
 intro u hu
 rw[H.hn.1]at hu
 obtain⟨q,hq⟩:=List.getElem?_of_mem hu
 rw[zp]at hq
 split at hq
 ·rename_i O
  have hi:q / 4<v.items.length:=by omega
  refine(H.hi (q / 4) hi).one u (Ct (i:=q % 4) ?_)
  rw[zp,if_pos (by omega),show q / 4*4+q % 4=0+q by omega];exact hq
 ·cases hq
theorem OTp.row{v:Tr}{b:Nat}{bf:Nat->List Nat}(H:OTp h v sk si bk bb b cs bf){h':zb}(k:∀c∈bb,h'[c]?=h[c]?):RowO h' si b cs 4:=by
 refine⟨by have:=H.hn;omega,?_⟩
 rcases H.hz with⟨h0,_,h2⟩|⟨O,ha,hb,hc⟩
 ·exact .inl ⟨by rw[H.hn.1,h0];rfl,h2⟩
 ·exact .inr ⟨ha,hb.keep (k b (by rw[O];simp)),hc⟩
end
end Go.X
end
section
namespace Go.X
open Go Go.Lib
section
variable {v w t:Tr} {m:Nat}
def zkt(p:List Bt):List Bt:=p.take (p.length-1)
def zhz(p:List Bt):Bt:=p.getD (p.length-1) ⟨#[]⟩
theorem zm4(q:List Bt)(s:Bt):zkt (q++[s])=q/\zhz (q++[s])=s:=by
 unfold zkt zhz
 simp
theorem ztq{p:List Bt}(h:p≠[]):p=zkt p++[zhz p]:=by
 rcases List.eq_nil_or_concat p with rfl|⟨q,s,rfl⟩
 ·exact absurd rfl h
 ·rw[List.concat_eq_append,(zm4 q s).1,(zm4 q s).2]
theorem zh0{p:List Bt}(h:p.length-1<p.length):p[p.length-1]=zhz p:=by
 unfold zhz;rw[Bm,Ai h];rfl
def z8f(x:Tr)(s:Bt):Option Nat:=if lb s=[45]then some x.items.length else if(zc2 (lb s)).2=true/\(zc2 (lb s)).1<=x.items.length then some (zc2 (lb s)).1.toNat else none
def znh(x:Tr)(j:Nat):Tr:=.mk x.kind x.text (if x.kind=6 then x.keys.take j++x.keys.drop (j+1)else x.keys) (x.items.take j++x.items.drop (j+1))
def z9m(x:Tr)(s:Bt)(w:Tr):Tr:=.mk x.kind x.text (x.keys++[s]) (x.items++[w])
def zfh(v:Tr):Bool:=decide (v.kind=0/\lb v.text=[]/\v.keys=[]/\v.items=[])
abbrev OpT:=Bt×List Bt×List Bt×Tr
def z3i:Bs:=[97,100,100]
def zaa:Bs:=[114,101,109,111,118,101]
def Q2:Bs:=[114,101,112,108,97,99,101]
def zku:Bs:=[109,111,118,101]
def zkv:Bs:=[99,111,112,121]
def zh1:Bs:=[116,101,115,116]
def zz(s:Bs):Bool×Bool×Bool:=if s=z3i\/s=Q2\/s=zh1 then(true,false,true)else if s=zku\/s=zkv then(false,true,true)else(false,false,decide (s=zaa))
def qg(o:OpT):Bool:=(zz (lb o.1)).2.2&&(jc o.2.1&&(jc o.2.2.1&&(((zz (lb o.1)).2.1||decide (o.2.2.1=[]))&&(bif (zz (lb o.1)).1 then ql o.2.2.2 else zfh o.2.2.2))))
mutual
def J9:Tr->Tr->Bool
 |.mk k s ks xs,b=>decide (k=b.kind)&&(decide (s=b.text)&&(decide (xs.length=b.items.length)&&(if k=6 then zrd ks xs b else zrc xs b.items)))
def zrc:List Tr->List Tr->Bool
 |[],[]=>true
 |x::l,y::m=>J9 x y&&zrc l m
 |_,_=>false
def zrd:List Bt->List Tr->Tr->Bool
 |_,[],_=>true
 |[],_::_,_=>false
 |k::ks,x::xs,b=>(match b.items[(idxOfS b.keys k).toNat]? with
  |some y=>decide (0<=idxOfS b.keys k)&&J9 x y
  |none=>false)&&zrd ks xs b
end
def zni(v:Tr)(p:List Bt)(w:Tr):Option Tr:=if p=[]then some w else match qz v (zkt p)with
 |none=>none
 |some x=>if x.kind=5 then(match z8f x (zhz p)with
   |some k=>some (Xk v (zkt p) (z7y x k w))
   |none=>none)
  else if x.kind≠6 then none else if 0<=qo x (zhz p)then some (Xk v (zkt p) (zvm x (qo x (zhz p)).toNat w))else some (Xk v (zkt p) (z9m x (zhz p) w))
def zpp(v:Tr)(p:List Bt):Tr:=match qz v (zkt p)with
 |none=>v
 |some x=>Xk v (zkt p) (znh x (qo x (zhz p)).toNat)
def zje:Option Tr->Tr×Int
 |some t=>(t,0)
 |none=>(zT,8)
def doR(v:Tr)(o:OpT):Tr×Int:=
 if lb o.1=zaa then(match qz v o.2.1 with
  |none=>(zT,8)
  |some _=>if o.2.1=[]then(zT,1)else(zpp v o.2.1,0))
 else if lb o.1=Q2 then(match qz v o.2.1 with
  |none=>(zT,8)
  |some _=>(Xk v o.2.1 o.2.2.2,0))
 else if lb o.1=zku then(match qz v o.2.2.1 with
  |none=>(zT,8)
  |some y=>if o.2.2.1=o.2.1.take o.2.2.1.length/\o.2.2.1.length<=o.2.1.length then(if o.2.2.1.length<o.2.1.length then(zT,1)else(v,0))else zje (zni (zpp v o.2.2.1) o.2.1 y))
 else if lb o.1=zkv then(match qz v o.2.2.1 with
  |none=>(zT,8)
  |some y=>zje (zni v o.2.1 y))
 else if lb o.1=zh1 then(match qz v o.2.1 with
  |none=>(zT,8)
  |some x=>if J9 x o.2.2.2 then(v,0)else(zT,9))
 else zje (zni v o.2.1 o.2.2.2)
def Yl(v:Tr)(o:OpT):Tr×Int:=if qg o then(if(doR v o).2=0 then(if ql (doR v o).1 then((doR v o).1,0)else(zT,1))else(zT,(doR v o).2))else(zT,1)
def zh2:Tr->List OpT->Nat->Tr×Int×Int
 |v,[],i=>(v,i,0)
 |v,o::l,i=>if(Yl v o).2=0 then zh2 (Yl v o).1 l (i+1)else(zT,i,(Yl v o).2)
def zh3(v:Tr)(l:List OpT):Tr×Int×Int:=if ql v then zh2 v l 0 else(zT,0,1)
theorem jz:∀{p:List Bt} {v x:Tr},qz v p=some x->tsz x<=tsz v/\(∀m,txB m v->txB m x)/\∀q,Y9 q v=true->Y9 q x=true
 |[],v,x,h=>by rw[Jb]at h;cases h;exact⟨Ae _,λ_ h=>h,λ_ h=>h⟩
 |s::p,v,x,h=>by
  have hl:(yb v (s::p)).length=(s::p).length:=by
   unfold qz at h
   split at h
   ·assumption
   ·cases h
  obtain⟨k,hk,e1,_,_⟩:=zbl hl
  rw[Q0 e1 hk]at h
  obtain⟨h1,h2,h3⟩:=jz h
  have hm:v.items[k]∈v.items:=Ay hk
  have:=wn hm
  exact⟨by omega,λm hv=>h2 m (Qf hv hm),λq hq=>h3 q (y0 hq hm)⟩
theorem zpg{p:List Bt}{v x:Tr}(h:qz v p=some x):(yb v p).length=p.length:=by
 unfold qz at h
 split at h
 ·assumption
 ·cases h
theorem zm5{w:Tr}:∀{p:List Bt} {v x:Tr},qz v p=some x->tsz (Xk v p w)+tsz x=tsz v+tsz w
 |[],v,x,h=>by rw[Jb]at h;cases h;rw[Xk];omega
 |s::p,v,x,h=>by
  obtain⟨k,hk,e1,_,_⟩:=zbl (zpg h)
  rw[Q0 e1 hk]at h
  have h1:=zm5 (w:=w) h
  rw[zs7 e1 hk]
  have h2:=zfx v.items k hk (Xk v.items[k] p w)
  rw[wa,wa v]
  show 1+xd (v.items.set _ _)+_=_
  omega
theorem zaq(l:List Tr)(k:Nat):xd (l.take k)+xd (l.drop k)=xd l:=by
 rw[<-jb,BD]
theorem z8g(x:Tr)(k:Nat)(w:Tr):tsz (z7y x k w)=tsz x+tsz w:=by
 have:=zaq x.items k
 rw[wa,wa x]
 show 1+xd (x.items.take k++w::x.items.drop k)=_
 rw[jb,xd];omega
theorem z8h(x:Tr)(s:Bt)(w:Tr):tsz (z9m x s w)=tsz x+tsz w:=by
 rw[wa,wa x]
 show 1+xd (x.items++[w])=_
 rw[jb,xd,xd];omega
theorem z8i(x:Tr)(k:Nat)(w:Tr):tsz (zvm x k w)<=tsz x+tsz w:=by
 rw[wa,wa x]
 show 1+xd (x.items.set k w)<=_
 rcases AR k x.items.length with h|h
 ·have:=zfx x.items k h w;omega
 ·rw[List.set_eq_of_length_le h];omega
theorem z8j(x:Tr)(j:Nat):tsz (znh x j)<=tsz x:=by
 have h1:=zaq x.items j
 have h2:xd (x.items.drop (j+1))<=xd (x.items.drop j):=by
  rw[show x.items.drop (j+1)=(x.items.drop j).drop 1 by rw[Ce]]
  cases x.items.drop j with
  |nil=>simp
  |cons y l=>simp[xd]
 rw[wa,wa x]
 show 1+xd (x.items.take j++x.items.drop (j+1))<=_
 rw[jb];omega
theorem ztr{x:Tr}(h:txB m x){ks:List Bt}{xs:List Tr}(hk:ks.length<=m)(O:∀k∈ks,k.size<=m)(Z:∀y∈xs,txB m y):txB m (.mk x.kind x.text ks xs):=by
 have:=(Ja m x).1 h
 exact(Ja m _).2 ⟨⟨this.1.1,hk,O⟩,Yh.2 Z⟩
theorem z8k{x w:Tr}(h:txB m x)(hw:txB m w)(k:Nat):txB m (z7y x k w):=by
 have h':=(Ja m x).1 h
 refine ztr h h'.1.2.1 h'.1.2.2 λy hy=>?_
 rcases An.1 hy with hy|hy
 ·exact Qf h (BR hy)
 ·rcases Ad.1 hy with rfl|hy
  ·exact hw
  ·exact Qf h (Cy hy)
theorem z8l{x w:Tr}(h:txB m x)(hw:txB m w)(k:Nat):txB m (zvm x k w):=by
 have h':=(Ja m x).1 h
 refine ztr h h'.1.2.1 h'.1.2.2 λy hy=>?_
 rcases List.mem_or_eq_of_mem_set hy with hy|rfl
 ·exact Qf h hy
 ·exact hw
theorem z8m{x w:Tr}{s:Bt}(h:txB m x)(hw:txB m w)(hl:x.keys.length+1<=m)(hs:s.size<=m):txB m (z9m x s w):=by
 have h':=(Ja m x).1 h
 refine ztr h (by simpa using hl) (λk hk=>?_) λy hy=>?_
 ·rcases An.1 hk with hk|hk
  ·exact h'.1.2.2 k hk
  ·simp at hk;subst hk;exact hs
 ·rcases An.1 hy with hy|hy
  ·exact Qf h hy
  ·simp at hy;subst hy;exact hw
theorem z8n{x:Tr}(h:txB m x)(j:Nat):txB m (znh x j):=by
 have h':=(Ja m x).1 h
 unfold znh
 refine ztr h ?_ (λk hk=>?_) λy hy=>?_
 ·have:=h'.1.2.1
  split
  ·simp;omega
  ·exact this
 ·split at hk
  ·rcases An.1 hk with hk|hk
   ·exact h'.1.2.2 k (BR hk)
   ·exact h'.1.2.2 k (Cy hk)
  ·exact h'.1.2.2 k hk
 ·rcases An.1 hy with hy|hy
  ·exact Qf h (BR hy)
  ·exact Qf h (Cy hy)
theorem zh4(v:Tr)(p:List Bt):tsz (zpp v p)<=tsz v:=by
 unfold zpp
 split
 ·exact Ae _
 ·rename_i x hx
  have h1:=zm5 (w:=znh x (qo x (zhz p)).toNat) hx
  have h2:=z8j x (qo x (zhz p)).toNat
  omega
theorem zre(h:txB m v)(p:List Bt):txB m (zpp v p):=by
 unfold zpp
 split
 ·exact h
 ·rename_i x hx
  exact zd7 (z8n ((jz hx).2.1 m h) _) _ v h
theorem Wa(h:zy v=true)(h6:v.kind=6):v.keys.length=v.items.length:=by
 unfold zy at h
 simp[h6]at h
 exact h.1.2
theorem z8o{p:List Bt}(h:zni v p w=some t):tsz t<=tsz v+tsz w:=by
 unfold zni at h
 split at h
 ·cases h;omega
 ·split at h
  ·cases h
  ·rename_i x hx
   have hs:=λy=>zm5 (w:=y) hx
   split at h
   ·split at h
    ·rename_i k _
     cases h
     have:=hs (z7y x k w);rw[z8g]at this;omega
    ·cases h
   ·split at h
    ·cases h
    ·split at h
     ·cases h
      have:=hs (zvm x (qo x (zhz p)).toNat w);have:=z8i x (qo x (zhz p)).toNat w;omega
     ·cases h
      have:=hs (z9m x (zhz p) w);rw[z8h]at this;omega
theorem z8p{p:List Bt}(h:zni v p w=some t)(hv:txB 1048576 v)(hw:txB 1048576 w)(ho:Y9 zy v=true)(hs:tsz v<=1000000)(hp:∀s∈p,s.size<=1048576):txB 1048576 t:=by
 unfold zni at h
 split at h
 ·cases h;exact hw
 ·rename_i Z
  split at h
  ·cases h
  ·rename_i x hx
   obtain⟨f1,f2,f3⟩:=jz hx
   have O:=f2 _ hv
   split at h
   ·split at h
    ·rename_i k _
     cases h
     exact zd7 (z8k O hw k) _ v hv
    ·cases h
   ·split at h
    ·cases h
    ·rename_i h6
     split at h
     ·cases h
      exact zd7 (z8l O hw _) _ v hv
     ·cases h
      refine zd7 (z8m O hw ?_ (hp _ ?_)) _ v hv
      ·have:=Wa (y5 (f3 _ ho)) (by omega)
       have h2:=Yi x.items
       rw[wa]at f1
       omega
      ·rw[ztq Z];simp[(zm4 _ _).2]
end
end Go.X
end
section
namespace Go.X
section
theorem Jd(x:Tr)(sk si:Sl):∀u∈zi x sk si,u.oneCell'=true:=by
 intro u hu
 simp[zi]at hu
 rcases hu with rfl|rfl|rfl|rfl <;> simp[Value.oneCell',slV]
structure Turn (h h':zb) (rb:Nat) (D bw D':List Nat):Prop where
 size:h.size<=h'.size
 old:∀c,c<h.size->c≠rb->c∉D->h'[c]?=h[c]?
 own:∀c∈D',c∈D\/c∈bw\/h.size<=c
set_option maxHeartbeats 2000000 in
theorem zzz{gl:Fr}(hg:GL gl){x w:Tr}{s:Bt}(hs:(lb s).length<=1048576){h:zb}{M:Fr}{rb:Nat}{D:List Nat}{p:Addr}{T:Tr->Tr}(hM:Fr.le gl M)(ag:AgM M h)(H:Plc h D rb p x T)(aS:rb<h.size){bw:List Nat}{wk wi:Sl}(ow:OT h w bw (zi w wk wi))(ae:∀c∈bw,c≠rb/\c∉D)(hx:x.items.length<=1000000000){K:Value->zb->Prop}
  (an:z8f x s=none->∀h',Keep h.size h h'->K (.int .i64 8) h')
  (ay:∀k,z8f x s=some k->∀h' D',Doc h' rb (T (z7y x k w)) D'->Turn h h' rb D bw D'->K (.int .i64 0) h'):
  XC Tp 133 #[.pointer (some p),.string s,.agg #[.int .i64 w.kind,.string w.text,slV wk,slV wi]] h K:=by
 obtain⟨pb,o,cs0,sk,si,bk,bb,b,cs,bf,P⟩:=Plc.parts H
 have aM:=P.ad
 subst aM
 have a1:pb<h.size:=P.blk.lt
 apply zhw (some ⟨pb,o,none⟩) s w.kind w.text wk wi
 intro h1
 have z1:h1.size=h.size+1:=Ak _
 have k1:Keep h.size h h1:=Keep.push _ _ (Ae _)
 have b1:Blk h1 h.size (zi w wk wi).toArray:=Blk.new _ _ _
 clear_value h1
 have hi:=zhq (gl:=gl) hg (l:=lb s) hs (R:=λr=>r=zc2 (lb s)) rfl
 rw[W8]at hi
 refine hi.go (vs:=[.string s]) hM (ag.keep k1) (yj (rdStr _) wm) λv h3 M3 r L3 au hr=>?_
 have hr:r=zc2 (lb s):=hr
 subst hr
 have z3:=L3.keep.size
 have k3:Keep h.size h h3:=k1.trans L3.keep (by omega)
 have b3:Blk h3 h.size (zi w wk wi).toArray:=b1.ofKeep L3.keep
 obtain⟨us,⟨x1,ba,rfl,r1,x2,rfl,r2⟩,rfl⟩:=au
 rw[zfn rfl]at r1 r2
 obtain rfl:x1=.int .i64 (zc2 (lb s)).1:=by simpa[Rd]using r1
 obtain rfl:x2=.bool (zc2 (lb s)).2:=by simpa[Rd]using r2
 refine⟨(zc2 (lb s)).1,(zc2 (lb s)).2,rfl,λK8 a6=>?_⟩
 have ac:=P.tr.hn.1
 have af:zj h3 (Aj ⟨pb,o,none⟩ 3)=some (slV si):=by
  refine(P.blk.ofKeep k3).cellAdd ?_
  have:(cut cs0 o 4)[3]?=some (slV si):=by rw[P.cell];rfl
  rw[zp,if_pos (by omega)]at this
  rw[<-AU];exact this
 have ah:∀k:Nat,z8f x s=some k->k<=x.items.length->K8 (k:Int) h3:=by
  intro k aP hk
  refine a6 (k:Int) h3 ⟨⟨pb,o,none⟩,rfl,si,af,w.kind,w.text,wk,wi,b3.ld (cs:=zi w wk wi),⟨pb,o,none⟩,rfl,?_⟩
  intro Z
  have bc:Z.size=h3.size+1:=Ak _
  have aJ:Keep h3.size h3 Z:=Keep.push _ _ (Ae _)
  have aY:Blk Z h3.size (zi w wk wi).toArray:=Blk.new _ _ _
  refine⟨aJ,?_⟩
  clear_value Z
  have kk:Keep h.size h Z:=k3.trans aJ (by omega)
  obtain⟨b0,aD,ax⟩:∃b0,RowO Z si b0 cs 4/\((b0=b/\b∈bb)\/b0=Z.size):=by
   have aI:=OTp.row P.tr (h':=Z) (λc hc=>kk.get c (P.lt c (P.ib c hc)))
   rcases P.tr.hz with⟨h0,_,h2⟩|⟨aQ,_⟩
   ·exact⟨Z.size,⟨aI.le,.inl ⟨by rw[ac,h0];rfl,h2⟩⟩,.inr rfl⟩
   ·exact⟨b,aI,.inl ⟨rfl,by rw[aQ];simp⟩⟩
  have aE:h3.size≠b0:=by
   rcases ax with⟨e,hm⟩|e
   ·have:=P.lt b (P.ib b hm);omega
   ·omega
  refine zzx aD (OTp.one P.tr) aY rfl (Jd w wk wi) aE (by omega) (by omega) λs' aH b' cs' N=>⟨s',rfl,?_⟩
  rw[ac]at N
  have aj:(b'=b/\b∈bb)\/Z.size<=b':=by
   rcases N.new with e|e
   ·rcases ax with⟨e2,hm⟩|e2
    ·exact .inl ⟨by rw[e,e2],hm⟩
    ·exact .inr (by omega)
   ·exact .inr e
  have ak:∀c,c<h.size->c∉bb->c≠b':=λc hc hn e=>by
   rcases aj with⟨e2,hm⟩|e2
   ·exact hn (by rw[e,e2];exact hm)
   ·omega
  have aL:∀c,c<h.size->c∉bb->aH[c]?=h[c]?:=λc hc hn=>by
   rw[N.old c (by omega) (ak c hc hn)];exact kk.get c hc
  have be:=N.grow
  have aV:Blk aH pb cs0:=P.blk.keep (aL pb a1 P.nb)
  rw[zh]
  refine Q1 (vs:=[slV s']) ztc aV rfl ztd (by have:=P.fit;show o+3+1<=_;omega) (by simp[Value.oneCell',slV]) λai aB a7 aA=>?_
  rw[zzy P.fit P.cell]at aB
  have aa:∀c,c<h.size->c∉bb->c≠pb->ai[c]?=h[c]?:=λc hc hn hp=>(aA c hp).trans (aL c hc hn)
  have aF:∀c,c∉D->c∉bb:=λc hc hm=>hc (P.ib c hm)
  have aN:∀c,c≠rb->c∉D->c≠pb:=λc h1 h2 e=>by
   rcases P.pin with e2|e2
   ·exact h1 (by rw[e,e2])
   ·exact h2 (by rw[e];exact e2)
  have aG:OT ai w bw (zi w wk wi):=ow.frame λc hc=>aa c (ow.lt c hc) (aF c (ae c hc).2) (aN c (ae c hc).1 (ae c hc).2)
  have al:∀i,i<x.items.length->∀c∈bf i,c∉bb:=λi O c hc hm=>P.tr.d3 c hm i O hc
  have am:∀c,c∈D->c∉bb->c≠b':=λc hc hn=>ak c (P.lt c hc) hn
  have ap:Blk ai b' cs':=N.blk.keep (aA b' (by
   rcases aj with⟨e,hm⟩|e
   ·rw[e];exact λe2=>P.nb (e2 ▸ hm)
   ·omega))
  have aO:=(P.tr.ins hk aG (λi O c hc=>aa c (P.lt c (P.jf i O c hc)) (al i O c hc) (λe=>P.nf i O (e ▸ hc))) N.a ap N.len N.cap N.size (by omega) N.cut
   (λi O hm=>am b' (P.jf i O b' hm) (al i O b' hm) rfl) (λhm=>by
    rcases aj with⟨e,aZ⟩|e
    ·exact(ae b' hm).2 (by rw[e];exact P.ib b aZ)
    ·have:=ow.lt b' hm;omega) (λc hc i O hm=>(ae c hc).2 (P.jf i O c hm))
   (P.tr.keys.frame λc hc=>aa c (P.lt c (P.ik c hc)) (P.tr.d1 c hc) (λe=>P.nk (e ▸ hc))) P.tr.nk (λhm=>am b' (P.ik b' hm) (P.tr.d1 b' hm) rfl) P.tr.d2 (λc hc hm=>(ae c hm).2 (P.ik c hc))).ot
  obtain⟨D',aU,aC⟩:=P.put ai (z7y x k w) _ _ (λc e1 e2 e3 e4 e5=>aa c (by
   rcases e5 with rfl|e5
   ·exact aS
   ·exact P.lt c e5) e3 e1) aB aO (λc hc=>by
    rcases ja.1 hc with hc|hc|⟨i,O,hc⟩
    ·exact .inl (.inl hc)
    ·simp at hc
     rcases aj with⟨e,hm⟩|e
     ·exact .inl (.inr (.inl (by rw[hc,e];exact hm)))
     ·exact .inr ⟨by omega,λhm=>by have:=P.lt c hm;omega⟩
    ·have aT:i<x.items.length+1:=by simpa[CP hk,show k+(x.items.length-k+1)=x.items.length+1 by omega]using O
     try simp only at hc
     split at hc
     ·exact .inl (.inr (.inr ⟨i,by omega,hc⟩))
     ·split at hc
      ·exact .inr (ae c hc)
      ·exact .inl (.inr (.inr ⟨i-1,by omega,hc⟩)))
  refine ay k aP ai D' aU ⟨by omega,λc h1 h2 h3=>aa c h1 (aF c h3) (aN c h2 h3),λc hc=>?_⟩
  rcases aC c hc with hc|hc
  ·exact .inl hc
  ·rcases ja.1 hc with hc|hc|⟨i,O,hc⟩
   ·exact .inl (P.ik c hc)
   ·simp at hc
    rcases aj with⟨e,hm⟩|e
    ·exact .inl (by rw[hc,e];exact P.ib b hm)
    ·exact .inr (.inr (by omega))
   ·have aT:i<x.items.length+1:=by simpa[CP hk,show k+(x.items.length-k+1)=x.items.length+1 by omega]using O
    try simp only at hc
    split at hc
    ·exact .inl (P.jf i (by omega) c hc)
    ·split at hc
     ·exact .inr (.inl hc)
     ·exact .inl (P.jf (i-1) (by omega) c hc)
 have he:(s.toList==((⟨#[45]⟩:Bt):Bt).toList)=decide (lb s=[45]):=by
  rw[AJ];simp[ByteArray.toList_eq,lb]
 unfold z8f at ah an
 refine⟨λhq=>?_,λhq=>?_⟩
 ·rw[he]at hq
  have ar:lb s=[45]:=by simpa using hq
  refine⟨⟨pb,o,none⟩,rfl,si,af,?_⟩
  rw[ac]
  exact ah _ (by rw[if_pos ar]) (Ae _)
 ·rw[he]at hq
  have ar:¬lb s=[45]:=by simpa using hq
  rw[if_neg ar]at ah an
  refine⟨⟨pb,o,none⟩,λ_=>rfl,si,λ_=>af,λhc=>?_,λhc=>?_⟩
  ·refine an ?_ h3 k3
   rw[if_neg]
   rintro⟨c1,c2⟩
   rw[c1,ac]at hc
   simp at hc;omega
  ·have az:(zc2 (lb s)).2=true/\(zc2 (lb s)).1<=x.items.length:=by
    cases h2:(zc2 (lb s)).2 with
    |false=>rw[h2]at hc;simp at hc
    |true=>rw[h2,ac]at hc;simp at hc;exact⟨rfl,by omega⟩
   have a8:=zkm az.1
   have:=ah (zc2 (lb s)).1.toNat (by rw[if_pos az]) (by omega)
   rw[Int.toNat_of_nonneg (by omega)]at this
   exact this
end
section
theorem PlcP.del{h:zb}{D:List Nat}{rb:Nat}{p:Addr}{x:Tr}{T:Tr->Tr}{pb o:Nat}{cs0:Array Value}{sk si:Sl}{bk bb:List Nat}{b:Nat}{cs:Array Value}{bf:Nat->List Nat}(P:PlcP h D rb p x T pb o cs0 sk si bk bb b cs bf)(ae:rb<h.size){j:Nat}(hj:j<x.items.length)
  {hz:zb} {Z:Array Value} {ks':List Bt} {sk' si':Sl} {bk':List Nat} (e1:si'.a=si.a) (e2:Blk hz b Z) (e3:si'.len+1=x.items.length) (e4:si'.cap=si.cap) (e5:Z.size=cs.size)
  (e7:cut Z 0 ((x.items.length-1)*4)=(cut cs 0 (x.items.length*4)).take (j*4)++(cut cs 0 (x.items.length*4)).drop ((j+1)*4))
  (ok:OKeys hz ks' bk' sk') (O:∀c∈bk',c∈bk) (nk:bk'.Nodup) (bz:Blk hz pb (upd cs0 o (zi (.mk x.kind x.text ks' (x.items.take j++x.items.drop (j+1))) sk' si')))
  (fz:∀c,c<h.size->c∉bk->c∉bb->c≠pb->hz[c]?=h[c]?):∃D',Doc hz rb (T (.mk x.kind x.text ks' (x.items.take j++x.items.drop (j+1)))) D'/\∀c∈D',c∈D:=by
 have hb:b∈bb:=by
  rcases P.tr.hz with⟨h0,_⟩|⟨af,_⟩
  ·rw[h0]at hj;simp at hj
  ·rw[af];simp
 have ot:=(P.tr.del hj (λi hi c hc=>fz c (P.lt c (P.jf i hi c hc)) (λhm=>P.tr.d2 c hm i hi hc) (λhm=>P.tr.d3 c hm i hi hc) (λe=>P.nf i hi (e ▸ hc))) e1 e2 e3 e4 e5 e7 ok O nk).ot
 have aa:∀c,c∈(BE (x.items.take j++x.items.drop (j+1)).length).flatMap (λi=>if i<j then bf i else bf (i+1))->∃i,i<x.items.length/\c∈bf i:=by
  intro c hc
  obtain⟨i,hi,hc⟩:=Bp.1 hc
  have ah:i<x.items.length-1:=by
   have:i<(x.items.take j++x.items.drop (j+1)).length:=by simpa using hi
   simp only[Ar,AY,AX]at this;omega
  split at hc
  ·exact⟨i,by omega,hc⟩
  ·exact⟨i+1,by omega,hc⟩
 obtain⟨D',hD,ac⟩:=P.put hz _ _ _ (λc q1 q2 q3 q4 q5=>fz c (by
  rcases q5 with rfl|q5
  ·exact ae
  ·exact P.lt c q5) q2 q3 q1) bz ot (λc hc=>by
  rw[An,An]at hc
  rcases hc with hc|hc|hc
  ·exact .inl (.inl (O c hc))
  ·simp at hc;exact .inl (.inr (.inl (by rw[hc];exact hb)))
  ·exact .inl (.inr (.inr (aa c hc))))
 refine⟨D',hD,λc hc=>?_⟩
 rcases ac c hc with hc|hc
 ·exact hc
 ·rw[An,An]at hc
  rcases hc with hc|hc|hc
  ·exact P.ik c (O c hc)
  ·simp at hc;rw[hc];exact P.ib b hb
  ·obtain⟨i,hi,hc⟩:=aa c hc
   exact P.jf i hi c hc
end
section
variable {M:Fr} {h:zb} {o:Nat} {cs0:Array Value}
theorem zrf{t:Ty}{xs:List (El t)}{s:Sl}(H:Rd M (.row t) xs [slV s]){n:Nat}(hn:n<=xs.length):RdV M (.row t) (xs.take n) (.slice s.a n s.cap):=by
 obtain⟨w,e,a,c,q,hb,hx⟩:=H
 simp only[Ci,and_true]at e
 subst e
 simp only[slV,AO]at q
 obtain⟨rfl,_,rfl⟩:=q
 rw[zfn rfl]
 have hl:(xs.take n).length=n:=by rw[AY];omega
 refine⟨_,rfl,s.a,s.cap,by rw[hl],⟨by omega,by omega⟩,?_⟩
 rcases hx with h0|⟨b,o,cs,e1,e2,e3⟩
 ·exact .inl (by rw[h0];simp)
 ·refine .inr ⟨b,o,cs,e1,e2,λi hi=>?_⟩
  rw[List.getElem_take]
  exact e3 i (by omega)
theorem zts{b o:Nat}{vs:List Value}(H:Blk h b (upd cs0 o vs))(hf:o+vs.length<=cs0.size){i:Nat}{v:Value}(hv:vs[i]?=some v):zj h ⟨b,o+i,none⟩=some v:=by
 refine H.cell ?_
 have hi:=(Az.1 hv).1
 rw[<-AU,jh hf,if_neg (by omega),if_pos (by omega),Nat.add_sub_cancel_left];exact hv
theorem zz0{a b:List Value}(hf:o+a.length<=cs0.size)(hl:b.length=a.length):upd (upd cs0 o a) o b=upd cs0 o b:=by
 apply ED
 apply AZ
 intro q
 rw[jh (by rw[y7 hf];omega),jh hf,jh (by omega)]
 split
 ·rfl
 ·split
  ·rfl
  ·rw[if_neg (by omega)]
set_option maxHeartbeats 2000000 in
theorem zph{gl:Fr}(hg:GL gl){v:Tr}(hv:Sm v)(ho:Y9 zy v=true){p:List Bt}(hp:SL p){rb:Nat}{D:List Nat}{u2:Value}(hM:Fr.le gl M)(ag:AgM M h)(hD:Doc h rb v D)(bz:RdV M (.row .str) p u2)
  (aB:p≠[]->∀(hl:p.length-1<p.length),∃x,qz v (p.take (p.length-1))=some x/\0<=qo x p[p.length-1]) (aS:∀x,qz v (p.take (p.length-1))=some x->x.items.length<=1000000000) {K:Value->zb->Prop}
  (h0:p=[]->K (.int .i64 1) h)
  (hy:∀x (j:Nat) (hl:p.length-1<p.length),qz v (p.take (p.length-1))=some x->qo x p[p.length-1]=j->j<x.items.length->∀h' D',Doc h' rb (Xk v (p.take (p.length-1)) (znh x j)) D'->Turn h h' rb D [] D'->K (.int .i64 0) h'):
  XC Tp 103 #[.pointer (some ⟨rb,0,none⟩),u2] h K:=by
 obtain⟨sp,rfl,rp⟩:=zin bz
 obtain⟨aH,bV,cc⟩:=rowLen rp
 have bT:=hp.n
 have bS:=hD.lt rb (.inl rfl)
 apply zbs (some ⟨rb,0,none⟩) sp
 refine⟨λhz=>h0 (Aw (by rw[aH]at hz;simp at hz;simp[hz])),λhz=>?_⟩
 have aU:p≠[]:=λe=>by rw[aH,e]at hz;simp at hz
 have bI:0<p.length:=A5.2 aU
 have hl:p.length-1<p.length:=by omega
 have w1:Ab .i64 (((sp.len:Nat):Int)-1)=((p.length-1:Nat):Int):=by rw[aH,w64 (by omega)];omega
 rw[w1]
 refine zio ag rp hl rfl rfl ⟨.inr ⟨_,rfl⟩,⟨by omega,by omega,by omega,by omega⟩,?_⟩
 simp only[Ah,C8,Cm,Qr]
 obtain⟨x0,be,b8⟩:=aB aU hl
 have bp:=zrf rp (n:=p.length-1) (by omega)
 refine z8d hg hv ho ⟨by rw[AY];omega,λq hq=>hp.s q (BR hq)⟩ hM ag hD bp (λhn=>by rw[be]at hn;cases hn) λx ak hx aY h4 pa k4 plc=>?_
 obtain rfl:x0=x:=Au (be.symm.trans ak)
 have z4:=k4.size
 have bc:=ag.keep k4
 have bQ:=aS _ ak
 obtain⟨aP,aL,bx,bA,ot,bU,_⟩:=Plc.ld plc
 refine⟨some pa,rfl,pa,rfl,x0.kind,x0.text,aP,aL,bA,?_⟩
 have bn:PC Tp gl 134 [Arg.mk .tree x0,Arg.mk .str p[p.length-1]] [.int .i64] (λr=>r=qo x0 p[p.length-1]):=zm0 hg (hp.s _ (Ay hl)) rfl
 refine bn.go (vs:=[.agg #[.int .i64 x0.kind,.string x0.text,slV aP,slV aL],.string p[p.length-1]]) (hM.trans (Xm bc bx)) (MxL.ag bc bx) (yj ot.rdv (yj (rdStr _) wm)) λw O bZ r aC aM hr=>?_
 have hr:r=qo x0 p[p.length-1]:=hr
 subst hr
 obtain⟨j,ej,hj⟩:∃j:Nat,qo x0 p[p.length-1]=j/\j<x0.items.length:=by
  rcases zc3 (y5 aY) p[p.length-1]with e|h
  ·omega
  ·exact h
 have ca:=aC.keep.size
 have bG:Keep h.size h O:=k4.trans aC.keep z4
 have aI:=Plc.keepK plc (by omega) aC.keep
 obtain⟨pb,o,cs0,sk,si,bk,bb,b,cs,bf,P⟩:=Plc.parts aI
 have ba:=P.ad
 subst ba
 have aZ:=P.tr.hn.1
 have bJ:=P.tr.hn.2.2
 obtain⟨ae,bF,bh,bo⟩:bb=[b]/\si.a=some ⟨b,0,none⟩/\Blk O b cs/\si.cap*4<=cs.size:=by
  rcases P.tr.hz with⟨e,_⟩|e
  ·rw[e]at hj;simp at hj
  ·exact e
 have aJ:zj O (Aj ⟨pb,o,none⟩ 3)=some (slV si):=by
  refine P.blk.cellAdd ?_
  have:(cut cs0 o 4)[3]?=some (slV si):=by rw[P.cell];rfl
  rw[zp,if_pos (by omega)]at this
  rw[<-AU];exact this
 refine⟨qo x0 p[p.length-1],qbu aM,⟨pb,o,none⟩,rfl,si,aJ,?_⟩
 rw[ej,Zz hj (by omega)]
 have ah:pb≠b:=λe=>P.nb (by rw[e,ae];simp)
 refine zra bF bh bo (by omega) (OTp.one P.tr) (k:=j) (by omega) (by omega) λbC bH bE aV b9 a1 aE=>⟨⟨si.a,si.len-1,si.cap⟩,rfl,⟨pb,o,none⟩,rfl,?_⟩
 have aF:Blk bC pb cs0:=P.blk.keep (a1 pb ah)
 have bL:=P.fit
 rw[zh]
 refine Q1 (vs:=[slV ⟨si.a,si.len-1,si.cap⟩]) ztc aF rfl ztd (by show o+3+1<=_;omega) (by simp[Value.oneCell',slV]) λZ af bO aT=>?_
 rw[zzy P.fit P.cell]at af
 have ax:Blk Z b bH:=bE.keep (aT b ah.symm)
 have ac:∀c,c≠b->c≠pb->Z[c]?=O[c]?:=λc h1 h2=>(aT c h2).trans (a1 c h1)
 rw[aZ]at aE
 have ay:∀(hz:zb) (D':List Nat),Z.size<=hz.size->(∀c,c<O.size->c∉bk->c∉bb->c≠pb->hz[c]?=O[c]?)->(∀c∈D',c∈D)->Turn h hz rb D [] D':=λhz D' hs hf aa=>
  ⟨by omega,λc h1 h2 h3=>by
   rw[hf c (by omega) (λhm=>h3 (P.ik c hm)) (λhm=>h3 (P.ib c hm)) (λe=>by
    rcases P.pin with e2|e2
    ·exact h2 (by rw[e,e2])
    ·exact h3 (by rw[e];exact e2))]
   exact bG.get c h1,λc hc=>.inl (aa c hc)⟩
 have bu:zj Z (Aj ⟨pb,o,none⟩ 0)=some (.int .i64 x0.kind):=by
  rw[zh]
  exact zts (i:=0) af (by show o+4<=_;omega) rfl
 have bq:zj Z (Aj ⟨pb,o,none⟩ 2)=some (slV sk):=by
  rw[zh]
  exact zts (i:=2) af (by show o+4<=_;omega) rfl
 refine⟨⟨pb,o,none⟩,rfl,x0.kind,bu,λh6=>?_,λh6=>?_⟩
 ·have an:x0.kind=6:=by simpa using h6
  have aN:x0.keys.length=x0.items.length:=by
   have:=y5 aY
   unfold zy at this
   simp[an]at this
   exact this.1.2
  obtain⟨l1,l2,l3,l4⟩:=P.tr.keys
  obtain⟨kb,ai,rfl,ka,aQ,bM,au⟩:∃kb ai,bk=[kb]/\sk.a=some ⟨kb,0,none⟩/\Blk O kb ai/\sk.cap<=ai.size/\cut ai 0 x0.keys.length=x0.keys.map AW:=by
   rcases l4 with⟨e,_⟩|e
   ·rw[e]at aN;simp at aN;omega
   ·exact e
  have ar:kb≠b:=λe=>P.tr.d1 kb (by simp) (by rw[e,ae];simp)
  have aj:pb≠kb:=λe=>P.nk (by rw[e];simp)
  have am:Blk Z kb ai:=aQ.keep (ac kb ar aj.symm)
  refine⟨⟨pb,o,none⟩,rfl,sk,bq,?_⟩
  refine zvs ka am (by omega) (by omega) (λu hu=>by
   rw[B6,l1,au]at hu
   obtain⟨q,_,rfl⟩:=BC.1 hu
   simp[Value.oneCell']) (k:=j) (by omega) (by omega) λbB a8 bD bP bY aD aO=>⟨⟨sk.a,sk.len-1,sk.cap⟩,rfl,⟨pb,o,none⟩,rfl,?_⟩
  have a6:Blk bB pb _:=af.keep (aD pb aj)
  rw[zh]
  refine Q1 (vs:=[slV ⟨sk.a,sk.len-1,sk.cap⟩]) zzc a6 rfl z4o (by rw[y7 (by show o+4<=_;omega)];show o+2+1<=_;omega) (by simp[Value.oneCell',slV]) λal a7 cb aA=>?_
  have bm:=zmh (cs:=cs0) (o:=o) (vs:=[.int .i64 x0.kind,.string x0.text,slV sk,slV ⟨si.a,si.len-1,si.cap⟩]) (by show o+4<=_;omega)
  rw[z4v (by rw[y7 (by show o+4<=_;omega)];omega) bm,zz0 (cs0:=cs0) (o:=o) (a:=[.int .i64 x0.kind,.string x0.text,slV sk,slV ⟨si.a,si.len-1,si.cap⟩]) (b:=[.int .i64 x0.kind,.string x0.text,slV ⟨sk.a,sk.len-1,sk.cap⟩,slV ⟨si.a,si.len-1,si.cap⟩]) (by show o+4<=_;omega) rfl]at a7
  have az:∀c,c<O.size->c∉[kb]->c∉bb->c≠pb->al[c]?=O[c]?:=λc _ h1 h2 h3=>by
   rw[aA c h3,aD c (λe=>h1 (by rw[e];simp))]
   exact ac c (λe=>h2 (by rw[e,ae];simp)) h3
  rw[B6,B6,B6,B6,l1,au]at aO
  have bj:OKeys al (x0.keys.take j++x0.keys.drop (j+1)) [kb] ⟨sk.a,sk.len-1,sk.cap⟩:=by
   have ap:(x0.keys.take j++x0.keys.drop (j+1)).length=x0.keys.length-1:=by simp;omega
   refine⟨by show sk.len-1=_;rw[ap,l1],by rw[ap];omega,by show _<=sk.cap;rw[ap];omega,.inr ⟨kb,a8,rfl,ka,bD.keep (aA kb aj.symm),by show sk.cap<=_;omega,?_⟩⟩
   rw[ap,aO];simp[List.map_take,List.map_drop]
  obtain⟨D',aG,aa⟩:=PlcP.del P (by omega) hj (si':=⟨si.a,si.len-1,si.cap⟩) rfl ((ax.keep (aD b ar.symm)).keep (aA b ah.symm)) (by show si.len-1+1=_;omega) rfl aV aE bj (λc hc=>hc) (by simp) a7 az
  refine hy x0 j hl ak ej hj al D' ?_ (ay al D' (by omega) az aa)
  have:znh x0 j=.mk x0.kind x0.text (x0.keys.take j++x0.keys.drop (j+1)) (x0.items.take j++x0.items.drop (j+1)):=by unfold znh;rw[if_pos an]
  rw[this];exact aG
 ·have an:¬x0.kind=6:=by simpa using h6
  have fz:∀c,c<O.size->c∉bk->c∉bb->c≠pb->Z[c]?=O[c]?:=λc _ _ h2 h3=>ac c (λe=>h2 (by rw[e,ae];simp)) h3
  obtain⟨D',aG,aa⟩:=PlcP.del P (by omega) hj (si':=⟨si.a,si.len-1,si.cap⟩) rfl ax (by show si.len-1+1=_;omega) rfl aV aE (P.tr.keys.frame λc hc=>ac c (λe=>P.tr.d1 c hc (by rw[e,ae];simp)) (λe=>P.nk (e ▸ hc))) (λc hc=>hc) P.tr.nk af fz
  refine hy x0 j hl ak ej hj Z D' ?_ (ay Z D' (Ae _) fz aa)
  have:znh x0 j=.mk x0.kind x0.text x0.keys (x0.items.take j++x0.items.drop (j+1)):=by unfold znh;rw[if_neg an]
  rw[this];exact aG
end
section
variable {h g:zb} {bk bb:List Nat} {sk si wk wi:Sl} {bv cv b:Nat} {K:Value -> zb -> Prop} {cs:Array Value} {w:Tr}
theorem z8q{ks:List Bt}(H:OKeys h ks bk sk){s:Bt}(hv:Blk h bv #[.string s])(hn:ks.length<=1048576)
  (hK:∀(sk':Sl) (h':zb) (kb:Nat),OKeys h' (ks++[s]) [kb] sk'->(kb∈bk\/h.size<=kb)->h.size<=h'.size->(∀c,c<h.size->c∉bk->h'[c]?=h[c]?)->K (.slice sk'.a sk'.len sk'.cap) h'):
  XRun Tp (Ax #[22,22] 22 #[.slice sk.a sk.len sk.cap,.slice (some ⟨bv,0,none⟩) 1 cv]) h K:=by
 obtain⟨l1,l2,l3,l4⟩:=H
 obtain⟨b,cs,Z,hb,O⟩:∃b cs,RowO h sk b cs 1/\(b∈bk\/h.size<=b)/\cut cs 0 (sk.len*1)=ks.map AW:=by
  rcases l4 with⟨rfl,rfl,h0⟩|⟨b,cs,rfl,e1,e2,e3,e4⟩
  ·refine⟨h.size,#[],⟨by omega,.inl ⟨l1,h0⟩⟩,.inr (Ae _),?_⟩
   rw[l1];rfl
  ·exact⟨b,cs,⟨by omega,.inr ⟨e1,e2,by omega⟩⟩,.inl (by simp),by rw[l1,B6];exact e4⟩
 have aa:∀c∈bk,c<h.size:=by
  intro c hc
  rcases l4 with⟨_,rfl,_⟩|⟨b,cs,rfl,_,e2,_⟩
  ·cases hc
  ·simp at hc;subst hc;exact e2.lt
 refine zm3 (vs:=[.string s]) zho Z hv rfl (λu hu=>by simp at hu;subst hu;simp[Value.oneCell']) (by omega) (by omega) λs' h' b' cs' N=>?_
 rw[O]at N
 have hl:(ks++[s]).length=sk.len+1:=by simp[l1]
 refine hK s' h' b' ⟨by rw[hl];exact N.len,by rw[hl];omega,by rw[hl];exact N.cap,.inr ⟨b',cs',rfl,N.a,N.blk,by have:=N.size;omega,?_⟩⟩ ?_ N.grow λc hc hn=>N.old c hc λe=>?_
 ·rw[hl]
  have:=N.cut
  rw[B6]at this
  rw[this];simp
 ·rcases N.new with e|e
  ·rw[e];exact hb
  ·exact .inr e
 ·rcases N.new with e2|e2
  ·rcases hb with e3|e3
   ·exact hn (by rw[e,e2];exact e3)
   ·omega
  ·omega
theorem z3j{x:Tr}{bf:Nat->List Nat}(H:OTp g x sk si bk bb b cs bf)(kb:∀c∈bb,h[c]?=g[c]?)(hv:Blk h bv (zi w wk wi).toArray)(hn:x.items.length<=1000000000)
  (hK:∀(si':Sl) (h':zb) (b':Nat) (cs':Array Value),si'.a=some ⟨b',0,none⟩->si'.len=x.items.length+1->x.items.length+1<=si'.cap->Blk h' b' cs'->si'.cap*4<=cs'.size->cut cs' 0 ((x.items.length+1)*4)=cut cs 0 (x.items.length*4)++zi w wk wi ->
   ((b'=b/\b∈bb)\/h.size<=b')->h.size<=h'.size->(∀c,c<h.size->c∉bb->h'[c]?=h[c]?)->K (.slice si'.a si'.len si'.cap) h'):
  XRun Tp (Ax #[23,23] 23 #[.slice si.a si.len si.cap,.slice (some ⟨bv,0,none⟩) 1 cv]) h K:=by
 have O:=H.hn.1
 obtain⟨b0,ac,ae⟩:∃b0,RowO h si b0 cs 4/\((b0=b/\b∈bb)\/b0=h.size):=by
  have aa:=OTp.row H (h':=h) kb
  rcases H.hz with⟨h0,_,h2⟩|⟨af,_⟩
  ·exact⟨h.size,⟨aa.le,.inl ⟨by rw[O,h0];rfl,h2⟩⟩,.inr rfl⟩
  ·exact⟨b,aa,.inl ⟨rfl,by rw[af];simp⟩⟩
 refine zm3 (vs:=zi w wk wi) elemTree ac hv rfl (Jd w wk wi) (by omega) (by omega) λs' h' b' cs' N=>?_
 rw[O]at N
 have Z:(b'=b/\b∈bb)\/h.size<=b':=by
  rcases N.new with e|e
  ·rcases ae with⟨e2,hm⟩|e2
   ·exact .inl ⟨by rw[e,e2],hm⟩
   ·exact .inr (by omega)
  ·exact .inr e
 refine hK s' h' b' cs' N.a N.len N.cap N.blk N.size N.cut Z N.grow λc hc hn=>N.old c hc λe=>?_
 rcases Z with⟨e2,hm⟩|e2
 ·exact hn (by rw[e,e2];exact hm)
 ·omega
theorem z8r:yr Tp 22=1:=by kernel_rfl
theorem zrg:yr Tp 25=4:=by kernel_rfl
theorem zrh:yu Tp 25=true:=by kernel_rfl
set_option maxHeartbeats 2000000 in
theorem z8s{D:List Nat}{rb:Nat}{x w:Tr}{s:Bt}{T:Tr->Tr}{pb o:Nat}{cs0:Array Value}{bf:Nat->List Nat}(P:PlcP g D rb ⟨pb,o,none⟩ x T pb o cs0 sk si bk bb b cs bf)(az:rb<g.size){bw:List Nat}(ow:OT g w bw (zi w wk wi))(O:∀c∈bw,c≠rb/\c∉D)(hx:x.items.length<=1000000000)
  {gF:zb} {sk' si':Sl} {kb b':Nat} {cs':Array Value} (hs:g.size<=gF.size) (hf:∀c,c<g.size->c∉bk->c∉bb->gF[c]?=g[c]?) (ok:OKeys gF (x.keys++[s]) [kb] sk') (Z:kb∈bk\/g.size<=kb)
  (e1:si'.a=some ⟨b',0,none⟩) (e2:si'.len=x.items.length+1) (e3:x.items.length+1<=si'.cap) (e4:Blk gF b' cs') (e5:si'.cap*4<=cs'.size) (e6:cut cs' 0 ((x.items.length+1)*4)=cut cs 0 (x.items.length*4)++zi w wk wi) (aa:(b'=b/\b∈bb)\/g.size<=b') (aA:kb≠b') (hK:∀h' D',Doc h' rb (T (z9m x s w)) D'->Turn g h' rb D bw D'->K (.int .i64 0) h'):
  XRunU Tp (Al 22 (.pointer (some (Aj ⟨pb,o,none⟩ 2))) (.slice sk'.a sk'.len sk'.cap)) gF (λh1=>XRunU Tp (Al 23 (.pointer (some (Aj ⟨pb,o,none⟩ 3))) (.slice si'.a si'.len si'.cap)) h1 (λh2=>K (.int .i64 0) h2)):=by
 have af:pb<g.size:=P.blk.lt
 have aE:=P.fit
 have ac:∀c,c<g.size->c∉bk->c≠kb:=λc hc hn e=>by
  rcases Z with h|h
  ·exact hn (e ▸ h)
  ·omega
 have am:∀c,c<g.size->c∉bb->c≠b':=λc hc hn e=>by
  rcases aa with⟨h1,h2⟩|h
  ·exact hn (by rw[e,h1];exact h2)
  ·omega
 have bF:Blk gF pb cs0:=P.blk.keep (hf pb af P.nk P.nb)
 rw[zh,zh]
 refine Q1 (vs:=[slV sk']) zzc bF rfl z8r (by show o+2+1<=_;omega) (by simp[Value.oneCell',slV]) λh1 b1 z1 f1=>?_
 rw[z4v P.fit P.cell]at b1
 refine Q1 (vs:=[slV si']) ztc b1 rfl ztd (by rw[y7 (by show o+4<=_;omega)];show o+3+1<=_;omega) (by simp[Value.oneCell',slV]) λh2 b2 z2 f2=>?_
 have ax:=zmh (cs:=cs0) (o:=o) (vs:=[.int .i64 x.kind,.string x.text,slV sk',slV si]) (by show o+4<=_;omega)
 rw[zzy (by rw[y7 (by show o+4<=_;omega)];omega) ax,zz0 (cs0:=cs0) (o:=o) (a:=[.int .i64 x.kind,.string x.text,slV sk',slV si]) (b:=[.int .i64 x.kind,.string x.text,slV sk',slV si']) (by show o+4<=_;omega) rfl]at b2
 have ae:∀c,c≠pb->h2[c]?=gF[c]?:=λc hc=>(f2 c hc).trans (f1 c hc)
 have fz:∀c,c<g.size->c∉bk->c∉bb->c≠pb->h2[c]?=g[c]?:=λc hc n1 n2 n3=>(ae c n3).trans (hf c hc n1 n2)
 have au:pb≠kb:=ac pb af P.nk
 have ap:pb≠b':=am pb af P.nb
 have hD:∀c,c≠rb->c∉D->c≠pb:=λc n1 n2 e=>by
  rcases P.pin with e2|e2
  ·exact n1 (by rw[e,e2])
  ·exact n2 (by rw[e];exact e2)
 have ai:∀c,c∉D->c∉bk:=λc hc hm=>hc (P.ik c hm)
 have aj:∀c,c∉D->c∉bb:=λc hc hm=>hc (P.ib c hm)
 have ay:OT h2 w bw (zi w wk wi):=ow.frame λc hc=>fz c (ow.lt c hc) (ai c (O c hc).2) (aj c (O c hc).2) (hD c (O c hc).1 (O c hc).2)
 have al:∀i,i<x.items.length->∀c∈bf i,c∉bk:=λi hi c hc hm=>P.tr.d2 c hm i hi hc
 have an:∀i,i<x.items.length->∀c∈bf i,c∉bb:=λi hi c hc hm=>P.tr.d3 c hm i hi hc
 have ah:(cut cs 0 (x.items.length*4)).length<=x.items.length*4:=by unfold cut;simp;omega
 have ot:=(P.tr.ins (k:=x.items.length) (Ae _) ay (λi hi c hc=>fz c (P.lt c (P.jf i hi c hc)) (al i hi c hc) (an i hi c hc) (λe=>P.nf i hi (e ▸ hc))) e1 (e4.keep (ae b' ap.symm)) e2 e3 e5 (by omega)
  (by rw[e6,Be ah,A7 ah,Ba]) (λi hi hm=>am b' (P.lt _ (P.jf i hi b' hm)) (an i hi b' hm) rfl) (λhm=>by
   rcases aa with⟨e,aD⟩|e
   ·exact(O b' hm).2 (by rw[e];exact P.ib b aD)
   ·have:=ow.lt b' hm;omega) (λc hc i hi hm=>(O c hc).2 (P.jf i hi c hm))
  (ok.frame (h':=h2) λc hc=>ae c (by simp at hc;subst hc;exact au.symm)) (by simp) (by simp;exact λe=>aA e.symm) (λc hc i hi hm=>by
   simp at hc;subst hc
   exact ac c (P.lt c (P.jf i hi c hm)) (al i hi c hm) rfl) (λc hc hm=>by
   simp at hc;subst hc
   rcases Z with h|h
   ·exact(O c hm).2 (P.ik c h)
   ·have:=ow.lt c hm;omega)).ot
 have aC:(x.items.take x.items.length++w::x.items.drop x.items.length)=x.items++[w]:=by rw[AN,C4]
 obtain⟨D',ak,ar⟩:=P.put h2 _ _ _ (λc q1 q2 q3 q4 q5=>fz c (by
  rcases q5 with rfl|q5
  ·exact az
  ·exact P.lt c q5) q2 q3 q1) b2 ot (λc hc=>by
  rcases ja.1 hc with hc|hc|⟨i,hi,hc⟩
  ·simp at hc;subst hc
   rcases Z with h|h
   ·exact .inl (.inl h)
   ·exact .inr ⟨by omega,λhm=>by have:=P.lt c hm;omega⟩
  ·simp at hc;subst hc
   rcases aa with⟨e,hm⟩|e
   ·exact .inl (.inr (.inl (by rw[e];exact hm)))
   ·exact .inr ⟨by omega,λhm=>by have:=P.lt c hm;omega⟩
  ·have aB:i<x.items.length+1:=by simpa using hi
   try simp only at hc
   split at hc
   ·exact .inl (.inr (.inr ⟨i,by omega,hc⟩))
   ·split at hc
    ·exact .inr (O c hc)
    ·exact .inl (.inr (.inr ⟨i-1,by omega,hc⟩)))
 rw[aC]at ak
 refine hK h2 D' ak ⟨by omega,λc q1 q2 q3=>fz c q1 (ai c q3) (aj c q3) (hD c q2 q3),λc hc=>?_⟩
 rcases ar c hc with hc|hc
 ·exact .inl hc
 ·rcases ja.1 hc with hc|hc|⟨i,hi,hc⟩
  ·simp at hc;subst hc
   rcases Z with h|h
   ·exact .inl (P.ik c h)
   ·exact .inr (.inr h)
  ·simp at hc;subst hc
   rcases aa with⟨e,hm⟩|e
   ·exact .inl (by rw[e];exact P.ib b hm)
   ·exact .inr (.inr e)
  ·have aB:i<x.items.length+1:=by simpa using hi
   try simp only at hc
   split at hc
   ·exact .inl (P.jf i (by omega) c hc)
   ·split at hc
    ·exact .inr (.inl hc)
    ·exact .inl (P.jf (i-1) (by omega) c hc)
end
end Go.X
end
section
namespace Go.X
open Go Go.Lib
section
variable {v w y:Tr}
theorem z8t{p:List Bt}(h:p≠[]):zni v p w=(qz v (zkt p)).bind λx=>if x.kind=5 then(z8f x (zhz p)).map (λk=>Xk v (zkt p) (z7y x k w))
  else if x.kind≠6 then none else if 0<=qo x (zhz p)then some (Xk v (zkt p) (zvm x (qo x (zhz p)).toNat w))else some (Xk v (zkt p) (z9m x (zhz p) w)):=by
 unfold zni
 rw[if_neg h]
 cases qz v (zkt p)with
 |none=>rfl
 |some x=>
  simp only[Ck]
  split
  ·cases z8f x (zhz p) <;> rfl
  ·rfl
theorem zkw(s:Bt):∀(q:List Bt) (v:Tr),qz v (q++[s])=(qz v q).bind λx=>if 0<=qo x s then x.items[(qo x s).toNat]? else none
 |[],v=>by
  rw[BJ,Jb,Ck]
  split
  ·rename_i h
   cases hx:v.items[(qo v s).toNat]? with
   |none=>
    unfold qz yb
    rw[if_pos h,hx];simp
   |some x=>
    obtain⟨hk,e⟩:=Az.1 hx
    rw[Q0 (k:=(qo v s).toNat) (by omega) hk,Jb,e]
  ·rename_i h
   exact zfw (by omega)
 |t::q,v=>by
  rw[A3]
  by_cases h:0<=qo v t
  ·cases hx:v.items[(qo v t).toNat]? with
   |none=>
    have e:∀r,qz v (t::r)=none:=λr=>by
     unfold qz yb
     rw[if_pos h,hx];simp
    rw[e,e];rfl
   |some x=>
    obtain⟨hk,e⟩:=Az.1 hx
    rw[Q0 (k:=(qo v t).toNat) (by omega) hk,Q0 (k:=(qo v t).toNat) (by omega) hk]
    exact zkw s q _
  ·rw[zfw (by omega),zfw (by omega)];rfl
theorem zee{p:List Bt}(hp:p≠[])(h:qz v p=some y):∃x,qz v (zkt p)=some x/\∃k:Nat,qo x (zhz p)=k/\x.items[k]?=some y:=by
 rw[ztq hp,zkw]at h
 rw[Option.bind_eq_some_iff]at h
 obtain⟨x,h1,h2⟩:=h
 refine⟨x,h1,?_⟩
 split at h2
 ·exact⟨(qo x (zhz p)).toNat,by omega,h2⟩
 ·cases h2
theorem zri{q:Tr->Bool}(h:q v=true)(hi:∀x∈v.items,Y9 q x=true):Y9 q v=true:=by
 rw[zmd,h,B0,zc1,AP];exact hi
theorem zz1(hk:w.kind=v.kind)(ht:w.text=v.text)(O:w.keys=v.keys)(hl:w.items.length=v.items.length):zy w=zy v:=by
 have he:w.items.isEmpty=v.items.isEmpty:=by
  cases h1:w.items <;> cases h2:v.items <;> rw[h1,h2]at hl <;> simp at hl ⊢
 unfold zy
 rw[hk,ht,O,hl,he]
theorem zpi{w:Tr}(hw:Y9 zy w=true):∀(p:List Bt) (v:Tr),Y9 zy v=true->Y9 zy (Xk v p w)=true
 |[],v,_=>by rw[Xk];exact hw
 |s::p,v,hv=>by
  rw[Xk]
  split
  ·split
   ·rename_i x hx
    obtain⟨hk,e⟩:=Az.1 hx
    refine zri ?_ λy hy=>?_
    ·have h:=y5 hv
     rw[<-h]
     exact zz1 rfl rfl rfl (by simp[zvm])
    ·rcases List.mem_or_eq_of_mem_set hy with hy|rfl
     ·exact y0 hv hy
     ·exact zpi hw p x (y0 hv (e ▸ Ay hk))
   ·exact hv
  ·exact hv
theorem zz2{l:List Bt}(h:l.Nodup)(j:Nat):(l.take j++l.drop (j+1)).Nodup:=by
 refine h.sublist ?_
 have:l.take j++l.drop (j+1)=l.eraseIdx j:=(List.eraseIdx_eq_take_drop_succ l j).symm
 rw[this];exact List.eraseIdx_sublist l j
theorem zvv(s:Bt)(ks:List Bt)(xs:List Tr):zy (.mk 6 s ks xs)=(Qy ks&&decide (ks.length=xs.length)&&lb s==[]):=rfl
theorem zkx(s:Bt)(ks:List Bt)(xs:List Tr):zy (.mk 5 s ks xs)=(lb s==[]&&ks.isEmpty):=rfl
theorem zvw{x:Tr}(h:zy x=true)(j:Nat)(hj:j<x.items.length):zy (znh x j)=true:=by
 by_cases h6:x.kind=6
 ·have hl:=Wa h h6
  have e:znh x j=.mk 6 x.text (x.keys.take j++x.keys.drop (j+1)) (x.items.take j++x.items.drop (j+1)):=by unfold znh;rw[if_pos h6,h6]
  have h':(Qy x.keys=true/\x.keys.length=x.items.length)/\x.text.data=#[]:=by
   unfold zy at h;simpa[h6]using h
  rw[e]
  obtain⟨⟨h1,h2⟩,h3⟩:=h'
  have:(Qy (x.keys.take j++x.keys.drop (j+1))=true/\(x.keys.take j++x.keys.drop (j+1)).length=(x.items.take j++x.items.drop (j+1)).length)/\x.text.data=#[]:=by
   refine⟨⟨?_,by simp;omega⟩,h3⟩
   unfold Qy at h1 ⊢
   rw[AI,AP]at h1 ⊢
   refine⟨λk hk=>?_,by simpa using zz2 (by simpa using h1.2) j⟩
   rcases An.1 hk with hk|hk
   ·exact h1.1 k (BR hk)
   ·exact h1.1 k (Cy hk)
  rw[zvv]
  simpa using this
 ·have e:znh x j=.mk x.kind x.text x.keys (x.items.take j++x.items.drop (j+1)):=by unfold znh;rw[if_neg h6]
  rw[e]
  by_cases h5:x.kind=5
  ·rw[h5,zkx]
   rw[<-Tr.eta x,h5,zkx]at h;exact h
  ·exfalso
   have Z:x.items≠[]:=λe=>by rw[e]at hj;simp at hj
   have O:x.items.isEmpty=false:=by simpa using Z
   unfold zy at h
   rw[if_neg h5,if_neg h6,O]at h
   simp at h
theorem z3k{x:Tr}(h:Y9 zy x=true)(j:Nat)(hj:j<x.items.length):Y9 zy (znh x j)=true:=by
 refine zri (zvw (y5 h) j hj) λy hy=>?_
 rcases An.1 hy with hy|hy
 ·exact y0 h (BR hy)
 ·exact y0 h (Cy hy)
theorem ztt{p:List Bt}(h:Y9 zy v=true)(hp:p≠[])(hf:qz v p=some y):Y9 zy (zpp v p)=true:=by
 obtain⟨x,h1,k,h2,h3⟩:=zee hp hf
 unfold zpp
 rw[h1]
 simp only
 rw[h2,Ah]
 exact zpi (z3k ((jz h1).2.2 _ h) k (Az.1 h3).1) _ v h
theorem wh(h:ql v=true):ye v=true:=by
 unfold ql at h
 unfold ye
 rw[AI]at h ⊢
 refine⟨h.1,?_⟩
 have key:∀n (x:Tr),tsz x<=n->Y9 (λx=>decide (x.kind≠7)&&zy x) x=true->Y9 zy x=true:=by
  intro n
  induction n with
  |zero=>intro x hx;have:=zme x;omega
  |succ n ih=>
   intro x hx hq
   have:=y5 hq
   simp at this
   refine zri this.2 λy hy=>ih y (by have:=wn hy;omega) (y0 hq hy)
 exact key _ v (Ae _) h.2
theorem Xn(h:ye v=true):Y9 zy v=true:=by
 unfold ye at h
 rw[AI]at h;exact h.2
theorem zef{v x:Tr}{p:List Bt}(h:ye v=true)(hf:qz v p=some x):ye x=true:=by
 obtain⟨h1,_,h3⟩:=jz hf
 unfold ye Wd at h ⊢
 simp only[AI,decide_eq_true_eq]at h ⊢
 refine⟨⟨by omega,?_⟩,h3 _ h.2⟩
 have:∀(p:List Bt) (v:Tr),qz v p=some x->tdp x<=tdp v:=by
  intro p
  induction p with
  |nil=>intro v hf;rw[Jb]at hf;cases hf;exact Ae _
  |cons s p ih=>
   intro v hf
   obtain⟨k,hk,e1,_,_⟩:=zbl (zpg hf)
   rw[Q0 e1 hk]at hf
   have h1:=ih _ hf
   have h2:tdp v.items[k]<tdp v:=by
    rw[zyp v]
    have:∀(l:List Tr) (y:Tr),y∈l->tdp y<=zhg l:=by
     intro l
     induction l with
     |nil=>intro y hy;cases hy
     |cons z l O=>
      intro y hy
      rw[zhg]
      rcases Ad.1 hy with rfl|hy
      ·omega
      ·have:=O y hy;omega
    have:=this v.items _ (Ay hk)
    omega
   omega
 have:=this p v hf
 omega
end
end Go.X
end
section
namespace Go.X
section
variable {h:zb} {rb:Nat} {D bw:List Nat}
theorem Turn.pre{h h1 h':zb}{D bw D':List Nat}(k:Keep h.size h h1)(H:Turn h1 h' rb D bw D'):Turn h h' rb D bw D':=by
 have:=k.size
 have:=H.size
 refine⟨by omega,λc h1 h2 h3=>(H.old c (by omega) h2 h3).trans (k.get c h1),λc hc=>?_⟩
 rcases H.own c hc with h|h|h
 ·exact .inl h
 ·exact .inr (.inl h)
 ·exact .inr (.inr (by omega))
set_option maxHeartbeats 4000000 in
theorem z4w{gl:Fr}(hg:GL gl){v w:Tr}(hv:Sm v)(ho:Y9 zy v=true){p:List Bt}(hp:SL p){M:Fr}{u2:Value}(hM:Fr.le gl M)(ag:AgM M h)(hD:Doc h rb v D)(cb:RdV M (.row .str) p u2){wk wi:Sl}(ow:OT h w bw (zi w wk wi))(aj:∀c∈bw,c≠rb/\c∉D)(bE:∀x,qz v (zkt p)=some x->x.items.length<=1000000000){K:Value->zb->Prop}
  (aM:zni v p w=none->∀h',Keep h.size h h'->K (.int .i64 8) h')
  (al:∀t,zni v p w=some t->∀h' D',Doc h' rb t D'->Turn h h' rb D bw D'->K (.int .i64 0) h'):
  XC Tp 101 #[.pointer (some ⟨rb,0,none⟩),u2,.agg #[.int .i64 w.kind,.string w.text,slV wk,slV wi]] h K:=by
 obtain⟨sp,rfl,rp⟩:=zin cb
 obtain⟨aT,cr,cJ⟩:=rowLen rp
 have cB:=hp.n
 have cC:=hD.lt rb (.inl rfl)
 apply zff (some ⟨rb,0,none⟩) sp w.kind w.text wk wi
 intro h1
 have z1:h1.size=h.size+1:=Ak _
 have k1:Keep h.size h h1:=Keep.push _ _ (Ae _)
 have b1:Blk h1 h.size (zi w wk wi).toArray:=Blk.new _ _ _
 clear_value h1
 have an:∀h',Keep h1.size h1 h'->zd h' ⟨h.size,0,none⟩ 0 (zi w wk wi):=λh' k=>(b1.ofKeep k).ld (cs:=zi w wk wi)
 have D1:Doc h1 rb v D:=hD.keep λc hc=>k1.get c (hD.lt c hc)
 have aO:OT h1 w bw (zi w wk wi):=ow.frame λc hc=>k1.get c (ow.lt c hc)
 refine⟨λhz=>?_,λhz=>?_⟩
 ·have cn:p=[]:=Aw (by rw[aT]at hz;simp at hz;simp[hz])
  refine⟨w.kind,w.text,wk,wi,an h1 (Keep.refl _ _),⟨rb,0,none⟩,rfl,?_⟩
  obtain⟨b,o,cs,bx,e,hb,aI,ot,ck,aD,be,bF,aN,a7⟩:=D1.plc
  cases e
  rw[zh]
  refine Q1 (vs:=zi w wk wi) zrh hb rfl zrg (by show 0+4<=_;omega) (Jd w wk wi) λh' b' z' f'=>?_
  obtain⟨D',ak,az⟩:=a7 h' w (zi w wk wi) bw (λc n1 _ _=>f' c n1) b' (aO.frame λc hc=>f' c (aj c hc).1) (λc hc=>.inr (aj c hc))
  refine al w (by unfold zni;rw[if_pos cn]) h' D' ak ⟨by omega,λc q1 q2 q3=>(f' c q2).trans (k1.get c q1),λc hc=>?_⟩
  rcases az c hc with hc|hc
  ·exact .inl hc
  ·exact .inr (.inl hc)
 ·have bn:p≠[]:=λe=>by rw[aT,e]at hz;simp at hz
  have cp:0<p.length:=A5.2 bn
  have hl:p.length-1<p.length:=by omega
  have w1:Ab .i64 (((sp.len:Nat):Int)-1)=((p.length-1:Nat):Int):=by rw[aT,w64 (by omega)];omega
  rw[w1]
  have aP:=ag.keep k1
  refine zio aP rp hl rfl rfl ⟨.inr ⟨_,rfl⟩,⟨by omega,by omega,by omega,by omega⟩,?_⟩
  simp -zeta only[Ah,C8,Cm,Qr]
  have O:=z8t (v:=v) (w:=w) bn
  have bD:=zh0 hl
  generalize cu:zhz p=st at *
  rw[bD]
  have aL:(lb st).length<=1048576:=by rw[<-bD];exact hp.s _ (Ay hl)
  have cg:=zrf rp (n:=p.length-1) (by omega)
  refine z8d hg hv ho ⟨by rw[AY];omega,λq hq=>hp.s q (BR hq)⟩ hM aP D1 cg (λhn h' k'=>?_) λx bQ hx ca h4 pa k4 plc=>?_
  ·refine⟨none,rfl,(λ_=>aM ?_ h' (k1.trans k' (by omega))),λhc=>by cases hc⟩
   rw[O];unfold zkt;rw[hn];rfl
  have aH:qz v (zkt p)=some x:=bQ
  rw[aH,Ck]at O
  have z4:=k4.size
  have aG:Keep h.size h h4:=k1.trans k4 (by omega)
  have aU:=aP.keep k4
  have a6:=bE _ aH
  obtain⟨bh,bA,bx,bL,ot,ck,_⟩:=Plc.ld plc
  have bG:zj h4 (pa.add 0)=some (.int .i64 x.kind):=bL.1
  have aS:OT h4 w bw (zi w wk wi):=aO.frame λc hc=>k4.get c (by have:=aO.lt c hc;omega)
  refine⟨some pa,rfl,(λhc=>by cases hc),λ_=>⟨pa,rfl,x.kind,bG,λh5=>?_,λh5=>?_⟩⟩
  ·have aZ:x.kind=5:=by simpa using h5
   rw[if_pos aZ]at O
   refine⟨w.kind,w.text,wk,wi,an h4 k4,?_⟩
   refine zzz hg aL hM aU plc (by omega) aS aj a6 (λhk h' k'=>⟨8,rfl,aM ?_ h' (aG.trans k' (by omega))⟩) λk hk h' D' ak ht=>⟨0,rfl,al _ ?_ h' D' ak (ht.pre aG)⟩
   ·rw[O,hk];rfl
   ·rw[O,hk];rfl
  ·have aZ:¬x.kind=5:=by simpa using h5
   rw[if_neg aZ]at O
   refine⟨pa,rfl,x.kind,bG,λh6=>?_,λh6=>?_⟩
   ·have a8:x.kind≠6:=by simpa using h6
    rw[if_pos a8]at O
    exact aM O h4 aG
   ·have a8:¬x.kind≠6:=by simpa using h6
    rw[if_neg a8]at O
    refine⟨pa,rfl,x.kind,x.text,bh,bA,bL,?_⟩
    have bS:PC Tp gl 134 [Arg.mk .tree x,Arg.mk .str st] [.int .i64] (λr=>r=qo x st):=zm0 hg aL rfl
    refine bS.go (vs:=[.agg #[.int .i64 x.kind,.string x.text,slV bh,slV bA],.string st]) (hM.trans (Xm aU bx)) (MxL.ag aU bx) (yj ot.rdv (yj (rdStr _) wm)) λw' g cF r aC bB hr=>?_
    have hr:r=qo x st:=hr
    subst hr
    have zg:=aC.keep.size
    have kg:Keep h.size h g:=aG.trans aC.keep (by omega)
    have bC:Keep h1.size h1 g:=k4.trans aC.keep (by omega)
    have aJ:=Plc.keepK plc (by omega) aC.keep
    have bq:OT g w bw (zi w wk wi):=aS.frame λc hc=>aC.keep.get c (by have:=aS.lt c hc;omega)
    refine⟨qo x st,qbu bB,λbV=>?_,λaN=>?_⟩
    ·have bH:0<=qo x st:=by simpa using bV
     rw[if_pos bH]at O
     obtain⟨k,ek,hk⟩:∃k:Nat,qo x st=k/\k<x.items.length:=by
      rcases zc3 (y5 ca) st with e|h
      ·omega
      ·exact h
     obtain⟨si,a,c1,c2,c3,bp⟩:=aJ.step hk
     refine⟨pa,rfl,si,c1,w.kind,w.text,wk,wi,an g bC,a,⟨c2,by omega,by omega⟩,?_⟩
     rw[ek,Ah]
     obtain⟨b,o,cs,cE,e,hb,aI,cz,co,aD,be,bF,aN,a7⟩:=bp
     rw[e]
     refine Q1 (vs:=zi w wk wi) zrh hb rfl zrg (by show o+4<=_;omega) (Jd w wk wi) λh' b' z' f'=>?_
     have bm:∀c,c≠rb->c∉D->c≠b:=λc q1 q2 e=>by
      rcases aD with h|h
      ·exact q1 (by rw[e,h])
      ·exact q2 (by rw[e];exact h)
     obtain⟨D',ak,az⟩:=a7 h' w (zi w wk wi) bw (λc n1 _ _=>f' c n1) b' (bq.frame λc hc=>f' c (bm c (aj c hc).1 (aj c hc).2)) (λc hc=>.inr (aj c hc))
     rw[ek,Ah]at O
     refine al _ O h' D' ak ⟨by omega,λc q1 q2 q3=>(f' c (bm c q2 q3)).trans (kg.get c q1),λc hc=>?_⟩
     rcases az c hc with hc|hc
     ·exact .inl hc
     ·exact .inr (.inl hc)
    ·have bM:¬0<=qo x st:=by simpa using aN
     rw[if_neg bM]at O
     obtain⟨pb,o,cs0,sk,si,bk,bb,b,cs,bf,P⟩:=Plc.parts aJ
     have bO:=P.ad
     subst bO
     have aI:=P.fit
     have ba:zj g (Aj ⟨pb,o,none⟩ 2)=some (slV sk):=by
      refine P.blk.cellAdd ?_
      have:(cut cs0 o 4)[2]?=some (slV sk):=by rw[P.cell];rfl
      rw[zp,if_pos (by omega)]at this
      rw[<-AU];exact this
     have bI:zj g (Aj ⟨pb,o,none⟩ 3)=some (slV si):=by
      refine P.blk.cellAdd ?_
      have:(cut cs0 o 4)[3]?=some (slV si):=by rw[P.cell];rfl
      rw[zp,if_pos (by omega)]at this
      rw[<-AU];exact this
     have ac:pb<g.size:=P.blk.lt
     have cj:rb<g.size:=by omega
     have am:∀c,c∈bk->c<h.size:=λc hc=>hD.lt c (.inr (P.ik c hc))
     have ah:∀c,c∈bb->c<h.size:=λc hc=>hD.lt c (.inr (P.ib c hc))
     have cc:x.keys.length<=1048576:=hx.keys
     have aV:∀(gF:zb) (sk' si':Sl) (kb b':Nat) (cs':Array Value),g.size<=gF.size->(∀c,c<g.size->c∉bk->c∉bb->gF[c]?=g[c]?)->OKeys gF (x.keys++[st]) [kb] sk'->(kb∈bk\/g.size<=kb) ->
       si'.a=some ⟨b',0,none⟩->si'.len=x.items.length+1->x.items.length+1<=si'.cap->Blk gF b' cs'->si'.cap*4<=cs'.size->cut cs' 0 ((x.items.length+1)*4)=cut cs 0 (x.items.length*4)++zi w wk wi->((b'=b/\b∈bb)\/g.size<=b')->kb≠b' ->
       XRunU Tp (Al 22 (.pointer (some (Aj ⟨pb,o,none⟩ 2))) (.slice sk'.a sk'.len sk'.cap)) gF (λh1=>XRunU Tp (Al 23 (.pointer (some (Aj ⟨pb,o,none⟩ 3))) (.slice si'.a si'.len si'.cap)) h1 (λh2=>K (.int .i64 0) h2)):=by
      intro gF sk' si' kb b' cs' q1 q2 q3 q4 q5 q6 q7 q8 q9 bT bP bU
      exact z8s P cj bq aj a6 q1 q2 q3 q4 q5 q6 q7 q8 q9 bT bP bU λh' D' ak ht=>al _ O h' D' ak (ht.pre kg)
     have aF:∀(a1:zb) (bv:Nat) (KK:Value->zb->Prop),Keep g.size g a1->Blk a1 bv #[.string st]->(∀(sk':Sl) (a2:zb) (kb:Nat),OKeys a2 (x.keys++[st]) [kb] sk'->(kb∈bk\/a1.size<=kb)->a1.size<=a2.size->(∀c,c<a1.size->c∉bk->a2[c]?=a1[c]?)->KK (.slice sk'.a sk'.len sk'.cap) a2) ->
       XRun Tp (Ax #[22,22] 22 #[.slice sk.a sk.len sk.cap,.slice (some ⟨bv,0,none⟩) 1 1]) a1 KK:=by
      intro a1 bv KK ka hb hK
      exact z8q (P.tr.keys.frame λc hc=>ka.get c (by have:=am c hc;omega)) hb cc hK
     have aB:∀(a3:zb) (bv:Nat) (KK:Value->zb->Prop),(∀c∈bb,a3[c]?=g[c]?)->Blk a3 bv (zi w wk wi).toArray->(∀(si':Sl) (h':zb) (b':Nat) (cs':Array Value),si'.a=some ⟨b',0,none⟩->si'.len=x.items.length+1->x.items.length+1<=si'.cap->Blk h' b' cs'->si'.cap*4<=cs'.size->cut cs' 0 ((x.items.length+1)*4)=cut cs 0 (x.items.length*4)++zi w wk wi ->
       ((b'=b/\b∈bb)\/a3.size<=b')->a3.size<=h'.size->(∀c,c<a3.size->c∉bb->h'[c]?=a3[c]?)->KK (.slice si'.a si'.len si'.cap) h') ->
       XRun Tp (Ax #[23,23] 23 #[.slice si.a si.len si.cap,.slice (some ⟨bv,0,none⟩) 1 1]) a3 KK:=λa3 bv KK hk hb hK=>z3j P.tr hk hb a6 hK
     have cm:h.size∉bk:=λhm=>by have:=am _ hm;omega
     have au:∀c∈bk,c∉bb:=P.tr.d1
     refine⟨⟨pb,o,none⟩,rfl,sk,ba,⟨pb,o,none⟩,rfl,si,bI,w.kind,w.text,wk,wi,an g bC,⟨pb,o,none⟩,rfl,⟨pb,o,none⟩,rfl,⟨?_,?_⟩⟩
     ·-- the key's box first
      intro af
      have cq:af.size=g.size+1:=Ak _
      have ap:Keep g.size g af:=Keep.push _ _ (Ae _)
      have bj:Blk af g.size #[.string st]:=Blk.new _ _ _
      clear_value af
      refine⟨ap.get _ (by show h.size<_;omega),ap.get _ ac,ap.get _ ac,?_,?_⟩
      ·refine aF af g.size _ ap bj λsk' a2 kb ok aa za fa=>⟨sk',rfl,?_⟩
       have ae:∀c,c<g.size->c∉bk->a2[c]?=g[c]?:=λc hc hn=>(fa c (by omega) hn).trans (ap.get c hc)
       refine⟨ae _ (by show h.size<_;omega) cm,ae _ ac P.nk,?_⟩
       intro ar
       have cy:ar.size=a2.size+1:=Ak _
       have bz:Keep a2.size a2 ar:=Keep.push _ _ (Ae _)
       have bZ:Blk ar a2.size (zi w wk wi).toArray:=Blk.new _ _ _
       clear_value ar
       have fb:∀c,c<g.size->c∉bk->ar[c]?=g[c]?:=λc hc hn=>(bz.get c (by omega)).trans (ae c hc hn)
       refine⟨fb _ ac P.nk,?_⟩
       refine aB ar a2.size _ (λc hc=>fb c (by have:=ah c hc;omega) (λhm=>au c hm hc)) bZ λsi' aA b' cs' q1 q2 q3 q4 q5 q6 q7 q8 q9=>⟨si',rfl,?_⟩
       have aY:kb<a2.size:=by
        obtain⟨_,_,_,h4⟩:=ok
        rcases h4 with⟨_,h,_⟩|⟨b9,bu,e9,_,aE,_⟩
        ·cases h
        ·simp at e9;subst e9;exact aE.lt
       have Z:kb∉bb:=λhm=>by
        rcases aa with h|h
        ·exact au kb h hm
        ·have:=ah kb hm;omega
       refine aV aA sk' si' kb b' cs' (by omega) (λc hc n1 n2=>(q9 c (by omega) n2).trans (fb c hc n1)) (ok.frame λc hc=>?_) (aa.imp id λh=>by omega) q1 q2 q3 q4 q5 q6 (q7.imp id λh=>by omega) λe=>?_
       ·simp at hc;subst hc
        exact(q9 c (by omega) Z).trans (bz.get c aY)
       ·rcases q7 with⟨e2,hm⟩|h
        ·exact Z (by rw[e,e2];exact hm)
        ·omega
      ·intro ay
       have cG:ay.size=af.size+1:=Ak _
       have bo:Keep af.size af ay:=Keep.push _ _ (Ae _)
       have b8:Blk ay af.size (zi w wk wi).toArray:=Blk.new _ _ _
       clear_value ay
       have kk:Keep g.size g ay:=ap.trans bo (by omega)
       refine⟨kk.get _ ac,kk.get _ ac,?_⟩
       refine aF ay g.size _ kk (bj.keep (bo.get _ (by omega))) λsk' a2 kb ok aa za fa=>⟨sk',rfl,?_⟩
       have ae:∀c,c<g.size->c∉bk->a2[c]?=g[c]?:=λc hc hn=>(fa c (by omega) hn).trans (kk.get c hc)
       refine⟨ae _ ac P.nk,?_⟩
       have aY:kb<a2.size:=by
        obtain⟨_,_,_,h4⟩:=ok
        rcases h4 with⟨_,h,_⟩|⟨b9,bu,e9,_,aE,_⟩
        ·cases h
        ·simp at e9;subst e9;exact aE.lt
       have Z:kb∉bb:=λhm=>by
        rcases aa with h|h
        ·exact au kb h hm
        ·have:=ah kb hm;omega
       refine aB a2 af.size _ (λc hc=>ae c (by have:=ah c hc;omega) (λhm=>au c hm hc)) (b8.keep (fa _ (by omega) (λhm=>by have:=am _ hm;omega))) λsi' aA b' cs' q1 q2 q3 q4 q5 q6 q7 q8 q9=>⟨si',rfl,?_⟩
       refine aV aA sk' si' kb b' cs' (by omega) (λc hc n1 n2=>(q9 c (by omega) n2).trans (ae c hc n1)) (ok.frame λc hc=>?_) (aa.imp id λh=>by omega) q1 q2 q3 q4 q5 q6 (q7.imp id λh=>by omega) λe=>?_
       ·simp at hc;subst hc
        exact q9 c (by omega) Z
       ·rcases q7 with⟨e2,hm⟩|h
        ·exact Z (by rw[e,e2];exact hm)
        ·omega
     ·intro ai
      have cH:ai.size=g.size+1:=Ak _
      have aQ:Keep g.size g ai:=Keep.push _ _ (Ae _)
      have cd:Blk ai g.size (zi w wk wi).toArray:=Blk.new _ _ _
      clear_value ai
      refine⟨aQ.get _ ac,aQ.get _ ac,?_⟩
      intro ax
      have cA:ax.size=ai.size+1:=Ak _
      have bc:Keep ai.size ai ax:=Keep.push _ _ (Ae _)
      have bY:Blk ax ai.size #[.string st]:=Blk.new _ _ _
      clear_value ax
      have kk:Keep g.size g ax:=aQ.trans bc (by omega)
      refine⟨kk.get _ ac,kk.get _ ac,?_⟩
      refine aF ax ai.size _ kk bY λsk' a2 kb ok aa za fa=>⟨sk',rfl,?_⟩
      have ae:∀c,c<g.size->c∉bk->a2[c]?=g[c]?:=λc hc hn=>(fa c (by omega) hn).trans (kk.get c hc)
      refine⟨ae _ ac P.nk,?_⟩
      have aY:kb<a2.size:=by
       obtain⟨_,_,_,h4⟩:=ok
       rcases h4 with⟨_,h,_⟩|⟨b9,bu,e9,_,aE,_⟩
       ·cases h
       ·simp at e9;subst e9;exact aE.lt
      have Z:kb∉bb:=λhm=>by
       rcases aa with h|h
       ·exact au kb h hm
       ·have:=ah kb hm;omega
      have bJ:Blk a2 g.size (zi w wk wi).toArray:=(cd.keep (bc.get _ (by omega))).keep (fa _ (by omega) (λhm=>by have:=am _ hm;omega))
      refine aB a2 g.size _ (λc hc=>ae c (by have:=ah c hc;omega) (λhm=>au c hm hc)) bJ λsi' aA b' cs' q1 q2 q3 q4 q5 q6 q7 q8 q9=>⟨si',rfl,?_⟩
      refine aV aA sk' si' kb b' cs' (by omega) (λc hc n1 n2=>(q9 c (by omega) n2).trans (ae c hc n1)) (ok.frame λc hc=>?_) (aa.imp id λh=>by omega) q1 q2 q3 q4 q5 q6 (q7.imp id λh=>by omega) λe=>?_
      ·simp at hc;subst hc
       exact q9 c (by omega) Z
      ·rcases q7 with⟨e2,hm⟩|h
       ·exact Z (by rw[e,e2];exact hm)
       ·omega
end
end Go.X
end
