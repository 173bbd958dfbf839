/- A part of the proof: nothing is stated here for its own sake. -/
import Derived.Deep.Quiet
import Derived.StillTail
import Derived.Laws.Strings
import Derived.Laws.Cover3
import Derived.Laws.Pointers
import Derived.Laws.OwnMore
open _root_.Go.Addr renaming add->Af
open _root_.Array renaming getD_eq_getD_getElem?->Bo,getElem?_append_left->Cs,getElem?_eq_getElem->AP,getElem?_eq_some_iff->Ac,getElem?_push->BG,getElem?_setIfInBounds_ne->AW,getElem?_toList->AN,replicate->Bn,size_setIfInBounds->BX
open _root_.Bool renaming and_eq_true->AI,eq_false_iff->DF,eq_iff_iff->AB,false_eq_true->A9,false_or->DZ,not_eq_true'->Ce,true_and->Bf
open _root_.Go.Builtin renaming append_->Au,clear_->DN,copy_->Dc,firstCells->Cm,len_->CE,zeroCells->Bq
open _root_.Go.Code renaming cond->Ej,region->C4
open _root_.Go.Deferred renaming ofValue->DW
open _root_.Go.Instr renaming findNow->D2,indexAt->Ek,keyThatStays->D4,loadAt->DV,lookup->D9,mapUpdate->CQ,next->Ey,range->Eu,sliceAt->Em,storeAt->Al,sureAddr->D8
open _root_.Int renaming toNat_of_nonneg->De
open _root_.Go.IntKind renaming bits->Ar,signed->DO,wrap->Aa
open _root_.List renaming all_eq_true->AU,cons_append->Be,drop_eq_getElem_cons->AC,eq_nil_iff_forall_not_mem->CB,eq_nil_of_length_eq_zero->Az,getElem?_append_right->Bl,getElem?_cons_zero->Di,getElem?_drop->AH,getElem?_eq_getElem->Aj,getElem?_eq_none->Bu,getElem?_eq_some_iff->Ax,getElem?_take->AF,getElem?_toArray->DC,getElem_mem->Ao,getElem_of_mem->A7,length_append->Av,length_cons->AR,length_eq_zero_iff->B6,length_erase_of_mem->CF,length_nil->CR,length_range->DG,mapM_cons->Ec,map_cons->Dx,mem_append->Am,mem_append_left->Ap,mem_append_right->Ay,mem_cons->Ag,mem_cons_of_mem->Ah,mem_cons_self->Aq,mem_of_getElem?->CM,mem_range->BO,nil_append->BL,nodup_append->A0,nodup_cons->Cv,nodup_nil->Ea,nodup_range->Dh,pairwise_append->Co,pairwise_cons->BD,range->AZ,replicate->D7,size_toArray->DI,take_append_drop->Bp,take_left->Eb,take_succ_cons->B4,take_succ_eq_append_getElem->An,take_zero->Cr
open _root_.List.cons renaming injEq->Br
open _root_.Nat renaming add_mul->Bz,add_zero->CX,blt_eq->Cq,eq_of_beq_eq_true->Ak,eq_or_lt_of_le->Dn,eq_zero_or_pos->Do,le_of_ble_eq_true->BE,le_refl->Ae,le_trans->D6,lt_of_lt_of_le->Dm,lt_or_ge->AX,mul_le_mul_right->AO,sub_zero->BK,zero_add->AD,zero_le->BP
open _root_.Go.Next renaming value->DL
open _root_.Option renaming bind_some->BW
open _root_.Option.some renaming inj->Aw,injEq->Ab
open _root_.Prod.mk renaming injEq->Bv
open _root_.Pure renaming pure->Dg
open _root_.Go.Region renaming wanted->BF
open _root_.Go.Result.ok renaming injEq->Eo
open _root_.Go.Value renaming int->Ew,string->A5
open _root_.Go.Value.slice renaming injEq->AJ
set_option linter.unusedVariables false
set_option maxRecDepth 100000
namespace Go.X
end Go.X
namespace Go.Proofs
end Go.Proofs
open Go Go.X Go.Proofs
section
namespace Go.X
section
abbrev Bt:= ByteArray
variable {i n m:Nat} {v u:Value} {a:Act} {o:Oper}
abbrev zb:=Array Obj
abbrev qf:=List (Nat×Bool)
abbrev Env:=List (Nat×qf×Value)
def mk(B:World)(d:Nat)(h:zb):World:={ B with heap:=h,drawn:=d }
def look:Env->Nat->Option (qf×Value)
 |[],_=>none
 |(j,c,v)::e,i=>bif Nat.beq i j then some (c,v)else look e i
def valid(σ:Nat->Value):qf->Prop
 |[]=>True
 |(g,p)::c=>σ g=.bool p/\valid σ c
def zx(a:Act)(i:Nat):Value:=a.tmps.getD i undef
def fact(σ:Nat->Value)(x:Nat×qf×Value):Prop:=(valid σ x.2.1->σ x.1=x.2.2)/\(¬valid σ x.2.1->σ x.1=undef)
structure Sat (n:Nat) (e:Env) (a:Act):Prop where
 defers:a.defers=[]
 size:a.tmps.size=n
 all:∀x∈e,fact (zx a) x
def mentions:qf->Nat->Bool
 |[],_=>false
 |(g,_)::c,i=>bif Nat.beq i g then true else mentions c i
def del:Env->Nat->Env
 |[],_=>[]
 |(j,c,v)::e,i=>bif (bif Nat.beq i j then true else mentions c i)then del e i else(j,c,v)::del e i
def put(e:Env)(i:Nat)(c:qf)(v:Value):Env:=(i,c,v)::del e i
def putO(e:Env):Option Nat->qf->Value->Env
 |none,_,_=>e
 |some d,c,v=>put e d c v
def clean:Env->Env
 |[]=>[]
 |(j,[],v)::e=>(j,[],v)::clean e
 |(_,_::_,_)::e=>clean e
theorem Xx{e:Env}{c:qf}(h:look e i=some (c,v)):(i,c,v)∈e:=by
 induction e with
 |nil=>cases h
 |cons x e ih=>
  obtain⟨j,cj,vj⟩:=x
  simp only[look]at h
  by_cases hb:Nat.beq i j=true
  ·simp only[hb,cond_true,Ab,Bv]at h
   obtain⟨rfl,rfl⟩:=h
   rw[Ak hb]
   exact Aq
  ·simp only[hb,cond_false]at h
   exact Ah _ (ih h)
theorem z4p{e:Env}{x:Nat×qf×Value}(h:x∈del e i):x∈e/\x.1≠i/\mentions x.2.1 i=false:=by
 induction e with
 |nil=>cases h
 |cons y e ih=>
  obtain⟨j,cj,vj⟩:=y
  simp only[del]at h
  by_cases hb:Nat.beq i j=true
  ·simp only[hb,cond_true]at h
   exact⟨Ah _ (ih h).1,(ih h).2⟩
  ·have aa:Nat.beq i j=false:=DF.2 hb
   simp only[aa,cond_false]at h
   by_cases hm:mentions cj i=true
   ·simp only[hm,cond_true]at h
    exact⟨Ah _ (ih h).1,(ih h).2⟩
   ·have O:mentions cj i=false:=by simpa using hm
    simp only[O,cond_false]at h
    rcases Ag.1 h with rfl|h
    ·refine⟨Aq,λZ=>?_,O⟩
     simp only at Z
     rw[Z]at hb
     exact hb (by simp)
    ·exact⟨Ah _ (ih h).1,(ih h).2⟩
theorem zv4{e:Env}{x:Nat×qf×Value}(h:x∈clean e):x∈e/\x.2.1=[]:=by
 induction e with
 |nil=>cases h
 |cons y e ih=>
  obtain⟨j,cj,vj⟩:=y
  cases cj with
  |nil=>
   simp only[clean]at h
   rcases Ag.1 h with rfl|h
   ·exact⟨Aq,rfl⟩
   ·exact⟨Ah _ (ih h).1,(ih h).2⟩
  |cons c cs=>
   simp only[clean]at h
   exact⟨Ah _ (ih h).1,(ih h).2⟩
theorem Sat.sub{e e':Env}(h:Sat n e a)(hs:∀x∈e',x∈e):Sat n e' a:=⟨h.defers,h.size,λx hx=>h.all x (hs x hx)⟩
theorem Sat.clean{n:Nat}{e:Env}{a:Act}(h:Sat n e a):Sat n (clean e) a:=h.sub λ_ hx=>(zv4 hx).1
theorem Zz{σ τ:Nat->Value}{c:qf}(hm:mentions c i=false)(h:∀j,j≠i->σ j=τ j):valid σ c↔valid τ c:=by
 induction c with
 |nil=>exact Iff.rfl
 |cons x c ih=>
  obtain⟨g,p⟩:=x
  simp only[mentions]at hm
  by_cases hb:Nat.beq i g=true
  ·simp[hb]at hm
  ·simp only[hb,cond_false]at hm
   have hg:g≠i:=λe=>hb (by rw[e];simp)
   simp only[valid,h g hg,ih hm]
theorem yg(hi:i<a.tmps.size):zx (a.put (some i) u) i=u:=by
 simp[zx,Act.put,hi]
theorem qt{i j:Nat}(h:j≠i):zx (a.put (some i) u) j=zx a j:=by
 simp[zx,Act.put,AW (Ne.symm h)]
theorem size_put(a:Act)(d:Option Nat)(u:Value):(a.put d u).tmps.size=a.tmps.size:=by
 cases d <;> simp[Act.put]
theorem qh(a:Act)(d:Option Nat)(u:Value):(a.put d u).defers=a.defers:=by
 cases d <;> simp[Act.put]
theorem Sat.put{n:Nat}{e:Env}{a:Act}(h:Sat n e a){i:Nat}{c:qf}{v u:Value}(hi:i<n)(hm:mentions c i=false)
  (hy:valid (zx a) c->u=v) (hn:¬valid (zx a) c->u=undef):Sat n (put e i c v) (a.put (some i) u):=by
 refine⟨by rw[qh];exact h.defers,by rw[size_put];exact h.size,λx hx=>?_⟩
 have Z:i<a.tmps.size:=by rw[h.size];exact hi
 rcases Ag.1 hx with rfl|hx
 ·have hv:=Zz (σ:=zx (a.put (some i) u)) (τ:=zx a) hm (λj hj=>qt hj)
  refine⟨λhc=>?_,λhc=>?_⟩
  ·exact(yg Z).trans (hy (hv.1 hc))
  ·exact(yg Z).trans (hn (λO=>hc (hv.2 O)))
 ·obtain⟨h1,h2,h3⟩:=z4p hx
  have hv:=Zz (σ:=zx (a.put (some i) u)) (τ:=zx a) h3 (λj hj=>qt hj)
  have hf:=h.all x h1
  refine⟨λhc=>?_,λhc=>?_⟩
  ·exact(qt h2).trans (hf.1 (hv.1 hc))
  ·exact(qt h2).trans (hf.2 (λO=>hc (hv.2 O)))
def yu(n:Nat)(c:qf):Option Nat->Bool
 |none=>true
 |some d=>bif mentions c d then false else Nat.blt d n
theorem Sat.putO{n:Nat}{e:Env}{a:Act}(h:Sat n e a){d:Option Nat}{c:qf}{v u:Value}(hd:yu n c d=true)
  (hy:valid (zx a) c->u=v) (hn:¬valid (zx a) c->u=undef):Sat n (putO e d c v) (a.put d u):=by
 cases d with
 |none=>exact h
 |some i=>
  simp only[yu]at hd
  by_cases hm:mentions c i=true
  ·simp[hm]at hd
  ·have O:mentions c i=false:=by simpa using hm
   simp only[O,cond_false]at hd
   exact h.put (by simpa[Cq]using hd) O hy hn
def Z0:qf->qf->Bool
 |[],[]=>true
 |(g,p)::c,(g',p')::c'=>bif Nat.beq g g' then(bif p then(bif p' then Z0 c c' else false)else(bif p' then false else Z0 c c'))else false
 |_,_=>false
theorem Jb:∀{c c':qf},Z0 c c'=true->c=c'
 |[],[],_=>rfl
 |[],_::_,h=>by simp[Z0]at h
 |_::_,[],h=>by simp[Z0]at h
 |(g,p)::c,(g',p')::c',h=>by
  simp only[Z0]at h
  by_cases hb:Nat.beq g g'=true
  ·simp only[hb,cond_true]at h
   have e1:=Ak hb
   cases p <;> cases p' <;> simp at h <;> rw[e1,Jb h]
  ·simp[hb]at h
def suf(cs:qf):qf->Bool
 |[]=>Z0 cs []
 |x::c=>bif Z0 cs (x::c)then true else suf cs c
theorem Jc{σ:Nat->Value}{cs:qf}:∀{c:qf},suf cs c=true->valid σ c->valid σ cs
 |[],h,_=>by rw[Jb h];trivial
 |x::c,h,hv=>by
  simp only[suf]at h
  by_cases hb:Z0 cs (x::c)=true
  ·rw[Jb hb];exact hv
  ·simp only[hb,cond_false]at h
   exact Jc h hv.2
def zam(e:Env)(c:qf):Operand->Option Value
 |.tmp t=>match look e t with
  |some (cs,v)=>bif suf cs c then some v else none
  |none=>none
 |.const v=>some v
 |.global g=>some (.pointer (some ⟨g,0,none⟩))
 |.func f=>some (.func (.func f) #[] #[])
theorem jz{e:Env}(h:Sat n e a){c:qf}(hc:valid (zx a) c){x:Operand}(hx:zam e c x=some v):a.eval x=v:=by
 cases x with
 |tmp t=>
  simp only[zam]at hx
  split at hx
  ·rename_i cs u hl
   by_cases hs:suf cs c=true
   ·simp only[hs,cond_true,Ab]at hx
    subst hx
    exact(h.all _ (Xx hl)).1 (Jc hs hc)
   ·simp[hs]at hx
  ·cases hx
 |const u=>simp only[zam,Ab]at hx;exact hx
 |global g=>simp only[zam,Ab]at hx;exact hx
 |func f=>simp only[zam,Ab]at hx;exact hx
def rho(e:Env)(c:qf)(x:Operand):Value:=match zam e c x with
 |some v=>v
 |none=>undef
def known(e:Env)(c:qf):List Operand->Bool
 |[]=>true
 |x::l=>match zam e c x with
  |some _=>known e c l
  |none=>false
theorem xy{e:Env}(h:Sat n e a){c:qf}(hc:valid (zx a) c){l:List Operand}(hk:known e c l=true):∀x∈l,a.eval x=rho e c x:=by
 induction l with
 |nil=>intro x hx;cases hx
 |cons y l ih=>
  intro x hx
  simp only[known]at hk
  split at hk
  ·rename_i v hv
   rcases Ag.1 hx with rfl|hx
   ·rw[jz h hc hv];simp[rho,hv]
   ·exact ih hk x hx
  ·cases hk
def xf:Op->Bool
 |.select _ _=>false
 |_=>true
theorem Yv{e:Env}(h:Sat n e a){c:qf}(hc:valid (zx a) c)(hs:xf o.op=true)(hk:known e c o.op.operands.toList=true):
  execOp a.eval o=execOp (rho e c) o:=
 execOp_congr o (λcs b hb=>by rw[hb]at hs;cases hs) λx hx=>xy h hc hk x (by simpa using hx)
def jd(ops:Array Oper)(j:Nat):Option Nat:=match ops[j]? with
 |some o=>o.dst
 |none=>none
def zeg(ops:Array Oper)(e:Env):Option (Nat×Bool)->Option qf
 |none=>some []
 |some (j,p)=>match jd ops j with
  |some g=>match look e g with
   |some (cg,.bool _)=>some ((g,p)::cg)
   |_=>none
  |none=>none
def zv5(e:Env):qf->Option Bool
 |[]=>some true
 |(g,p)::c=>match look e g with
  |some (cg,.bool b)=>bif Z0 cg c then(match zv5 e c with
    |some cb=>some (cb&&(bif p then b else !b))
    |none=>none)else none
  |_=>none
theorem zcm{b:Bool}:undef≠.bool b:=by simp[undef]
theorem za7{n:Nat}{e:Env}{a:Act}(h:Sat n e a):∀{c:qf} {b:Bool},zv5 e c=some b->(b=true↔valid (zx a) c)
 |[],b,hb=>by simp only[zv5,Ab]at hb;simp[<-hb,valid]
 |(g,p)::c,b,hb=>by
  simp only[zv5]at hb
  split at hb
  ·rename_i cg bg hl
   by_cases hq:Z0 cg c=true
   ·simp only[hq,cond_true]at hb
    split at hb
    ·rename_i cb O
     simp only[Ab]at hb
     have ih:=za7 h O
     have hf:=h.all _ (Xx hl)
     rw[Jb hq]at hf
     by_cases hv:valid (zx a) c
     ·have h1:zx a g=.bool bg:=hf.1 hv
      have h2:=ih.2 hv
      subst hb
      simp only[valid,h1,hv,h2,Bf,and_true,Value.bool.injEq]
      cases p <;> cases bg <;> simp
     ·have h1:cb=false:=by cases cb with|false=>rfl|true=>exact absurd (ih.1 rfl) hv
      subst hb
      simp[valid,hv,h1]
    ·cases hb
   ·simp[hq]at hb
  ·cases hb
theorem Yw{ops:Array Oper}{e:Env}(h:Sat n e a){c:qf}(hc:zeg ops e o.guard=some c):
  BF o (yielded ops a.tmps)=true↔valid (zx a) c:=by
 unfold BF
 cases hg:o.guard with
 |none=>rw[hg]at hc;simp only[zeg,Ab]at hc;simp[<-hc,valid]
 |some jp=>
  obtain⟨j,p⟩:=jp
  rw[hg]at hc
  simp only[zeg]at hc
  split at hc
  ·rename_i g hd
   split at hc
   ·rename_i cg b hl
    simp only[Ab]at hc
    subst hc
    have Z:((ops[j]?).bind (·.dst))=some g:=by
     simp only[jd]at hd
     split at hd
     ·rename_i o' O;simp[O,hd]
     ·cases hd
    have hf:=h.all _ (Xx hl)
    have hy:yielded ops a.tmps j=some p↔zx a g=.bool p:=by
     unfold yielded zx
     rw[Z]
     simp only[BW]
     cases ht:a.tmps[g]? with
     |none=>simp[Bo,ht,undef]
     |some v=>cases v <;> simp[Bo,ht]
    simp only[beq_iff_eq,hy,valid]
    constructor
    ·intro h1
     refine⟨h1,?_⟩
     by_cases hv:valid (zx a) cg
     ·exact hv
     ·have:=hf.2 hv
      simp only at this
      rw[h1]at this
      exact absurd this.symm zcm
    ·exact λh1=>h1.1
   ·cases hc
  ·cases hc
structure Keep (n:Nat) (h h':zb):Prop where
 size:h.size<=h'.size
 get:∀i,i<n->h'[i]?=h[i]?
theorem Keep.refl(n:Nat)(h:zb):Keep n h h:=⟨Ae _,λ_ _=>rfl⟩
theorem Keep.trans{a b c:zb}(h:Keep n a b)(k:Keep m b c)(hm:n<=m):Keep n a c:=
 ⟨D6 h.size k.size,λi hi=>(k.get i (Dm hi hm)).trans (h.get i hi)⟩
theorem Keep.mono{a b:zb}(h:Keep n a b)(hm:m<=n):Keep m a b:=⟨h.size,λi hi=>h.get i (Dm hi hm)⟩
theorem Keep.push(h:zb)(o:Obj)(hn:n<=h.size):Keep n h (h.push o):=
 ⟨by simp,λi hi=>by rw[BG,if_neg (by omega)]⟩
end
section
variable {P:Program} {α:Type} {h:zb} {v i:Value} {t:TypeId} {g:Option Bool} {n l r:Int}
def zm(h:zb)(a:Addr):Option Value:=
 match h[a.block]? with
 |some (.cells c _ _)=>if a.spot.isSome then none else c[a.off]?
 |_=>none
theorem zv6(B:World)(d:Nat)(h:zb)(a:Addr):(mk B d h).cell? a=zm h a:=rfl
def Qz(P:Program){α:Type}:Sem α->Option α
 |.pure a=>some a
 |.program k=>Qz P (k P)
 |.mark _ k=>Qz P k
 |_=>none
def QExec(P:Program){α:Type}(s:Sem α)(h:zb)(x:α):Prop:=∀B d,s.run P (mk B d h)=.ok x (mk B d h)
theorem W0{s:Sem α}{x:α}(h:Qz P s=some x)(w:World):s.run P w=.ok x w:=by
 induction s with
 |pure a=>simp only[Qz,Ab]at h;subst h;rfl
 |program k ih=>exact ih P h
 |mark m k ih=>exact ih h
 |_=>simp[Qz]at h
theorem zjm{s:Sem α}{x:α}(h:Qz P s=some x)(hp:zb):QExec P s hp x:=λ_ _=>W0 h _
theorem QExec.bind{α β:Type}{s:Sem α}{f:α->Sem β}{x:α}{y:β}(h1:QExec P s h x)(h2:QExec P (f x) h y):QExec P (s >>= f) h y:=by
 intro B d
 rw[Sem.run_bind,h1 B d]
 exact h2 B d
theorem QExec.pure(x:α):QExec P (Dg x) h x:=λ_ _=>rfl
theorem QExec.val{s:Sem Value}(h1:QExec P s h v):QExec P (s >>= λx=>Dg (DL x)) h (DL v):=h1.bind (QExec.pure _)
theorem QExec.underlying{d:TypeDesc}(hd:P.underlying t=some d):QExec P (Go.underlying t) h d:=by
 intro B e
 simp[Go.underlying,program,hd,Sem.run]
def je(P:Program)(t:TypeId):Nat:=match P.info? t with
 |some i=>i.size
 |none=>0
theorem QExec.sizeOf{i:TypeInfo}(hi:P.info? t=some i):QExec P (Go.sizeOf t) h (je P t):=by
 intro B d
 simp[Go.sizeOf,typeInfo,program,hi,Sem.run,je]
theorem info_of_underlying{d:TypeDesc}(hd:P.underlying t=some d):∃i,P.info? t=some i:=by
 unfold Program.underlying at hd
 cases h:P.info? t with
 |none=>rw[h]at hd;cases hd
 |some i=>exact⟨i,rfl⟩
inductive Atom where
 |int (k:IntKind)|bool|str|sl|mp|ptr|raw|ad
structure Sl where
 a:Option Addr
 len:Nat
 cap:Nat
@[reducible] def Atom.den:Atom->Type
 |.int _=>Int | .bool=>Bool | .str=>Bt | .sl=>Sl | .mp=>Option Nat | .ptr=>Option Addr | .raw=>Value | .ad=>Addr
def Atom.enc:(t:Atom)->t.den->Value
 |.int k,n=>.int k n
 |.bool,b=>.bool b
 |.str,s=>.string s
 |.sl,s=>.slice s.a s.len s.cap
 |.mp,m=>.map m
 |.ptr,p=>.pointer p
 |.raw,v=>v
 |.ad,p=>.pointer (some p)
def Atom.dec:(t:Atom)->Value->Option t.den
 |.int k,.int k' n=>if k=k' then some n else none
 |.bool,.bool b=>some b
 |.str,.string s=>some s
 |.sl,.slice a l c=>some ⟨a,l,c⟩
 |.mp,.map m=>some m
 |.ptr,.pointer p=>some p
 |.raw,v=>some v
 |.ad,.pointer (some p)=>some p
 |_,_=>none
theorem Atom.enc_of_dec{t:Atom}{x:t.den}(h:t.dec v=some x):t.enc x=v:=by
 cases t with
 |ad=>
  cases v with
  |pointer p=>
   cases p with
   |none=>simp[Atom.dec]at h
   |some a=>simp[Atom.dec]at h;rw[h];rfl
  |_=>simp[Atom.dec]at h
 |_=>cases v <;> simp_all[Atom.dec,Atom.enc] <;> (subst h;first|rfl|exact⟨rfl,rfl,rfl⟩)
inductive VT where
 |one (t:Atom)
 |agg (l:List Atom)
inductive RT where
 |one (v:VT)
 |tup (l:List VT)
def zlu:List Atom->(List Value->Prop)->Prop
 |[],F=>F []
 |t::l,F=>∃x:t.den,zlu l λvs=>F (t.enc x::vs)
def qa6:VT->(Value->Prop)->Prop
 |.one t,F=>∃x:t.den,F (t.enc x)
 |.agg l,F=>zlu l λvs=>F (.agg vs.toArray)
def z4q:List VT->(List Value->Prop)->Prop
 |[],F=>F []
 |t::l,F=>qa6 t λv=>z4q l λvs=>F (v::vs)
def z0u:RT->(Value->Prop)->Prop
 |.one v,F=>qa6 v F
 |.tup l,F=>z4q l λvs=>F (.tuple vs.toArray)
def zcn:List Atom->(List Value->Prop)->Prop
 |[],F=>F []
 |t::l,F=>∀x:t.den,zcn l λvs=>F (t.enc x::vs)
def zv7:VT->(Value->Prop)->Prop
 |.one t,F=>∀x:t.den,F (t.enc x)
 |.agg l,F=>zcn l λvs=>F (.agg vs.toArray)
def zkd:List VT->(List Value->Prop)->Prop
 |[],F=>F []
 |t::l,F=>zv7 t λv=>zkd l λvs=>F (v::vs)
def z8q:RT->(Value->Prop)->Prop
 |.one v,F=>zv7 v F
 |.tup l,F=>zkd l λvs=>F (.tuple vs.toArray)
theorem Q5:∀{l:List Atom} {F G:List Value->Prop},zlu l F->zcn l G->∃vs,vs.length=l.length/\F vs/\G vs
 |[],_,_,h,g=>⟨[],rfl,h,g⟩
 |_::_,_,_,⟨x,h⟩,g=>let ⟨vs,h0,h1,h2⟩:=Q5 h (g x);⟨_,by simp[h0],h1,h2⟩
theorem wl:∀(l:List Atom),zcn l λ_=>True
 |[]=>trivial
 |_::l=>λ_=>wl l
theorem zqg{v:VT}{F G:Value->Prop}(h:qa6 v F)(g:zv7 v G):∃u,F u/\G u:=by
 cases v with
 |one t=>obtain⟨x,h⟩:=h;exact⟨_,h,g x⟩
 |agg l=>obtain⟨vs,_,h1,h2⟩:=Q5 h g;exact⟨_,h1,h2⟩
theorem zqh(v:VT):zv7 v λ_=>True:=by
 cases v with
 |one t=>exact λ_=>trivial
 |agg l=>exact wl l
theorem zlv:∀{l:List VT} {F G:List Value->Prop},z4q l F->zkd l G->∃vs,F vs/\G vs
 |[],_,_,h,g=>⟨[],h,g⟩
 |_::_,_,_,h,g=>let ⟨_,h1,h2⟩:=zqg h g;let ⟨_,h3,h4⟩:=zlv h1 h2;⟨_,h3,h4⟩
theorem zfm:∀(l:List VT),zkd l λ_=>True
 |[]=>trivial
 |v::l=>by
  have h:=zfm l
  simp only[zkd]
  cases v with
  |one t=>exact λ_=>h
  |agg l'=>
   simp only[zv7]
   have key:∀(l':List Atom) (f:List Value->List Value),zcn l' λ_=>zkd l λ_=>True:=λl' _=>by
    induction l' with
    |nil=>exact h
    |cons t l' ih=>exact λ_=>ih
   exact key l' id
theorem zv8{r:RT}{F G:Value->Prop}(h:z0u r F)(g:z8q r G):∃v,F v/\G v:=by
 cases r with
 |one v=>exact zqg h g
 |tup l=>obtain⟨vs,h1,h2⟩:=zlv h g;exact⟨_,h1,h2⟩
theorem zg4{r:RT}{F:Value->Prop}(h:z0u r F):∃v,F v:=by
 cases r with
 |one v=>obtain⟨u,h1,_⟩:=zqg h (zqh v);exact⟨u,h1⟩
 |tup l=>obtain⟨vs,h1,_⟩:=zlv h (zfm l);exact⟨_,h1⟩
def z3r:TypeDesc->Atom
 |.int k=>.int k
 |.bool=>.bool
 |.string=>.str
 |.slice _=>.sl
 |.map _ _=>.mp
 |.pointer _=>.ptr
 |_=>.raw
def zlw(P:Program):Nat->TypeId->Option (List Atom)
 |0,_=>none
 |n+1,t=>match P.underlying t with
  |some (.struct fs)=>fs.toList.foldr (λf l=>match zlw P n f.type,l with
    |some x,some y=>some (x++y)
    |_,_=>none) (some [])
  |some (.array m e)=>match zlw P n e with
    |some x=>some (D7 m x).flatten
    |none=>none
  |some d=>some [z3r d]
  |none=>none
def zv0(P:Program)(t:TypeId):Option VT:=match P.underlying t with
 |some (.struct _)|some (.array _ _)=>match zlw P 8 t with
  |some l=>bif Nat.beq l.length (je P t)then some (.agg l)else none
  |none=>none
 |some d=>some (.one (z3r d))
 |none=>none
def z8r(P:Program):List TypeId->Option (List VT)
 |[]=>some []
 |t::l=>match zv0 P t,z8r P l with
  |some x,some y=>some (x::y)
  |_,_=>none
def z8j(P:Program)(t:TypeId):Option RT:=match P.underlying t with
 |some (.tuple ts)=>match z8r P ts.toList with
  |some l=>some (.tup l)
  |none=>none
 |_=>match zv0 P t with
  |some v=>some (.one v)
  |none=>none
def req:Option Bool->Prop->Prop
 |none,p=>p
 |some b,p=>b=true->p
def gok:Option Bool->Prop
 |none=>True
 |some b=>b=true
theorem req.out{p:Prop}(h:req g p)(hg:gok g):p:=by
 cases g with
 |none=>exact h
 |some b=>exact h hg
def ze(h:zb)(p:Addr):Nat->List Value->Prop
 |_,[]=>True
 |i,v::vs=>zm h (p.add i)=some v/\ze h p (i+1) vs
def ld(h:zb)(p:Addr):Value->Prop
 |.agg vs=>ze h p 0 vs.toList
 |v=>zm h p=some v
def zlx(P:Program)(h:zb)(t:TypeId)(p:Value)(g:Option Bool)(K:Value->Prop):Prop:=
 match p,zv0 P t with
 |.pointer (some p),some (.one a)=>∃x:a.den,req g (zm h p=some (a.enc x))/\K (a.enc x)
 |.pointer (some p),some (.agg l)=>zlu l λvs=>req g (ze h p 0 vs)/\K (.agg vs.toArray)
 |_,_=>False
theorem W2{P:Program}{h:zb}{p:Addr}:∀(vs:List Value) (i:Nat) (acc:Array Value),ze h p i vs->QExec P (loadCellsFrom p i vs.length acc) h (acc++vs.toArray)
 |[],i,acc,_=>by intro B d;simp[loadCellsFrom]
 |v::vs,i,acc,⟨h1,h2⟩=>by
  have ih:=W2 (P:=P) vs (i+1) (acc.push v) h2
  intro B d
  simp only[AR,loadCellsFrom,Sem.run_bind,run_load]
  rw[zv6,h1]
  simp only[Result.andThen_ok]
  rw[ih B d]
  simp
theorem zco{a:Atom}{p:Addr}(ht:zv0 P t=some (.one a))(hc:zm h p=some v):QExec P (loadVar t p) h v:=by
 unfold zv0 at ht
 cases hu:P.underlying t with
 |none=>rw[hu]at ht;cases ht
 |some d=>
  rw[hu]at ht
  intro B e
  have hq:=QExec.underlying (h:=h) hu B e
  have O:(isAgg t).run P (mk B e h)=.ok false (mk B e h):=by
   unfold isAgg
   rw[Sem.run_bind,hq]
   cases d <;> first|rfl|(exfalso;revert ht;dsimp only;split <;> first|(intro h;cases h;done)|(cases hb:Nat.beq _ _ <;> intro h <;> cases h))
  unfold loadVar
  rw[Sem.run_bind,O]
  simp only[Result.andThen_ok,A9,if_false,run_load]
  rw[zv6,hc]
theorem zcp{l:List Atom}{p:Addr}{vs:List Value}(ht:zv0 P t=some (.agg l))(hl:vs.length=l.length)(hc:ze h p 0 vs):QExec P (loadVar t p) h (.agg vs.toArray):=by
 unfold zv0 at ht
 cases hu:P.underlying t with
 |none=>rw[hu]at ht;cases ht
 |some d=>
  rw[hu]at ht
  obtain⟨i,hi⟩:=info_of_underlying hu
  have O:(∃fs,d=.struct fs)\/(∃n e,d=.array n e):=by
   cases d <;> first|exact Or.inl ⟨_,rfl⟩|exact Or.inr ⟨_,_,rfl⟩|(simp at ht)
  have Z:je P t=l.length:=by
   have hm:(match zlw P 8 t with
     |some l=>bif Nat.beq l.length (je P t)then some (VT.agg l)else none
     |none=>none)=some (.agg l):=by
    rcases O with⟨fs,rfl⟩|⟨n,e,rfl⟩ <;> exact ht
   split at hm
   ·rename_i l' _
    cases hb:Nat.beq l'.length (je P t)with
    |false=>rw[hb]at hm;cases hm
    |true=>
     rw[hb]at hm
     simp only[cond_true,Ab,VT.agg.injEq]at hm
     rw[<-hm];exact(Ak hb).symm
   ·cases hm
  intro B e
  have hq:=QExec.underlying (h:=h) hu B e
  have hA:(isAgg t).run P (mk B e h)=.ok true (mk B e h):=by
   unfold isAgg
   rw[Sem.run_bind,hq]
   rcases O with⟨fs,rfl⟩|⟨n,e',rfl⟩ <;> rfl
  have hS:=QExec.sizeOf (h:=h) hi B e
  unfold loadVar
  rw[Sem.run_bind,hA]
  simp only[Result.andThen_ok,if_true]
  rw[Sem.run_bind,hS]
  simp only[Result.andThen_ok]
  have hL:=W2 (P:=P) vs 0 #[] hc B e
  unfold loadCells
  rw[Sem.run_bind,Z,<-hl,hL]
  simp
theorem zg7{p:Value}{K:Value->Prop}(H:zlx P h t p g K):
  ∃v,K v/\(gok g->QExec P (DV t p) h v):=by
 unfold zlx at H
 split at H
 ·rename_i q a hv
  obtain⟨x,h1,h2⟩:=H
  exact⟨_,h2,λhg=>zco hv (h1.out hg)⟩
 ·rename_i q l hv
  obtain⟨vs,h0,⟨h1,h2⟩,_⟩:=Q5 H (wl l)
  exact⟨_,h2,λhg=>zcp hv h0 (h1.out hg)⟩
 ·exact H.elim
def zn4(P:Program)(t:TypeId)(x i:Value)(g:Option Bool)(K:Value->Prop):Prop:=
 match P.underlying t with
 |some (.slice el)=>match x,i with
  |.slice base len _,.int _ n=>∃a:Addr,req g (base=some a/\0<=n/\n<(len:Int))/\K (.pointer (some (a.add (n.toNat*je P el))))
  |_,_=>False
 |some (.array len el)=>match x,i with
  |.pointer base,.int _ n=>∃a:Addr,req g (base=some a/\0<=n/\n<(len:Int))/\K (.pointer (some (a.add (n.toNat*je P el))))
  |_,_=>False
 |_=>False
def ji(P:Program)(t:TypeId):Bool:=match P.info? t with
 |some _=>true
 |none=>false
theorem j5(h:ji P t=true):∃i,P.info? t=some i:=by
 unfold ji at h
 split at h
 ·exact⟨_,by assumption⟩
 ·cases h
theorem Qm(t:TypeId)(B:World)(d:Nat):(∃i,P.info? t=some i)->(Go.sizeOf t).run P (mk B d h)=.ok (je P t) (mk B d h):=λ⟨_,hi⟩=>QExec.sizeOf hi B d
theorem Zb{x i:Value}{K:Value->Prop}
  (O:∀el,(P.underlying t=some (.slice el)\/∃n,P.underlying t=some (.array n el))->∃i,P.info? el=some i) (H:zn4 P t x i g K):
  ∃v,K v/\(gok g->∀h:zb,QExec P (Ek t x i) h v):=by
 unfold zn4 at H
 split at H
 ·rename_i el hu
  split at H
  ·rename_i base len cap k n
   obtain⟨a,h1,h2⟩:=H
   refine⟨_,h2,λhg=>?_⟩
   obtain⟨rfl,h3,h4⟩:=h1.out hg
   intro h B d
   have hq:=QExec.underlying (h:=h) hu B d
   have hs:=Qm (h:=h) el B d (O el (Or.inl hu))
   unfold Ek
   simp[asIntOf,Sem.run_bind,hq,hs,h3,h4]
  ·exact H.elim
 ·rename_i len el hu
  split at H
  ·rename_i base k n
   obtain⟨a,h1,h2⟩:=H
   refine⟨_,h2,λhg=>?_⟩
   obtain⟨rfl,h3,h4⟩:=h1.out hg
   intro h B d
   have hq:=QExec.underlying (h:=h) hu B d
   have hs:=Qm (h:=h) el B d (O el (Or.inr ⟨_,hu⟩))
   unfold Ek
   simp[asIntOf,Sem.run_bind,hq,hs,h3,h4,D8]
  ·exact H.elim
 ·exact H.elim
def zd(s:Bt)(i:Nat):Int:=((s.data[i]?.getD 0).toNat:Int)
def zg8(x i:Value)(g:Option Bool)(K:Value->Prop):Prop:=
 match x,i with
 |.string s,.int _ n=>req g (0<=n/\n<(s.size:Int))/\K (.int .u8 (zd s n.toNat))
 |_,_=>False
theorem z8s(s:Bt)(i:Nat)(h:i<s.size):s[i]?=some (s.data[i]?.getD 0):=by
 have h':i<s.data.size:=h
 rw[getElem?_pos s i h]
 simp[AP h']
 rfl
theorem W4{x i:Value}{K:Value->Prop}(hu:P.underlying t=some .string)(H:zg8 x i g K):
  ∃v,K v/\(gok g->∀h:zb,QExec P (Instr.index t x i) h v):=by
 unfold zg8 at H
 split at H
 ·rename_i s k n
  obtain⟨h1,h2⟩:=H
  refine⟨_,h2,λhg=>?_⟩
  obtain⟨h3,h4⟩:=h1.out hg
  intro h B d
  have hq:=QExec.underlying (h:=h) hu B d
  unfold Instr.index
  have hb:=z8s s n.toNat (by omega)
  simp only[asIntOf,Sem.run_bind,hq,Sem.run_pure,Result.andThen_ok,h3,if_true,hb,zd]
 ·exact H.elim
def Qv(a:Option Addr)(sz l m:Nat):Option Addr:=if m=l then a else a.map (·.add (l*sz))
def j6:Option Value->Int->Option Int
 |none,d=>some d
 |some (.int _ n),_=>some n
 |some _,_=>none
def zr9(P:Program)(t:TypeId)(x:Value)(lo hi mx:Option Value)(g:Option Bool)(K:Value->Prop):Prop:=
 match P.underlying t with
 |some .string=>match x,mx with
  |.string s,none=>match j6 lo 0,j6 hi (s.size:Int)with
   |some l,some r=>req g (0<=l/\l<=r/\r<=(s.size:Int))/\K (.string (s.extract l.toNat r.toNat))
   |_,_=>False
  |_,_=>False
 |some (.slice el)=>match x with
  |.slice a len cap=>match j6 lo 0,j6 hi (len:Int),j6 mx (cap:Int)with
   |some l,some r,some m=>(mx=none\/∃v,hi=some v)/\req g (0<=l/\l<=r/\r<=m/\m<=(cap:Int))/\K (.slice (Qv a (je P el) l.toNat m.toNat) (r.toNat-l.toNat) (m.toNat-l.toNat))
   |_,_,_=>False
  |_=>False
 |_=>False
theorem j7{v:Option Value}{d n:Int}(h:j6 v d=some n):(v=none/\n=d)\/∃k,v=some (.int k n):=by
 unfold j6 at h
 split at h
 ·exact Or.inl ⟨rfl,by simpa using h.symm⟩
 ·simp only[Ab]at h
  exact Or.inr ⟨_,by rw[h]⟩
 ·cases h
theorem jq{k:IntKind}{y:Nat}{c:BoundsCode}(h0:0<=n)(h1:n<=(y:Int)):QExec P (Instr.sliceBound (.int k n) y c) h n.toNat:=by
 intro B d
 simp[Instr.sliceBound,asIntOf,h0,h1]
theorem zt5{n:Nat}{lo hi:Option Value}(hl:j6 lo 0=some l)(hr:j6 hi (n:Int)=some r)(h3:0<=l)(h4:l<=r)(h5:r<=(n:Int)):
  QExec P (Instr.sliceBounds false n n lo hi none) h (l.toNat,r.toNat,n):=by
 have e:(r.toNat:Int)=r:=De (by omega)
 rcases j7 hl with⟨rfl,rfl⟩|⟨k,rfl⟩ <;> rcases j7 hr with⟨rfl,rfl⟩|⟨k',rfl⟩
 ·exact QExec.pure _
 ·exact QExec.bind (QExec.pure n) (QExec.bind (jq (by omega) h5) (QExec.pure _))
 ·exact QExec.bind (QExec.pure n) (QExec.bind (QExec.pure n) (QExec.bind (jq h3 h4) (QExec.pure _)))
 ·exact QExec.bind (QExec.pure n) (QExec.bind (jq (by omega) h5) (QExec.bind (jq h3 (by omega)) (QExec.pure _)))
theorem zn5{len cap:Nat}{lo hi mx:Option Value}{l r m:Int}(hl:j6 lo 0=some l)(hr:j6 hi (len:Int)=some r)(hm:j6 mx (cap:Int)=some m)
  (h0:mx=none\/∃v,hi=some v) (h3:0<=l) (h4:l<=r) (h5:r<=m) (h6:m<=(cap:Int)):
  QExec P (Instr.sliceBounds true len cap lo hi mx) h (l.toNat,r.toNat,m.toNat):=by
 have e:(r.toNat:Int)=r:=De (by omega)
 have e2:(m.toNat:Int)=m:=De (by omega)
 rcases j7 hm with⟨rfl,rfl⟩|⟨km,rfl⟩
 ·rcases j7 hl with⟨rfl,rfl⟩|⟨k,rfl⟩ <;> rcases j7 hr with⟨rfl,rfl⟩|⟨k',rfl⟩
  ·exact QExec.pure _
  ·exact QExec.bind (QExec.pure cap) (QExec.bind (jq (by omega) h5) (QExec.pure _))
  ·exact QExec.bind (QExec.pure cap) (QExec.bind (QExec.pure len) (QExec.bind (jq h3 h4) (QExec.pure _)))
  ·exact QExec.bind (QExec.pure cap) (QExec.bind (jq (by omega) h5) (QExec.bind (jq h3 (by omega)) (QExec.pure _)))
 ·rcases h0 with h0|⟨v,rfl⟩
  ·cases h0
  ·rcases j7 hr with⟨h9,_⟩|⟨k',h9⟩
   ·cases h9
   ·cases h9
    rcases j7 hl with⟨rfl,rfl⟩|⟨k,rfl⟩
    ·exact QExec.bind (x:=m.toNat) (jq (by omega) h6) (QExec.bind (jq (by omega) (by omega)) (QExec.pure _))
    ·exact QExec.bind (x:=m.toNat) (jq (by omega) h6) (QExec.bind (jq (by omega) (by omega)) (QExec.bind (jq h3 (by omega)) (QExec.pure _)))
theorem Yx{x:Value}{lo hi mx:Option Value}{K:Value->Prop}
  (O:∀el,P.underlying t=some (.slice el)->∃i,P.info? el=some i) (H:zr9 P t x lo hi mx g K):
  ∃v,K v/\(gok g->∀h:zb,QExec P (Em t x lo hi mx) h v):=by
 unfold zr9 at H
 split at H
 ·rename_i hu
  split at H
  ·rename_i s
   split at H
   ·rename_i l r hl hr
    obtain⟨h1,h2⟩:=H
    refine⟨_,h2,λhg=>?_⟩
    obtain⟨h3,h4,h5⟩:=h1.out hg
    intro h B d
    have hq:=QExec.underlying (h:=h) hu B d
    have bb:=zt5 (P:=P) (h:=h) hl hr h3 h4 h5 B d
    unfold Em
    rw[Sem.run_bind,hq]
    simp only[Result.andThen_ok]
    unfold Instr.slice
    rw[Sem.run_bind,hq]
    simp[bb]
   ·exact H.elim
  ·exact H.elim
 ·rename_i el hu
  split at H
  ·rename_i a len cap
   split at H
   ·rename_i l r m hl hr hm
    obtain⟨h0,h1,h2⟩:=H
    refine⟨_,h2,λhg=>?_⟩
    obtain⟨h3,h4,h5,h6⟩:=h1.out hg
    intro h B d
    have hq:=QExec.underlying (h:=h) hu B d
    have hs:=Qm (h:=h) el B d (O el hu)
    have bb:=zn5 (P:=P) (h:=h) hl hr hm h0 h3 h4 h5 h6 B d
    unfold Em
    rw[Sem.run_bind,hq]
    simp only[Result.andThen_ok]
    unfold Instr.slice
    rw[Sem.run_bind,hq]
    simp[bb,hs,Qv]
   ·exact H.elim
  ·exact H.elim
 ·exact H.elim
end
section
variable {P:Program} {f:FuncId} {h:zb} {K:Value -> zb -> Prop} {t ty:TypeId} {g:Option Bool} {w w':World} {v:Value} {o:Oper} {ρ:Operand -> Value} {a:Act}
def XC(P:Program)(f:FuncId)(args:Array Value)(h:zb)(R:Value->zb->Prop):Prop:=
 ∀B d,Calls P f args (mk B d h) λe w'=>∃v d' h',e=.returned v/\w'=mk B d' h'/\R v h'
theorem XC.mono{args:Array Value}{R R':Value->zb->Prop}(H:XC P f args h R)(hR:∀v h',R v h'->R' v h'):XC P f args h R':=
 λB d=>(H B d).mono λ_ _ ⟨v,d',h',e1,e2,r⟩=>⟨v,d',h',e1,e2,hR _ _ r⟩
def XRun(P:Program)(s:Sem Value)(h:zb)(K:Value->zb->Prop):Prop:=∀B d,∃v d' h',s.run P (mk B d h)=.ok v (mk B d' h')/\K v h'
def XRunU(P:Program)(s:Sem Unit)(h:zb)(K:zb->Prop):Prop:=∀B d,∃d' h',s.run P (mk B d h)=.ok () (mk B d' h')/\K h'
theorem XRun.mono{s:Sem Value}{K K':Value->zb->Prop}(H:XRun P s h K)(hK:∀v h',K v h'->K' v h'):XRun P s h K':=
 λB d=>let ⟨v,d',h',e,k⟩:=H B d;⟨v,d',h',e,hK _ _ k⟩
theorem XRunU.mono{s:Sem Unit}{K K':zb->Prop}(H:XRunU P s h K)(hK:∀h',K h'->K' h'):XRunU P s h K':=
 λB d=>let ⟨d',h',e,k⟩:=H B d;⟨d',h',e,hK _ k⟩
def Zm(n:Nat):Prop:=n<=9223372036854775807
def zeh(P:Program)(s:Sem Next)(K:Value->Prop):Prop:=match Qz P s with
 |some (.value v)=>K v
 |_=>False
def z0v(P:Program)(ty:TypeId)(s:Sem Value)(g:Option Bool)(h:zb)(K:Value->Prop):Prop:=match z8j P ty with
 |some rt=>z0u rt λv=>req g (QExec P s h v)/\K v
 |none=>False
def zt6(P:Program)(t:TypeId):Bool:=match P.underlying t with
 |some (.slice _)=>true
 |_=>false
def zt7(P:Program)(t:TypeId):Bool:=match P.underlying t with
 |some (.pointer e)=>Nat.beq e (P.pointee t)
 |_=>false
theorem zsa(h:zt7 P t=true):P.underlying t=some (.pointer (P.pointee t)):=by
 unfold zt7 at h
 split at h
 ·rename_i e hu;rw[hu,Ak h]
 ·cases h
def qa7(P:Program)(t:TypeId)(s:Sem Next)(op:BinOp)(x y:Value)(g:Option Bool)(K:Value->Prop):Prop:=
 match op,x,y with
 |.eql,.slice a _ _,.slice none 0 0=>bif zt6 P t then K (.bool a.isNone)else zeh P s K
 |.neq,.slice a _ _,.slice none 0 0=>bif zt6 P t then K (.bool (!a.isNone))else zeh P s K
 |.eql,.pointer a,.pointer none=>bif zt7 P t then K (.bool a.isNone)else zeh P s K
 |.neq,.pointer a,.pointer none=>bif zt7 P t then K (.bool (!a.isNone))else zeh P s K
 |.quo,.int k a,.int k' b=>k=k'/\req g (b≠0)/\K (.int k (k.wrap (a.tdiv b)))
 |.rem,.int k a,.int k' b=>k=k'/\req g (b≠0)/\K (.int k (a.tmod b))
 |.add,.string a,.string b=>req g (Zm (a.size+b.size))/\K (.string (a++b))
 |_,_,_=>zeh P s K
def zke(b:Builtin)(O:Array TypeId)(Z:TypeId)(args:Array Value):Option (Sem Value):=
 match b with
 |.append=>some (Au O Z args)
 |.copy=>some (Dc O Z args)
 |.clear=>some (DN O Z args)
 |.delete=>some (Builtin.delete_ O Z args)
 |.len=>some (CE O Z args)
 |_=>none
def qa8(P:Program)(s:Sem Next)(ty:TypeId)(O:Array TypeId)(args:Array Value)(g:Option Bool)(h:zb)(K:Value->Prop):Prop:=
 match (args[0]?:Option Value)with
 |some (Value.map _)=>z0v P ty (CE O ty args) g h K
 |_=>zeh P s K
def W5(P:Program)(t:TypeId):Bool:=match P.underlying t with
 |some (.slice el)=>ji P el
 |some (.array _ el)=>ji P el
 |_=>true
theorem xz(h:W5 P t=true):∀el,(P.underlying t=some (.slice el)\/∃n,P.underlying t=some (.array n el))->∃i,P.info? el=some i:=by
 intro el O
 unfold W5 at h
 rcases O with O|⟨n,O⟩ <;> rw[O]at h <;> exact j5 h
def zn6(P:Program)(t:TypeId):Bool:=match P.underlying t with
 |some .string=>true
 |_=>false
theorem zn7(h:zn6 P t=true):P.underlying t=some .string:=by
 unfold zn6 at h
 split at h
 ·assumption
 ·cases h
def qaq(P:Program)(s:Sem Next)(x:Value)(g:Option Bool)(K:Value->Prop):Prop:=match x with
 |.pointer p=>∃a:Addr,req g (p=some a)/\K (.pointer (some a))
 |_=>zeh P s K
def Zw(P:Program)(o:Oper)(ρ:Operand->Value)(g:Option Bool)(h:zb)(K:Value->Prop):Prop:=
 match o.op with
 |.load t a=>zlx P h t (ρ a) g K
 |.indexAddr t x i=>bif W5 P t then zn4 P t (ρ x) (ρ i) g K else False
 |.index t x i=>bif zn6 P t then zg8 (ρ x) (ρ i) g K else zeh P (execOp ρ o) K
 |.slice t x lo hi mx=>bif W5 P t then zr9 P t (ρ x) (lo.map ρ) (hi.map ρ) (mx.map ρ) g K else False
 |.binOp op t x y _=>qa7 P t (execOp ρ o) op (ρ x) (ρ y) g K
 |.lookup t m k ok=>z0v P o.type (D9 t (ρ m) (ρ k) ok) g h K
 |.nilCheck x=>qaq P (execOp ρ o) (ρ x) g K
 |.call c=>match c.callee with
  |.builtin .len=>qa8 P (execOp ρ o) o.type c.argTypes (c.args.map ρ) g h K
  |_=>zeh P (execOp ρ o) K
 |_=>zeh P (execOp ρ o) K
theorem zy{s:Sem Next}{K:Value->Prop}(H:zeh P s K)(g:Option Bool):∃v,K v/\(gok g->∀h:zb,QExec P s h (.value v)):=by
 unfold zeh at H
 split at H
 ·rename_i v hv
  exact⟨v,H,λ_ h=>zjm hv h⟩
 ·exact H.elim
theorem zg9{s:Sem Value}{K:Value->Prop}(H:z0v P ty s g h K):∃v,K v/\(gok g->QExec P s h v):=by
 unfold z0v at H
 split at H
 ·obtain⟨v,h1,h2⟩:=zg4 H
  exact⟨v,h2,λhg=>h1.out hg⟩
 ·exact H.elim
theorem J1{op:BinOp}(t:TypeId)(x y:Operand)(a b:Value)(h1:(op matches .eql | .neq)=false):eqGuard op t x y a b=pure ():=by
 unfold eqGuard
 cases op <;> simp at h1 <;> rfl
theorem zsb{s:Sem Value}(h:s.run P w=.ok v w'):(s >>= λx=>(Dg (DL x):Sem Next)).run P w=.ok (.value v) w':=by
 rw[Sem.run_bind,h];rfl
theorem zkf{s:Sem Next}{K:Value->Prop}(h:zb)(H:∃v,K v/\(gok g->∀h:zb,QExec P s h (.value v))):∃v,K v/\(gok g->QExec P s h (.value v)):=
 let ⟨v,h1,h2⟩:=H;⟨v,h1,λhg=>h2 hg h⟩
theorem zgo{op:BinOp}{t t':TypeId}{x y:Operand}(ho:o.op=.binOp op t x y t'){K:Value->Prop}
  (H:qa7 P t (execOp ρ o) op (ρ x) (ρ y) g K):∃v,K v/\(gok g->∀h:zb,QExec P (execOp ρ o) h (.value v)):=by
 have O:∀(op:BinOp) (x y:Operand) (a b:Option Addr) (l c l' c':Nat) (w:World),(eqGuard op t x y (.slice a l c) (.slice b l' c')).run P w=.ok () w:=λop x y a b l c l' c' w=>by
  unfold eqGuard;cases op <;> rfl
 have Z:∀(op:BinOp) (x y:Operand) (a b:Option Addr) (w:World),(eqGuard op t x y (.pointer a) (.pointer b)).run P w=.ok () w:=λop x y a b w=>by
  unfold eqGuard;cases op <;> rfl
 unfold qa7 at H
 split at H
 ·rename_i a l c hx hy
  cases hs:zt6 P t with
  |false=>rw[hs]at H;exact zy H g
  |true=>
   rw[hs,cond_true]at H
   refine⟨_,H,λhg h B d=>?_⟩
   have hu:∃el,P.underlying t=some (.slice el):=by
    unfold zt6 at hs
    split at hs
    ·rename_i el hu;exact⟨el,hu⟩
    ·cases hs
   obtain⟨el,hu⟩:=hu
   simp only[execOp,ho,hx,hy]
   refine zsb ?_
   rw[Sem.run_bind,O]
   simp only[Result.andThen_ok,binOp,Sem.run_bind,run_equal_slice_nil _ t _ _ _ _ hu];rfl
 ·rename_i a l c hx hy
  cases hs:zt6 P t with
  |false=>rw[hs]at H;exact zy H g
  |true=>
   rw[hs,cond_true]at H
   refine⟨_,H,λhg h B d=>?_⟩
   have hu:∃el,P.underlying t=some (.slice el):=by
    unfold zt6 at hs
    split at hs
    ·rename_i el hu;exact⟨el,hu⟩
    ·cases hs
   obtain⟨el,hu⟩:=hu
   simp only[execOp,ho,hx,hy]
   refine zsb ?_
   rw[Sem.run_bind,O]
   simp only[Result.andThen_ok,binOp,Sem.run_bind,run_equal_slice_nil _ t _ _ _ _ hu];rfl
 ·rename_i a hx hy
  cases hs:zt7 P t with
  |false=>rw[hs]at H;exact zy H g
  |true=>
   rw[hs,cond_true]at H
   refine⟨_,H,λhg h B d=>?_⟩
   have hu:=zsa hs
   simp only[execOp,ho,hx,hy]
   refine zsb ?_
   rw[Sem.run_bind,Z]
   simp only[Result.andThen_ok,binOp,Sem.run_bind,run_equal_pointer_nil _ t _ hu];rfl
 ·rename_i a hx hy
  cases hs:zt7 P t with
  |false=>rw[hs]at H;exact zy H g
  |true=>
   rw[hs,cond_true]at H
   refine⟨_,H,λhg h B d=>?_⟩
   have hu:=zsa hs
   simp only[execOp,ho,hx,hy]
   refine zsb ?_
   rw[Sem.run_bind,Z]
   simp only[Result.andThen_ok,binOp,Sem.run_bind,run_equal_pointer_nil _ t _ hu];rfl
 ·rename_i k a k' b hx hy
  obtain⟨rfl,h1,h2⟩:=H
  refine⟨_,h2,λhg=>?_⟩
  have hb:=h1.out hg
  intro h B d
  simp only[execOp,ho,hx,hy]
  rw[J1 _ _ _ _ _ rfl]
  simp[binOp,Op.intDiv,hb]
 ·rename_i k a k' b hx hy
  obtain⟨rfl,h1,h2⟩:=H
  refine⟨_,h2,λhg=>?_⟩
  have hb:=h1.out hg
  intro h B d
  simp only[execOp,ho,hx,hy]
  rw[J1 _ _ _ _ _ rfl]
  simp[binOp,Op.intDiv,hb]
 ·rename_i a b hx hy
  obtain⟨h1,h2⟩:=H
  refine⟨_,h2,λhg=>?_⟩
  have hb:=h1.out hg
  intro h B d
  simp only[execOp,ho,hx,hy]
  rw[J1 _ _ _ _ _ rfl]
  have hm:¬((a.size+b.size:Nat):Int)>IntKind.i64.max:=by
   unfold Zm at hb
   have:IntKind.i64.max=9223372036854775807:=by decide
   omega
  simp only[binOp,Op.stringOp,if_neg hm]
  rfl
 ·exact zy H g
theorem zt8{c:Call}(ho:o.op=.call c)(hc:c.callee=.builtin .len){K:Value->Prop}
  (H:qa8 P (execOp ρ o) o.type c.argTypes (c.args.map ρ) g h K):∃v,K v/\(gok g->QExec P (execOp ρ o) h (.value v)):=by
 unfold qa8 at H
 split at H
 ·obtain⟨v,h1,h2⟩:=zg9 H
  refine⟨v,h1,λhg=>?_⟩
  have:=h2 hg
  intro B d
  simp only[execOp,ho,resolve,hc,Sem.run_bind,Sem.run_pure,Result.andThen_ok,invoke,builtin]
  rw[this B d]
  rfl
 ·exact zkf h (zy H g)
theorem za8{K:Value->Prop}(H:Zw P o ρ g h K):∃v,K v/\(gok g->QExec P (execOp ρ o) h (.value v)):=by
 unfold Zw at H
 split at H
 ·rename_i t a ho
  obtain⟨v,h1,h2⟩:=zg7 H
  refine⟨v,h1,λhg=>?_⟩
  simp only[execOp,ho]
  exact(h2 hg).val
 ·rename_i t x i ho
  cases he:W5 P t with
  |false=>rw[he]at H;exact H.elim
  |true=>
   rw[he]at H
   obtain⟨v,h1,h2⟩:=Zb (xz he) H
   refine⟨v,h1,λhg=>?_⟩
   simp only[execOp,ho]
   exact(h2 hg h).val
 ·rename_i t x i ho
  cases he:zn6 P t with
  |false=>rw[he]at H;exact zkf h (zy H g)
  |true=>
   rw[he]at H
   obtain⟨v,h1,h2⟩:=W4 (zn7 he) H
   refine⟨v,h1,λhg=>?_⟩
   simp only[execOp,ho]
   exact(h2 hg h).val
 ·rename_i t x lo hi mx ho
  cases he:W5 P t with
  |false=>rw[he]at H;exact H.elim
  |true=>
   rw[he]at H
   obtain⟨v,h1,h2⟩:=Yx (λel O=>xz he el (Or.inl O)) H
   refine⟨v,h1,λhg=>?_⟩
   simp only[execOp,ho]
   exact(h2 hg h).val
 ·rename_i op t x y t' ho
  exact zkf h (zgo ho H)
 ·rename_i t m k ok ho
  obtain⟨v,h1,h2⟩:=zg9 H
  refine⟨v,h1,λhg=>?_⟩
  simp only[execOp,ho]
  exact(h2 hg).val
 ·rename_i x ho
  unfold qaq at H
  split at H
  ·rename_i p hx
   obtain⟨a,h1,h2⟩:=H
   refine⟨_,h2,λhg=>?_⟩
   have hp:=h1.out hg
   subst hp
   intro B d
   simp only[execOp,ho,hx]
   rfl
  ·exact zkf h (zy H g)
 ·rename_i c ho
  split at H
  ·rename_i hc
   exact zt8 ho hc H
  ·exact zkf h (zy H g)
 ·exact zkf h (zy H g)
def zf3(o:Oper):Bool:=match o.op with
 |.lookup .. => false
 |.call c=>match c.callee with
  |.builtin .len=>false
  |_=>true
 |_=>true
theorem z0w{p:Addr}(H:zm h p=some v):p.block<h.size:=by
 unfold zm at H
 cases e:h[p.block]? with
 |none=>simp[e]at H
 |some o=>exact(Ac.1 e).1
theorem zha{h h':zb}(k:Keep h.size h h'){p:Addr}(H:zm h p=some v):zm h' p=some v:=by
 have:=z0w H
 unfold zm at H ⊢
 rw[k.get _ this];exact H
theorem zhb{h h':zb}(k:Keep h.size h h'){p:Addr}:∀{vs:List Value} {i:Nat},ze h p i vs->ze h' p i vs
 |[],_,_=>trivial
 |_::_,_,⟨h1,h2⟩=>⟨zha k h1,zhb k h2⟩
theorem Xy{K:Value->Prop}(hf:zf3 o=true)(H:Zw P o ρ g h K):∃v,K v/\(gok g->∀h',Keep h.size h h'->QExec P (execOp ρ o) h' (.value v)):=by
 unfold Zw at H
 split at H
 ·rename_i t a ho
  unfold zlx at H
  split at H
  ·rename_i q b hp hv
   obtain⟨x,h1,h2⟩:=H
   refine⟨_,h2,λhg h' hk=>?_⟩
   simp only[execOp,ho,hp]
   exact(zco hv (zha hk (h1.out hg))).val
  ·rename_i q l hp hv
   obtain⟨vs,h0,⟨h1,h2⟩,_⟩:=Q5 H (wl l)
   refine⟨_,h2,λhg h' hk=>?_⟩
   simp only[execOp,ho,hp]
   exact(zcp hv h0 (zhb hk (h1.out hg))).val
  ·exact H.elim
 ·rename_i t x i ho
  cases he:W5 P t with
  |false=>rw[he]at H;exact H.elim
  |true=>
   rw[he]at H
   obtain⟨v,h1,h2⟩:=Zb (xz he) H
   refine⟨v,h1,λhg h' _=>?_⟩
   simp only[execOp,ho]
   exact(h2 hg h').val
 ·rename_i t x i ho
  cases he:zn6 P t with
  |false=>
   rw[he]at H
   obtain⟨v,h1,h2⟩:=zy H g
   exact⟨v,h1,λhg h' _=>h2 hg h'⟩
  |true=>
   rw[he]at H
   obtain⟨v,h1,h2⟩:=W4 (zn7 he) H
   refine⟨v,h1,λhg h' _=>?_⟩
   simp only[execOp,ho]
   exact(h2 hg h').val
 ·rename_i t x lo hi mx ho
  cases he:W5 P t with
  |false=>rw[he]at H;exact H.elim
  |true=>
   rw[he]at H
   obtain⟨v,h1,h2⟩:=Yx (λel O=>xz he el (Or.inl O)) H
   refine⟨v,h1,λhg h' _=>?_⟩
   simp only[execOp,ho]
   exact(h2 hg h').val
 ·rename_i op t x y t' ho
  obtain⟨v,h1,h2⟩:=zgo ho H
  exact⟨v,h1,λhg h' _=>h2 hg h'⟩
 ·rename_i t m k ok ho
  simp[zf3,ho]at hf
 ·rename_i x ho
  unfold qaq at H
  split at H
  ·rename_i p hx
   obtain⟨a,h1,h2⟩:=H
   refine⟨_,h2,λhg h' _=>?_⟩
   have hp:=h1.out hg
   subst hp
   intro B d
   simp only[execOp,ho,hx]
   rfl
  ·obtain⟨v,h1,h2⟩:=zy H g
   exact⟨v,h1,λhg h' _=>h2 hg h'⟩
 ·rename_i c ho
  split at H
  ·rename_i hc
   simp[zf3,ho,hc]at hf
  ·obtain⟨v,h1,h2⟩:=zy H g
   exact⟨v,h1,λhg h' _=>h2 hg h'⟩
 ·obtain⟨v,h1,h2⟩:=zy H g
  exact⟨v,h1,λhg h' _=>h2 hg h'⟩
def wpN(P:Program){α:Type}:Sem α->zb->(α->zb->Prop)->Prop
 |.pure a,h,K=>K a h
 |.program k,h,K=>wpN P (k P) h K
 |.mark _ k,h,K=>wpN P k h K
 |.new o k,h,K=>wpN P (k h.size) (h.push o) K
 |_,_,_=>False
theorem zcq{α:Type}{s:Sem α}{K:α->zb->Prop}(H:wpN P s h K)(B:World)(d:Nat):∃x h',s.run P (mk B d h)=.ok x (mk B d h')/\K x h':=by
 induction s generalizing h with
 |pure a=>exact⟨a,h,rfl,H⟩
 |program k ih=>exact ih P H
 |mark m k ih=>exact ih H
 |new o k ih=>
  obtain⟨x,h',h1,h2⟩:=ih h.size H
  exact⟨x,h',h1,h2⟩
 |_=>exact H.elim
def typed(P:Program)(ty:TypeId)(v:Value)(K:Value->Prop):Prop:=match z8j P ty with
 |some rt=>z0u rt λv'=>v=v'/\K v'
 |none=>False
theorem Zn{K:Value->Prop}(H:typed P ty v K):K v:=by
 unfold typed at H
 split at H
 ·obtain⟨v',h1,h2⟩:=zg4 H;rw[h1];exact h2
 ·exact H.elim
def ya(P:Program)(f:FuncId):Bool:=match P.funcs[f]? with
 |some fn=>(match fn.body with
  |some _=>true
  | none => false) && !(fn.name == "runtime.NumGoroutine")
 |none=>false
theorem W6(h:ya P f=true)(args:Array Value)(w:World):(callFunc f args).run P w=.ok (.enter f args) w:=by
 unfold ya at h
 split at h
 ·rename_i fn hf
  simp only[AI,Ce]at h
  obtain⟨h1,h2⟩:=h
  unfold callFunc
  simp only[program,Sem.run_bind,Sem.run,Result.andThen_ok,hf]
  split at h1
  ·rename_i b hb
   simp[h2,hb]
  ·cases h1
 ·cases h
def z8k(P:Program)(v:Value)(args:Array Value)(K:FuncId->Array Value->Prop):Prop:=match v with
 |.func (.func f) first cap=>ya P f=true/\K f (first++args++cap)
 |_=>False
theorem zkg{c:Call}{x:Operand}(ho:o.op=.call c)(hc:c.callee=.value x){K:FuncId->Array Value->Prop}(H:z8k P (ρ x) (c.args.map ρ) K):
  ∃f args,K f args/\∀w,(execOp ρ o).run P w=.ok (.enter f args) w:=by
 unfold z8k at H
 split at H
 ·rename_i f first cap hv
  obtain⟨h1,h2⟩:=H
  refine⟨_,_,h2,λw=>?_⟩
  simp only[execOp,ho,resolve,hc,hv,DW,Sem.run_bind,Sem.run_pure,Result.andThen_ok,invoke]
  exact W6 h1 _ w
 ·exact H.elim
def J2:Operand->Bool
 |.func _=>true
 |_=>false
def qa9(P:Program)(f:FuncId):Bool:=match P.funcs[f]? with
 |some fn=>(match fn.body with
  |some _=>false
  |none=>true)
 |none=>false
def qba(P:Program)(f:FuncId)(args:Array Value)(h:zb)(K:Value->zb->Prop):Prop:=∀B d,∃v d' h',(callFunc f args).run P (mk B d h)=.ok (.value v) (mk B d' h')/\K v h'
def z3s(P:Program):Operand->Bool
 |.func f=>qa9 P f
 |_=>false
def qbb(P:Program)(v:Value)(args:Array Value)(h:zb)(K:Value->zb->Prop):Prop:=match v with
 |.func (.func f) first cap=>qba P f (first++args++cap) h K
 |_=>False
theorem zt9{c:Call}{x:Operand}(ho:o.op=.call c)(hc:c.callee=.value x)(H:qbb P (ρ x) (c.args.map ρ) h K)(B:World)(d:Nat):
  ∃v d' h',(execOp ρ o).run P (mk B d h)=.ok (.value v) (mk B d' h')/\K v h':=by
 unfold qbb at H
 split at H
 ·rename_i f first cap hv
  obtain⟨v,d',h',h1,h2⟩:=H B d
  refine⟨v,d',h',?_,h2⟩
  simp only[execOp,ho,resolve,hc,hv,DW,Sem.run_bind,Sem.run_pure,Result.andThen_ok,invoke]
  exact h1
 ·exact H.elim
def z8t(P:Program)(t:TypeId):Bool:=match P.underlying t with
 |some (.map _ _)=>true
 |_=>false
def zsc(P:Program)(o:Oper)(ρ:Operand->Value)(h:zb)(K:Value->zb->Prop):Prop:=
 match o.op with
 |.store t a x=>XRunU P (Al t (ρ a) (ρ x)) h λh'=>K undef h'
 |.mapUpdate t m k x=>XRunU P (CQ t (ρ m) (ρ k) (ρ x)) h λh'=>K undef h'
 |.insert t m k x=>XRunU P (CQ t (ρ m) (ρ k) (ρ x)) h λh'=>K undef h'
 |.entryStore t m s x=>XRunU P (Instr.entryStore t (ρ m) (ρ s) (ρ x)) h λh'=>K undef h'
 |.mapEntry t m k=>XRun P (Instr.mapEntry t (ρ m) (ρ k)) h λv h'=>typed P o.type v λv'=>K v' h'
 |.makeSlice t l c=>XRun P (Instr.makeSlice t (ρ l) (ρ c)) h λv h'=>typed P o.type v λv'=>K v' h'
 |.convert s t x=>XRun P (convert s t (ρ x)) h λv h'=>typed P o.type v λv'=>K v' h'
 |.typeAssert x t t' ok=>XRun P (Instr.typeAssert (ρ x) t t' ok) h λv h'=>typed P o.type v λv'=>K v' h'
 |.range t x=>bif z8t P t then XRun P (Eu t (ρ x)) h λv h'=>∃q:Option Addr,v=.pointer q/\K (.pointer q) h' else wpN P (execOp ρ o) h λnx h'=>match nx with
   |.value v=>K v h'
   |.skip=>K undef h'
   |_=>False
 |.next x s=>bif s then wpN P (execOp ρ o) h λnx h'=>match nx with
   |.value v=>K v h'
   |.skip=>K undef h'
   |_=>False
  else XRun P (Ey (ρ x) s o.type) h λv h'=>(v=.tuple #[.bool false]/\K (.tuple #[.bool false]) h')\/∃k u:Value,v=.tuple #[.bool true,k,u]/\K (.tuple #[.bool true,k,u]) h'
 |.entry x=>XRun P (Instr.entry (ρ x)) h λv h'=>∃k u:Value,v=.tuple #[k,u]/\K (.tuple #[k,u]) h'
 |.call c=>match c.callee with
  |.builtin b=>match zke b c.argTypes o.type (c.args.map ρ)with
   |some s=>XRun P s h λv h'=>typed P o.type v λv'=>K v' h'
   |none=>False
  |.value x=>bif z3s P x then qbb P (ρ x) (c.args.map ρ) h (λv h'=>typed P o.type v λv'=>K v' h')else bif J2 x then(wpN P (execOp ρ o) h λnx h'=>match nx with
   |.enter f args=>XC P f args h' λv O=>typed P o.type v λv'=>K v' O
   |.value v=>K v h'
   |_=>False)else z8k P (ρ x) (c.args.map ρ) λf args=>XC P f args h λv O=>typed P o.type v λv'=>K v' O
  |_=>False
 |_=>wpN P (execOp ρ o) h λnx h'=>match nx with
   |.value v=>K v h'
   |.skip=>K undef h'
   |_=>False
def z8u:Builtin->Bool
 |.append | .copy | .clear | .delete=>true
 |_=>false
def zv9(P:Program)(s t:TypeId):Bool:=match P.underlying s,P.underlying t with
 |some (.int _),some (.int _)=>true
 |some .string,some .string=>true
 |_,_=>false
def isQ(P:Program)(o:Oper):Bool:=
 match o.op with
 |.load _ _ | .indexAddr _ _ _ | .index _ _ _ | .slice _ _ _ _ _ | .binOp _ _ _ _ _ | .lookup _ _ _ _ | .nilCheck _=>true
 |.move _ | .assign _ | .unOp _ _ _ | .build _ _ | .makeFunc _ _ _ | .makeInterface _ _ | .extract _ _ | .field _ _ _ | .fieldAddr _ _ _=>true
 |.convert s t _=>zv9 P s t
 |.call c=>match c.callee with
  |.builtin b=>!z8u b
  |_=>false
 |_=>false
def zwa(P:Program)(o:Oper)(ρ:Operand->Value)(b:Bool)(h:zb)(K:Value->zb->Prop):Prop:=
 match z8j P o.type with
 |some rt=>∃J:Value->zb->Prop,(b=true->zsc P o ρ h J)/\(b=false->z0u rt λv=>J v h)/\(b=true->∀v h',J v h'->z0u rt λv'=>v=v')/\z8q rt λv=>∀h',J v h'->K v h'
 |none=>False
def stepW(P:Program)(o:Oper)(ρ:Operand->Value)(g:Option Bool)(h:zb)(K:Value->zb->Prop):Prop:=
 bif isQ P o then Zw P o ρ g h (λv=>K v h)else match g with
  |none=>zsc P o ρ h K
  |some b=>zwa P o ρ b h K
theorem upon_value{next:Act->World->Prop}{Q:Exit->Act->World->Prop}{s:Sem Next}(h:s.run P w=.ok (.value v) w')(hn:next (a.put o.dst v) w'):
  o.upon P a next Q (s.run P w):=by rw[h];exact hn
theorem upon_skip{next:Act->World->Prop}{Q:Exit->Act->World->Prop}{s:Sem Next}(h:s.run P w=.ok .skip w')(hn:next (a.put o.dst undef) w'):
  o.upon P a next Q (s.run P w):=by rw[h];exact hn
theorem Jd{s:Sem Value}(h:s.run P w=.ok v w'):(s >>= λx=>(Dg (DL x):Sem Next)).run P w=.ok (.value v) w':=by
 rw[Sem.run_bind,h];rfl
theorem zua{s:Sem Unit}(h:s.run P w=.ok () w'):(s >>= λ_=>(Dg Next.skip:Sem Next)).run P w=.ok .skip w':=by
 rw[Sem.run_bind,h];rfl
theorem zfn(H:zsc P o ρ h K)(B:World)(d:Nat){next:Act->World->Prop}{Q:Exit->Act->World->Prop}
  (hn:∀v d' h',K v h'->next (a.put o.dst v) (mk B d' h')):o.upon P a next Q ((execOp ρ o).run P (mk B d h)):=by
 unfold zsc at H
 split at H
 case h_1 t x y ho=>
  obtain⟨d',h',h1,h2⟩:=H B d
  exact upon_skip (by simp only[execOp,ho];exact zua h1) (hn _ _ _ h2)
 case h_2 t m k x ho=>
  obtain⟨d',h',h1,h2⟩:=H B d
  exact upon_skip (by simp only[execOp,ho];exact zua h1) (hn _ _ _ h2)
 case h_3 t m k x ho=>
  obtain⟨d',h',h1,h2⟩:=H B d
  exact upon_skip (by simp only[execOp,ho];exact zua h1) (hn _ _ _ h2)
 case h_4 t m s x ho=>
  obtain⟨d',h',h1,h2⟩:=H B d
  exact upon_skip (by simp only[execOp,ho];exact zua h1) (hn _ _ _ h2)
 case h_5 t m k ho=>
  obtain⟨v,d',h',h1,h2⟩:=H B d
  exact upon_value (by simp only[execOp,ho];exact Jd h1) (hn _ _ _ (Zn h2))
 case h_6 t l c ho=>
  obtain⟨v,d',h',h1,h2⟩:=H B d
  exact upon_value (by simp only[execOp,ho];exact Jd h1) (hn _ _ _ (Zn h2))
 case h_7 s t x ho=>
  obtain⟨v,d',h',h1,h2⟩:=H B d
  exact upon_value (by simp only[execOp,ho];exact Jd h1) (hn _ _ _ (Zn h2))
 case h_8 x t t' ok ho=>
  obtain⟨v,d',h',h1,h2⟩:=H B d
  exact upon_value (by simp only[execOp,ho];exact Jd h1) (hn _ _ _ (Zn h2))
 case h_9 t x ho=>
  cases hm:z8t P t with
  |true=>
   rw[hm]at H
   obtain⟨v,d',h',h1,q,rfl,h2⟩:=H B d
   exact upon_value (by simp only[execOp,ho];exact Jd h1) (hn _ _ _ h2)
  |false=>
   rw[hm]at H
   obtain⟨nx,h',h1,h2⟩:=zcq H B d
   cases nx with
   |value v=>exact upon_value h1 (hn _ _ _ h2)
   |skip=>exact upon_skip h1 (hn _ _ _ h2)
   |_=>exact h2.elim
 case h_10 x s ho=>
  cases s with
  |true=>
   simp only[cond_true]at H
   obtain⟨nx,h',h1,h2⟩:=zcq H B d
   cases nx with
   |value v=>exact upon_value h1 (hn _ _ _ h2)
   |skip=>exact upon_skip h1 (hn _ _ _ h2)
   |_=>exact h2.elim
  |false=>
   simp only[cond_false]at H
   obtain⟨v,d',h',h1,h2⟩:=H B d
   refine upon_value (v:=v) (w':=mk B d' h') (by simp only[execOp,ho];exact Jd h1) (hn _ _ _ ?_)
   rcases h2 with⟨rfl,h2⟩|⟨k,u,rfl,h2⟩ <;> exact h2
 case h_11 x ho=>
  obtain⟨v,d',h',h1,k,u,rfl,h2⟩:=H B d
  exact upon_value (by simp only[execOp,ho];exact Jd h1) (hn _ _ _ h2)
 case h_12 c ho=>
  split at H
  ·rename_i b hb
   split at H
   ·rename_i s hs
    obtain⟨v,d',h',h1,h2⟩:=H B d
    refine upon_value (w':=mk B d' h') ?_ (hn _ _ _ (Zn h2))
    have key:execOp ρ o=s >>= λx=>(Dg (DL x):Sem Next):=by
     simp only[execOp,ho,resolve,hb]
     unfold zke at hs
     split at hs <;> first
      |(simp only[Ab]at hs;subst hs;rfl)
      |cases hs
    rw[key]
    exact Jd h1
   ·exact H.elim
  ·rename_i x hx
   cases hex:z3s P x with
   |true=>
    rw[hex]at H
    obtain⟨v,d',h',h1,h2⟩:=zt9 ho hx H B d
    exact upon_value h1 (hn _ _ _ (Zn h2))
   |false=>
   rw[hex]at H
   simp only[cond_false]at H
   cases hst:J2 x with
   |true=>
    rw[hst]at H
    obtain⟨nx,h',h1,h2⟩:=zcq H B d
    cases nx with
    |enter f args=>
     rw[h1]
     refine(h2 B d).mono ?_
     rintro e w' ⟨v,d',O,rfl,rfl,h3⟩
     exact hn _ _ _ (Zn h3)
    |value v=>exact upon_value h1 (hn _ _ _ h2)
    |_=>exact h2.elim
   |false=>
    rw[hst]at H
    simp only[cond_false]at H
    obtain⟨f,args,h1,h2⟩:=zkg ho hx H
    rw[h2]
    refine(h1 B d).mono ?_
    rintro e w' ⟨v,d',O,rfl,rfl,h3⟩
    exact hn _ _ _ (Zn h3)
  ·exact H.elim
 case h_13=>
  obtain⟨nx,h',h1,h2⟩:=zcq H B d
  cases nx with
  |value v=>exact upon_value h1 (hn _ _ _ h2)
  |skip=>exact upon_skip h1 (hn _ _ _ h2)
  |_=>exact h2.elim
theorem zqi(H:stepW P o ρ g h K)(hg:gok g)(B:World)(d:Nat){next:Act->World->Prop}{Q:Exit->Act->World->Prop}
  (hn:∀v d' h',K v h'->next (a.put o.dst v) (mk B d' h')):o.upon P a next Q ((execOp ρ o).run P (mk B d h)):=by
 unfold stepW at H
 cases hq:isQ P o with
 |true=>
  rw[hq]at H
  obtain⟨v,h1,h2⟩:=za8 H
  exact upon_value (h2 hg B d) (hn _ _ _ h1)
 |false=>
  rw[hq]at H
  cases g with
  |none=>exact zfn H B d hn
  |some b=>
   have hb:b=true:=hg
   subst hb
   simp only[cond_false]at H
   unfold zwa at H
   split at H
   ·rename_i rt O
    obtain⟨J,h1,_,h3,h4⟩:=H
    refine zfn (h1 rfl) B d λv d' h' hJ=>?_
    obtain⟨v',e1,e2⟩:=zv8 (h3 rfl v h' hJ) h4
    subst e1
    exact hn _ _ _ (e2 _ hJ)
   ·exact H.elim
theorem zqj(H:stepW P o ρ (some false) h K):∃v,K v h:=by
 unfold stepW at H
 cases hq:isQ P o with
 |true=>
  rw[hq]at H
  obtain⟨v,h1,_⟩:=za8 H
  exact⟨v,h1⟩
 |false=>
  rw[hq]at H
  simp only[cond_false]at H
  unfold zwa at H
  split at H
  ·obtain⟨J,_,h2,_,h4⟩:=H
   obtain⟨v,e1,e2⟩:=zv8 (h2 rfl) h4
   exact⟨v,e2 _ e1⟩
  ·exact H.elim
end
section
variable {n:Nat} {e:Env} {a b:Act} {c:qf} {g:Option Bool} {P:Program} {o:Oper} {h:zb} {K:Value -> zb -> Prop} {ms:List Nat} {ρ:Operand -> Value}
def za9(e:Env):qf->Option (Option Bool)
 |[]=>some none
 |c=>match zv5 e c with
  |some b=>some (some b)
  |none=>none
theorem Yb(hs:Sat n e a)(h:za9 e c=some g)(hv:valid (zx a) c):gok g:=by
 unfold za9 at h
 split at h
 ·simp only[Ab]at h;subst h;trivial
 ·split at h
  ·rename_i b hb
   simp only[Ab]at h
   subst h
   exact(za7 hs hb).2 hv
  ·cases h
theorem zub(hs:Sat n e a)(h:za9 e c=some g)(hv:¬valid (zx a) c):g=some false:=by
 unfold za9 at h
 split at h
 ·exact absurd trivial hv
 ·split at h
  ·rename_i b hb
   simp only[Ab]at h
   subst h
   cases b with
   |false=>rfl
   |true=>exact absurd ((za7 hs hb).1 rfl) hv
  ·cases h
def zwb(b:Bool):Value->Value->Value
 |.bool x,.bool y=>.bool (bif b then x else y)
 |x,y=>bif b then x else y
theorem zsd(b:Bool)(x y:Value):zwb b x y=if b=true then x else y:=by
 unfold zwb
 split <;> cases b <;> rfl
def orV:Option Value->Option Value->Option Value
 |some v,_=>some v
 |none,w=>w
def zwc(e:Env)(c:qf)(x a b:Operand)(K:Value->Prop):Prop:=
 match x with
 |.tmp s=>match look e s with
  |some (cs,.bool t)=>bif suf cs c then(match orV (zam e c a) (zam e ((s,true)::cs) a),orV (zam e c b) (zam e ((s,false)::cs) b)with
    |some va,some vb=>K (zwb t va vb)
    |_,_=>False)else False
  |_=>False
 |_=>False
theorem J3{O:Act}(hs:Sat n e O){x a b:Operand}{K:Value->Prop}(H:zwc e c x a b K):
  ∃v,K v/\(valid (zx O) c->∃t,O.eval x=.bool t/\(if t=true then O.eval a else O.eval b)=v):=by
 unfold zwc at H
 split at H
 ·rename_i s
  split at H
  ·rename_i cs t hl
   cases hsf:suf cs c with
   |false=>rw[hsf]at H;exact H.elim
   |true=>
    rw[hsf]at H
    simp only[cond_true]at H
    split at H
    ·rename_i va vb ha hb
     refine⟨_,H,λhv=>⟨t,?_,?_⟩⟩
     ·exact(hs.all _ (Xx hl)).1 (Jc hsf hv)
     ·have Z:=Jc hsf hv
      have hx:zx O s=.bool t:=(hs.all _ (Xx hl)).1 Z
      rw[zsd]
      cases t with
      |true=>
       simp only[if_true]
       unfold orV at ha
       split at ha
       ·rename_i v _ h1
        simp only[Ab]at ha
        subst ha
        exact jz hs hv h1
       ·exact jz hs (c:=(s,true)::cs) ⟨hx,Z⟩ ha
      |false=>
       simp only[A9,if_false]
       unfold orV at hb
       split at hb
       ·rename_i v _ h1
        simp only[Ab]at hb
        subst hb
        exact jz hs hv h1
       ·exact jz hs (c:=(s,false)::cs) ⟨hx,Z⟩ hb
    ·exact H.elim
  ·exact H.elim
 ·exact H.elim
def opW(P:Program)(o:Oper)(e:Env)(c:qf)(h:zb)(K:Value->zb->Prop):Prop:=
 match o.op with
 |.pick x a b=>zwc e c x a b λv=>K v h
 |_=>bif xf o.op then(bif known e c o.op.operands.toList then(match za9 e c with
   |some g=>stepW P o (rho e c) g h K
   |none=>False)else False)else False
def wR(P:Program)(n:Nat)(ops:Array Oper)(K:Env->zb->Prop):List Oper->Env->zb->Prop
 |[],e,h=>K (clean e) h
 |o::rest,e,h=>match zeg ops e o.guard with
  |some c=>bif yu n c o.dst then opW P o e c h λv h'=>wR P n ops K rest (putO e o.dst c v) h' else False
  |none=>False
theorem zhc(H:opW P o e c h K)(hs:Sat n e a)(hv:valid (zx a) c)(B:World)(d:Nat)
  {next:Act->World->Prop} {Q:Exit->Act->World->Prop} (hn:∀v d' h',K v h'->next (a.put o.dst v) (mk B d' h')):o.wp P a (mk B d h) next Q:=by
 unfold opW at H
 unfold Oper.wp
 split at H
 ·rename_i x y z ho
  obtain⟨v,h1,h2⟩:=J3 hs H
  obtain⟨t,h3,h4⟩:=h2 hv
  refine upon_value (w':=mk B d h) (v:=v) ?_ (hn _ _ _ h1)
  simp only[execOp,ho,h3,asBool,Sem.run_bind,Sem.run_pure,Result.andThen_ok]
  rw[h4]
 ·cases hns:xf o.op with
  |false=>rw[hns]at H;exact H.elim
  |true=>
   rw[hns]at H
   cases hk:known e c o.op.operands.toList with
   |false=>rw[hk]at H;exact H.elim
   |true=>
    rw[hk]at H
    simp only[cond_true]at H
    split at H
    ·rename_i g hg
     rw[Yv hs hv hns hk]
     exact zqi H (Yb hs hg hv) B d hn
    ·exact H.elim
theorem z8v(H:opW P o e c h K)(hs:Sat n e a)(hv:¬valid (zx a) c):∃v,K v h:=by
 unfold opW at H
 split at H
 ·obtain⟨v,h1,_⟩:=J3 hs H
  exact⟨v,h1⟩
 ·cases hns:xf o.op with
  |false=>rw[hns]at H;exact H.elim
  |true=>
   rw[hns]at H
   cases hk:known e c o.op.operands.toList with
   |false=>rw[hk]at H;exact H.elim
   |true=>
    rw[hk]at H
    simp only[cond_true]at H
    split at H
    ·rename_i g hg
     rw[zub hs hg hv]at H
     exact zqj H
    ·exact H.elim
def jj:List Oper->List Nat
 |[]=>[]
 |o::l=>match o.dst with
  |some d=>d::jj l
  |none=>jj l
def Same(ms:List Nat)(a b:Act):Prop:=∀i,i∉ms->zx b i=zx a i
theorem Same.refl(ms:List Nat)(a:Act):Same ms a a:=λ_ _=>rfl
theorem Same.trans{a b c:Act}(h:Same ms a b)(k:Same ms b c):Same ms a c:=λi hi=>(k i hi).trans (h i hi)
theorem Same.mono{ms O:List Nat}(h:Same ms a b)(hs:∀x∈ms,x∈O):Same O a b:=λi hi=>h i λhm=>hi (hs i hm)
theorem Same.put(a:Act)(d:Option Nat)(v:Value)(h:∀i,d=some i->i∈ms):Same ms a (a.put d v):=by
 intro i hi
 cases d with
 |none=>rfl
 |some j=>exact qt λe=>hi (e ▸ h j rfl)
theorem J4{P:Program}{n:Nat}{ops:Array Oper}{K:Env->zb->Prop}{Q:Exit->Act->World->Prop}(B:World):
  ∀(l:List Oper) (e:Env) (h:zb) (a:Act) (d:Nat),wR P n ops K l e h->Sat n e a->(∀e' a' d' h',Sat n e' a'->Same (jj l) a a'->K e' h'->Q .normal a' (mk B d' h'))->wpList P ops Q l a (mk B d h)
 |[],e,h,a,d,H,hs,hQ=>hQ _ _ _ _ hs.clean (Same.refl _ _) H
 |o::rest,e,h,a,d,H,hs,hQ=>by
  unfold wR at H
  split at H
  ·rename_i c hc
   cases hd:yu n c o.dst with
   |false=>rw[hd]at H;exact H.elim
   |true=>
    rw[hd]at H
    simp only[cond_true]at H
    have hw:=Yw hs hc
    have ac:∀i,o.dst=some i->i∈jj (o::rest):=λi hi=>by simp[jj,hi]
    have Z:∀x∈jj rest,x∈jj (o::rest):=λx hx=>by
     unfold jj
     split
     ·exact Ah _ hx
     ·exact hx
    have O:∀v u d' h',(valid (zx a) c->u=v)->(¬valid (zx a) c->u=undef)->wR P n ops K rest (putO e o.dst c v) h'->wpList P ops Q rest (a.put o.dst u) (mk B d' h'):=λv u d' h' h1 h2 h3=>
     J4 B rest _ _ _ _ h3 (hs.putO hd h1 h2) λe' a' ae af q1 q2 q3=>hQ e' a' ae af q1 ((Same.put a o.dst u ac).trans (q2.mono Z)) q3
    unfold wpList
    by_cases hv:valid (zx a) c
    ·rw[if_pos (hw.2 hv)]
     exact .inl (zhc H hs hv B d λv d' h' hK=>O v v d' h' (λ_=>rfl) (λaa=>absurd hv aa) hK)
    ·rw[if_neg (λhx=>hv (hw.1 hx))]
     obtain⟨v,hK⟩:=z8v H hs hv
     exact O v undef d h (λaa=>absurd aa hv) (λ_=>rfl) hK
  ·exact H.elim
def z4r(P:Program)(o:Oper)(ρ:Operand->Value)(g:Option Bool)(h:zb)(K:Value->Prop):Prop:=
 match o.op with
 |.call c=>match c.callee with
  |.value x=>bif J2 x then(match Qz P (execOp ρ o)with
    |some (.enter f args)=>match z8j P o.type with
     |some rt=>z0u rt λv=>req g (XC P f args h λv' h'=>v'=v/\h'=h)/\K v
     |none=>False
    |_=>False)else(match z8j P o.type with
     |some rt=>z0u rt λv=>req g (z8k P (ρ x) (c.args.map ρ) λf args=>XC P f args h λv' h'=>v'=v/\h'=h)/\K v
     |none=>False)
  |_=>False
 |_=>False
theorem zqk{K:Value->Prop}(H:z4r P o ρ g h K):
  ∃v,K v/\(gok g->∃f args,(∀w,(execOp ρ o).run P w=.ok (.enter f args) w)/\XC P f args h λv' h'=>v'=v/\h'=h):=by
 unfold z4r at H
 split at H
 ·rename_i c ho
  split at H
  ·rename_i x hx
   cases hst:J2 x with
   |true=>
    rw[hst]at H
    simp only[cond_true]at H
    split at H
    ·rename_i f args he
     split at H
     ·obtain⟨v,h1,h2⟩:=zg4 H
      exact⟨v,h2,λhg=>⟨f,args,λw=>W0 he w,h1.out hg⟩⟩
     ·exact H.elim
    ·exact H.elim
   |false=>
    rw[hst]at H
    simp only[cond_false]at H
    split at H
    ·obtain⟨v,h1,h2⟩:=zg4 H
     refine⟨v,h2,λhg=>?_⟩
     obtain⟨f,args,h3,h4⟩:=zkg ho hx (h1.out hg)
     exact⟨f,args,h4,h3⟩
    ·exact H.elim
  ·exact H.elim
 ·exact H.elim
def zhd(o:Oper):Bool:=match o.op with
 |.call c=>match c.callee with
  |.builtin _=>false
  |_=>true
 |_=>false
def opQ(P:Program)(o:Oper)(e:Env)(c:qf)(h:zb)(O:Bool)(K:Value->Prop):Prop:=
 match o.op with
 |.pick x a b=>zwc e c x a b K
 |_=>bif xf o.op then(bif known e c o.op.operands.toList then(match za9 e c with
   |some g=>bif zhd o then(bif O then z4r P o (rho e c) g h K else False)else Zw P o (rho e c) g h K
   |none=>False)else False)else False
def wQ(P:Program)(n:Nat)(ops:Array Oper)(h:zb)(O:Bool)(K:Env->Prop):List Oper->Env->Prop
 |[],e=>K e
 |o::rest,e=>match zeg ops e o.guard with
  |some c=>bif yu n c o.dst then opQ P o e c h O λv=>wQ P n ops h O K rest (putO e o.dst c v)else False
  |none=>False
def YQ(P:Program)(o:Oper)(a:Act)(B:World)(h:zb)(O:Bool)(v:Value):Prop:=
 (∀d,(execOp a.eval o).run P (mk B d h)=.ok (.value v) (mk B d h)) \/
 (O=true/\∃f args,(∀d,(execOp a.eval o).run P (mk B d h)=.ok (.enter f args) (mk B d h))/\XC P f args h λv' h'=>v'=v/\h'=h)
theorem zn8{O:Bool}{K:Value->Prop}(H:opQ P o e c h O K)(hs:Sat n e a)(B:World):
  ∃v,K v/\(valid (zx a) c->YQ P o a B h O v):=by
 unfold opQ at H
 split at H
 ·rename_i x y z ho
  obtain⟨v,h1,h2⟩:=J3 hs H
  refine⟨v,h1,λhv=>?_⟩
  obtain⟨t,h3,h4⟩:=h2 hv
  refine .inl λd=>?_
  simp only[execOp,ho,h3,asBool,Sem.run_bind,Sem.run_pure,Result.andThen_ok]
  rw[h4]
 ·cases hns:xf o.op with
  |false=>rw[hns]at H;exact H.elim
  |true=>
   rw[hns]at H
   cases hk:known e c o.op.operands.toList with
   |false=>rw[hk]at H;exact H.elim
   |true=>
    rw[hk]at H
    simp only[cond_true]at H
    split at H
    ·rename_i g hg
     cases hc:zhd o with
     |false=>
      rw[hc]at H
      obtain⟨v,h1,h2⟩:=za8 H
      refine⟨v,h1,λhv=>.inl λd=>?_⟩
      rw[Yv hs hv hns hk]
      exact h2 (Yb hs hg hv) B d
     |true=>
      rw[hc]at H
      cases O with
      |false=>exact H.elim
      |true=>
       simp only[cond_true]at H
       obtain⟨v,h1,h2⟩:=zqk H
       refine⟨v,h1,λhv=>?_⟩
       obtain⟨f,args,h3,h4⟩:=h2 (Yb hs hg hv)
       refine .inr ⟨rfl,f,args,λd=>?_,h4⟩
       rw[Yv hs hv hns hk]
       exact h3 _
    ·exact H.elim
theorem zse{P:Program}{n:Nat}{ops:Array Oper}{h:zb}{Z:Bool}{K:Env->Prop}{Q:Act->Prop}(B:World):
  ∀(l:List Oper) (e:Env) (a:Act),wQ P n ops h Z K l e->Sat n e a->(∀e' a',Sat n e' a'->Same (jj l) a a'->K e'->Q a')->wpQuiet P ops (λw=>∃d,w=mk B d h) Q l a
 |[],e,a,H,hs,hQ=>hQ _ _ hs (Same.refl _ _) H
 |o::rest,e,a,H,hs,hQ=>by
  unfold wQ at H
  split at H
  ·rename_i c hc
   cases hd:yu n c o.dst with
   |false=>rw[hd]at H;exact H.elim
   |true=>
    rw[hd]at H
    simp only[cond_true]at H
    have hw:=Yw hs hc
    have ae:∀i,o.dst=some i->i∈jj (o::rest):=λi hi=>by simp[jj,hi]
    have aa:∀x∈jj rest,x∈jj (o::rest):=λx hx=>by
     unfold jj
     split
     ·exact Ah _ hx
     ·exact hx
    obtain⟨v,hK,hy⟩:=zn8 H hs B
    have O:∀u,(valid (zx a) c->u=v)->(¬valid (zx a) c->u=undef)->wpQuiet P ops (λw=>∃d,w=mk B d h) Q rest (a.put o.dst u):=λu h1 h2=>
     zse B rest _ _ hK (hs.putO hd h1 h2) λe' a' q1 q2 q3=>hQ e' a' q1 ((Same.put a o.dst u ae).trans (q2.mono aa)) q3
    unfold wpQuiet
    by_cases hv:valid (zx a) c
    ·rw[if_pos (hw.2 hv)]
     refine⟨v,?_,O v (λ_=>rfl) (λac=>absurd hv ac)⟩
     rintro w ⟨d,rfl⟩
     unfold Oper.quietAt
     rcases hy hv with h1|⟨_,f,args,h1,h2⟩
     ·rw[h1 d];exact⟨rfl,rfl⟩
     ·rw[h1 d]
      refine⟨rfl,(h2 B d).mono ?_⟩
      rintro e' w'' ⟨v',d',h',rfl,rfl,rfl,rfl⟩
      exact⟨rfl,d',rfl⟩
    ·rw[if_neg (λhx=>hv (hw.1 hx))]
     exact O undef (λac=>absurd ac hv) (λ_=>rfl)
  ·exact H.elim
def z4s(P:Program)(o:Oper)(ρ:Operand->Value)(g:Option Bool)(h:zb)(K:Value->Prop):Prop:=
 match o.op with
 |.call c=>match c.callee with
  |.value x=>bif J2 x then(match Qz P (execOp ρ o)with
    |some (.enter f args)=>match z8j P o.type with
     |some rt=>z0u rt λv=>req g (∀h1,Keep h.size h h1->XC P f args h1 λv' h'=>v'=v/\Keep h1.size h1 h')/\K v
     |none=>False
    |_=>False)else False
  |_=>False
 |_=>False
theorem zql{K:Value->Prop}(H:z4s P o ρ g h K):
  ∃v,K v/\(gok g->∃f args,(∀w,(execOp ρ o).run P w=.ok (.enter f args) w)/\∀h1,Keep h.size h h1->XC P f args h1 λv' h'=>v'=v/\Keep h1.size h1 h'):=by
 unfold z4s at H
 split at H
 ·split at H
  ·rename_i x _
   cases hx:J2 x with
   |false=>rw[hx]at H;exact H.elim
   |true=>
    rw[hx]at H
    simp only[cond_true]at H
    split at H
    ·rename_i f args hv
     split at H
     ·obtain⟨v,h1,h2⟩:=zg4 H
      exact⟨v,h2,λhg=>⟨f,args,λw=>W0 hv w,h1.out hg⟩⟩
     ·exact H.elim
    ·exact H.elim
  ·exact H.elim
 ·exact H.elim
def opK(P:Program)(o:Oper)(e:Env)(c:qf)(h:zb)(K:Value->Prop):Prop:=
 match o.op with
 |.pick x a b=>zwc e c x a b K
 |_=>bif xf o.op then(bif known e c o.op.operands.toList then(match za9 e c with
   |some g=>bif zhd o then z4s P o (rho e c) g h K else bif zf3 o then Zw P o (rho e c) g h K else False
   |none=>False)else False)else False
def wK(P:Program)(n:Nat)(ops:Array Oper)(h:zb)(K:Env->Prop):List Oper->Env->Prop
 |[],e=>K e
 |o::rest,e=>match zeg ops e o.guard with
  |some c=>bif yu n c o.dst then opK P o e c h λv=>wK P n ops h K rest (putO e o.dst c v)else False
  |none=>False
def YK(P:Program)(o:Oper)(a:Act)(B:World)(h:zb)(v:Value):Prop:=
 (∀d h',Keep h.size h h'->(execOp a.eval o).run P (mk B d h')=.ok (.value v) (mk B d h')) \/
 (∃f args,(∀d h',(execOp a.eval o).run P (mk B d h')=.ok (.enter f args) (mk B d h'))/\∀h1,Keep h.size h h1->XC P f args h1 λv' h'=>v'=v/\Keep h1.size h1 h')
theorem zwd{K:Value->Prop}(H:opK P o e c h K)(hs:Sat n e a)(B:World):
  ∃v,K v/\(valid (zx a) c->YK P o a B h v):=by
 unfold opK at H
 split at H
 ·rename_i x y z ho
  obtain⟨v,h1,h2⟩:=J3 hs H
  refine⟨v,h1,λhv=>?_⟩
  obtain⟨t,h3,h4⟩:=h2 hv
  refine .inl λd h' _=>?_
  simp only[execOp,ho,h3,asBool,Sem.run_bind,Sem.run_pure,Result.andThen_ok]
  rw[h4]
 ·cases hns:xf o.op with
  |false=>rw[hns]at H;exact H.elim
  |true=>
   rw[hns]at H
   cases hk:known e c o.op.operands.toList with
   |false=>rw[hk]at H;exact H.elim
   |true=>
    rw[hk]at H
    simp only[cond_true]at H
    split at H
    ·rename_i g hg
     cases hc:zhd o with
     |false=>
      rw[hc]at H
      cases hf:zf3 o with
      |false=>rw[hf]at H;exact H.elim
      |true=>
       rw[hf]at H
       obtain⟨v,h1,h2⟩:=Xy hf H
       refine⟨v,h1,λhv=>.inl λd h' O=>?_⟩
       rw[Yv hs hv hns hk]
       exact h2 (Yb hs hg hv) h' O B d
     |true=>
      rw[hc]at H
      obtain⟨v,h1,h2⟩:=zql H
      refine⟨v,h1,λhv=>?_⟩
      obtain⟨f,args,h3,h4⟩:=h2 (Yb hs hg hv)
      refine .inr ⟨f,args,λd h'=>?_,h4⟩
      rw[Yv hs hv hns hk]
      exact h3 _
    ·exact H.elim
theorem zsf{P:Program}{n:Nat}{ops:Array Oper}{h:zb}{K:Env->Prop}{Q:Act->Prop}(B:World):
  ∀(l:List Oper) (e:Env) (a:Act),wK P n ops h K l e->Sat n e a->(∀e' a',Sat n e' a'->Same (jj l) a a'->K e'->Q a')->wpQuiet P ops (λw=>∃d h',Keep h.size h h'/\w=mk B d h') Q l a
 |[],e,a,H,hs,hQ=>hQ _ _ hs (Same.refl _ _) H
 |o::rest,e,a,H,hs,hQ=>by
  unfold wK at H
  split at H
  ·rename_i c hc
   cases hd:yu n c o.dst with
   |false=>rw[hd]at H;exact H.elim
   |true=>
    rw[hd]at H
    simp only[cond_true]at H
    have hw:=Yw hs hc
    have ae:∀i,o.dst=some i->i∈jj (o::rest):=λi hi=>by simp[jj,hi]
    have aa:∀x∈jj rest,x∈jj (o::rest):=λx hx=>by
     unfold jj
     split
     ·exact Ah _ hx
     ·exact hx
    obtain⟨v,hK,hy⟩:=zwd H hs B
    have Z:∀u,(valid (zx a) c->u=v)->(¬valid (zx a) c->u=undef)->wpQuiet P ops (λw=>∃d h',Keep h.size h h'/\w=mk B d h') Q rest (a.put o.dst u):=λu h1 h2=>
     zsf B rest _ _ hK (hs.putO hd h1 h2) λe' a' q1 q2 q3=>hQ e' a' q1 ((Same.put a o.dst u ae).trans (q2.mono aa)) q3
    unfold wpQuiet
    by_cases hv:valid (zx a) c
    ·rw[if_pos (hw.2 hv)]
     refine⟨v,?_,Z v (λ_=>rfl) (λac=>absurd hv ac)⟩
     rintro w ⟨d,h0,O,rfl⟩
     unfold Oper.quietAt
     rcases hy hv with h1|⟨f,args,h1,h2⟩
     ·rw[h1 d h0 O];exact⟨rfl,rfl⟩
     ·rw[h1 d h0]
      refine⟨rfl,(h2 h0 O B d).mono ?_⟩
      rintro e' w'' ⟨v',d',h',rfl,rfl,rfl,af⟩
      exact⟨rfl,d',h',O.trans af O.size,rfl⟩
    ·rw[if_neg (λhx=>hv (hw.1 hx))]
     exact Z undef (λac=>absurd ac hv) (λ_=>rfl)
  ·exact H.elim
theorem zsg{P:Program}{n:Nat}{ops:Array Oper}{h:zb}{K:Env->Prop}{Q:Act->Prop}(B:World)(d:Nat):
  ∀(l:List Oper) (e:Env) (a:Act),wQ P n ops h false K l e->Sat n e a->(∀e' a',Sat n e' a'->Same (jj l) a a'->K e'->Q a')->wpStill P ops (mk B d h) Q l a
 |[],e,a,H,hs,hQ=>hQ _ _ hs (Same.refl _ _) H
 |o::rest,e,a,H,hs,hQ=>by
  unfold wQ at H
  split at H
  ·rename_i c hc
   cases hd:yu n c o.dst with
   |false=>rw[hd]at H;exact H.elim
   |true=>
    rw[hd]at H
    simp only[cond_true]at H
    have hw:=Yw hs hc
    have ac:∀i,o.dst=some i->i∈jj (o::rest):=λi hi=>by simp[jj,hi]
    have Z:∀x∈jj rest,x∈jj (o::rest):=λx hx=>by
     unfold jj
     split
     ·exact Ah _ hx
     ·exact hx
    obtain⟨v,hK,hy⟩:=zn8 H hs B
    have O:∀u,(valid (zx a) c->u=v)->(¬valid (zx a) c->u=undef)->wpStill P ops (mk B d h) Q rest (a.put o.dst u):=λu h1 h2=>
     zsg B d rest _ _ hK (hs.putO hd h1 h2) λe' a' q1 q2 q3=>hQ e' a' q1 ((Same.put a o.dst u ac).trans (q2.mono Z)) q3
    unfold wpStill
    by_cases hv:valid (zx a) c
    ·rw[if_pos (hw.2 hv)]
     unfold Oper.still
     rcases hy hv with h1|⟨h0,_⟩
     ·rw[h1 d,Oper.stillUpon_value];exact O v (λ_=>rfl) (λaa=>absurd hv aa)
     ·cases h0
    ·rw[if_neg (λhx=>hv (hw.1 hx))]
     exact O undef (λaa=>absurd aa hv) (λ_=>rfl)
  ·exact H.elim
end
section
variable {i n:Nat} {a b a0:Act} {o:Oper} {h h' h0:zb} {P:Program} {ρ:Operand -> Value} {ops:Array Oper} {listed:Array Bool} {tr md:Bool} {e:Env}
def memN:List Nat->Nat->Bool
 |[],_=>false
 |j::l,i=>bif Nat.beq i j then true else memN l i
theorem Zc{l:List Nat}(h:memN l i=false):i∉l:=by
 induction l with
 |nil=>simp
 |cons j l ih=>
  simp only[memN]at h
  by_cases hb:Nat.beq i j=true
  ·simp[hb]at h
  ·simp only[hb,cond_false]at h
   simp only[Ag,not_or]
   exact⟨λe=>hb (by rw[e];simp),ih h⟩
def tmpsOf:List Operand->List Nat
 |[]=>[]
 |.tmp t::l=>t::tmpsOf l
 |_::l=>tmpsOf l
def Qo(ops:Array Oper)(o:Oper):List Nat:=(match o.guard with
 |some (j,_)=>match jd ops j with
  |some g=>[g]
  |none=>[]
 |none=>[])++tmpsOf o.op.operands.toList
def xm(ops:Array Oper)(k:Nat)(S:List Nat):Nat->Bool
 |0=>true
 |p+1=>bif (match jd ops p with
  |some t=>bif memN S t then Region.waitsFor .any ops k p else true
  |none=>true)then xm ops k S p else false
theorem qn{ops:Array Oper}{k:Nat}{S:List Nat}:∀{m:Nat},xm ops k S m=true->∀p t,p<m->jd ops p=some t->t∈S->Region.waitsFor .any ops k p=true
 |0,_,p,t,hp,_,_=>by omega
 |m+1,h,p,t,hp,hd,ht=>by
  simp only[xm]at h
  cases hb:(match jd ops m with
   |some t=>bif memN S t then Region.waitsFor .any ops k m else true
   |none=>true)with
  |false=>rw[hb]at h;cases h
  |true=>
   rw[hb]at h
   rcases AX p m with h1|h1
   ·exact qn h p t h1 hd ht
   ·have:p=m:=by omega
    subst this
    rw[hd]at hb
    simp only at hb
    cases hm:memN S t with
    |false=>exact absurd ht (Zc hm)
    |true=>rw[hm]at hb;exact hb
def qo(ops:Array Oper):Nat->Bool
 |0=>true
 |j+1=>bif (match ops[j]? with
  |some o=>o.after.toList.all λe=>!(Region.binds .any e)||Nat.blt e.on j
  |none=>true)then qo ops j else false
theorem qp{ops:Array Oper}:∀{n:Nat},qo ops n=true->∀j o,j<n->ops[j]?=some o->∀e∈o.after,Region.binds .any e=true->e.on<j
 |0,_,j,_,hj,_,_,_,_=>by omega
 |n+1,h,j,o,hj,ho,e,he,hb=>by
  simp only[qo]at h
  cases hc:(match ops[n]? with
   |some o=>o.after.toList.all λe=>!(Region.binds .any e)||Nat.blt e.on n
   |none=>true)with
  |false=>rw[hc]at h;cases h
  |true=>
   rw[hc]at h
   rcases AX j n with h1|h1
   ·exact qp h j o h1 ho e he hb
   ·have:j=n:=by omega
    subst this
    rw[ho]at hc
    have:=AU.1 hc e (by simpa using he)
    rw[hb]at this
    simpa[Cq]using this
def zwe(ops:Array Oper)(d:Nat):Nat->Bool
 |0=>false
 |p+1=>bif (match jd ops p with
  |some t=>Nat.beq t d
  |none=>false)then true else zwe ops d p
def wy(ops:Array Oper):Nat->Bool
 |0=>true
 |p+1=>bif (match jd ops p with
  |some t=>!(zwe ops t p)
  |none=>true)then wy ops p else false
theorem zei{ops:Array Oper}{d:Nat}:∀{m:Nat},zwe ops d m=false->∀p,p<m->jd ops p≠some d
 |0,_,p,hp=>by omega
 |m+1,h,p,hp=>by
  simp only[zwe]at h
  cases hb:(match jd ops m with
   |some t=>Nat.beq t d
   |none=>false)with
  |true=>rw[hb]at h;cases h
  |false=>
   rw[hb]at h
   rcases AX p m with h1|h1
   ·exact zei h p h1
   ·have:p=m:=by omega
    subst this
    intro e
    rw[e]at hb
    simp at hb
theorem ym{ops:Array Oper}:∀{m:Nat},wy ops m=true->∀p q t,p<m->q<m->jd ops p=some t->jd ops q=some t->p=q
 |0,_,p,q,t,hp,_,_,_=>by omega
 |m+1,h,p,q,t,hp,hq,e1,e2=>by
  simp only[wy]at h
  cases hb:(match jd ops m with
   |some t=>!(zwe ops t m)
   |none=>true)with
  |false=>rw[hb]at h;cases h
  |true=>
   rw[hb]at h
   rcases AX p m with h1|h1 <;> rcases AX q m with h2|h2
   ·exact ym h p q t h1 h2 e1 e2
   ·have:q=m:=by omega
    subst this
    rw[e2]at hb
    simp only[Ce]at hb
    exact absurd e1 (zei hb p h1)
   ·have:p=m:=by omega
    subst this
    rw[e1]at hb
    simp only[Ce]at hb
    exact absurd e2 (zei hb q h2)
   ·omega
def zav(o:Oper):Option Bool:=match o.op with
 |.fieldAddr _ _ _=>some true
 |.indexAddr _ _ _=>some true
 |.move _=>some true
 |.assign _=>match o.after.toList with
  |[]=>some true
  |_=>none
 |.nilCheck _=>some true
 |.slice _ _ _ _ _=>some true
 |.binOp _ _ _ _ _=>some true
 |.load _ _=>some false
 |_=>none
def zh(o:Oper):Bool:=match zav o with
 |some _=>true
 |none=>false
def zq(o:Oper):Bool:=match zav o with
 |some b=>!b
 |none=>false
def heavyL:Nat->List Oper->List Nat
 |_,[]=>[]
 |k,o::l=>bif zh o then heavyL (k+1) l else k::heavyL (k+1) l
def Je(ops:Array Oper):List Nat->Bool
 |[]=>true
 |[_]=>true
 |i::j::l=>bif Region.waitsFor .any ops j i then Je ops (j::l)else false
def wn(ops:Array Oper)(i:Nat):List Nat->Bool
 |[]=>false
 |j::l=>bif Region.waitsFor .any ops j i then true else wn ops i l
def zhe(ops:Array Oper)(T:List Nat):Nat->Bool
 |0=>false
 |k+1=>bif (match ops[k]? with
  |some o=>bif zq o then !(wn ops k T)else false
  |none=>false)then true else zhe ops T k
def Zy(ops:Array Oper)(T:List Nat):Nat->Nat->Bool
 |0,k=>memN T k
 |f+1,k=>bif memN T k then true else(AZ ops.size).any λp=>bif Region.waitsFor .any ops p k then Zy ops T f p else false
def z0x(ops:Array Oper)(T:List Nat):Nat->Bool
 |0=>false
 |k+1=>bif (match ops[k]? with
  |some o=>bif zq o then !(Zy ops T ops.size k)else false
  |none=>false)then true else z0x ops T k
def zn9(tr:Bool)(ops:Array Oper)(T:List Nat)(m:Nat):Bool:=bif tr then z0x ops T m else zhe ops T m
def j8(l:List Oper):Bool:=l.all λo=>match o.guard with
 |none=>xf o.op
 |some _=>false
def Jf(ops:Array Oper):Nat->Bool
 |0=>true
 |k+1=>bif (match ops[k]? with
  |some o=>bif xm ops k (tmpsOf o.op.operands.toList) ops.size then(bif zh o then(heavyL 0 ops.toList).all λj=>!(Region.waitsFor .any ops k j)||(match jd ops j with
   |some t=>!(memN (tmpsOf o.op.operands.toList) t)
   |none=>true)else true)else false
  |none=>true)then Jf ops k else false
def mixB(ops:Array Oper):Bool:=bif j8 ops.toList then(bif qo ops ops.size then(bif wy ops ops.size then(bif Je ops (heavyL 0 ops.toList)then Jf ops ops.size else false)else false)else false)else false
def wU(P:Program)(n:Nat)(h:zb)(K:Env->Prop):List Oper->Env->Prop
 |[],e=>K e
 |o::l,e=>bif zh o then(bif yu n [] o.dst then(bif xf o.op then(bif known e [] o.op.operands.toList then Zw P o (rho e []) none h λv=>wU P n h K l (putO e o.dst [] v)else False)else False)else False)else wU P n h K l e
def wT(P:Program)(n:Nat)(ops:Array Oper)(h0:zb)(K:Env->zb->Prop)(tr:Bool):List Nat->List Nat->Env->zb->Prop
 |_,[],e,h=>K (clean e) h
 |T,j::l,e,h=>match ops[j]? with
  |some o=>bif yu n [] o.dst then opW P o e [] h λv h'=>(bif zn9 tr ops (j::T) ops.size then Keep h0.size h0 h'/\wT P n ops h0 K tr (j::T) l (putO e o.dst [] v) h' else wT P n ops h0 K tr (j::T) l (putO e o.dst [] v) h')else False
  |none=>False
def qw:Nat->List Oper->(Nat->Value)->Act->Act
 |_,[],_,a=>a
 |k,o::l,f,a=>qw (k+1) l f (bif zh o then a.put o.dst (f k)else a)
theorem y7{a b:Act}:∀{l:List Operand},(∀t∈tmpsOf l,zx a t=zx b t)->∀x∈l,a.eval x=b.eval x
 |[],_,x,hx=>by cases hx
 |y::l,h,x,hx=>by
  rcases Ag.1 hx with rfl|hx
  ·cases x with
   |tmp t=>exact h t (by simp[tmpsOf])
   |const v=>rfl
   |global g=>rfl
   |func f=>rfl
  ·refine y7 (l:=l) (λt ht=>h t ?_) x hx
   cases y <;> simp[tmpsOf,ht]
theorem y8(hs:xf o.op=true)(h:∀t∈tmpsOf o.op.operands.toList,zx a t=zx b t):execOp a.eval o=execOp b.eval o:=
 execOp_congr o (λcs b hb=>by rw[hb]at hs;cases hs) λx hx=>y7 h x (by simpa using hx)
theorem zqm{p:Addr}(e:h'[p.block]?=h[p.block]?)(i:Nat):zm h' (p.add i)=zm h (p.add i):=by
 have hb:(p.add i).block=p.block:=by unfold Af;split <;> rfl
 unfold zm;rw[hb,e]
theorem zcr{h h':zb}{p:Addr}(e:h'[p.block]?=h[p.block]?):∀{vs:List Value} {i:Nat},ze h p i vs->ze h' p i vs
 |[],_,_=>trivial
 |v::vs,i,⟨h1,h2⟩=>⟨(zqm e i).trans h1,zcr e h2⟩
theorem zqn{t:TypeId}{x:Value}{K:Value->Prop}(H:zlx P h t x none K):∃v p,x=.pointer (some p)/\K v/\∀h',h'[p.block]?=h[p.block]?->QExec P (DV t x) h' v:=by
 unfold zlx at H
 split at H
 ·rename_i q a hv
  obtain⟨x,h1,h2⟩:=H
  refine⟨_,q,rfl,h2,λh' e=>zco hv ?_⟩
  have h1:zm h q=some _:=h1
  unfold zm at h1 ⊢
  rw[e];exact h1
 ·rename_i q l hv
  obtain⟨vs,h0,⟨h1,h2⟩,_⟩:=Q5 H (wl l)
  exact⟨_,q,rfl,h2,λh' e=>zcp hv h0 (zcr e h1)⟩
 ·exact H.elim
def LdOK(o:Oper)(ρ:Operand->Value)(h h':zb):Prop:=zq o=false\/Keep h.size h h'\/∀t a p,o.op=.load t a->ρ a=.pointer (some p)->h'[p.block]?=h[p.block]?
theorem LdOK.congr{ρ ρ':Operand->Value}(e:∀x∈o.op.operands.toList,ρ' x=ρ x)(H:LdOK o ρ h h'):LdOK o ρ' h h':=by
 rcases H with H|H|H
 ·exact .inl H
 ·exact .inr (.inl H)
 ·refine .inr (.inr λt a p ho hp=>H t a p ho ?_)
  rw[<-e a (by rw[ho];simp[Op.operands])];exact hp
theorem Xz(hq:zh o=true){K:Value->Prop}(H:Zw P o ρ none h K):
  ∃v,K v/\∀h',LdOK o ρ h h'->QExec P (execOp ρ o) h' (.value v):=by
 cases ho:o.op with
 |load t x=>
  have O:zf3 o=true:=by unfold zf3;rw[ho]
  obtain⟨v1,k1,k2⟩:=Xy O H
  unfold Zw at H;rw[ho]at H
  simp only at H
  obtain⟨v,p,hx,h1,h2⟩:=zqn H
  have hv:v1=v:=by
   have a1:=k2 trivial h (Keep.refl _ _) default 0
   have a2:QExec P (execOp ρ o) h (.value v):=by simp only[execOp,ho];exact(h2 h rfl).val
   have a2:=a2 default 0
   rw[a1]at a2
   injection a2 with a2 _
   injection a2
  subst hv
  refine⟨v1,k1,λh' hk=>?_⟩
  rcases hk with hk|hk|hk
  ·unfold zq zav at hk;rw[ho]at hk;cases hk
  ·exact k2 trivial h' hk
  ·have:=h2 h' (hk t x p ho hx)
   simp only[execOp,ho]
   exact this.val
 |fieldAddr t x i=>
  unfold Zw at H;rw[ho]at H
  obtain⟨v,h1,h2⟩:=zy H none
  exact⟨v,h1,λh' _=>h2 trivial h'⟩
 |indexAddr t x i=>
  unfold Zw at H;rw[ho]at H
  simp only at H
  cases he:W5 P t with
  |false=>rw[he]at H;exact H.elim
  |true=>
   rw[he]at H
   obtain⟨v,h1,h2⟩:=Zb (xz he) H
   refine⟨v,h1,λh' _=>?_⟩
   simp only[execOp,ho]
   exact(h2 trivial h').val
 |move x=>
  unfold Zw at H;rw[ho]at H
  obtain⟨v,h1,h2⟩:=zy H none
  exact⟨v,h1,λh' _=>h2 trivial h'⟩
 |assign x=>
  unfold Zw at H;rw[ho]at H
  obtain⟨v,h1,h2⟩:=zy H none
  exact⟨v,h1,λh' _=>h2 trivial h'⟩
 |slice t x lo hi mx=>
  unfold Zw at H;rw[ho]at H
  simp only at H
  cases he:W5 P t with
  |false=>rw[he]at H;exact H.elim
  |true=>
   rw[he]at H
   obtain⟨v,h1,h2⟩:=Yx (λel Z=>xz he el (Or.inl Z)) H
   refine⟨v,h1,λh' _=>?_⟩
   simp only[execOp,ho]
   exact(h2 (show gok none from trivial) h').val
 |binOp op t x y t'=>
  unfold Zw at H;rw[ho]at H
  obtain⟨v,h1,h2⟩:=zgo ho H
  exact⟨v,h1,λh' _=>h2 trivial h'⟩
 |nilCheck x=>
  unfold Zw at H;rw[ho]at H
  simp only at H
  unfold qaq at H
  split at H
  ·rename_i p hx
   obtain⟨a,h1,h2⟩:=H
   have hp:=h1.out (g:=none) trivial
   subst hp
   refine⟨_,h2,λh' _ B d=>?_⟩
   simp only[execOp,ho,hx]
   rfl
  ·obtain⟨v,h1,h2⟩:=zy H none
   exact⟨v,h1,λh' _=>h2 trivial h'⟩
 |_=>unfold zh zav at hq;rw[ho]at hq;cases hq
theorem qk(σ:Nat->Value):valid σ []:=by unfold valid;trivial
theorem Q6:∀{l:List Oper} {k:Nat} {f:Nat->Value} {a:Act},(qw k l f a).tmps.size=a.tmps.size/\(qw k l f a).defers=a.defers
 |[],_,_,_=>⟨rfl,rfl⟩
 |o::l,k,f,a=>by
  unfold qw
  have:=Q6 (l:=l) (k:=k+1) (f:=f) (a:=bif zh o then a.put o.dst (f k)else a)
  rw[this.1,this.2]
  cases zh o with
  |true=>exact⟨size_put _ _ _,qh _ _ _⟩
  |false=>exact⟨rfl,rfl⟩
theorem zr{d:Option Nat}{u:Value}{s:Nat}(h:d≠some s):zx (a.put d u) s=zx a s:=by
 cases d with
 |none=>rfl
 |some t=>exact qt λe=>h (by rw[e])
theorem yv{s:Nat}:∀{l:List Oper} {k:Nat} {f:Nat->Value} {a:Act},(∀o∈l,zh o=true->o.dst≠some s)->zx (qw k l f a) s=zx a s
 |[],_,_,_,_=>rfl
 |o::l,k,f,a,h=>by
  unfold qw
  rw[yv λo' O=>h o' (Ah _ O)]
  cases hq:zh o with
  |true=>exact zr (h o Aq hq)
  |false=>rfl
theorem Yy{P:Program}{n:Nat}{h:zb}{K:Env->Prop}:∀{l:List Oper} {k:Nat} {e:Env} {a:Act},wU P n h K l e->Sat n e a->∃(f:Nat->Value) (e':Env),K e'/\Sat n e' (qw k l f a) /\
  ∀i o,l[i]?=some o->zh o=true->xf o.op=true/\yu n [] o.dst=true/\∀h',LdOK o (qw k (l.take i) f a).eval h h'->QExec P (execOp (qw k (l.take i) f a).eval o) h' (.value (f (k+i)))
 |[],k,e,a,H,hs=>⟨λ_=>undef,e,H,hs,λi o h=>by simp at h⟩
 |o::l,k,e,a,H,hs=>by
  unfold wU at H
  cases hq:zh o with
  |false=>
   rw[hq]at H
   obtain⟨f,e',h1,h2,h3⟩:=Yy (k:=k+1) H hs
   refine⟨f,e',h1,by unfold qw;rw[hq];exact h2,λi o' hi O=>?_⟩
   cases i with
   |zero=>simp at hi;subst hi;rw[hq]at O;cases O
   |succ i=>
    have:=h3 i o' (by simpa using hi) O
    rw[B4]
    unfold qw
    rw[hq,show k+(i+1)=k+1+i by omega];exact this
  |true=>
   rw[hq]at H
   simp only[cond_true]at H
   cases hd:yu n [] o.dst with
   |false=>rw[hd]at H;exact H.elim
   |true=>
    rw[hd]at H
    simp only[cond_true]at H
    cases hns:xf o.op with
    |false=>rw[hns]at H;exact H.elim
    |true=>
     rw[hns]at H
     simp only[cond_true]at H
     cases hk:known e [] o.op.operands.toList with
     |false=>rw[hk]at H;exact H.elim
     |true=>
      rw[hk]at H
      simp only[cond_true]at H
      obtain⟨v,H1,H2⟩:=Xz hq H
      obtain⟨f,e',h1,h2,h3⟩:=Yy (k:=k+1) (a:=a.put o.dst v) H1 (hs.putO hd (λ_=>rfl) λhv=>absurd (qk _) hv)
      have hf:∀(m:List Oper) (j:Nat) (b:Act),qw (k+1+j) m (λx=>if x=k then v else f x) b=qw (k+1+j) m f b:=by
       intro m
       induction m with
       |nil=>intro j b;rfl
       |cons o' m ih=>
        intro j b
        unfold qw
        dsimp only
        rw[if_neg (show¬k+1+j=k by omega),show k+1+j+1=k+1+(j+1)by omega,ih]
      refine⟨λx=>if x=k then v else f x,e',h1,?_,λi o' hi O=>?_⟩
      ·unfold qw
       rw[hq,cond_true]
       dsimp only
       rw[if_pos rfl]
       have:=hf l 0 (a.put o.dst v)
       rw[CX]at this
       rw[this];exact h2
      ·cases i with
       |zero=>
        simp at hi;subst hi
        rw[Cr,CX]
        dsimp only
        rw[if_pos rfl]
        refine⟨hns,hd,λh' hh=>?_⟩
        show QExec P (execOp a.eval o) h' _
        rw[Yv hs (qk _) hns hk]
        exact H2 h' (LdOK.congr (λx hx=>(xy hs (qk _) hk x hx).symm) hh)
       |succ i=>
        have:=h3 i o' (by simpa using hi) O
        rw[B4]
        unfold qw
        rw[hq,cond_true]
        dsimp only
        rw[if_pos rfl]
        have e2:=hf (l.take i) 0 (a.put o.dst v)
        rw[CX]at e2
        rw[e2,if_neg (show¬k+(i+1)=k by omega),show k+(i+1)=k+1+i by omega]
        exact this
theorem Jg{next:Act->World->Prop}{Q:Exit->Act->World->Prop}{r:Result Next}(hb:b.defers=[])
  (H:o.upon P b (λc w=>c.defers=[]/\∀v,c=b.put o.dst v->next (a.put o.dst v) w) (λ_ _ _=>False) r):o.upon P a next Q r:=by
 have lo:¬LetsOut (λ(_:Exit) (_:Act) (_:World)=>False):=λh=>by
  obtain⟨_,_,h⟩:=h
  exact h
 cases r with
 |ok x w=>
  cases x with
  |value v=>exact H.2 v rfl
  |skip=>exact H.2 undef rfl
  |defer d=>
   have:=H.1
   rw[qh]at this;cases this
  |enter f args=>
   refine Calls.mono (show Calls P f args w _ from H) λe w' he=>?_
   cases e with
   |returned v=>exact he.2 v rfl
   |panicked c=>exact he.elim
   |outgrown=>exact absurd he lo
  |row row args=>exact Rows.mono (show Rows P row args w _ from H) λv w' he=>he.2 v rfl
  |_=>exact H
 |halt x w=>cases x <;> first|exact H.elim|exact H
theorem ye{j:Nat}:∀{l:List Oper} {k:Nat},j∈heavyL k l↔k<=j/\∃o,l[j-k]?=some o/\zh o=false
 |[],k=>by simp[heavyL]
 |o::l,k=>by
  unfold heavyL
  cases hq:zh o with
  |true=>
   rw[cond_true,ye (l:=l)]
   constructor
   ·rintro⟨h1,o',h2,h3⟩
    exact⟨by omega,o',by rw[show j-k=(j-(k+1))+1 by omega];simpa using h2,h3⟩
   ·rintro⟨h1,o',h2,h3⟩
    rcases Dn h1 with e|e
    ·subst e
     simp at h2;subst h2;rw[hq]at h3;cases h3
    ·exact⟨by omega,o',by rw[show j-k=(j-(k+1))+1 by omega]at h2;simpa using h2,h3⟩
  |false=>
   rw[cond_false,Ag,ye (l:=l)]
   constructor
   ·rintro(rfl|⟨h1,o',h2,h3⟩)
    ·exact⟨Ae _,o,by simp,hq⟩
    ·exact⟨by omega,o',by rw[show j-k=(j-(k+1))+1 by omega];simpa using h2,h3⟩
   ·rintro⟨h1,o',h2,h3⟩
    rcases Dn h1 with e|e
    ·exact .inl e.symm
    ·exact .inr ⟨by omega,o',by rw[show j-k=(j-(k+1))+1 by omega]at h2;simpa using h2,h3⟩
theorem y5:∀{l:List Oper} {k:Nat},(heavyL k l).Nodup
 |[],_=>Ea
 |o::l,k=>by
  unfold heavyL
  cases zh o with
  |true=>exact y5
  |false=>exact Cv.2 ⟨λh=>by have:=(ye.1 h).1;omega,y5⟩
theorem yc{ops:Array Oper}:∀{m:Nat},Jf ops m=true->∀k o,k<m->ops[k]?=some o->xm ops k (tmpsOf o.op.operands.toList) ops.size=true/\(zh o=true->∀j∈heavyL 0 ops.toList,Region.waitsFor .any ops k j=true->∀t,jd ops j=some t->t∉tmpsOf o.op.operands.toList)
 |0,_,k,o,hk,_=>by omega
 |m+1,h,k,o,hk,ho=>by
  unfold Jf at h
  split at h
  ·rename_i o' O
   cases hs:xm ops m (tmpsOf o'.op.operands.toList) ops.size with
   |false=>rw[hs]at h;cases h
   |true=>
    rw[hs,cond_true]at h
    rcases AX k m with h1|h1
    ·refine yc (m:=m) ?_ k o h1 ho
     revert h
     cases(bif zh o' then(heavyL 0 ops.toList).all λj=>!(Region.waitsFor .any ops m j)||(match jd ops j with
      |some t=>!(memN (tmpsOf o'.op.operands.toList) t)
      |none=>true)else true) <;> intro h <;> first|exact h|cases h
    ·have:k=m:=by omega
     subst this
     have:o'=o:=Aw (O.symm.trans ho)
     subst this
     refine⟨hs,λhq j hj hw t ht=>?_⟩
     rw[hq,cond_true]at h
     cases hall:(heavyL 0 ops.toList).all λj=>!(Region.waitsFor .any ops k j)||(match jd ops j with
      |some t=>!(memN (tmpsOf o'.op.operands.toList) t)
      |none=>true)with
     |false=>rw[hall]at h;cases h
     |true=>
      have:=AU.1 hall j hj
      rw[hw,ht]at this
      simp only[Bool.not_true,DZ,Ce]at this
      exact Zc this
  ·rename_i O
   rw[cond_true]at h
   rcases AX k m with h1|h1
   ·exact yc h k o h1 ho
   ·have:k=m:=by omega
    subst this
    rw[O]at ho;cases ho
theorem Yc{ops:Array Oper}:∀{l:List Nat},Je ops l=true->∀q i j,l[q]?=some i->l[q+1]?=some j->Region.waitsFor .any ops j i=true
 |[],_,q,i,j,h,_=>by simp at h
 |[_],_,q,i,j,_,h=>by simp at h
 |a::b::l,h,q,i,j,h1,h2=>by
  unfold Je at h
  cases hw:Region.waitsFor .any ops b a with
  |false=>rw[hw]at h;cases h
  |true=>
   rw[hw,cond_true]at h
   cases q with
   |zero=>simp at h1 h2;subst h1;subst h2;exact hw
   |succ q=>exact Yc h q i j (by simpa using h1) (by simpa using h2)
theorem Zd{ops:Array Oper}{i:Nat}:∀{l:List Nat},wn ops i l=true->∃j∈l,Region.waitsFor .any ops j i=true
 |[],h=>by cases h
 |j::l,h=>by
  unfold wn at h
  cases hw:Region.waitsFor .any ops j i with
  |true=>exact⟨j,Aq,hw⟩
  |false=>
   rw[hw,cond_false]at h
   obtain⟨j',h1,h2⟩:=Zd h
   exact⟨j',Ah _ h1,h2⟩
theorem Jh{ops:Array Oper}{T:List Nat}:∀{m:Nat},zhe ops T m=false->∀k o,k<m->ops[k]?=some o->zq o=true->wn ops k T=true
 |0,_,k,o,hk,_,_=>by omega
 |m+1,h,k,o,hk,ho,hl=>by
  unfold zhe at h
  cases hb:(match ops[m]? with
   |some o=>bif zq o then !(wn ops m T)else false
   |none=>false)with
  |true=>rw[hb]at h;cases h
  |false=>
   rw[hb,cond_false]at h
   rcases AX k m with h1|h1
   ·exact Jh h k o h1 ho hl
   ·have:k=m:=by omega
    subst this
    rw[ho]at hb
    simp only[hl,cond_true,Bool.not_eq_false']at hb
    exact hb
theorem Z1{ops:Array Oper}{T:List Nat}:∀{f k:Nat},Zy ops T f k=true->∀{listed:Array Bool},(∀i p,listed.getD i false=true->Region.waitsFor .any ops i p=true->listed.getD p false=true)->(∀j∈T,listed.getD j false=true)->listed.getD k false=true
 |0,k,h,_,_,hT=>by
  have hm:k∈T:=by
   unfold Zy at h
   exact Classical.byContradiction λhc=>by
    have:memN T k=false:=by
     clear h hT
     induction T with
     |nil=>rfl
     |cons x T ih=>
      simp only[Ag,not_or]at hc
      simp only[memN]
      have:Nat.beq k x=false:=by
       cases hb:Nat.beq k x with
       |false=>rfl
       |true=>exact absurd (Ak hb) hc.1
      rw[this,cond_false];exact ih hc.2
    rw[this]at h;cases h
  exact hT k hm
 |f+1,k,h,listed,hc,hT=>by
  unfold Zy at h
  cases hm:memN T k with
  |true=>exact Z1 (f:=0) (k:=k) (by unfold Zy;exact hm) hc hT
  |false=>
   rw[hm,cond_false,List.any_eq_true]at h
   obtain⟨p,_,hp⟩:=h
   cases hw:Region.waitsFor .any ops p k with
   |false=>rw[hw]at hp;cases hp
   |true=>rw[hw,cond_true]at hp;exact hc p k (Z1 hp hc hT) hw
theorem zej{ops:Array Oper}{T:List Nat}:∀{m:Nat},z0x ops T m=false->∀k o,k<m->ops[k]?=some o->zq o=true->Zy ops T ops.size k=true
 |0,_,k,o,hk,_,_=>by omega
 |m+1,h,k,o,hk,ho,hl=>by
  unfold z0x at h
  cases hb:(match ops[m]? with
   |some o=>bif zq o then !(Zy ops T ops.size m)else false
   |none=>false)with
  |true=>rw[hb]at h;cases h
  |false=>
   rw[hb,cond_false]at h
   rcases AX k m with h1|h1
   ·exact zej h k o h1 ho hl
   ·have:k=m:=by omega
    subst this
    rw[ho]at hb
    simp only[hl,cond_true]at hb
    simpa using hb
theorem Ze{i p:Nat}(hi:i∈Region.ready .any ops listed)(hw:Region.waitsFor .any ops i p=true):listed.getD p false=true:=by
 obtain⟨oj,Z,e,he,hb,aa⟩:=Region.waitsFor_spec hw
 obtain⟨_,o,ho,O⟩:=mem_ready.1 hi
 have:oj=o:=Aw (Z.symm.trans ho)
 subst this
 rw[<-aa];exact O e he hb
theorem yf(inv:HeadInv .any ops n listed){i p:Nat}(hi:listed.getD i false=true)(hw:Region.waitsFor .any ops i p=true):listed.getD p false=true:=by
 obtain⟨oj,O,e,he,hb,Z⟩:=Region.waitsFor_spec hw
 rw[<-Z];exact inv.closed i oj O hi e he hb
theorem Yd{p:Nat->Bool}{N:Nat}(h:∃k,k<N/\p k=false):∃k,k<N/\p k=false/\∀j,j<k->p j=true:=by
 obtain⟨k,h1,h2⟩:=h
 induction k using Nat.strongRecOn with
 |_ k ih=>
  by_cases hm:∃j,j<k/\p j=false
  ·obtain⟨j,h3,h4⟩:=hm
   exact ih j h3 (by omega) h4
  ·exact⟨k,h1,h2,λj hj=>by
    cases hb:p j with
    |true=>rfl
    |false=>exact absurd ⟨j,hj,hb⟩ hm⟩
theorem W7(h:mixB ops=true):j8 ops.toList=true/\qo ops ops.size=true/\wy ops ops.size=true/\Je ops (heavyL 0 ops.toList)=true/\Jf ops ops.size=true:=by
 unfold mixB at h
 cases h1:j8 ops.toList <;> cases h2:qo ops ops.size <;> cases h3:wy ops ops.size <;> cases h4:Je ops (heavyL 0 ops.toList) <;> simp[h1,h2,h3,h4]at h ⊢
 exact h
theorem Zo{l:List Oper}(h:j8 l=true):∀o∈l,o.guard=none/\xf o.op=true:=by
 intro o ho
 have:=AU.1 h o ho
 cases hg:o.guard with
 |none=>rw[hg]at this;exact⟨rfl,this⟩
 |some g=>rw[hg]at this;cases this
theorem Zf:∀{l m:List Oper} {k:Nat} {f:Nat->Value} {a:Act},qw k (l++m) f a=qw (k+l.length) m f (qw k l f a)
 |[],m,k,f,a=>rfl
 |o::l,m,k,f,a=>by
  have e:∀l',qw k (o::l') f a=qw (k+1) l' f (bif zh o then a.put o.dst (f k)else a):=λ_=>rfl
  rw[Be,e,e,Zf,show k+1+l.length=k+(o::l).length by simp;omega]
theorem toL(ho:ops[i]?=some o):ops.toList[i]?=some o:=by rw[AN];exact ho
theorem ofL(ho:ops.toList[i]?=some o):ops[i]?=some o:=by rw[AN]at ho;exact ho
structure StM (P:Program) (n:Nat) (ops:Array Oper) (h0:zb) (K:Env->zb->Prop) (tr:Bool) (f:Nat->Value) (a0:Act) (listed:Array Bool) (a b:Act) (e:Env) (h:zb) (done todo:List Nat):Prop where
 inv:HeadInv .any ops ops.size listed
 ag:∀s,(∀i o,ops[i]?=some o->zh o=true->listed.getD i false=false->o.dst≠some s)->zx a s=zx b s
 sz:a.tmps.size=n
 ad:a.defers=[]
 sb:Sat n e b
 qv:∀i o t,ops[i]?=some o->zh o=true->o.dst=some t->zx b t=f i/\t<n
 qx:∀i o,ops[i]?=some o->zh o=true->∀h',(zq o=false\/Keep h0.size h0 h')->QExec P (execOp b.eval o) h' (.value (f i))
 tt:heavyL 0 ops.toList=done.reverse++todo
 ch:∀j,j∈heavyL 0 ops.toList->(listed.getD j false=true↔j∈done)
 wt:wT P n ops h0 K tr done todo e h
 kp:∀i o,ops[i]?=some o->zq o=true->listed.getD i false=false->Keep h0.size h0 h
 sm:Same (jj ops.toList) a0 a
theorem Z6{o:Oper}:∀{l:List Oper},o∈l->∀i,o.dst=some i->i∈jj l
 |[],h,_,_=>by cases h
 |x::l,h,i,hi=>by
  unfold jj
  rcases Ag.1 h with rfl|h
  ·rw[hi];exact Aq
  ·have:=Z6 h i hi
   split
   ·exact Ah _ this
   ·exact this
theorem zp{k:Nat}(h:ops[k]?=some o):jd ops k=o.dst:=by simp[jd,h]
theorem zqo{K:Env->zb->Prop}{Q:Exit->Act->World->Prop}(B:World)(a1:mixB ops=true){f:Nat->Value}
  (hQ:∀e' a' d' h',Sat n e' a'->Same (jj ops.toList) a0 a'->K e' h'->Q .normal a' (mk B d' h')):
  ∀(N:Nat) (U:List Nat) (listed:Array Bool) (a b:Act) (e:Env) (h:zb) (d:Nat) (done todo:List Nat),U.length=N->U.Nodup->(∀k,k∈U↔k<ops.size/\listed.getD k false=false) ->
   StM P n ops h0 K tr f a0 listed a b e h done todo->wpAny P .any ops Q N listed a (mk B d h):=by
 obtain⟨bm,aM,bo,ap,am⟩:=W7 a1
 have aZ:∀(i:Nat) (o:Oper),ops[i]?=some o->o.guard=none/\xf o.op=true:=λi o ho=>Zo bm o (by
  obtain⟨aa,e⟩:=Ac.1 ho
  rw[<-e];simp)
 have bn:∀{listed:Array Bool} {a b:Act} {e:Env} {h:zb} {d:Nat} {done todo:List Nat},(∀k,k<ops.size->listed.getD k false=true)->StM P n ops h0 K tr f a0 listed a b e h done todo->Q .normal a (mk B d h):=by
  intro listed a b e h d done todo ac S
  have aj:todo=[]:=by
   cases todo with
   |nil=>rfl
   |cons j l=>
    have hj:j∈heavyL 0 ops.toList:=by rw[S.tt];simp
    have aa:j<ops.size:=by
     obtain⟨_,o,ho,_⟩:=ye.1 hj
     have:=(Ax.1 ho).1
     simpa using this
    have hd:=(S.ch j hj).1 (ac j aa)
    have hn:=y5 (l:=ops.toList) (k:=0)
    rw[S.tt,A0]at hn
    exact absurd rfl (hn.2.2 j (by simpa using hd) j (by simp))
  have hw:=S.wt
  rw[aj]at hw
  unfold wT at hw
  have hv:∀s,zx a s=zx b s:=λs=>S.ag s λi o ho hq hl=>by
   rw[ac i (Ac.1 ho).1]at hl;cases hl
  have hs:Sat n e a:=⟨S.ad,S.sz,λx hx=>by
   have:=S.sb.all x hx
   have e1:zx a=zx b:=funext hv
   rw[e1];exact this⟩
  exact hQ _ _ _ _ hs.clean S.sm hw
 intro N
 induction N with
 |zero=>
  intro U listed a b e h d done todo hU _ af S
  have bE:U=[]:=B6.1 hU
  subst bE
  have ac:∀k,k<ops.size->listed.getD k false=true:=λk hk=>by
   cases hb:listed.getD k false with
   |true=>rfl
   |false=>exact absurd ((af k).2 ⟨hk,hb⟩) (by simp)
  refine⟨?_,bn ac S⟩
  rw[CB]
  intro j hj
  obtain⟨h1,o,ho,_⟩:=mem_ready.1 hj
  have aa:=(Ac.1 ho).1
  have:=ac j aa
  have h2:=getD_both h1
  rw[this]at h2;cases h2
 |succ N ih=>
  intro U listed a b e h d done todo hU aH af S
  have bH:∃k,k<ops.size/\listed.getD k false=false:=by
   cases U with
   |nil=>cases hU
   |cons k U=>exact⟨k,(af k).1 Aq⟩
  refine⟨λhr=>?_,λi hi=>?_⟩
  ·exfalso
   obtain⟨k,aB,aP,bq⟩:=Yd bH
   have:k∈Region.ready .any ops listed:=mem_ready.2 ⟨by rw[<-aP];simp[S.inv.size,aB],ops[k],AP aB,λx hx hb=>bq _ (qp aM k ops[k] aB (AP aB) x hx hb)⟩
   rw[hr]at this;cases this
  ·obtain⟨a6,o,ho,ac⟩:=mem_ready.1 hi
   have ax:listed.getD i false=false:=getD_both a6
   have aa:i<ops.size:=(Ac.1 ho).1
   obtain⟨hg,bp⟩:=aZ i o ho
   have aG:i<listed.size:=by rw[S.inv.size];exact aa
   have ba:(U.erase i).length=N:=by rw[CF ((af i).2 ⟨aa,ax⟩),hU];rfl
   have al:(U.erase i).Nodup:=aH.erase i
   have an:∀k,k∈U.erase i↔k<ops.size/\(listed.setIfInBounds i true).getD k false=false:=λk=>by
    rw[aH.mem_erase_iff,af k]
    by_cases hk:i=k
    ·subst hk;simp[aG]
    ·rw[getD_set_ne false hk];exact⟨λhx=>hx.2,λhx=>⟨λe=>hk e.symm,hx⟩⟩
   have ak:=S.inv.set hi aa
   have ae:∀k,k≠i->(listed.setIfInBounds i true).getD k false=listed.getD k false:=λk hk=>getD_set_ne false (Ne.symm hk)
   have ai:(listed.setIfInBounds i true).getD i false=true:=by simp[aG]
   obtain⟨ar,bI⟩:=yc am i o aa ho
   have aY:∀t∈tmpsOf o.op.operands.toList,zx a t=zx b t:=λt ht=>S.ag t λk ok O hq hl hd=>by
    have hw:=qn ar k t (Ac.1 O).1 (by rw[zp O,hd]) ht
    rw[Ze hi hw]at hl;cases hl
   have aQ:=y8 bp aY
   unfold wpOp
   rw[ho]
   simp only
   have aO:BF o (yielded ops a.tmps)=true:=by unfold BF;rw[hg]
   rw[if_pos aO]
   left
   unfold Oper.wp
   rw[aQ]
   cases hq:zh o with
   |true=>
    have hx:=S.qx i o ho hq h (by
     cases hl:zq o with
     |false=>exact .inl rfl
     |true=>exact .inr (S.kp i o ho hl ax)) B d
    rw[hx,Oper.upon_value]
    have bh:i∉heavyL 0 ops.toList:=λhm=>by
     obtain⟨_,o',bc,aV⟩:=ye.1 hm
     rw[BK]at bc
     have:o'=o:=by
      have h2:ops[i]?=some o':=ofL bc
      exact Aw (h2.symm.trans ho)
     subst this;rw[hq]at aV;cases aV
    refine ih _ _ _ b e h d done todo ba al an { S with inv:=ak,ag:=λs hs=>?_,sz:=by rw[size_put];exact S.sz,ad:=by rw[qh];exact S.ad,ch:=λj hj=>?_,kp:=λk ok O hl hk=>?_,sm:=S.sm.trans (Same.put a o.dst _ λt ht=>Z6 (by
     obtain⟨bA,e2⟩:=Ac.1 ho
     rw[<-e2];simp) t ht) }
    ·by_cases hd:o.dst=some s
     ·obtain⟨hv,az⟩:=S.qv i o s ho hq hd
      rw[hd,yg (by rw[S.sz];exact az),hv]
     ·rw[zr hd]
      refine S.ag s λk ok O Z aT=>?_
      by_cases ah:k=i
      ·subst ah
       have:ok=o:=Aw (O.symm.trans ho)
       subst this;exact hd
      ·exact hs k ok O Z (by rw[ae k ah];exact aT)
    ·have:j≠i:=λe=>bh (e ▸ hj)
     rw[ae j this];exact S.ch j hj
    ·by_cases ah:k=i
     ·subst ah;rw[ai]at hk;cases hk
     ·rw[ae k ah]at hk;exact S.kp k ok O hl hk
   |false=>
    have aN:i∈heavyL 0 ops.toList:=ye.2 ⟨BP _,o,by rw[BK];exact toL ho,hq⟩
    have aE:=y5 (l:=ops.toList) (k:=0)
    have aC:i∉done:=λhd=>by rw[(S.ch i aN).2 hd]at ax;cases ax
    have aj:∃rest,todo=i::rest:=by
     have a7:i∈todo:=by
      have:=aN
      rw[S.tt,Am]at this
      rcases this with h1|h1
      ·exact absurd (by simpa using h1) aC
      ·exact h1
     cases todo with
     |nil=>cases a7
     |cons j rest=>
      rcases Ag.1 a7 with rfl|hr
      ·exact⟨rest,rfl⟩
      ·exfalso
       obtain⟨m,hm,em⟩:=A7 hr
       have hp:∃pr,(j::rest)[m]?=some pr:=⟨_,Aj (by simp;omega)⟩
       obtain⟨pr,bj⟩:=hp
       have hw:=Yc ap (done.reverse.length+m) pr i (by rw[S.tt,Bl (by omega),Nat.add_sub_cancel_left];exact bj) (by
        rw[S.tt,Bl (by omega),show done.reverse.length+m+1-done.reverse.length=m+1 by omega,List.getElem?_cons_succ,Aj hm,em])
       have aF:pr∈j::rest:=CM bj
       have a8:pr∈heavyL 0 ops.toList:=by rw[S.tt];exact Ay _ aF
       have hd:=(S.ch pr a8).1 (Ze hi hw)
       rw[S.tt,A0]at aE
       exact aE.2.2 pr (by simpa using hd) pr aF rfl
    obtain⟨rest,rfl⟩:=aj
    have hW:=S.wt
    unfold wT at hW
    rw[ho]at hW
    simp only at hW
    cases hd:yu n [] o.dst with
    |false=>rw[hd]at hW;exact hW.elim
    |true=>
     rw[hd,cond_true]at hW
     refine Jg (b:=b) S.sb.defers ?_
     refine zhc hW S.sb (qk _) B d λv d' h' hK=>⟨by rw[qh];exact S.sb.defers,λv2 bB=>?_⟩
     have bF:b.put o.dst v2=b.put o.dst v:=bB.symm
     have ay:∀j,j∈heavyL 0 ops.toList->((listed.setIfInBounds i true).getD j false=true↔j∈i::done):=λj hj=>by
      by_cases aS:j=i
      ·subst aS;rw[ai];simp
      ·rw[ae j aS,S.ch j hj];simp[aS]
     have aI:zn9 tr ops (i::done) ops.size=false->∀k ok,ops[k]?=some ok->zq ok=true->(listed.setIfInBounds i true).getD k false=true:=λhl k ok O aD=>by
      have aU:∀j∈i::done,(listed.setIfInBounds i true).getD j false=true:=λj hj=>by
       rcases Ag.1 hj with rfl|hj
       ·exact ai
       ·exact getD_set_true ((S.ch j (by rw[S.tt];simp[hj])).2 hj)
      cases tr with
      |false=>
       obtain⟨j,hj,hw⟩:=Zd (Jh hl k ok (Ac.1 O).1 O aD)
       exact yf ak (aU j hj) hw
      |true=>exact Z1 (zej hl k ok (Ac.1 O).1 O aD) (λi p h1 h2=>yf ak h1 h2) aU
     have be:wT P n ops h0 K tr (i::done) rest (putO e o.dst [] v) h'/\(∀k ok,ops[k]?=some ok->zq ok=true->(listed.setIfInBounds i true).getD k false=false->Keep h0.size h0 h'):=by
      cases hl:zn9 tr ops (i::done) ops.size with
      |true=>rw[hl,cond_true]at hK;exact⟨hK.2,λ_ _ _ _ _=>hK.1⟩
      |false=>rw[hl,cond_false]at hK;exact⟨hK,λk ok O aD hf=>by rw[aI hl k ok O aD]at hf;cases hf⟩
     have aJ:∀k ok t,ops[k]?=some ok->zh ok=true->ok.dst=some t->o.dst≠some t:=λk ok t O Z aA au=>by
      have:=ym bo k i t (Ac.1 O).1 aa (by rw[zp O,aA]) (by rw[zp ho,au])
      subst this
      have:ok=o:=Aw (O.symm.trans ho)
      subst this;rw[hq]at Z;cases Z
     refine ih _ _ _ (b.put o.dst v) (putO e o.dst [] v) h' d' (i::done) rest ba al an ⟨ak,λs hs=>?_,by rw[size_put];exact S.sz,by rw[qh];exact S.ad,S.sb.putO hd (λ_=>rfl) λhv=>absurd (qk _) hv,λk ok t O Z aA=>?_,λk ok O Z bu hh=>?_,by rw[S.tt];simp,ay,be.1,be.2,S.sm.trans (Same.put a o.dst _ λt ht=>Z6 (by
      obtain⟨bA,e2⟩:=Ac.1 ho
      rw[<-e2];simp) t ht)⟩
     ·have bD:∀u,(∀k ok,ops[k]?=some ok->zh ok=true->listed.getD k false=false->ok.dst≠some s)->o.dst≠some s->zx (a.put o.dst u) s=zx (b.put o.dst v) s:=λu h1 h2=>by
       rw[zr h2,zr h2];exact S.ag s h1
      have bG:∀k ok,ops[k]?=some ok->zh ok=true->listed.getD k false=false->ok.dst≠some s:=λk ok O Z aT=>by
       by_cases ah:k=i
       ·subst ah
        have:ok=o:=Aw (O.symm.trans ho)
        subst this;rw[hq]at Z;cases Z
       ·exact hs k ok O Z (by rw[ae k ah];exact aT)
      by_cases aL:o.dst=some s
      ·rw[<-bF,aL]
       have az:s<n:=by
        rw[aL]at hd
        unfold yu at hd
        simp at hd;exact hd.2
       rw[yg (by rw[S.sz];exact az),yg (by rw[S.sb.size];exact az)]
      ·exact bD v2 bG aL
     ·have:=S.qv k ok t O Z aA
      rw[zr (aJ k ok t O Z aA)];exact this
     ·have aP:=aZ k ok O
      rw[y8 (b:=b) aP.2 λt ht=>?_]
      ·exact S.qx k ok O Z bu hh
      ·refine zr λau=>?_
       obtain⟨bC,bz⟩:=yc am k ok (Ac.1 O).1 O
       have hw:=qn bC i t aa (by rw[zp ho,au]) ht
       exact bz Z i aN hw t (by rw[zp ho,au]) ht
theorem mix_sound{K:Env->zb->Prop}{Q:Exit->Act->World->Prop}(B:World)(ac:mixB ops=true)
  (H:wU P n h (λe'=>wT P n ops h K tr [] (heavyL 0 ops.toList) e' h) ops.toList e) (hs:Sat n e a)
  (hQ:∀e' a' d' h',Sat n e' a'->Same (jj ops.toList) a a'->K e' h'->Q .normal a' (mk B d' h')) (d:Nat):wpAny P .any ops Q ops.size (Bn ops.size false) a (mk B d h):=by
 obtain⟨az,ah,an,am,af⟩:=W7 ac
 obtain⟨f,e1,HT,aj,hf⟩:=Yy (k:=0) H hs
 have hl:∀(i:Nat) (o:Oper),ops[i]?=some o->ops.toList[i]?=some o:=λi o ho=>toL ho
 have O:∀i,qw 0 ops.toList f a=qw (0+(ops.toList.take i).length) (ops.toList.drop i) f (qw 0 (ops.toList.take i) f a):=λi=>by
  rw[<-Zf,Bp]
 refine zqo B ac (f:=f) hQ ops.size (AZ ops.size) _ a (qw 0 ops.toList f a) e1 h d [] (heavyL 0 ops.toList) DG Dh (λk=>by rw[BO,getD_replicate_false];simp) ⟨⟨by simp,λj oj _ hl=>(by rw[getD_replicate_false]at hl;cases hl),λt ht aA=>by omega⟩,λs ay=>?_,hs.size,hs.defers,aj,λi o t ho hq hd=>?_,λi o ho hq h' hh=>?_,by simp,λj hj=>by rw[getD_replicate_false];simp,HT,λ_ _ _ _ _=>Keep.refl _ _,Same.refl _ _⟩
 ·refine(yv λo ho hq=>?_).symm
  obtain⟨i,hi,e⟩:=A7 ho
  exact ay i o (ofL (by rw[Aj hi,e])) hq (getD_replicate_false _ _)
 ·obtain⟨h1,h2,h3⟩:=hf i o (hl i o ho) hq
  have al:t<n:=by
   rw[hd]at h2
   unfold yu at h2
   simp at h2;exact h2.2
  refine⟨?_,al⟩
  have aa:=(Ac.1 ho).1
  have ak:(ops.toList.take i).length=i:=by simp;omega
  rw[O i,ak,AD]
  have ax:ops.toList.drop i=o::ops.toList.drop (i+1):=by
   have:=(Ax.1 (hl i o ho))
   rw[AC this.1,this.2]
  rw[ax]
  unfold qw
  rw[hq,cond_true,yv λo' ae au ai=>?_]
  ·rw[hd,yg (by rw[Q6.1,hs.size];exact al)]
  ·obtain⟨m,hm,em⟩:=A7 ae
   have Z:ops[i+1+m]?=some o':=by
    have:ops.toList[i+1+m]?=some o':=by rw[<-AH,Aj hm,em]
    exact ofL this
   have:=ym an i (i+1+m) t aa (Ac.1 Z).1 (by rw[zp ho,hd]) (by rw[zp Z,ai])
   omega
 ·obtain⟨h1,h2,h3⟩:=hf i o (hl i o ho) hq
  have:=h3 h' (hh.imp id Or.inl)
  rw[AD]at this
  rw[y8 h1 λt ht=>?_]
  ·exact this
  ·have aa:=(Ac.1 ho).1
   rw[O i]
   refine yv λo' ae au ai=>?_
   obtain⟨m,hm,em⟩:=A7 ae
   have Z:ops[i+m]?=some o':=by
    have:ops.toList[i+m]?=some o':=by rw[<-AH,Aj hm,em]
    exact ofL this
   obtain⟨ar,_⟩:=yc af i o aa ho
   have hw:=qn ar (i+m) t (Ac.1 Z).1 (by rw[zp Z,ai]) ht
   obtain⟨oj,ap,x,hx,hb,aB⟩:=Region.waitsFor_spec hw
   have:=qp ah i oj aa ap x hx hb
   omega
def zfo(j:Nat):List Nat->List Nat
 |[]=>[]
 |k::l=>bif Nat.beq k j then zfo j l else k::zfo j l
theorem J5{j x:Nat}:∀{l:List Nat},x∈zfo j l↔x∈l/\x≠j
 |[]=>by simp[zfo]
 |k::l=>by
  simp only[zfo]
  cases hb:Nat.beq k j with
  |true=>
   have:=Ak hb
   subst this
   rw[cond_true,J5,Ag]
   exact⟨λh=>⟨.inr h.1,h.2⟩,λh=>⟨h.1.resolve_left h.2,h.2⟩⟩
  |false=>
   have O:k≠j:=λe=>by rw[e]at hb;simp at hb
   rw[cond_false,Ag,Ag,J5]
   constructor
   ·rintro(rfl|h)
    ·exact⟨.inl rfl,O⟩
    ·exact⟨.inr h.1,h.2⟩
   ·rintro⟨rfl|h,h2⟩
    ·exact .inl rfl
    ·exact .inr ⟨h,h2⟩
theorem X0{j:Nat}:∀{l:List Nat},l.Nodup->(zfo j l).Nodup
 |[],h=>h
 |k::l,h=>by
  simp only[zfo]
  rw[Cv]at h
  cases Nat.beq k j with
  |true=>exact X0 h.2
  |false=>
   rw[cond_false,Cv]
   exact⟨λhm=>h.1 (J5.1 hm).1,X0 h.2⟩
theorem zwf{j:Nat}:∀{l:List Nat},(zfo j l).length<=l.length
 |[]=>Ae _
 |k::l=>by
  simp only[zfo]
  have:=zwf (j:=j) (l:=l)
  cases Nat.beq k j with
  |true=>rw[cond_true,AR];omega
  |false=>rw[cond_false,AR,AR];omega
theorem zly{j:Nat}:∀{l:List Nat},j∈l->(zfo j l).length+1<=l.length
 |[],h=>by cases h
 |k::l,h=>by
  simp only[zfo]
  cases hb:Nat.beq k j with
  |true=>
   have:=zwf (j:=j) (l:=l)
   rw[cond_true,AR];omega
  |false=>
   have O:k≠j:=λe=>by rw[e]at hb;simp at hb
   have:=zly (j:=j) (l:=l) (by
    rcases Ag.1 h with rfl|h
    ·exact absurd rfl O
    ·exact h)
   rw[cond_false,AR,AR];omega
def z0y(ops:Array Oper)(todo:List Nat)(j:Nat):Bool:=todo.all λk=>bif Nat.beq k j then true else !(Zy ops [j] ops.size k)
def qar(p:Nat->Prop):List Nat->Prop
 |[]=>True
 |[j]=>p j
 |j::k::l=>p j/\qar p (k::l)
theorem zlz{p:Nat->Prop}:∀{l:List Nat},qar p l->∀j∈l,p j
 |[],_,j,h=>by cases h
 |[k],H,j,h=>by simp at h;subst h;exact H
 |k::k2::l,H,j,h=>by
  rcases Ag.1 h with rfl|h
  ·exact H.1
  ·exact zlz H.2 j h
def zuc(p:Nat->Bool):List Nat->List Nat
 |[]=>[]
 |j::l=>bif p j then j::zuc p l else zuc p l
theorem zcs{p:Nat->Bool}{j:Nat}:∀{l:List Nat},j∈l->p j=true->j∈zuc p l
 |[],h,_=>by cases h
 |k::l,h,hp=>by
  simp only[zuc]
  rcases Ag.1 h with rfl|h
  ·rw[hp];exact Aq
  ·cases p k with
   |true=>exact Ah _ (zcs h hp)
   |false=>exact zcs h hp
def zoa(ops:Array Oper)(T:List Nat)(e:Env)(h0 h':zb)(K:Prop):Nat->Prop
 |0=>K
 |k+1=>match ops[k]? with
  |some o=>bif zq o then(bif Zy ops T ops.size k then zoa ops T e h0 h' K k else match o.op with
   |.load _ a=>bif known e [] [a]then(match rho e [] a with
    |.pointer (some p)=>h'[p.block]?=h0[p.block]?/\zoa ops T e h0 h' K k
    |_=>False)else False
   |_=>False)else zoa ops T e h0 h' K k
  |none=>zoa ops T e h0 h' K k
theorem zkh{ops:Array Oper}{T:List Nat}{e:Env}{h0 h':zb}{K:Prop}:∀{m:Nat},zoa ops T e h0 h' K m->K/\∀k o,k<m->ops[k]?=some o->zq o=true->Zy ops T ops.size k=false ->
  ∃t a p,o.op=.load t a/\known e [] [a]=true/\rho e [] a=.pointer (some p)/\h'[p.block]?=h0[p.block]?
 |0,H=>⟨H,λk o hk=>by omega⟩
 |m+1,H=>by
  unfold zoa at H
  have step:zoa ops T e h0 h' K m->(∀o,ops[m]?=some o->zq o=true->Zy ops T ops.size m=false->∃t a p,o.op=.load t a/\known e [] [a]=true/\rho e [] a=.pointer (some p)/\h'[p.block]?=h0[p.block]?) ->
    K/\∀k o,k<m+1->ops[k]?=some o->zq o=true->Zy ops T ops.size k=false->∃t a p,o.op=.load t a/\known e [] [a]=true/\rho e [] a=.pointer (some p)/\h'[p.block]?=h0[p.block]?:=λH1 H2=>by
   obtain⟨h1,h2⟩:=zkh H1
   refine⟨h1,λk o hk ho hl hr=>?_⟩
   rcases AX k m with h3|h3
   ·exact h2 k o h3 ho hl hr
   ·have:k=m:=by omega
    subst this
    exact H2 o ho hl hr
  cases ho:ops[m]? with
  |none=>rw[ho]at H;exact step H λo h1=>by rw[ho]at h1;cases h1
  |some o=>
   rw[ho]at H
   simp only at H
   have same:∀o',ops[m]?=some o'->o'=o:=λo' h1=>Aw (h1.symm.trans ho)
   cases hl:zq o with
   |false=>rw[hl]at H;exact step H λo' h1 h2=>by rw[same o' h1,hl]at h2;cases h2
   |true=>
    rw[hl,cond_true]at H
    cases hr:Zy ops T ops.size m with
    |true=>rw[hr]at H;exact step H λo' h1 h2 h3=>by rw[hr]at h3;cases h3
    |false=>
     rw[hr,cond_false]at H
     split at H
     ·rename_i t a O
      cases hk:known e [] [a]with
      |false=>rw[hk]at H;exact H.elim
      |true=>
       rw[hk,cond_true]at H
       split at H
       ·rename_i p hp
        exact step H.2 λo' h1 h2 h3=>⟨t,a,p,by rw[same o' h1];exact O,hk,hp,H.1⟩
       ·exact H.elim
     ·exact H.elim
def z0z(md:Bool)(ops:Array Oper)(T:List Nat)(e:Env)(h0 h':zb)(K:Prop):Prop:=bif md then zoa ops T e h0 h' K ops.size else Keep h0.size h0 h'/\K
def wB(P:Program)(n:Nat)(ops:Array Oper)(h0:zb)(K:Env->zb->Prop)(md:Bool):Nat->List Nat->List Nat->Env->zb->Prop
 |_,_,[],e,h=>K (clean e) h
 |0,_,_::_,_,_=>False
 |f+1,T,j0::l0,e,h=>qar (λj=>match ops[j]? with
  |some o=>bif yu n [] o.dst then opW P o e [] h λv h'=>(bif zn9 true ops (j::T) ops.size then z0z md ops (j::T) e h0 h' (wB P n ops h0 K md f (j::T) (zfo j (j0::l0)) (putO e o.dst [] v) h')else wB P n ops h0 K md f (j::T) (zfo j (j0::l0)) (putO e o.dst [] v) h')else False
  |none=>False) (zuc (z0y ops (j0::l0)) (j0::l0))
theorem zwg{K:Env->zb->Prop}{f:Nat}{T todo:List Nat}(H:wB P n ops h0 K md (f+1) T todo e h){j:Nat}(hj:j∈todo)(hc:z0y ops todo j=true):match ops[j]? with
  |some o=>bif yu n [] o.dst then opW P o e [] h λv h'=>(bif zn9 true ops (j::T) ops.size then z0z md ops (j::T) e h0 h' (wB P n ops h0 K md f (j::T) (zfo j todo) (putO e o.dst [] v) h')else wB P n ops h0 K md f (j::T) (zfo j todo) (putO e o.dst [] v) h')else False
  |none=>False:=by
 cases todo with
 |nil=>cases hj
 |cons j0 l0=>exact zlz H j (zcs hj hc)
def zob(ops:Array Oper):Bool:=bif j8 ops.toList then(bif qo ops ops.size then(bif wy ops ops.size then Jf ops ops.size else false)else false)else false
theorem zki(h:zob ops=true):j8 ops.toList=true/\qo ops ops.size=true/\wy ops ops.size=true/\Jf ops ops.size=true:=by
 unfold zob at h
 cases h1:j8 ops.toList <;> cases h2:qo ops ops.size <;> cases h3:wy ops ops.size <;> simp[h1,h2,h3]at h ⊢
 exact h
structure StB (P:Program) (n:Nat) (ops:Array Oper) (h0:zb) (K:Env->zb->Prop) (md:Bool) (f:Nat->Value) (a0:Act) (listed:Array Bool) (a b:Act) (e:Env) (h:zb) (done todo:List Nat):Prop where
 inv:HeadInv .any ops ops.size listed
 ag:∀s,(∀i o,ops[i]?=some o->zh o=true->listed.getD i false=false->o.dst≠some s)->zx a s=zx b s
 sz:a.tmps.size=n
 ad:a.defers=[]
 sb:Sat n e b
 qv:∀i o t,ops[i]?=some o->zh o=true->o.dst=some t->zx b t=f i/\t<n
 qx:∀i o,ops[i]?=some o->zh o=true->∀h',LdOK o b.eval h0 h'->QExec P (execOp b.eval o) h' (.value (f i))
 tt:∀j,j∈heavyL 0 ops.toList->(j∈todo↔listed.getD j false=false)
 ch:∀j,j∈heavyL 0 ops.toList->(listed.getD j false=true↔j∈done)
 dn:∀j∈done,j∈heavyL 0 ops.toList
 th:∀j∈todo,j∈heavyL 0 ops.toList
 nd:todo.Nodup
 wt:∃fu,todo.length<=fu/\wB P n ops h0 K md fu done todo e h
 kp:∀i o,ops[i]?=some o->zq o=true->listed.getD i false=false->LdOK o b.eval h0 h
 sm:Same (jj ops.toList) a0 a
theorem z00{K:Env->zb->Prop}{Q:Exit->Act->World->Prop}(B:World)(a6:zob ops=true){f:Nat->Value}
  (hQ:∀e' a' d' h',Sat n e' a'->Same (jj ops.toList) a0 a'->K e' h'->Q .normal a' (mk B d' h')):
  ∀(N:Nat) (U:List Nat) (listed:Array Bool) (a b:Act) (e:Env) (h:zb) (d:Nat) (done todo:List Nat),U.length=N->U.Nodup->(∀k,k∈U↔k<ops.size/\listed.getD k false=false) ->
   StB P n ops h0 K md f a0 listed a b e h done todo->wpAny P .any ops Q N listed a (mk B d h):=by
 obtain⟨bh,aM,bm,ap⟩:=zki a6
 have a1:∀(i:Nat) (o:Oper),ops[i]?=some o->o.guard=none/\xf o.op=true:=λi o ho=>Zo bh o (by
  obtain⟨ae,e⟩:=Ac.1 ho
  rw[<-e];simp)
 have bj:∀{listed:Array Bool} {a b:Act} {e:Env} {h:zb} {d:Nat} {done todo:List Nat},(∀k,k<ops.size->listed.getD k false=true)->StB P n ops h0 K md f a0 listed a b e h done todo->Q .normal a (mk B d h):=by
  intro listed a b e h d done todo ai S
  have aU:todo=[]:=by
   cases htd:todo with
   |nil=>rfl
   |cons j l=>
    have hm:j∈todo:=by rw[htd];simp
    have hj:j∈heavyL 0 ops.toList:=S.th j hm
    have ae:j<ops.size:=by
     obtain⟨_,o,ho,_⟩:=ye.1 hj
     have:=(Ax.1 ho).1
     simpa using this
    have:=(S.tt j hj).1 hm
    rw[ai j ae]at this;cases this
  obtain⟨fu,_,hw⟩:=S.wt
  rw[aU]at hw
  have hw:K (clean e) h:=by cases fu <;> exact hw
  have hv:∀s,zx a s=zx b s:=λs=>S.ag s λi o ho hq hl=>by
   rw[ai i (Ac.1 ho).1]at hl;cases hl
  have hs:Sat n e a:=⟨S.ad,S.sz,λx hx=>by
   have:=S.sb.all x hx
   have e1:zx a=zx b:=funext hv
   rw[e1];exact this⟩
  exact hQ _ _ _ _ hs.clean S.sm hw
 intro N
 induction N with
 |zero=>
  intro U listed a b e h d done todo hU _ af S
  have bD:U=[]:=B6.1 hU
  subst bD
  have ai:∀k,k<ops.size->listed.getD k false=true:=λk hk=>by
   cases hb:listed.getD k false with
   |true=>rfl
   |false=>exact absurd ((af k).2 ⟨hk,hb⟩) (by simp)
  refine⟨?_,bj ai S⟩
  rw[CB]
  intro j hj
  obtain⟨h1,o,ho,_⟩:=mem_ready.1 hj
  have ae:=(Ac.1 ho).1
  have:=ai j ae
  have h2:=getD_both h1
  rw[this]at h2;cases h2
 |succ N ih=>
  intro U listed a b e h d done todo hU aG af S
  have bH:∃k,k<ops.size/\listed.getD k false=false:=by
   cases U with
   |nil=>cases hU
   |cons k U=>exact⟨k,(af k).1 Aq⟩
  refine⟨λhr=>?_,λi hi=>?_⟩
  ·exfalso
   obtain⟨k,aD,aQ,bp⟩:=Yd bH
   have:k∈Region.ready .any ops listed:=mem_ready.2 ⟨by rw[<-aQ];simp[S.inv.size,aD],ops[k],AP aD,λx hx hb=>bp _ (qp aM k ops[k] aD (AP aD) x hx hb)⟩
   rw[hr]at this;cases this
  ·obtain⟨a7,o,ho,ai⟩:=mem_ready.1 hi
   have aP:listed.getD i false=false:=getD_both a7
   have ae:i<ops.size:=(Ac.1 ho).1
   obtain⟨hg,bo⟩:=a1 i o ho
   have aF:i<listed.size:=by rw[S.inv.size];exact ae
   have a8:(U.erase i).length=N:=by rw[CF ((af i).2 ⟨ae,aP⟩),hU];rfl
   have an:(U.erase i).Nodup:=aG.erase i
   have ar:∀k,k∈U.erase i↔k<ops.size/\(listed.setIfInBounds i true).getD k false=false:=λk=>by
    rw[aG.mem_erase_iff,af k]
    by_cases hk:i=k
    ·subst hk;simp[aF]
    ·rw[getD_set_ne false hk];exact⟨λhx=>hx.2,λhx=>⟨λe=>hk e.symm,hx⟩⟩
   have aj:=S.inv.set hi ae
   have ac:∀k,k≠i->(listed.setIfInBounds i true).getD k false=listed.getD k false:=λk hk=>getD_set_ne false (Ne.symm hk)
   have aa:(listed.setIfInBounds i true).getD i false=true:=by simp[aF]
   obtain⟨au,bJ⟩:=yc ap i o ae ho
   have aZ:∀t∈tmpsOf o.op.operands.toList,zx a t=zx b t:=λt ht=>S.ag t λk ok O hq hl hd=>by
    have hw:=qn au k t (Ac.1 O).1 (by rw[zp O,hd]) ht
    rw[Ze hi hw]at hl;cases hl
   have aS:=y8 bo aZ
   unfold wpOp
   rw[ho]
   simp only
   have aO:BF o (yielded ops a.tmps)=true:=by unfold BF;rw[hg]
   rw[if_pos aO]
   left
   unfold Oper.wp
   rw[aS]
   cases hq:zh o with
   |true=>
    have hx:=S.qx i o ho hq h (by
     cases hl:zq o with
     |false=>exact .inl hl
     |true=>exact S.kp i o ho hl aP) B d
    rw[hx,Oper.upon_value]
    have aE:i∉heavyL 0 ops.toList:=λhm=>by
     obtain⟨_,o',ba,aY⟩:=ye.1 hm
     rw[BK]at ba
     have:o'=o:=by
      have h2:ops[i]?=some o':=ofL ba
      exact Aw (h2.symm.trans ho)
     subst this;rw[hq]at aY;cases aY
    refine ih _ _ _ b e h d done todo a8 an ar { S with inv:=aj,ag:=λs hs=>?_,sz:=by rw[size_put];exact S.sz,ad:=by rw[qh];exact S.ad,tt:=λj hj=>(by have:j≠i:=λe=>aE (e ▸ hj);rw[ac j this];exact S.tt j hj),ch:=λj hj=>?_,kp:=λk ok O hl hk=>?_,sm:=S.sm.trans (Same.put a o.dst _ λt ht=>Z6 (by
     obtain⟨bz,e2⟩:=Ac.1 ho
     rw[<-e2];simp) t ht) }
    ·by_cases hd:o.dst=some s
     ·obtain⟨hv,aB⟩:=S.qv i o s ho hq hd
      rw[hd,yg (by rw[S.sz];exact aB),hv]
     ·rw[zr hd]
      refine S.ag s λk ok O Z aV=>?_
      by_cases ah:k=i
      ·subst ah
       have:ok=o:=Aw (O.symm.trans ho)
       subst this;exact hd
      ·exact hs k ok O Z (by rw[ac k ah];exact aV)
    ·have:j≠i:=λe=>aE (e ▸ hj)
     rw[ac j this];exact S.ch j hj
    ·by_cases ah:k=i
     ·subst ah;rw[aa]at hk;cases hk
     ·rw[ac k ah]at hk;exact S.kp k ok O hl hk
   |false=>
    have aN:i∈heavyL 0 ops.toList:=ye.2 ⟨BP _,o,by rw[BK];exact toL ho,hq⟩
    have ay:i∈todo:=(S.tt i aN).2 aP
    obtain⟨fu,bI,bE⟩:=S.wt
    have aI:z0y ops todo i=true:=by
     unfold z0y
     rw[AU]
     intro k hk
     cases ah:Nat.beq k i with
     |true=>rfl
     |false=>
      have aT:k≠i:=λe=>by rw[e]at ah;simp at ah
      cases hr:Zy ops [i] ops.size k with
      |false=>rfl
      |true=>
       exfalso
       have:=Z1 hr (listed:=listed.setIfInBounds i true) (λp q h1 h2=>yf aj h1 h2) (λj hj=>by simp at hj;subst hj;exact aa)
       rw[ac k aT]at this
       have h2:=(S.tt k (S.th k hk)).1 hk
       rw[this]at h2;cases h2
    have hW:match ops[i]? with
      |some o=>bif yu n [] o.dst then opW P o e [] h λv h'=>(bif zn9 true ops (i::done) ops.size then z0z md ops (i::done) e h0 h' (wB P n ops h0 K md (fu-1) (i::done) (zfo i todo) (putO e o.dst [] v) h')else wB P n ops h0 K md (fu-1) (i::done) (zfo i todo) (putO e o.dst [] v) h')else False
      |none=>False:=by
     cases fu with
     |zero=>(have:todo.length=0:=by omega);rw[B6.1 this]at ay;cases ay
     |succ fu=>
      have:=zwg (show wB P n ops h0 K md (fu+1) done todo e h from bE) ay aI
      exact this
    rw[ho]at hW
    simp only at hW
    cases hd:yu n [] o.dst with
    |false=>rw[hd]at hW;exact hW.elim
    |true=>
     rw[hd,cond_true]at hW
     refine Jg (b:=b) S.sb.defers ?_
     refine zhc hW S.sb (qk _) B d λv d' h' hK=>⟨by rw[qh];exact S.sb.defers,λv2 bA=>?_⟩
     have bF:b.put o.dst v2=b.put o.dst v:=bA.symm
     have aA:∀j,j∈heavyL 0 ops.toList->((listed.setIfInBounds i true).getD j false=true↔j∈i::done):=λj hj=>by
      by_cases am:j=i
      ·subst am;rw[aa];simp
      ·rw[ac j am,S.ch j hj];simp[am]
     have aH:zn9 true ops (i::done) ops.size=false->∀k ok,ops[k]?=some ok->zq ok=true->(listed.setIfInBounds i true).getD k false=true:=λhl k ok O ak=>by
      have bn:∀j∈i::done,(listed.setIfInBounds i true).getD j false=true:=λj hj=>by
       rcases Ag.1 hj with rfl|hj
       ·exact aa
       ·exact getD_set_true ((S.ch j (S.dn j hj)).2 hj)
      exact Z1 (zej hl k ok (Ac.1 O).1 O ak) (λi p h1 h2=>yf aj h1 h2) bn
     have al:∀k ok,ops[k]?=some ok->zh ok=true->∀t∈tmpsOf ok.op.operands.toList,zx (b.put o.dst v) t=zx b t:=λk ok O Z t ht=>zr λax=>by
      obtain⟨bC,bu⟩:=yc ap k ok (Ac.1 O).1 O
      have hw:=qn bC i t ae (by rw[zp ho,ax]) ht
      exact bu Z i aN hw t (by rw[zp ho,ax]) ht
     have az:∀k,Zy ops (i::done) ops.size k=true->(listed.setIfInBounds i true).getD k false=true:=λk hr=>Z1 hr (λi p h1 h2=>yf aj h1 h2) λj hj=>by
      rcases Ag.1 hj with rfl|hj
      ·exact aa
      ·exact getD_set_true ((S.ch j (S.dn j hj)).2 hj)
     have be:wB P n ops h0 K md (fu-1) (i::done) (zfo i todo) (putO e o.dst [] v) h'/\(∀k ok,ops[k]?=some ok->zq ok=true->(listed.setIfInBounds i true).getD k false=false->LdOK ok (b.put o.dst v).eval h0 h'):=by
      cases hl:zn9 true ops (i::done) ops.size with
      |false=>rw[hl,cond_false]at hK;exact⟨hK,λk ok O ak hf=>by rw[aH hl k ok O ak]at hf;cases hf⟩
      |true=>
       rw[hl,cond_true]at hK
       unfold z0z at hK
       cases md with
       |false=>exact⟨hK.2,λ_ _ _ _ _=>.inr (.inl hK.1)⟩
       |true=>
        rw[cond_true]at hK
        obtain⟨g1,g2⟩:=zkh hK
        refine⟨g1,λk ok O ak hf=>.inr (.inr λt a p bc hp=>?_)⟩
        have hr:Zy ops (i::done) ops.size k=false:=by
         cases hr:Zy ops (i::done) ops.size k with
         |false=>rfl
         |true=>rw[az k hr]at hf;cases hf
        obtain⟨t',a',p',e1,e2,e3,e4⟩:=g2 k ok (Ac.1 O).1 O ak hr
        rw[bc]at e1
        injection e1 with _ e1
        subst e1
        have Z:zh ok=true:=by
         unfold zq at ak
         unfold zh
         split at ak
         ·rfl
         ·cases ak
        have af:a∈ok.op.operands.toList:=by rw[bc];simp[Op.operands]
        have ea:=y7 (al k ok O Z) a af
        have eb:b.eval a=rho e [] a:=xy S.sb (qk _) e2 a (by simp)
        rw[ea,eb,e3]at hp
        injection hp with hp
        injection hp with hp
        rw[<-hp];exact e4
     have bB:∀j,j∈heavyL 0 ops.toList->(j∈zfo i todo↔(listed.setIfInBounds i true).getD j false=false):=λj hj=>by
      rw[J5]
      by_cases am:j=i
      ·subst am;rw[aa];simp
      ·rw[ac j am,<-S.tt j hj];exact⟨λhx=>hx.1,λhx=>⟨hx,am⟩⟩
     have aJ:∀k ok t,ops[k]?=some ok->zh ok=true->ok.dst=some t->o.dst≠some t:=λk ok t O Z aC ax=>by
      have:=ym bm k i t (Ac.1 O).1 ae (by rw[zp O,aC]) (by rw[zp ho,ax])
      subst this
      have:ok=o:=Aw (O.symm.trans ho)
      subst this;rw[hq]at Z;cases Z
     refine ih _ _ _ (b.put o.dst v) (putO e o.dst [] v) h' d' (i::done) (zfo i todo) a8 an ar ⟨aj,λs hs=>?_,by rw[size_put];exact S.sz,by rw[qh];exact S.ad,S.sb.putO hd (λ_=>rfl) λhv=>absurd (qk _) hv,λk ok t O Z aC=>?_,λk ok O Z bq hh=>?_,bB,aA,(λj hj=>by
      rcases Ag.1 hj with rfl|hj
      ·exact aN
      ·exact S.dn j hj),(λj hj=>S.th j (J5.1 hj).1),X0 S.nd,⟨fu-1,by have:=zly ay;omega,be.1⟩,be.2,S.sm.trans (Same.put a o.dst _ λt ht=>Z6 (by
      obtain⟨bz,e2⟩:=Ac.1 ho
      rw[<-e2];simp) t ht)⟩
     ·have aT:∀u,(∀k ok,ops[k]?=some ok->zh ok=true->listed.getD k false=false->ok.dst≠some s)->o.dst≠some s->zx (a.put o.dst u) s=zx (b.put o.dst v) s:=λu h1 h2=>by
       rw[zr h2,zr h2];exact S.ag s h1
      have bG:∀k ok,ops[k]?=some ok->zh ok=true->listed.getD k false=false->ok.dst≠some s:=λk ok O Z aV=>by
       by_cases ah:k=i
       ·subst ah
        have:ok=o:=Aw (O.symm.trans ho)
        subst this;rw[hq]at Z;cases Z
       ·exact hs k ok O Z (by rw[ac k ah];exact aV)
      by_cases aL:o.dst=some s
      ·rw[<-bF,aL]
       have aB:s<n:=by
        rw[aL]at hd
        unfold yu at hd
        simp at hd;exact hd.2
       rw[yg (by rw[S.sz];exact aB),yg (by rw[S.sb.size];exact aB)]
      ·exact aT v2 bG aL
     ·have:=S.qv k ok t O Z aC
      rw[zr (aJ k ok t O Z aC)];exact this
     ·have aQ:=a1 k ok O
      rw[y8 (b:=b) aQ.2 (al k ok O Z)]
      exact S.qx k ok O Z bq (LdOK.congr (λx hx=>(y7 (al k ok O Z) x hx).symm) hh)
theorem zkj{K:Env->zb->Prop}{Q:Exit->Act->World->Prop}(B:World)(ac:zob ops=true)
  (H:wU P n h (λe'=>wB P n ops h K md (heavyL 0 ops.toList).length [] (heavyL 0 ops.toList) e' h) ops.toList e) (hs:Sat n e a)
  (hQ:∀e' a' d' h',Sat n e' a'->Same (jj ops.toList) a a'->K e' h'->Q .normal a' (mk B d' h')) (d:Nat):wpAny P .any ops Q ops.size (Bn ops.size false) a (mk B d h):=by
 obtain⟨az,ah,an,af⟩:=zki ac
 obtain⟨f,e1,HT,aj,hf⟩:=Yy (k:=0) H hs
 have hl:∀(i:Nat) (o:Oper),ops[i]?=some o->ops.toList[i]?=some o:=λi o ho=>toL ho
 have O:∀i,qw 0 ops.toList f a=qw (0+(ops.toList.take i).length) (ops.toList.drop i) f (qw 0 (ops.toList.take i) f a):=λi=>by
  rw[<-Zf,Bp]
 refine z00 B ac (f:=f) hQ ops.size (AZ ops.size) _ a (qw 0 ops.toList f a) e1 h d [] (heavyL 0 ops.toList) DG Dh (λk=>by rw[BO,getD_replicate_false];simp) ⟨⟨by simp,λj oj _ hl=>(by rw[getD_replicate_false]at hl;cases hl),λt ht aA=>by omega⟩,λs ay=>?_,hs.size,hs.defers,aj,λi o t ho hq hd=>?_,λi o ho hq h' hh=>?_,(λj hj=>by rw[getD_replicate_false];simp[hj]),(λj hj=>by rw[getD_replicate_false];simp),(λj hj=>by cases hj),(λj hj=>hj),y5,⟨_,Ae _,HT⟩,λ_ _ _ _ _=>.inr (.inl (Keep.refl _ _)),Same.refl _ _⟩
 ·refine(yv λo ho hq=>?_).symm
  obtain⟨i,hi,e⟩:=A7 ho
  exact ay i o (ofL (by rw[Aj hi,e])) hq (getD_replicate_false _ _)
 ·obtain⟨h1,h2,h3⟩:=hf i o (hl i o ho) hq
  have am:t<n:=by
   rw[hd]at h2
   unfold yu at h2
   simp at h2;exact h2.2
  refine⟨?_,am⟩
  have aa:=(Ac.1 ho).1
  have ak:(ops.toList.take i).length=i:=by simp;omega
  rw[O i,ak,AD]
  have ax:ops.toList.drop i=o::ops.toList.drop (i+1):=by
   have:=(Ax.1 (hl i o ho))
   rw[AC this.1,this.2]
  rw[ax]
  unfold qw
  rw[hq,cond_true,yv λo' ae au ai=>?_]
  ·rw[hd,yg (by rw[Q6.1,hs.size];exact am)]
  ·obtain⟨m,hm,em⟩:=A7 ae
   have Z:ops[i+1+m]?=some o':=by
    have:ops.toList[i+1+m]?=some o':=by rw[<-AH,Aj hm,em]
    exact ofL this
   have:=ym an i (i+1+m) t aa (Ac.1 Z).1 (by rw[zp ho,hd]) (by rw[zp Z,ai])
   omega
 ·obtain⟨h1,h2,h3⟩:=hf i o (hl i o ho) hq
  have al:∀t∈tmpsOf o.op.operands.toList,zx (qw 0 ops.toList f a) t=zx (qw 0 (ops.toList.take i) f a) t:=λt ht=>by
   have aa:=(Ac.1 ho).1
   rw[O i]
   refine yv λo' ae au ai=>?_
   obtain⟨m,hm,em⟩:=A7 ae
   have Z:ops[i+m]?=some o':=by
    have:ops.toList[i+m]?=some o':=by rw[<-AH,Aj hm,em]
    exact ofL this
   obtain⟨ar,_⟩:=yc af i o aa ho
   have hw:=qn ar (i+m) t (Ac.1 Z).1 (by rw[zp Z,ai]) ht
   obtain⟨oj,ap,x,hx,hb,aB⟩:=Region.waitsFor_spec hw
   have:=qp ah i oj aa ap x hx hb
   omega
  have:=h3 h' (LdOK.congr (λx hx=>(y7 al x hx).symm) hh)
  rw[AD]at this
  rw[y8 h1 al]
  exact this
end
section
variable {l done:List Nat} {i j m n:Nat} {ops:Array Oper} {P:Program} {h h0:zb} {md:Bool} {e:Env} {a:Act}
def z3t(o:Oper):Bool:=match o.op with
 |.extract _ _=>true
 |_=>false
def zoc(o:Oper):Bool:=bif zh o then true else z3t o
def upL(ops:Array Oper):Nat->List Nat->List Nat
 |0,S=>S
 |k+1,S=>upL ops k (bif S.any λp=>Region.waitsFor .any ops p k then k::S else S)
theorem zl0{ops:Array Oper}{listed:Array Bool}(hc:∀i p,listed.getD i false=true->Region.waitsFor .any ops i p=true->listed.getD p false=true):∀{m:Nat} {S:List Nat},(∀j∈S,listed.getD j false=true)->∀k∈upL ops m S,listed.getD k false=true
 |0,S,h,k,hk=>h k hk
 |m+1,S,h,k,hk=>by
  unfold upL at hk
  refine zl0 hc (m:=m) (λj hj=>?_) k hk
  cases ha:(S.any λp=>Region.waitsFor .any ops p m)with
  |false=>rw[ha]at hj;exact h j hj
  |true=>
   rw[ha,cond_true]at hj
   rcases Ag.1 hj with rfl|hj
   ·obtain⟨p,hp,hw⟩:=List.any_eq_true.1 ha
    exact hc p _ (h p hp) hw
   ·exact h j hj
theorem J6(h:memN l i=true):i∈l:=by
 induction l with
 |nil=>cases h
 |cons j l ih=>
  simp only[memN]at h
  cases hb:Nat.beq i j with
  |true=>rw[Ak hb];exact Aq
  |false=>rw[hb]at h;exact Ah _ (ih h)
theorem zl1(h:i∈l):memN l i=true:=by
 cases hm:memN l i with
 |true=>rfl
 |false=>exact absurd h (Zc hm)
def qbc(ops:Array Oper)(k:Nat):Bool:=match ops[k]? with
 |some o=>!(zoc o)
 |none=>false
def qcg(ops:Array Oper)(i:Nat):Bool:=(upL ops ops.size [i]).any (qbc ops)
def X1(ops:Array Oper)(i:Nat):Bool:=match ops[i]? with
 |some o=>bif zoc o then(bif zq o then qcg ops i else false)else true
 |none=>true
def hvL(ops:Array Oper):List Nat:=(AZ ops.size).filter (X1 ops)
theorem zhf:j∈hvL ops↔j<ops.size/\X1 ops j=true:=by
 unfold hvL;rw[List.mem_filter,BO]
theorem zwh(ops:Array Oper):(hvL ops).Nodup:=Dh.filter _
def okW(ops:Array Oper)(done S:List Nat)(k:Nat):Nat->Bool
 |0=>true
 |p+1=>bif Region.waitsFor .any ops k p then(bif (bif X1 ops p then memN done p else memN S p)then okW ops done S k p else false)else okW ops done S k p
theorem zgp{ops:Array Oper}{done S:List Nat}{k:Nat}:∀{m:Nat},okW ops done S k m=true↔∀p,p<m->Region.waitsFor .any ops k p=true->(X1 ops p=true->p∈done)/\(X1 ops p=false->p∈S)
 |0=>⟨λ_ p hp=>by omega,λ_=>rfl⟩
 |m+1=>by
  unfold okW
  have ih:=zgp (ops:=ops) (done:=done) (S:=S) (k:=k) (m:=m)
  constructor
  ·intro h p hp hw
   rcases AX p m with h1|h1
   ·refine ih.1 ?_ p h1 hw
    revert h
    cases Region.waitsFor .any ops k m with
    |false=>exact id
    |true=>
     cases(bif X1 ops m then memN done m else memN S m)with
     |false=>intro h;cases h
     |true=>exact id
   ·have:p=m:=by omega
    subst this
    rw[hw,cond_true]at h
    cases hi:X1 ops p with
    |true=>
     rw[hi,cond_true]at h
     cases hm:memN done p with
     |false=>rw[hm]at h;cases h
     |true=>exact⟨λ_=>J6 hm,(λhc=>by cases hc)⟩
    |false=>
     rw[hi,cond_false]at h
     cases hm:memN S p with
     |false=>rw[hm]at h;cases h
     |true=>exact⟨(λhc=>by cases hc),λ_=>J6 hm⟩
  ·intro h
   have h1:=ih.2 λp hp hw=>h p (by omega) hw
   cases hw:Region.waitsFor .any ops k m with
   |false=>exact h1
   |true=>
    obtain⟨a,b⟩:=h m (by omega) hw
    rw[cond_true]
    cases hi:X1 ops m with
    |true=>rw[cond_true,zl1 (a hi)];exact h1
    |false=>rw[cond_false,zl1 (b hi)];exact h1
def qas(ops:Array Oper)(done S:List Nat)(k:Nat):List Nat:=bif X1 ops k then S else(bif okW ops done S k k then k::S else S)
def J0(ops:Array Oper)(done:List Nat):Nat->List Nat
 |0=>[]
 |k+1=>qas ops done (J0 ops done k) k
theorem Qp{ops:Array Oper}{done:List Nat}:∀{m i:Nat},i∈J0 ops done m->i<m/\X1 ops i=false/\okW ops done (J0 ops done i) i i=true
 |0,i,h=>by cases h
 |m+1,i,h=>by
  unfold J0 qas at h
  cases hi:X1 ops m with
  |true=>rw[hi,cond_true]at h;have:=Qp h;exact⟨by omega,this.2⟩
  |false=>
   rw[hi,cond_false]at h
   cases ho:okW ops done (J0 ops done m) m m with
   |false=>rw[ho,cond_false]at h;have:=Qp h;exact⟨by omega,this.2⟩
   |true=>
    rw[ho,cond_true]at h
    rcases Ag.1 h with rfl|h
    ·exact⟨by omega,hi,ho⟩
    ·have:=Qp h;exact⟨by omega,this.2⟩
theorem zhg{ops:Array Oper}{done:List Nat}{m:Nat}:∀{m' i:Nat},m<=m'->i∈J0 ops done m->i∈J0 ops done m'
 |0,i,h,hi=>by(have:m=0:=by omega);subst this;exact hi
 |m'+1,i,h,hi=>by
  rcases Dn h with e|e
  ·rw[<-e];exact hi
  ·have:=zhg (m':=m') (by omega) hi
   unfold J0 qas
   cases X1 ops m' with
   |true=>exact this
   |false=>
    rw[cond_false]
    cases okW ops done (J0 ops done m') m' m' with
    |true=>exact Ah _ this
    |false=>exact this
theorem zl2(hm:i<m)(h1:X1 ops i=false)(h2:okW ops done (J0 ops done i) i i=true):i∈J0 ops done m:=by
 refine zhg (m:=i+1) hm ?_
 unfold J0 qas
 rw[h1,h2];exact Aq
theorem zsh{m i p:Nat}(h:i∈J0 ops done m)(hp:p<i)(hw:Region.waitsFor .any ops i p=true):(X1 ops p=true->p∈done)/\(X1 ops p=false->p∈J0 ops done m):=by
 obtain⟨h1,h2,h3⟩:=Qp h
 obtain⟨a,b⟩:=zgp.1 h3 p hp hw
 exact⟨a,λhi=>zhg (by omega) (b hi)⟩
def Wu(Z O:List Nat)(n:Nat):List Nat:=(AZ n).filter λi=>bif memN O i then !(memN Z i)else false
theorem zkk{O Z:List Nat}:i∈Wu O Z n↔i<n/\i∈Z/\i∉O:=by
 unfold Wu
 rw[List.mem_filter,BO]
 constructor
 ·rintro⟨h1,h2⟩
  cases hn:memN Z i with
  |false=>rw[hn]at h2;cases h2
  |true=>
   rw[hn,cond_true]at h2
   exact⟨h1,J6 hn,λhm=>by rw[zl1 hm]at h2;cases h2⟩
 ·rintro⟨h1,h2,h3⟩
  refine⟨h1,?_⟩
  rw[zl1 h2,cond_true]
  cases hw:memN O i with
  |false=>rfl
  |true=>exact absurd (J6 hw) h3
theorem zct(Z O:List Nat)(n:Nat):(Wu Z O n).Pairwise (· < ·):=List.pairwise_lt_range.filter _
def wI(P:Program)(n:Nat)(h:zb)(ld:Bool)(ops:Array Oper)(K:Env->Prop):List Nat->Env->Prop
 |[],e=>K e
 |i::l,e=>match ops[i]? with
  |some o=>bif zoc o then(bif (bif ld then true else !(zq o))then(bif yu n [] o.dst then(bif xf o.op then(bif known e [] o.op.operands.toList then Zw P o (rho e []) none h λv=>wI P n h ld ops K l (putO e o.dst [] v)else False)else False)else False)else False)else False
  |none=>False
def jr(ops:Array Oper)(f:Nat->Value):List Nat->Act->Act
 |[],a=>a
 |i::l,a=>jr ops f l (a.put (jd ops i) (f i))
theorem zwi{o:Oper}(hq:zoc o=true){ρ:Operand->Value}{K:Value->Prop}(H:Zw P o ρ none h K):
  ∃v,K v/\∀h',LdOK o ρ h h'->QExec P (execOp ρ o) h' (.value v):=by
 unfold zoc at hq
 cases hb:zh o with
 |true=>exact Xz hb H
 |false=>
  rw[hb,cond_false]at hq
  unfold z3t at hq
  split at hq
  ·rename_i x i ho
   unfold Zw at H;rw[ho]at H
   obtain⟨v,h1,h2⟩:=zy H none
   exact⟨v,h1,λh' _=>h2 trivial h'⟩
  ·cases hq
theorem zkl{ops:Array Oper}{f:Nat->Value}:∀{l:List Nat} {a:Act},(jr ops f l a).tmps.size=a.tmps.size/\(jr ops f l a).defers=a.defers
 |[],_=>⟨rfl,rfl⟩
 |i::l,a=>by
  unfold jr
  have:=zkl (ops:=ops) (f:=f) (l:=l) (a:=a.put (jd ops i) (f i))
  rw[this.1,this.2]
  exact⟨size_put _ _ _,qh _ _ _⟩
theorem x6{ops:Array Oper}{f:Nat->Value}{s:Nat}:∀{l:List Nat} {a:Act},(∀i∈l,jd ops i≠some s)->zx (jr ops f l a) s=zx a s
 |[],_,_=>rfl
 |i::l,a,h=>by
  unfold jr
  rw[x6 λj hj=>h j (Ah _ hj)]
  exact zr (h i Aq)
theorem zba{ops:Array Oper}{f:Nat->Value}:∀{l m:List Nat} {a:Act},jr ops f (l++m) a=jr ops f m (jr ops f l a)
 |[],_,_=>rfl
 |i::l,m,a=>by
  rw[Be]
  show jr ops f (l++m) _=jr ops f m (jr ops f l _)
  exact zba
theorem zl3{P:Program}{n:Nat}{h:zb}{ld:Bool}{ops:Array Oper}{K:Env->Prop}(f0:Nat->Value):∀{l:List Nat} {e:Env} {a:Act},l.Nodup->wI P n h ld ops K l e->Sat n e a->∃(f:Nat->Value) (e':Env),K e'/\Sat n e' (jr ops f l a)/\(∀i,i∉l->f i=f0 i) /\
  ∀l1 i l2,l=l1++i::l2->∃o,ops[i]?=some o/\zoc o=true/\(ld=false->zq o=false)/\xf o.op=true/\yu n [] o.dst=true/\∀h',LdOK o (jr ops f l1 a).eval h h'->QExec P (execOp (jr ops f l1 a).eval o) h' (.value (f i))
 |[],e,a,_,H,hs=>⟨f0,e,H,hs,λ_ _=>rfl,λl1 i l2 h=>by simp at h⟩
 |i::l,e,a,hnd,H,hs=>by
  unfold wI at H
  cases ho:ops[i]? with
  |none=>rw[ho]at H;exact H.elim
  |some o=>
   rw[ho]at H
   simp only at H
   cases hq:zoc o with
   |false=>rw[hq]at H;exact H.elim
   |true=>
    rw[hq,cond_true]at H
    cases hld:(bif ld then true else !(zq o))with
    |false=>rw[hld]at H;exact H.elim
    |true=>
     rw[hld,cond_true]at H
     cases hd:yu n [] o.dst with
     |false=>rw[hd]at H;exact H.elim
     |true=>
      rw[hd,cond_true]at H
      cases hns:xf o.op with
      |false=>rw[hns]at H;exact H.elim
      |true=>
       rw[hns,cond_true]at H
       cases hk:known e [] o.op.operands.toList with
       |false=>rw[hk]at H;exact H.elim
       |true=>
        rw[hk,cond_true]at H
        rw[Cv]at hnd
        obtain⟨v,H1,H2⟩:=zwi hq H
        have O:jd ops i=o.dst:=zp ho
        obtain⟨f,e',g1,g2,g3,g4⟩:=zl3 (λx=>if x=i then v else f0 x) (a:=a.put o.dst v) hnd.2 H1 (hs.putO hd (λ_=>rfl) λhv=>absurd (qk _) hv)
        have aa:f i=v:=by rw[g3 i hnd.1,if_pos rfl]
        have ac:jr ops f (i::l) a=jr ops f l (a.put o.dst v):=by
         show jr ops f l (a.put (jd ops i) (f i))=_
         rw[O,aa]
        refine⟨f,e',g1,by rw[ac];exact g2,λj hj=>?_,λl1 j l2 hl=>?_⟩
        ·simp only[Ag,not_or]at hj
         rw[g3 j hj.2,if_neg hj.1]
        ·cases l1 with
         |nil=>
          simp only[BL,Br]at hl
          obtain⟨rfl,rfl⟩:=hl
          refine⟨o,ho,hq,λhl=>by rw[hl]at hld;simpa using hld,hns,hd,λh' hh=>?_⟩
          show QExec P (execOp a.eval o) h' _
          rw[Yv hs (qk _) hns hk,aa]
          exact H2 h' (LdOK.congr (λx hx=>(xy hs (qk _) hk x hx).symm) hh)
         |cons i' l1=>
          simp only[Be,Br]at hl
          obtain⟨rfl,rfl⟩:=hl
          obtain⟨o',q1,q2,q3,q4,q5,q6⟩:=g4 l1 j l2 rfl
          have Z:jr ops f (i::l1) a=jr ops f l1 (a.put o.dst v):=by
           show jr ops f l1 (a.put (jd ops i) (f i))=_
           rw[O,aa]
          refine⟨o',q1,q2,q3,q4,q5,λh' hh=>?_⟩
          rw[Z]at hh ⊢
          exact q6 h' hh
def zwj(ops:Array Oper)(U:List Nat):Nat->Bool
 |0=>false
 |k+1=>bif (match ops[k]? with
  |some o=>bif zq o then(bif X1 ops k then false else !(memN U k))else false
  |none=>false)then true else zwj ops U k
theorem zkm{ops:Array Oper}{U:List Nat}:∀{m:Nat},zwj ops U m=false->∀k o,k<m->ops[k]?=some o->zq o=true->X1 ops k=false->k∈U
 |0,_,k,o,hk,_,_,_=>by omega
 |m+1,h,k,o,hk,ho,hl,hi=>by
  unfold zwj at h
  cases hb:(match ops[m]? with
   |some o=>bif zq o then(bif X1 ops m then false else !(memN U m))else false
   |none=>false)with
  |true=>rw[hb]at h;cases h
  |false=>
   rw[hb,cond_false]at h
   rcases AX k m with h1|h1
   ·exact zkm h k o h1 ho hl hi
   ·have:k=m:=by omega
    subst this
    rw[ho]at hb
    simp only[hl,hi,cond_true,cond_false]at hb
    exact J6 (by simpa using hb)
def zhh(ops:Array Oper)(U:List Nat)(e:Env)(h0 h':zb)(K:Prop):Nat->Prop
 |0=>K
 |k+1=>match ops[k]? with
  |some o=>bif (bif zq o then(bif X1 ops k then false else !(memN U k))else false)then(match o.op with
   |.load _ a=>bif known e [] [a]then(match rho e [] a with
    |.pointer (some p)=>h'[p.block]?=h0[p.block]?/\zhh ops U e h0 h' K k
    |_=>False)else False
   |_=>False)else zhh ops U e h0 h' K k
  |none=>zhh ops U e h0 h' K k
theorem zhi{ops:Array Oper}{U:List Nat}{e:Env}{h0 h':zb}{K:Prop}:∀{m:Nat},zhh ops U e h0 h' K m->K/\∀k o,k<m->ops[k]?=some o->zq o=true->X1 ops k=false->k∉U ->
  ∃t a p,o.op=.load t a/\known e [] [a]=true/\rho e [] a=.pointer (some p)/\h'[p.block]?=h0[p.block]?
 |0,H=>⟨H,λk o hk=>by omega⟩
 |m+1,H=>by
  unfold zhh at H
  have step:zhh ops U e h0 h' K m->(∀o,ops[m]?=some o->zq o=true->X1 ops m=false->m∉U->∃t a p,o.op=.load t a/\known e [] [a]=true/\rho e [] a=.pointer (some p)/\h'[p.block]?=h0[p.block]?) ->
    K/\∀k o,k<m+1->ops[k]?=some o->zq o=true->X1 ops k=false->k∉U->∃t a p,o.op=.load t a/\known e [] [a]=true/\rho e [] a=.pointer (some p)/\h'[p.block]?=h0[p.block]?:=λH1 H2=>by
   obtain⟨h1,h2⟩:=zhi H1
   refine⟨h1,λk o hk ho hl hi hr=>?_⟩
   rcases AX k m with h3|h3
   ·exact h2 k o h3 ho hl hi hr
   ·have:k=m:=by omega
    subst this
    exact H2 o ho hl hi hr
  cases ho:ops[m]? with
  |none=>rw[ho]at H;exact step H λo h1=>by rw[ho]at h1;cases h1
  |some o=>
   rw[ho]at H
   simp only at H
   have same:∀o',ops[m]?=some o'->o'=o:=λo' h1=>Aw (h1.symm.trans ho)
   cases hc:(bif zq o then(bif X1 ops m then false else !(memN U m))else false)with
   |false=>
    rw[hc]at H
    refine step H λo' h1 h2 h3 h4=>?_
    rw[same o' h1]at h2
    rw[h2,h3,cond_true,cond_false]at hc
    exact absurd (J6 (by simpa using hc)) h4
   |true=>
    rw[hc,cond_true]at H
    split at H
    ·rename_i t a O
     cases hk:known e [] [a]with
     |false=>rw[hk]at H;exact H.elim
     |true=>
      rw[hk,cond_true]at H
      split at H
      ·rename_i p hp
       exact step H.2 λo' h1 h2 h3 h4=>⟨t,a,p,by rw[same o' h1];exact O,hk,hp,H.1⟩
      ·exact H.elim
    ·exact H.elim
def zsi(md:Bool)(ops:Array Oper)(T:List Nat)(e:Env)(h0 h':zb)(K:Prop):Prop:=bif zwj ops (upL ops ops.size T) ops.size then(bif md then zhh ops (upL ops ops.size T) e h0 h' K ops.size else Keep h0.size h0 h'/\K)else K
def z01(ops:Array Oper)(todo:List Nat)(j:Nat):Bool:=todo.all λk=>bif Nat.beq k j then true else !(memN (upL ops ops.size [j]) k)
def wB7(P:Program)(n:Nat)(ops:Array Oper)(h0:zb)(K:Env->zb->Prop)(md:Bool):Nat->List Nat->List Nat->Env->zb->Prop
 |_,_,[],e,h=>K (clean e) h
 |0,_,_::_,_,_=>False
 |f+1,T,j0::l0,e,h=>qar (λj=>match ops[j]? with
  |some o=>bif yu n [] o.dst then opW P o e [] h λv h'=>wI P n h' false ops (λe'=>zsi md ops (j::T) e' h0 h' (wB7 P n ops h0 K md f (j::T) (zfo j (j0::l0)) e' h')) (Wu (J0 ops T ops.size) (J0 ops (j::T) ops.size) ops.size) (putO e o.dst [] v)else False
  |none=>False) (zuc (z01 ops (j0::l0)) (j0::l0))
theorem zud{K:Env->zb->Prop}{f:Nat}{T todo:List Nat}(H:wB7 P n ops h0 K md (f+1) T todo e h)(hj:j∈todo)(hc:z01 ops todo j=true):match ops[j]? with
  |some o=>bif yu n [] o.dst then opW P o e [] h λv h'=>wI P n h' false ops (λe'=>zsi md ops (j::T) e' h0 h' (wB7 P n ops h0 K md f (j::T) (zfo j todo) e' h')) (Wu (J0 ops T ops.size) (J0 ops (j::T) ops.size) ops.size) (putO e o.dst [] v)else False
  |none=>False:=by
 cases todo with
 |nil=>cases hj
 |cons j0 l0=>exact zlz H j (zcs hj hc)
def X3(ops:Array Oper):Nat->Bool
 |0=>true
 |k+1=>bif (match ops[k]? with
  |some o=>xm ops k (tmpsOf o.op.operands.toList) ops.size
  |none=>true)then X3 ops k else false
theorem J7{ops:Array Oper}:∀{m:Nat},X3 ops m=true->∀k o,k<m->ops[k]?=some o->xm ops k (tmpsOf o.op.operands.toList) ops.size=true
 |0,_,k,o,hk,_=>by omega
 |m+1,h,k,o,hk,ho=>by
  unfold X3 at h
  cases hb:(match ops[m]? with
   |some o=>xm ops m (tmpsOf o.op.operands.toList) ops.size
   |none=>true)with
  |false=>rw[hb]at h;cases h
  |true=>
   rw[hb,cond_true]at h
   rcases AX k m with h1|h1
   ·exact J7 h k o h1 ho
   ·have:k=m:=by omega
    subst this
    rw[ho]at hb;exact hb
def zod(ops:Array Oper):Bool:=bif j8 ops.toList then(bif qo ops ops.size then(bif wy ops ops.size then X3 ops ops.size else false)else false)else false
theorem zkn(h:zod ops=true):j8 ops.toList=true/\qo ops ops.size=true/\wy ops ops.size=true/\X3 ops ops.size=true:=by
 unfold zod at h
 cases h1:j8 ops.toList <;> cases h2:qo ops ops.size <;> cases h3:wy ops ops.size <;> simp[h1,h2,h3]at h ⊢
 exact h
structure St7 (P:Program) (n:Nat) (ops:Array Oper) (h0:zb) (K:Env->zb->Prop) (md:Bool) (f:Nat->Value) (a0:Act) (listed:Array Bool) (a b:Act) (e:Env) (h:zb) (done todo:List Nat):Prop where
 inv:HeadInv .any ops ops.size listed
 ag:∀s,(∀i o,ops[i]?=some o->X1 ops i=false->listed.getD i false=false->o.dst≠some s)->zx a s=zx b s
 sz:a.tmps.size=n
 ad:a.defers=[]
 sb:Sat n e b
 qv:∀i o t,ops[i]?=some o->i∈J0 ops done ops.size->o.dst=some t->zx b t=f i/\t<n
 qx:∀i o,ops[i]?=some o->i∈J0 ops done ops.size->∀h',LdOK o b.eval h0 h'->QExec P (execOp b.eval o) h' (.value (f i))
 tt:∀j,j∈hvL ops->(j∈todo↔listed.getD j false=false)
 ch:∀j,j∈hvL ops->(listed.getD j false=true↔j∈done)
 dn:∀j∈done,j∈hvL ops
 th:∀j∈todo,j∈hvL ops
 nd:todo.Nodup
 wt:∃fu,todo.length<=fu/\wB7 P n ops h0 K md fu done todo e h
 kp:∀i o,ops[i]?=some o->zq o=true->X1 ops i=false->listed.getD i false=false->LdOK o b.eval h0 h
 sm:Same (jj ops.toList) a0 a
theorem zhj{ld:Bool}(ac:qo ops ops.size=true)(aj:wy ops ops.size=true)(al:X3 ops ops.size=true){f:Nat->Value}{b:Act}(an:b.tmps.size=n)(ae:∀i∈l,i<ops.size)(O:l.Pairwise (· < ·))
  (H:∀l1 i l2,l=l1++i::l2->∃o,ops[i]?=some o/\zoc o=true/\(ld=false->zq o=false)/\xf o.op=true/\yu n [] o.dst=true/\∀h',LdOK o (jr ops f l1 b).eval h h'->QExec P (execOp (jr ops f l1 b).eval o) h' (.value (f i))):
  ∀i o,ops[i]?=some o->i∈l->(∀t,o.dst=some t->zx (jr ops f l b) t=f i/\t<n)/\(ld=false->zq o=false)/\∀h',LdOK o (jr ops f l b).eval h h'->QExec P (execOp (jr ops f l b).eval o) h' (.value (f i)):=by
 intro i o ho hi
 obtain⟨l1,l2,rfl⟩:=List.append_of_mem hi
 obtain⟨o',q1,q2,q3,q4,q5,q6⟩:=H l1 i l2 rfl
 have:o'=o:=Aw (q1.symm.trans ho)
 subst this
 have af:i<ops.size:=ae i (by simp)
 have hs:∀j∈l2,i<j:=λj hj=>by
  rw[Co]at O
  exact(BD.1 O.2.1).1 j hj
 have Z:jr ops f (l1++i::l2) b=jr ops f l2 ((jr ops f l1 b).put (jd ops i) (f i)):=by rw[zba];rfl
 have aa:jd ops i=o'.dst:=zp ho
 refine⟨λt ht=>?_,q3,λh' hh=>?_⟩
 ·have ai:t<n:=by
   rw[ht]at q5
   unfold yu at q5
   simp at q5;exact q5.2
  refine⟨?_,ai⟩
  rw[Z,x6 λj hj hd=>?_,aa,ht,yg (by rw[zkl.1,an];exact ai)]
  have:=ym aj i j t af (ae j (by simp[hj])) (by rw[aa,ht]) hd
  have:=hs j hj
  omega
 ·have ah:∀t∈tmpsOf o'.op.operands.toList,zx (jr ops f (l1++i::l2) b) t=zx (jr ops f l1 b) t:=λt ht=>by
   have e1:jr ops f (l1++i::l2) b=jr ops f (i::l2) (jr ops f l1 b):=zba
   rw[e1]
   refine x6 λj hj hd=>?_
   have ak:j<ops.size:=ae j (by simp[hj])
   have hw:=qn (J7 al i o' af ho) j t ak hd ht
   obtain⟨oj,am,x,hx,hb,ap⟩:=Region.waitsFor_spec hw
   have h1:=qp ac i oj af am x hx hb
   rcases Ag.1 hj with rfl|hj
   ·omega
   ·have:=hs j hj;omega
  rw[y8 q4 ah]
  exact q6 h' (LdOK.congr (λx hx=>(y7 ah x hx).symm) hh)
theorem z02{K:Env->zb->Prop}{Q:Exit->Act->World->Prop}(B:World)(bG:zod ops=true){a0:Act}
  (hQ:∀e' a' d' h',Sat n e' a'->Same (jj ops.toList) a0 a'->K e' h'->Q .normal a' (mk B d' h')):
  ∀(N:Nat) (U:List Nat) (listed:Array Bool) (f:Nat->Value) (a b:Act) (e:Env) (h:zb) (d:Nat) (done todo:List Nat),U.length=N->U.Nodup->(∀k,k∈U↔k<ops.size/\listed.getD k false=false) ->
   St7 P n ops h0 K md f a0 listed a b e h done todo->wpAny P .any ops Q N listed a (mk B d h):=by
 obtain⟨cn,au,a7,bC⟩:=zkn bG
 have bB:∀(i:Nat) (o:Oper),ops[i]?=some o->o.guard=none/\xf o.op=true:=λi o ho=>Zo cn o (by
  obtain⟨aj,e⟩:=Ac.1 ho
  rw[<-e];simp)
 have ai:∀k o,ops[k]?=some o->∀p t,p<ops.size->jd ops p=some t->t∈tmpsOf o.op.operands.toList->Region.waitsFor .any ops k p=true:=λk o ho p t hp hd ht=>
  qn (J7 bC k o (Ac.1 ho).1 ho) p t hp hd ht
 have bQ:∀k p,Region.waitsFor .any ops k p=true->p<k:=λk p hw=>by
  obtain⟨oj,bI,x,hx,hb,cC⟩:=Region.waitsFor_spec hw
  have:=qp au k oj (Ac.1 bI).1 bI x hx hb
  omega
 have ca:∀{listed:Array Bool} {f:Nat->Value} {a b:Act} {e:Env} {h:zb} {d:Nat} {done todo:List Nat},(∀k,k<ops.size->listed.getD k false=true)->St7 P n ops h0 K md f a0 listed a b e h done todo->Q .normal a (mk B d h):=by
  intro listed f a b e h d done todo ae S
  have bo:todo=[]:=by
   cases htd:todo with
   |nil=>rfl
   |cons j l=>
    have hm:j∈todo:=by rw[htd];simp
    have hj:=S.th j hm
    have:=(S.tt j hj).1 hm
    rw[ae j (zhf.1 hj).1]at this;cases this
  obtain⟨fu,_,hw⟩:=S.wt
  rw[bo]at hw
  have hw:K (clean e) h:=by cases fu <;> exact hw
  have hv:∀s,zx a s=zx b s:=λs=>S.ag s λi o ho hq hl=>by
   rw[ae i (Ac.1 ho).1]at hl;cases hl
  have hs:Sat n e a:=⟨S.ad,S.sz,λx hx=>by
   have:=S.sb.all x hx
   have e1:zx a=zx b:=funext hv
   rw[e1];exact this⟩
  exact hQ _ _ _ _ hs.clean S.sm hw
 intro N
 induction N with
 |zero=>
  intro U listed f a b e h d done todo hU _ al S
  have bY:U=[]:=B6.1 hU
  subst bY
  have ae:∀k,k<ops.size->listed.getD k false=true:=λk hk=>by
   cases hb:listed.getD k false with
   |true=>rfl
   |false=>exact absurd ((al k).2 ⟨hk,hb⟩) (by simp)
  refine⟨?_,ca ae S⟩
  rw[CB]
  intro j hj
  obtain⟨h1,o,ho,_⟩:=mem_ready.1 hj
  have aj:=(Ac.1 ho).1
  have:=ae j aj
  have h2:=getD_both h1
  rw[this]at h2;cases h2
 |succ N ih=>
  intro U listed f a b e h d done todo hU aU al S
  have b9:∃k,k<ops.size/\listed.getD k false=false:=by
   cases U with
   |nil=>cases hU
   |cons k U=>exact⟨k,(al k).1 Aq⟩
  refine⟨λhr=>?_,λi hi=>?_⟩
  ·exfalso
   obtain⟨k,aT,cg,cm⟩:=Yd b9
   have:k∈Region.ready .any ops listed:=mem_ready.2 ⟨by rw[<-cg];simp[S.inv.size,aT],ops[k],AP aT,λx hx hb=>cm _ (qp au k ops[k] aT (AP aT) x hx hb)⟩
   rw[hr]at this;cases this
  ·obtain⟨bP,o,ho,ae⟩:=mem_ready.1 hi
   have aI:listed.getD i false=false:=getD_both bP
   have aj:i<ops.size:=(Ac.1 ho).1
   obtain⟨hg,ck⟩:=bB i o ho
   have a1:i<listed.size:=by rw[S.inv.size];exact aj
   have bH:(U.erase i).length=N:=by rw[CF ((al i).2 ⟨aj,aI⟩),hU];rfl
   have aH:(U.erase i).Nodup:=aU.erase i
   have aC:∀k,k∈U.erase i↔k<ops.size/\(listed.setIfInBounds i true).getD k false=false:=λk=>by
    rw[aU.mem_erase_iff,al k]
    by_cases hk:i=k
    ·subst hk;simp[a1]
    ·rw[getD_set_ne false hk];exact⟨λhx=>hx.2,λhx=>⟨λe=>hk e.symm,hx⟩⟩
   have aF:=S.inv.set hi aj
   have Z:∀k,k≠i->(listed.setIfInBounds i true).getD k false=listed.getD k false:=λk hk=>getD_set_ne false (Ne.symm hk)
   have aa:(listed.setIfInBounds i true).getD i false=true:=by simp[a1]
   have bM:∀t∈tmpsOf o.op.operands.toList,zx a t=zx b t:=λt ht=>S.ag t λk ok O hq hl hd=>by
    have hw:=ai i o ho k t (Ac.1 O).1 (by rw[zp O,hd]) ht
    rw[Ze hi hw]at hl;cases hl
   have bn:=y8 ck bM
   have aA:∀v,Same (jj ops.toList) a0 (a.put o.dst v):=λv=>S.sm.trans (Same.put a o.dst _ λt ht=>Z6 (by
     obtain⟨cE,e2⟩:=Ac.1 ho
     rw[<-e2];simp) t ht)
   unfold wpOp
   rw[ho]
   simp only
   have ba:BF o (yielded ops a.tmps)=true:=by unfold BF;rw[hg]
   rw[if_pos ba]
   left
   unfold Oper.wp
   rw[bn]
   cases hq:X1 ops i with
   |false=>
    have bh:∀m k ok,k<m->ops[k]?=some ok->X1 ops k=false->(∀p,Region.waitsFor .any ops k p=true->listed.getD p false=true)->k∈J0 ops done ops.size:=by
     intro m
     induction m with
     |zero=>intro k ok hk;omega
     |succ m a8=>
      intro k ok hk O ah bF
      refine zl2 (Ac.1 O).1 ah (zgp.2 λp hp hw=>⟨λan=>?_,λan=>?_⟩)
      ·have cu:=bF p hw
       exact(S.ch p (zhf.2 ⟨by have:=(Ac.1 O).1;omega,an⟩)).1 cu
      ·have aQ:p<ops.size:=by have:=(Ac.1 O).1;omega
       have aE:=a8 p ops[p] (by omega) (AP aQ) an λq cy=>yf S.inv (bF p hw) cy
       obtain⟨_,g2,g3⟩:=Qp aE
       exact zl2 hp g2 g3
    have aV:=bh (i+1) i o (by omega) ho hq λp hw=>Ze hi hw
    have hx:=S.qx i o ho aV h (by
     cases hl:zq o with
     |false=>exact .inl hl
     |true=>exact S.kp i o ho hl hq aI) B d
    rw[hx,Oper.upon_value]
    have aZ:i∉hvL ops:=λhm=>by rw[(zhf.1 hm).2]at hq;cases hq
    refine ih _ _ f _ b e h d done todo bH aH aC { S with inv:=aF,ag:=λs hs=>?_,sz:=by rw[size_put];exact S.sz,ad:=by rw[qh];exact S.ad,tt:=λj hj=>(by have:j≠i:=λe=>aZ (e ▸ hj);rw[Z j this];exact S.tt j hj),ch:=λj hj=>?_,kp:=λk ok O hl ah hk=>?_,sm:=aA _ }
    ·by_cases hd:o.dst=some s
     ·obtain⟨hv,aS⟩:=S.qv i o s ho aV hd
      rw[hd,yg (by rw[S.sz];exact aS),hv]
     ·rw[zr hd]
      refine S.ag s λk ok O aP bj=>?_
      by_cases ac:k=i
      ·subst ac
       have:ok=o:=Aw (O.symm.trans ho)
       subst this;exact hd
      ·exact hs k ok O aP (by rw[Z k ac];exact bj)
    ·have:j≠i:=λe=>aZ (e ▸ hj)
     rw[Z j this];exact S.ch j hj
    ·by_cases ac:k=i
     ·subst ac;rw[aa]at hk;cases hk
     ·rw[Z k ac]at hk;exact S.kp k ok O hl ah hk
   |true=>
    have aE:i∈hvL ops:=zhf.2 ⟨aj,hq⟩
    have aJ:i∈todo:=(S.tt i aE).2 aI
    obtain⟨fu,cF,bZ⟩:=S.wt
    have bL:∀p q,(listed.setIfInBounds i true).getD p false=true->Region.waitsFor .any ops p q=true->(listed.setIfInBounds i true).getD q false=true:=λp q h1 h2=>yf aF h1 h2
    have bc:z01 ops todo i=true:=by
     unfold z01
     rw[AU]
     intro k hk
     cases ac:Nat.beq k i with
     |true=>rfl
     |false=>
      have cj:k≠i:=λe=>by rw[e]at ac;simp at ac
      cases hr:memN (upL ops ops.size [i]) k with
      |false=>rfl
      |true=>
       exfalso
       have:=zl0 bL (m:=ops.size) (S:=[i]) (λj hj=>by simp at hj;subst hj;exact aa) k (J6 hr)
       rw[Z k cj]at this
       have h2:=(S.tt k (S.th k hk)).1 hk
       rw[this]at h2;cases h2
    have hW:match ops[i]? with
      |some o=>bif yu n [] o.dst then opW P o e [] h λv h'=>wI P n h' false ops (λe'=>zsi md ops (i::done) e' h0 h' (wB7 P n ops h0 K md (fu-1) (i::done) (zfo i todo) e' h')) (Wu (J0 ops done ops.size) (J0 ops (i::done) ops.size) ops.size) (putO e o.dst [] v)else False
      |none=>False:=by
     cases fu with
     |zero=>(have:todo.length=0:=by omega);rw[B6.1 this]at aJ;cases aJ
     |succ fu=>
      have:=zud (show wB7 P n ops h0 K md (fu+1) done todo e h from bZ) aJ bc
      exact this
    rw[ho]at hW
    simp only at hW
    cases hd:yu n [] o.dst with
    |false=>rw[hd]at hW;exact hW.elim
    |true=>
     rw[hd,cond_true]at hW
     refine Jg (b:=b) S.sb.defers ?_
     refine zhc hW S.sb (qk _) B d λv d' h' hK=>⟨by rw[qh];exact S.sb.defers,λv2 cd=>?_⟩
     have b8:b.put o.dst v2=b.put o.dst v:=cd.symm
     generalize aL:Wu (J0 ops done ops.size) (J0 ops (i::done) ops.size) ops.size=bl at hK
     have ak:∀k,k∈bl↔k<ops.size/\k∈J0 ops (i::done) ops.size/\k∉J0 ops done ops.size:=λk=>by rw[<-aL];exact zkk
     have ax:bl.Pairwise (· < ·):=by rw[<-aL];exact zct _ _ _
     have bT:bl.Nodup:=ax.imp λh=>by omega
     have bJ:Sat n (putO e o.dst [] v) (b.put o.dst v):=S.sb.putO hd (λ_=>rfl) λhv=>absurd (qk _) hv
     obtain⟨f',e2,HK,bS,bu,cq⟩:=zl3 f bT hK bJ
     have bE:=zhj au a7 bC (f:=f') (l:=bl) (b:=b.put o.dst v) bJ.size (λk hk=>((ak k).1 hk).1) ax cq
     have aY:∀k∈bl,X1 ops k=false:=λk hk=>(Qp ((ak k).1 hk).2.1).2.1
     have aN:∀j,j∈hvL ops->((listed.setIfInBounds i true).getD j false=true↔j∈i::done):=λj hj=>by
      by_cases ap:j=i
      ·subst ap;rw[aa];simp
      ·rw[Z j ap,S.ch j hj];simp[ap]
     have cb:∀j∈i::done,(listed.setIfInBounds i true).getD j false=true:=λj hj=>by
      rcases Ag.1 hj with rfl|hj
      ·exact aa
      ·exact getD_set_true ((S.ch j (S.dn j hj)).2 hj)
     have bD:∀k,k∈upL ops ops.size (i::done)->(listed.setIfInBounds i true).getD k false=true:=λk hk=>zl0 bL cb k hk
     have aG:i∉done:=λhm=>by rw[(S.ch i aE).2 hm]at aI;cases aI
     have aO:∀k ok,ops[k]?=some ok->k∈J0 ops done ops.size->∀t∈tmpsOf ok.op.operands.toList,zx (b.put o.dst v) t=zx b t:=λk ok O hk t ht=>zr λa6=>by
      have hw:=ai k ok O i t aj (by rw[zp ho,a6]) ht
      exact aG ((zsh hk (bQ k i hw) hw).1 hq)
     have af:∀k ok,ops[k]?=some ok->k∈J0 ops done ops.size->∀t∈tmpsOf ok.op.operands.toList,zx (jr ops f' bl (b.put o.dst v)) t=zx b t:=λk ok O hk t ht=>by
      rw[x6 λp hp aD=>?_]
      ·exact aO k ok O hk t ht
      ·have hw:=ai k ok O p t ((ak p).1 hp).1 aD ht
       exact((ak p).1 hp).2.2 ((zsh hk (bQ k p hw) hw).2 (aY p hp))
     have be:∀k ok t,ops[k]?=some ok->k≠i->ok.dst=some t->o.dst≠some t:=λk ok t O ac ay a6=>by
      have:=ym a7 k i t (Ac.1 O).1 aj (by rw[zp O,ay]) (by rw[zp ho,a6])
      exact ac this
     have ar:∀k,X1 ops k=false->k≠i:=λk hk e=>by rw[e,hq]at hk;cases hk
     have cA:∀k ok,ops[k]?=some ok->zq ok=true->X1 ops k=false->k∈J0 ops done ops.size->LdOK ok b.eval h0 h'->LdOK ok (jr ops f' bl (b.put o.dst v)).eval h0 h':=λk ok O _ _ hk hh=>
      LdOK.congr (λx hx=>(y7 (af k ok O hk) x hx)) hh
     have bz:wB7 P n ops h0 K md (fu-1) (i::done) (zfo i todo) e2 h'/\(∀k ok,ops[k]?=some ok->zq ok=true->X1 ops k=false->(listed.setIfInBounds i true).getD k false=false->LdOK ok (jr ops f' bl (b.put o.dst v)).eval h0 h'):=by
      unfold zsi at HK
      cases hl:zwj ops (upL ops ops.size (i::done)) ops.size with
      |false=>
       rw[hl,cond_false]at HK
       exact⟨HK,λk ok O bm ah hf=>by rw[bD k (zkm hl k ok (Ac.1 O).1 O bm ah)]at hf;cases hf⟩
      |true=>
       rw[hl,cond_true]at HK
       cases md with
       |false=>exact⟨HK.2,λ_ _ _ _ _ _=>.inr (.inl HK.1)⟩
       |true=>
        rw[cond_true]at HK
        obtain⟨g1,g2⟩:=zhi HK
        refine⟨g1,λk ok O bm ah hf=>.inr (.inr λt a p bU hp=>?_)⟩
        obtain⟨t',a',p',e1,cr,e3,e4⟩:=g2 k ok (Ac.1 O).1 O bm ah (λhm=>by rw[bD k hm]at hf;cases hf)
        rw[bU]at e1
        injection e1 with _ e1
        subst e1
        have eb:(jr ops f' bl (b.put o.dst v)).eval a=rho e2 [] a:=xy bS (qk _) cr a (by simp)
        rw[eb,e3]at hp
        injection hp with hp
        injection hp with hp
        rw[<-hp];exact e4
     have bV:∀j,j∈hvL ops->(j∈zfo i todo↔(listed.setIfInBounds i true).getD j false=false):=λj hj=>by
      rw[J5]
      by_cases ap:j=i
      ·subst ap;rw[aa];simp
      ·rw[Z j ap,<-S.tt j hj];exact⟨λhx=>hx.1,λhx=>⟨hx,ap⟩⟩
     refine ih _ _ f' _ (jr ops f' bl (b.put o.dst v)) e2 h' d' (i::done) (zfo i todo) bH aH aC ⟨aF,λs hs=>?_,by rw[size_put];exact S.sz,by rw[qh];exact S.ad,bS,λk ok t O hk ay=>?_,λk ok O hk bp hh=>?_,bV,aN,(λj hj=>by
      rcases Ag.1 hj with rfl|hj
      ·exact aE
      ·exact S.dn j hj),(λj hj=>S.th j (J5.1 hj).1),X0 S.nd,⟨fu-1,by have:=zly aJ;omega,bz.1⟩,bz.2,aA _⟩
     ·-- slots
      have cz:∀k ok,ops[k]?=some ok->X1 ops k=false->listed.getD k false=false->ok.dst≠some s:=λk ok O aP bj=>hs k ok O aP (by rw[Z k (ar k aP)];exact bj)
      have aL:∀p∈bl,jd ops p≠some s:=λp hp aD=>by
       have aQ:=((ak p).1 hp).1
       have O:ops[p]?=some ops[p]:=AP aQ
       have an:=aY p hp
       refine hs p _ O an ?_ (by rw[<-zp O];exact aD)
       cases hlp:(listed.setIfInBounds i true).getD p false with
       |false=>rfl
       |true=>
        exfalso
        rw[Z p (ar p an)]at hlp
        have:∀m q,q<m->q<ops.size->X1 ops q=false->listed.getD q false=true->q∈J0 ops done ops.size:=by
         intro m
         induction m with
         |zero=>intro q hq;omega
         |succ m a8=>
          intro q cB cp co bA
          refine zl2 cp co (zgp.2 λp2 cc bq=>⟨λaB=>?_,λaB=>?_⟩)
          ·exact(S.ch p2 (zhf.2 ⟨by omega,aB⟩)).1 (yf S.inv bA bq)
          ·have bO:=a8 p2 (by omega) (by omega) aB (yf S.inv bA bq)
           obtain⟨_,g2,g3⟩:=Qp bO
           exact zl2 cc g2 g3
        exact((ak p).1 hp).2.2 (this (p+1) p (by omega) aQ an hlp)
      rw[x6 aL]
      by_cases aM:o.dst=some s
      ·rw[<-b8,aM]
       have aS:s<n:=by
        rw[aM]at hd
        unfold yu at hd
        simp at hd;exact hd.2
       rw[yg (by rw[S.sz];exact aS),yg (by rw[S.sb.size];exact aS)]
      ·rw[zr aM,zr aM];exact S.ag s cz
     ·by_cases am:k∈bl
      ·exact(bE k ok O am).1 t ay
      ·have az:k∈J0 ops done ops.size:=Classical.byContradiction λhc=>am ((ak k).2 ⟨(Ac.1 O).1,hk,hc⟩)
       have ah:=(Qp az).2.1
       obtain⟨q1,q2⟩:=S.qv k ok t O az ay
       refine⟨?_,q2⟩
       rw[x6 λp hp aD=>?_,zr (be k ok t O (ar k ah) ay),q1,bu k am]
       have:=ym a7 p k t ((ak p).1 hp).1 (Ac.1 O).1 aD (by rw[zp O,ay])
       subst this;exact am hp
     ·by_cases am:k∈bl
      ·obtain⟨_,q2,q3⟩:=bE k ok O am
       exact q3 bp (.inl (q2 rfl))
      ·have az:k∈J0 ops done ops.size:=Classical.byContradiction λhc=>am ((ak k).2 ⟨(Ac.1 O).1,hk,hc⟩)
       rw[y8 (b:=b) (bB k ok O).2 (af k ok O az),bu k am]
       exact S.qx k ok O az bp (LdOK.congr (λx hx=>(y7 (af k ok O az) x hx).symm) hh)
theorem zko{K:Env->zb->Prop}{Q:Exit->Act->World->Prop}(B:World)(aa:zod ops=true)
  (H:wI P n h true ops (λe'=>wB7 P n ops h K md (hvL ops).length [] (hvL ops) e' h) (Wu [] (J0 ops [] ops.size) ops.size) e) (hs:Sat n e a)
  (hQ:∀e' a' d' h',Sat n e' a'->Same (jj ops.toList) a a'->K e' h'->Q .normal a' (mk B d' h')) (d:Nat):wpAny P .any ops Q ops.size (Bn ops.size false) a (mk B d h):=by
 obtain⟨au,ac,aj,am⟩:=zkn aa
 have Z:∀k,k∈Wu [] (J0 ops [] ops.size) ops.size↔k∈J0 ops [] ops.size:=λk=>by
  rw[zkk]
  exact⟨λh=>h.2.1,λh=>⟨(Qp h).1,h,by simp⟩⟩
 have O:=zct [] (J0 ops [] ops.size) ops.size
 generalize Wu [] (J0 ops [] ops.size) ops.size=bl at H Z O
 have ai:bl.Nodup:=O.imp λh=>by omega
 obtain⟨f,e2,HK,an,_,al⟩:=zl3 (λ_=>undef) ai H hs
 have af:=zhj ac aj am (f:=f) (l:=bl) (b:=a) hs.size (λk hk=>(Qp ((Z k).1 hk)).1) O al
 have ah:∀s,(∀i o,ops[i]?=some o->X1 ops i=false->(Bn ops.size false).getD i false=false->o.dst≠some s)->zx a s=zx (jr ops f bl a) s:=λs ap=>(x6 λp hp ak=>by
  have ar:=(Qp ((Z p).1 hp)).1
  have ae:ops[p]?=some ops[p]:=AP ar
  exact ap p _ ae (Qp ((Z p).1 hp)).2.1 (getD_replicate_false _ _) (by rw[<-zp ae];exact ak)).symm
 refine z02 B aa hQ ops.size (AZ ops.size) _ f a (jr ops f bl a) e2 h d [] (hvL ops) DG Dh (λk=>by rw[BO,getD_replicate_false];simp) ⟨⟨by simp,λj oj _ hl=>(by rw[getD_replicate_false]at hl;cases hl),λt ht ax=>by omega⟩,ah,hs.size,hs.defers,an,λi o t ho hi hd=>(af i o ho ((Z i).2 hi)).1 t hd,λi o ho hi=>(af i o ho ((Z i).2 hi)).2.2,(λj hj=>by rw[getD_replicate_false];simp[hj]),(λj hj=>by rw[getD_replicate_false];simp),(λj hj=>by cases hj),(λj hj=>hj),zwh ops,⟨_,Ae _,HK⟩,λ_ _ _ _ _ _=>.inr (.inl (Keep.refl _ _)),Same.refl _ _⟩
def zwk:List (Nat×Nat)->Nat->Option Nat
 |[],_=>none
 |(j,m)::l,i=>bif Nat.beq i j then some m else zwk l i
def regionF(P:Program)(n:Nat)(tl:List (Nat×Nat))(id:Nat)(ops:Array Oper)(O:Bool)(K:Env->zb->Prop)(e:Env)(h:zb):Prop:=
 bif O then(match zwk tl id with
  |none=>bif Region.lexB .any ops then wQ P n ops h true (λe'=>K (clean e') h) ops.toList e else False
  |some m=>bif Nat.beq m 2000 then(bif mixB ops then wU P n h (λe'=>wT P n ops h K false [] (heavyL 0 ops.toList) e' h) ops.toList e else False)else bif Nat.beq m 3000 then(bif mixB ops then wU P n h (λe'=>wT P n ops h K true [] (heavyL 0 ops.toList) e' h) ops.toList e else False)else bif Nat.beq m 5000 then(bif zob ops then wU P n h (λe'=>wB P n ops h K false (heavyL 0 ops.toList).length [] (heavyL 0 ops.toList) e' h) ops.toList e else False)else bif Nat.beq m 6000 then(bif zob ops then wU P n h (λe'=>wB P n ops h K true (heavyL 0 ops.toList).length [] (heavyL 0 ops.toList) e' h) ops.toList e else False)else bif Nat.beq m 7000 then(bif zod ops then wI P n h true ops (λe'=>wB7 P n ops h K false (hvL ops).length [] (hvL ops) e' h) (Wu [] (J0 ops [] ops.size) ops.size) e else False)else bif Nat.beq m 8000 then(bif zod ops then wI P n h true ops (λe'=>wB7 P n ops h K true (hvL ops).length [] (hvL ops) e' h) (Wu [] (J0 ops [] ops.size) ops.size) e else False)else bif Nat.beq m 1000 then(bif Region.lexB .any ops then wK P n ops h (λe'=>∀h',Keep h.size h h'->K (clean e') h') ops.toList e else False)
   else bif Region.lexTailB .any ops m then wQ P n ops h false (λe'=>wR P n ops K (ops.toList.drop m) e' h) (ops.toList.take m) e else False)
 else wR P n ops K ops.toList e h
theorem Z2(l m:List Oper):jj (l++m)=jj l++jj m:=by
 induction l with
 |nil=>rfl
 |cons o l ih=>simp only[Be,jj];split <;> simp[ih]
theorem zcu(hm:P.follows .mixedOrders=true){tl:List (Nat×Nat)}{id:Nat}{O:Bool}{K:Env->zb->Prop}
  (H:regionF P n tl id ops O K e h) (B:World) (d:Nat) (hs:Sat n e a) {Q:Exit->Act->World->Prop}
  (hQ:∀e' a' d' h',Sat n e' a'->Same (jj ops.toList) a a'->K e' h'->Q .normal a' (mk B d' h')):(C4 id ops O).wp P Q a (mk B d h):=by
 unfold regionF at H
 cases O with
 |false=>exact wp_region_list (J4 B _ _ _ _ _ H hs hQ)
 |true=>
  simp only[cond_true]at H
  split at H
  ·cases hB:Region.lexB .any ops with
   |false=>rw[hB]at H;exact H.elim
   |true=>
    rw[hB]at H
    refine wp_region_quiet (C:=λw=>∃d,w=mk B d h) hm hB ⟨d+1,rfl⟩ ?_
    refine zse B _ _ _ H hs λe' a' q1 q2 q3=>?_
    rintro w' ⟨d',rfl⟩
    exact hQ _ _ _ _ q1.clean q2 q3
  ·rename_i m _
   cases hX:Nat.beq m 2000 with
   |true=>
    rw[hX]at H
    simp only[cond_true]at H
    cases hB:mixB ops with
    |false=>rw[hB]at H;exact H.elim
    |true=>
     rw[hB]at H
     exact wp_region_any hm (mix_sound B hB H hs hQ (d+1))
   |false=>
   rw[hX]at H
   simp only[cond_false]at H
   cases hY:Nat.beq m 3000 with
   |true=>
    rw[hY]at H
    simp only[cond_true]at H
    cases hB:mixB ops with
    |false=>rw[hB]at H;exact H.elim
    |true=>
     rw[hB]at H
     exact wp_region_any hm (mix_sound B hB H hs hQ (d+1))
   |false=>
   rw[hY]at H
   simp only[cond_false]at H
   cases hZ:Nat.beq m 5000 with
   |true=>
    rw[hZ]at H
    simp only[cond_true]at H
    cases hB:zob ops with
    |false=>rw[hB]at H;exact H.elim
    |true=>
     rw[hB]at H
     exact wp_region_any hm (zkj B hB H hs hQ (d+1))
   |false=>
   rw[hZ]at H
   simp only[cond_false]at H
   cases hY6:Nat.beq m 6000 with
   |true=>
    rw[hY6]at H
    simp only[cond_true]at H
    cases hB:zob ops with
    |false=>rw[hB]at H;exact H.elim
    |true=>
     rw[hB]at H
     exact wp_region_any hm (zkj B hB H hs hQ (d+1))
   |false=>
   rw[hY6]at H
   simp only[cond_false]at H
   cases hY7:Nat.beq m 7000 with
   |true=>
    rw[hY7]at H
    simp only[cond_true]at H
    cases hB:zod ops with
    |false=>rw[hB]at H;exact H.elim
    |true=>
     rw[hB]at H
     exact wp_region_any hm (zko B hB H hs hQ (d+1))
   |false=>
   rw[hY7]at H
   simp only[cond_false]at H
   cases hY8:Nat.beq m 8000 with
   |true=>
    rw[hY8]at H
    simp only[cond_true]at H
    cases hB:zod ops with
    |false=>rw[hB]at H;exact H.elim
    |true=>
     rw[hB]at H
     exact wp_region_any hm (zko B hB H hs hQ (d+1))
   |false=>
   rw[hY8]at H
   simp only[cond_false]at H
   cases hM:Nat.beq m 1000 with
   |true=>
    rw[hM]at H
    simp only[cond_true]at H
    cases hB:Region.lexB .any ops with
    |false=>rw[hB]at H;exact H.elim
    |true=>
     rw[hB]at H
     refine wp_region_quiet (C:=λw=>∃d h',Keep h.size h h'/\w=mk B d h') hm hB ⟨d+1,h,Keep.refl _ _,rfl⟩ ?_
     refine zsf B _ _ _ H hs λe' a' q1 q2 q3=>?_
     rintro w' ⟨d',h',hk,rfl⟩
     exact hQ _ _ _ _ q1.clean q2 (q3 h' hk)
   |false=>
   rw[hM]at H
   simp only[cond_false]at H
   cases hB:Region.lexTailB .any ops m with
   |false=>rw[hB]at H;exact H.elim
   |true=>
    rw[hB]at H
    have:=wp_region_still_tail (id:=id) (Q:=Q) (a:=a) (w:=mk B d h) (l:=ops.toList) m hm (by simpa using hB) (by
     simp only[Array.toArray_toList]
     refine zsg B (d+1) _ _ _ H hs λe' a' q1 q2 q3=>?_
     refine J4 B _ _ _ _ (d+1) q3 q1 λaf aa ac ae q4 q5 q6=>hQ af aa ac ae q4 ?_ q6
     have Z:jj ops.toList=jj (ops.toList.take m)++jj (ops.toList.drop m):=by rw[<-Z2,Bp]
     rw[Z]
     exact(q2.mono λx hx=>Ap _ hx).trans (q5.mono λx hx=>Ay _ hx))
    simpa using this
end
section
variable {n:Nat} {e:Env} {a:Act} {ms:List Nat} {P:Program} {h:zb} {R:Value -> zb -> Prop} {f:FuncId}
@[reducible] def zue:List Atom->Type->Type
 |[],X=>X
 |t::l,X=>t.den->zue l X
def z8w{X:Type}:(l:List Atom)->zue l X->(List Value->X->Prop)->Prop
 |[],f,k=>k [] f
 |t::l,f,k=>∀x:t.den,z8w l (f x) λvs y=>k (t.enc x::vs) y
def zoe{X:Type}:(l:List Atom)->List Value->zue l X->Option X
 |[],[],f=>some f
 |t::l,v::vs,f=>match t.dec v with
  |some x=>zoe l vs (f x)
  |none=>none
 |_,_,_=>none
def mkC{X:Type}:(l:List Atom)->(List Value->X)->zue l X
 |[],f=>f []
 |t::l,f=>λx=>mkC l λvs=>f (t.enc x::vs)
def zuf{X Y:Type}:(l:List Atom)->zue l X->zue l Y->zue l (X×Y)
 |[],f,g=>(f,g)
 |_::l,f,g=>λx=>zuf l (f x) (g x)
theorem zhk{X:Type}:∀{l:List Atom} {vs:List Value} {f:zue l X} {x:X} {k:List Value->X->Prop},zoe l vs f=some x->z8w l f k->k vs x
 |[],[],f,x,k,h,g=>by simp only[zoe,Ab]at h;subst h;exact g
 |[],_::_,f,x,k,h,g=>by simp[zoe]at h
 |_::_,[],f,x,k,h,g=>by simp[zoe]at h
 |t::l,v::vs,f,x,k,h,g=>by
  simp only[zoe]at h
  split at h
  ·rename_i y hy
   have:=zhk h (g y)
   rw[Atom.enc_of_dec hy]at this
   exact this
  ·cases h
theorem zl4{X:Type}:∀{l:List Atom} {vs:List Value} {f:List Value->X} {x:X},zoe l vs (mkC l f)=some x->x=f vs
 |[],[],f,x,h=>by simp only[zoe,mkC,Ab]at h;exact h.symm
 |[],_::_,f,x,h=>by simp[zoe]at h
 |_::_,[],f,x,h=>by simp[zoe]at h
 |t::l,v::vs,f,x,h=>by
  simp only[zoe,mkC]at h
  split at h
  ·rename_i y hy
   have:=zl4 h
   rw[Atom.enc_of_dec hy]at this
   exact this
  ·cases h
theorem zl5{X:Type}:∀{l:List Atom} {f:List Value->X} {k:List Value->X->Prop},(∀vs,k vs (f vs))->z8w l (mkC l f) k
 |[],_,_,h=>h []
 |_::_,_,_,h=>λ_=>zl5 λ_=>h _
abbrev Ann:=List (Nat×VT)
def xj:Ann->List Atom
 |[]=>[]
 |(_,.one t)::J=>t::xj J
 |(_,.agg l)::J=>l++xj J
def zan(σ:Nat->Option Value):Ann->Option (List Value)
 |[]=>some []
 |(i,.one _)::J=>match σ i,zan σ J with
  |some v,some vs=>some (v::vs)
  |_,_=>none
 |(i,.agg l)::J=>match σ i,zan σ J with
  |some (.agg cs),some vs=>bif Nat.beq cs.toList.length l.length then some (cs.toList++vs)else none
  |_,_=>none
def Yz:Ann->List Value->Env
 |[],_=>[]
 |(i,.one _)::J,v::vs=>(i,[],v)::Yz J vs
 |(_,.one _)::_,[]=>[]
 |(i,.agg l)::J,vs=>(i,[],.agg (vs.take l.length).toArray)::Yz J (vs.drop l.length)
def zek(e:Env)(i:Nat):Option Value:=match look e i with
 |some ([],v)=>some v
 |_=>none
theorem j9(h:Sat n e a){i:Nat}{v:Value}(hv:zek e i=some v):zx a i=v:=by
 unfold zek at hv
 split at hv
 ·rename_i u hl
  simp only[Ab]at hv
  subst hv
  exact(h.all _ (Xx hl)).1 trivial
 ·cases hv
theorem wm{n:Nat}{e:Env}{a:Act}(h:Sat n e a):∀{J:Ann} {vs:List Value},zan (zek e) J=some vs->zan (λi=>some (zx a i)) J=some vs
 |[],vs,hv=>hv
 |(i,.one t)::J,vs,hv=>by
  simp only[zan]at hv ⊢
  split at hv
  ·rename_i v us h1 h2
   simp only[wm h h2,j9 h h1]
   exact hv
  ·cases hv
 |(i,.agg l)::J,vs,hv=>by
  simp only[zan]at hv ⊢
  split at hv
  ·rename_i cs us h1 h2
   simp only[wm h h2,j9 h h1]
   exact hv
  ·cases hv
theorem W8{σ:Nat->Value}:∀{J:Ann} {vs:List Value},zan (λi=>some (σ i)) J=some vs->∀x∈Yz J vs,fact σ x
 |[],vs,_,x,hx=>by cases hx
 |(i,.one t)::J,vs,hv,x,hx=>by
  simp only[zan]at hv
  split at hv
  ·rename_i v us h1 h2
   simp only[Ab]at h1 hv
   subst hv
   simp only[Yz,Ag]at hx
   rcases hx with rfl|hx
   ·exact⟨λ_=>h1,λhn=>absurd trivial hn⟩
   ·exact W8 h2 x hx
  ·cases hv
 |(i,.agg l)::J,vs,hv,x,hx=>by
  simp only[zan]at hv
  split at hv
  ·rename_i cs us h1 h2
   simp only[Ab]at h1
   cases hb:Nat.beq cs.toList.length l.length with
   |false=>rw[hb]at hv;cases hv
   |true=>
    rw[hb]at hv
    simp only[cond_true,Ab]at hv
    subst hv
    have O:cs.toList.length=l.length:=Ak hb
    simp only[Yz,Ag]at hx
    rcases hx with rfl|hx
    ·refine⟨λ_=>?_,λhn=>absurd trivial hn⟩
     simp only
     rw[h1,<-O,Eb]
    ·rw[<-O,List.drop_left]at hx
     exact W8 h2 x hx
  ·cases hv
def W9(ms:List Nat):Env->Env
 |[]=>[]
 |(i,[],v)::e=>bif memN ms i then W9 ms e else(i,[],v)::W9 ms e
 |(_,_::_,_)::e=>W9 ms e
theorem zwl{x:Nat×qf×Value}(h:x∈W9 ms e):x∈e/\x.2.1=[]/\x.1∉ms:=by
 induction e with
 |nil=>cases h
 |cons y e ih=>
  obtain⟨i,c,v⟩:=y
  cases c with
  |nil=>
   simp only[W9]at h
   cases hm:memN ms i with
   |true=>rw[hm]at h;exact⟨Ah _ (ih h).1,(ih h).2⟩
   |false=>
    rw[hm]at h
    simp only[cond_false]at h
    rcases Ag.1 h with rfl|h
    ·exact⟨Aq,rfl,Zc hm⟩
    ·exact⟨Ah _ (ih h).1,(ih h).2⟩
  |cons g c=>
   simp only[W9]at h
   exact⟨Ah _ (ih h).1,(ih h).2⟩
theorem zcv{a a1:Act}(hs:Sat n e a)(hd:a1.defers=[])(hz:a1.tmps.size=n)(O:Same ms a a1){J:Ann}{vs:List Value}
  (hv:zan (λi=>some (zx a1 i)) J=some vs):Sat n (Yz J vs++W9 ms e) a1:=by
 refine⟨hd,hz,λx hx=>?_⟩
 rcases Am.1 hx with hx|hx
 ·exact W8 hv x hx
 ·obtain⟨h1,h2,h3⟩:=zwl hx
  have hf:=hs.all x h1
  refine⟨λ_=>?_,λhn=>absurd (by rw[h2];trivial) hn⟩
  rw[O _ h3]
  exact hf.1 (by rw[h2];trivial)
def wq:Code->Option Nat
 |.region id _ _=>some id
 |.seq a b=>match wq a with
  |some i=>some i
  |none=>wq b
 |.cond _ a b=>match wq a with
  |some i=>some i
  |none=>wq b
 |.block _ b=>wq b
 |.loop b=>wq b
 |_=>none
def Qw:Code->List Nat
 |.region _ ops _=>jj ops.toList
 |.seq a b=>Qw a++Qw b
 |.cond _ a b=>Qw a++Qw b
 |.block _ b=>Qw b
 |.loop b=>Qw b
 |_=>[]
structure Plan where
 tails:List (Nat×Nat)
 loops:List (Nat×Ann)
 joins:List (Nat×Ann)
def z8x:List (Nat×Ann)->Nat->Option Ann
 |[],_=>none
 |(j,m)::l,i=>bif Nat.beq i j then some m else z8x l i
def z03(l:List (Nat×Ann)):Option Nat->Option Ann
 |some i=>z8x l i
 |none=>none
abbrev zjn:=Exit->Env->zb->Prop
def zug(K:Env->zb->Prop)(Q:zjn):zjn
 |.normal,e,h=>K e h
 |x,e,h=>Q x e h
def zsj(id:Nat)(Q:zjn):zjn
 |.exit i,e,h=>bif Nat.beq i id then Q .normal e h else Q (.exit i) e h
 |x,e,h=>Q x e h
def atC{X:Type}(J:Ann)(F:zue (xj J) X)(e:Env)(k:X->Prop):Prop:=
 match zan (zek e) J with
 |some vs=>match zoe (xj J) vs F with
  |some q=>k q
  |none=>False
 |none=>False
def z8y(J:Ann)(rest:Env->zb->Prop)(F:(Env->zb->Prop)->Prop)(e0:Env):Prop:=
 ∀K:zue (xj J) (zb->Prop),z8w (xj J) K (λvs q=>∀h,rest (Yz J vs++e0) h->q h)->F λe h=>atC J K e λq=>q h
def z8z(J:Ann)(body:(Env->zb->Prop)->Env->zb->Prop)(e0 e:Env)(h:zb):Prop:=
 ∃(I:zue (xj J) (zb->Prop)) (μ:zue (xj J) (zb->Nat)),(atC J (zuf (xj J) I μ) e λp=>p.1 h) /\
  z8w (xj J) (zuf (xj J) I μ) λvs p=>∀h,p.1 h->body (λe' h'=>atC J (zuf (xj J) I μ) e' λq=>q.1 h'/\q.2 h'<p.2 h) (Yz J vs++e0) h
def W(P:Program)(n:Nat)(pl:Plan):Code->zjn->Env->zb->Prop
 |.skip,Q,e,h=>Q .normal e h
 |.ret,Q,e,h=>Q .ret e h
 |.exit id,Q,e,h=>Q (.exit id) e h
 |.label _,Q,e,h=>Q .normal e h
 |.goto l,Q,e,h=>Q (.goto l) e h
 |.region id ops draw,Q,e,h=>regionF P n pl.tails id ops draw (λe h=>Q .normal e h) e h
 |.seq x y,Q,e,h=>match z03 pl.joins (wq y)with
  |none=>W P n pl x (zug (λe h=>W P n pl y Q e h) Q) e h
  |some J=>z8y J (λe h=>W P n pl y Q e h) (λK=>W P n pl x (zug K Q) e h) (W9 (Qw x) e)
 |.cond c x y,Q,e,h=>match zam e [] c with
  |some (.bool b)=>(b=true->W P n pl x Q e h)/\(b=false->W P n pl y Q e h)
  |_=>False
 |.block id x,Q,e,h=>W P n pl x (zsj id Q) e h
 |.loop x,Q,e,h=>match z03 pl.loops (wq x)with
  |some J=>z8z J (λQn e h=>W P n pl x (zug Qn Q) e h) (W9 (Qw x) e) e h
  |none=>False
 |_,_,_,_=>False
def z81(n:Nat)(B:World)(ms:List Nat)(a0:Act)(Q:zjn):Exit->Act->World->Prop:=
 λx a w=>∃e d h,w=mk B d h/\Sat n e a/\Same ms a0 a/\Q x e h
theorem zel{X:Type}{J:Ann}{F:zue (xj J) X}{k:X->Prop}(h:atC J F e k):∃vs q,zan (zek e) J=some vs/\zoe (xj J) vs F=some q/\k q:=by
 unfold atC at h
 split at h
 ·rename_i vs hv
  split at h
  ·rename_i q hq
   exact⟨vs,q,hv,hq,h⟩
  ·exact h.elim
 ·exact h.elim
theorem z4t(hm:P.follows .mixedOrders=true){pl:Plan}:∀(c:Code) (Q:zjn) (e:Env) (h:zb),W P n pl c Q e h ->
  ∀(B:World) (d:Nat) (a:Act),Sat n e a->c.wp P (z81 n B (Qw c) a Q) a (mk B d h):=by
 intro c
 induction c with
 |skip=>exact λQ e h H B d a hs=>wp_skip ⟨e,d,h,rfl,hs,Same.refl _ _,H⟩
 |ret=>exact λQ e h H B d a hs=>wp_ret ⟨e,d,h,rfl,hs,Same.refl _ _,H⟩
 |exit id=>exact λQ e h H B d a hs=>wp_exit ⟨e,d,h,rfl,hs,Same.refl _ _,H⟩
 |label l=>exact λQ e h H B d a hs=>wp_label ⟨e,d,h,rfl,hs,Same.refl _ _,H⟩
 |goto l=>exact λQ e h H B d a hs=>wp_goto ⟨e,d,h,rfl,hs,Same.refl _ _,H⟩
 |region id ops az=>
  exact λQ e h H B d a hs=>zcu hm H B d hs λe' a' d' h' q1 q2 q3=>⟨e',d',h',rfl,q1,q2,q3⟩
 |seq x y aa Z=>
  intro Q e h H B d a hs
  simp only[W]at H
  have hl:∀i∈Qw x,i∈Qw (x.seq y):=λi hi=>Ap _ hi
  have hr:∀i∈Qw y,i∈Qw (x.seq y):=λi hi=>Ay _ hi
  split at H
  ·refine wp_seq (wp_mono (aa _ _ _ H B d a hs) ?_)
   rintro ex a1 w1 ⟨e1,d1,h1,rfl,s1,m1,q1⟩
   cases ex with
   |normal=>
    refine wp_mono (Z _ _ _ q1 B d1 a1 s1) ?_
    rintro ex a2 w2 ⟨e2,d2,h2,rfl,s2,m2,q2⟩
    exact⟨e2,d2,h2,rfl,s2,(m1.mono hl).trans (m2.mono hr),q2⟩
   |_=>exact⟨e1,d1,h1,rfl,s1,m1.mono hl,q1⟩
  ·rename_i J hJ
   have H':=H (mkC (xj J) λvs=>λh=>W P n pl y Q (Yz J vs++W9 (Qw x) e) h) (zl5 λvs h hq=>hq)
   refine wp_seq (wp_mono (aa _ _ _ H' B d a hs) ?_)
   rintro ex a1 w1 ⟨e1,d1,h1,rfl,s1,m1,q1⟩
   cases ex with
   |normal=>
    obtain⟨vs,q,hv,hq,hk⟩:=zel q1
    have ak:=zl4 hq
    subst ak
    have ay:Sat n (Yz J vs++W9 (Qw x) e) a1:=zcv hs s1.defers s1.size m1 (wm s1 hv)
    refine wp_mono (Z _ _ _ hk B d1 a1 ay) ?_
    rintro ex a2 w2 ⟨e2,d2,h2,rfl,s2,m2,q2⟩
    exact⟨e2,d2,h2,rfl,s2,(m1.mono hl).trans (m2.mono hr),q2⟩
   |_=>exact⟨e1,d1,h1,rfl,s1,m1.mono hl,q1⟩
 |cond c x y aa Z=>
  intro Q e h H B d a hs
  simp only[W]at H
  have hl:∀i∈Qw x,i∈Qw (Ej c x y):=λi hi=>Ap _ hi
  have hr:∀i∈Qw y,i∈Qw (Ej c x y):=λi hi=>Ay _ hi
  split at H
  ·rename_i b hb
   refine wp_cond_split (jz hs (c:=[]) trivial hb) (λah=>?_) (λaj=>?_)
   ·refine wp_mono (aa _ _ _ (H.1 ah) B d a hs) ?_
    rintro ex a2 w2 ⟨e2,d2,h2,rfl,s2,m2,q2⟩
    exact⟨e2,d2,h2,rfl,s2,m2.mono hl,q2⟩
   ·refine wp_mono (Z _ _ _ (H.2 aj) B d a hs) ?_
    rintro ex a2 w2 ⟨e2,d2,h2,rfl,s2,m2,q2⟩
    exact⟨e2,d2,h2,rfl,s2,m2.mono hr,q2⟩
  ·exact H.elim
 |block id x ih=>
  intro Q e h H B d a hs
  refine wp_block (wp_mono (ih _ _ _ H B d a hs) ?_)
  rintro ex a1 w1 ⟨e1,d1,h1,rfl,s1,m1,q1⟩
  cases ex with
  |exit i=>
   simp only[zsj]at q1
   simp only[Exit.inBlock]
   by_cases hb:Nat.beq i id=true
   ·rw[if_pos (Ak hb)]
    simp only[hb,cond_true]at q1
    exact⟨e1,d1,h1,rfl,s1,m1,q1⟩
   ·rw[if_neg (λhe=>hb (by rw[he];simp))]
    simp only[hb,cond_false]at q1
    exact⟨e1,d1,h1,rfl,s1,m1,q1⟩
  |_=>exact⟨e1,d1,h1,rfl,s1,m1,q1⟩
 |loop x ih=>
  intro Q e h H B d a hs
  simp only[W]at H
  split at H
  ·rename_i J hJ
   obtain⟨I,μ,h0,ac⟩:=H
   obtain⟨ap,p0,an,am,ax⟩:=zel h0
   let F:=zuf (xj J) I μ
   let at_:Act->Option ((zb->Prop)×(zb->Nat)):=λa1=>(zan (λi=>some (zx a1 i)) J).bind λvs=>zoe (xj J) vs F
   refine wp_loop (λa1 w1=>∃d1 h1 vs p,w1=mk B d1 h1/\a1.defers=[]/\a1.tmps.size=n/\Same (Qw x) a a1/\zan (λi=>some (zx a1 i)) J=some vs/\zoe (xj J) vs F=some p/\p.1 h1)
    (λa1 w1=>match at_ a1 with|some p=>p.2 w1.heap|none=>0) ⟨d,h,ap,p0,rfl,hs.defers,hs.size,Same.refl _ _,wm hs an,am,ax⟩ ?_
   rintro a1 w1 ⟨d1,h1,vs,p,rfl,al,ai,O,hv,hp,hI⟩
   have s1:Sat n (Yz J vs++W9 (Qw x) e) a1:=zcv hs al ai O hv
   have hb:=zhk hp ac h1 hI
   refine wp_mono (ih _ _ _ hb B d1 a1 s1) ?_
   rintro ex a2 w2 ⟨e2,d2,h2,rfl,s2,m2,q2⟩
   cases ex with
   |normal=>
    obtain⟨au,q,ae,hq,af,ar⟩:=zel q2
    refine⟨⟨d2,h2,au,q,rfl,s2.defers,s2.size,O.trans m2,wm s2 ae,hq,af⟩,?_⟩
    have e1:at_ a1=some p:=by simp only[at_,hv,BW];exact hp
    have e2:at_ a2=some q:=by simp only[at_,wm s2 ae,BW];exact hq
    rw[e1,e2]
    exact ar
   |_=>exact⟨e2,d2,h2,rfl,s2,O.trans m2,q2⟩
  ·exact H.elim
 |_=>exact λQ e h H=>H.elim
def zwm:Nat->List Value->Env
 |_,[]=>[]
 |i,v::vs=>(i,[],v)::zwm (i+1) vs
def z0k(P:Program)(h:zb)(e:Env):List ResultVar->(List Value->Prop)->Prop
 |[],K=>K []
 |.tmp t::l,K=>match zek e t with
  |some v=>z0k P h e l λvs=>K (v::vs)
  |none=>False
 |.cell a t::l,K=>match zek e a with
  |some p=>zlx P h t p none λv=>z0k P h e l λvs=>K (v::vs)
  |none=>False
def zjo:List Value->Value
 |[v]=>v
 |vs=>.tuple vs.toArray
def qat(P:Program)(rs:List ResultVar)(R:Value->zb->Prop):zjn
 |.normal,e,h=>z0k P h e rs λvs=>R (zjo vs) h
 |.ret,e,h=>z0k P h e rs λvs=>R (zjo vs) h
 |_,_,_=>False
def zhl(tmps:Array Value):ResultVar->Sem Value
 |.tmp t=>pure (tmps.getD t undef)
 |.cell a t=>do loadVar t (<-asAddr (tmps.getD a undef))
theorem zem{P:Program}{n:Nat}{h:zb}{e:Env}{a:Act}(hs:Sat n e a):∀{l:List ResultVar} {K:List Value->Prop},z0k P h e l K->∃vs,K vs/\vs.length=l.length/\QExec P (l.mapM (zhl a.tmps)) h vs
 |[],K,H=>⟨[],H,rfl,λ_ _=>by simp⟩
 |.tmp t::l,K,H=>by
  simp only[z0k]at H
  split at H
  ·rename_i v hv
   obtain⟨vs,h1,h2,h3⟩:=zem hs H
   refine⟨v::vs,h1,by simp[h2],?_⟩
   rw[Ec]
   refine QExec.bind (x:=v) ?_ (h3.bind (QExec.pure _))
   rw[<-j9 hs hv]
   exact QExec.pure _
  ·exact H.elim
 |.cell x t::l,K,H=>by
  simp only[z0k]at H
  split at H
  ·rename_i p hp
   obtain⟨v,hK,hq⟩:=zg7 H
   obtain⟨vs,h1,h2,h3⟩:=zem hs hK
   refine⟨v::vs,h1,by simp[h2],?_⟩
   rw[Ec]
   refine QExec.bind (x:=v) ?_ (h3.bind (QExec.pure _))
   have hx:a.tmps.getD x undef=p:=j9 hs hp
   simp only[zhl,hx]
   have O:=hq trivial
   unfold DV at O
   unfold zlx at H
   split at H
   ·exact O
   ·exact O
   ·exact H.elim
  ·exact H.elim
theorem Ye{fn:Func}(hs:Sat n e a){rs:List ResultVar}(hr:fn.results.toList=rs)(H:z0k P h e rs λvs=>R (zjo vs) h):
  ∃v,R v h/\QExec P (results fn a.tmps) h v:=by
 obtain⟨vs,h1,h2,h3⟩:=zem hs H
 refine⟨_,h1,?_⟩
 intro B d
 have e0:results fn a.tmps=(fn.results.mapM (zhl a.tmps) >>= λvs=>Dg (if h:vs.size=1 then vs[0]else .tuple vs)):=by
  unfold results
  congr 1
 rw[e0,Array.mapM_eq_mapM_toList,hr,Sem.run_bind,Sem.run_map,h3 B d]
 simp only[Result.andThen_ok,Sem.run_pure]
 match vs,h2 with
 |[],_=>rfl
 |[v],_=>rfl
 |v::u::vs,_=>simp[zjo]
theorem X4(args:Array Value)(k:Nat):∀(vs:List Value) (i:Nat),(∀j v,vs[j]?=some v->(args++Bn k undef).getD (i+j) undef=v) ->
  ∀x∈zwm i vs,fact (λi=>(args++Bn k undef).getD i undef) x
 |[],_,_,x,hx=>by cases hx
 |v::vs,i,h,x,hx=>by
  simp only[zwm,Ag]at hx
  rcases hx with rfl|hx
  ·exact⟨λ_=>h 0 v rfl,λhn=>absurd trivial hn⟩
  ·exact X4 args k vs (i+1) (λj u hj=>by have:=h (j+1) u (by simpa using hj);rwa[show i+(j+1)=i+1+j by omega]at this) x hx
theorem z4u(hm:P.follows .mixedOrders=true){fn:Func}{c:Code}(pl:Plan)(vs:List Value){rs:List ResultVar}(hf:P.funcs[f]?=some fn)(hb:fn.body=some c)(hr:fn.results.toList=rs)(hn:fn.ntmps=n)
  (hz:Nat.ble vs.length n=true) (H:W P n pl c (qat P rs R) (zwm 0 vs) h):XC P f vs.toArray h R:=by
 intro B d
 subst hn
 refine calls_of_wp hf hb ?_
 have Z:vs.length<=fn.ntmps:=BE hz
 have hs:Sat fn.ntmps (zwm 0 vs) { tmps:=vs.toArray++Bn (fn.ntmps-vs.toArray.size) undef,defers:=[] }:=by
  refine⟨rfl,by simp;omega,?_⟩
  refine X4 vs.toArray _ vs 0 λj v hj=>?_
  have O:j<vs.length:=by
   rcases AX j vs.length with h|h
   ·exact h
   ·rw[Bu h]at hj;cases hj
  simp only[AD,Bo]
  rw[Cs (by simpa using O)]
  simp[hj]
 refine wp_mono (z4t hm c _ _ _ H B d _ hs) ?_
 rintro ex a w ⟨e1,d1,h1,rfl,s1,m1,q1⟩
 cases ex with
 |normal=>
  obtain⟨v,hv,hq⟩:=Ye s1 hr q1
  exact⟨s1.defers,v,hq B d1,v,d1,h1,rfl,rfl,hv⟩
 |ret=>
  obtain⟨v,hv,hq⟩:=Ye s1 hr q1
  exact⟨s1.defers,v,hq B d1,v,d1,h1,rfl,rfl,hv⟩
 |_=>exact q1.elim
def codeOf(fn:Func):Code:=match fn.body with
 |some c=>c
 |none=>.skip
def J8(fn:Func):Bool:=match fn.body with
 |some _=>true
 |none=>false
theorem zuh(hm:P.follows .mixedOrders=true)(pl:Plan)(vs:List Value){fn:Func}{rs:List ResultVar}(hf:P.funcs[f]?=some fn)(hb:J8 fn=true)(hr:fn.results.toList=rs)(hn:fn.ntmps=n)
  (hz:Nat.ble vs.length n=true) (H:W P n pl (codeOf fn) (qat P rs R) (zwm 0 vs) h):XC P f vs.toArray h R:=by
 have O:fn.body=some (codeOf fn):=by
  unfold J8 at hb
  unfold codeOf
  split at hb
  ·rename_i c hc;rw[hc]
  ·cases hb
 exact z4u hm pl vs hf O hr hn hz H
end
section
variable {n m k:Nat} {h h':zb} {a:Option Addr} {cs xs news:List Value} {v z:Value} {e t ty:TypeId} {P:Program}
theorem wu(h:zb)(o:Obj):(h.push o)[h.size]?=some o:=by simp
theorem zui(k:Keep n h h'){a:Addr}(ha:a.block<n):zm h' a=zm h a:=by
 unfold zm;rw[k.get _ ha]
def Arr(n:Nat)(h:zb)(a:Option Addr)(cs:List Value):Prop:=
 cs=[]\/∃b o,a=some ⟨b,o,none⟩/\b<n/\∀i v,cs[i]?=some v->zm h ⟨b,o+i,none⟩=some v
theorem Arr.mono(H:Arr n h a cs)(hm:n<=m):Arr m h a cs:=by
 rcases H with e|⟨b,o,e,hb,hc⟩
 ·exact .inl e
 ·exact .inr ⟨b,o,e,by omega,hc⟩
theorem Arr.keep(H:Arr n h a cs)(k:Keep n h h'):Arr n h' a cs:=by
 rcases H with e|⟨b,o,e,hb,hc⟩
 ·exact .inl e
 ·exact .inr ⟨b,o,e,hb,λi v hi=>(zui k (a:=⟨b,o+i,none⟩) hb).trans (hc i v hi)⟩
theorem zo(b o i:Nat):(⟨b,o,none⟩:Addr).add i=⟨b,o+i,none⟩:=by
 unfold Af
 split
 ·rename_i h;rw[h];rfl
 ·rfl
theorem Arr.cell(H:Arr n h a cs)(hv:cs[k]?=some v):∃p:Addr,a=some p/\zm h (p.add k)=some v:=by
 rcases H with e|⟨b,o,e,hb,hc⟩
 ·rw[e]at hv;simp at hv
 ·exact⟨⟨b,o,none⟩,e,by rw[zo];exact hc k v hv⟩
def Strs(n:Nat)(h:zb)(s:Sl)(xs:List Bt):Prop:=s.len=xs.length/\Arr n h s.a (xs.map A5)
theorem Strs.mono{s:Sl}{xs:List Bt}(H:Strs n h s xs)(hm:n<=m):Strs m h s xs:=⟨H.1,H.2.mono hm⟩
theorem Strs.keep{s:Sl}{xs:List Bt}(H:Strs n h s xs)(k:Keep n h h'):Strs n h' s xs:=⟨H.1,H.2.keep k⟩
theorem Strs.nil(n:Nat)(h:zb)(a:Option Addr)(c:Nat):Strs n h ⟨a,0,c⟩ []:=⟨rfl,.inl rfl⟩
theorem Z9(a:Option Addr)(sz m:Nat):Qv a sz 0 m=a:=by
 unfold Qv
 split
 ·rfl
 ·cases a with
  |none=>rfl
  |some p=>simp[Af]
theorem wrap64{n:Int}(h1:-9223372036854775808<=n)(h2:n<=9223372036854775807):Aa .i64 n=n:=by
 unfold Aa
 have e:(2:Int) ^ Ar .i64=18446744073709551616:=by decide
 have e':(2:Int) ^ (Ar .i64-1)=9223372036854775808:=by decide
 simp only[e,e']
 have hs:DO .i64=true:=rfl
 simp only[hs,Bf,decide_eq_true_eq]
 split <;> omega
theorem zwn(h:k<9223372036854775807):Aa .i64 ((k:Int)+1)=((k+1:Nat):Int):=by
 rw[wrap64 (by omega) (by omega)];omega
def Owns(h:zb)(base:Nat)(e:TypeId)(sz:Nat)(s:Sl)(xs:List Value):Prop:=
 (mk default 0 h).ownsRow base e sz (.slice s.a s.len s.cap) s.len xs
theorem Owns.nil(h:zb)(base:Nat)(e:TypeId)(sz:Nat):Owns h base e sz ⟨none,0,0⟩ []:=World.ownsRow_nil _ _ _ _
theorem Owns.length{base:Nat}{sz:Nat}{s:Sl}(H:Owns h base e sz s xs):xs.length=s.len*sz:=H.1
theorem Owns.arr{base:Nat}{sz:Nat}{s:Sl}(H:Owns h base e sz s xs):Arr h.size h s.a xs:=by
 rcases H.2 with⟨hv,h0⟩|⟨g,cap,Z,hv,hb,hg,ac,hm,ae,ht⟩
 ·have hl:=H.1
  rw[h0]at hl
  exact .inl (by simpa using hl)
 ·simp only[AJ]at hv
  have aa:g<h.size:=(Ac.1 hg).1
  refine .inr ⟨g,0,hv.1,aa,λi v hi=>?_⟩
  have O:h[g]?=some (.cells Z e (0,0)):=hg
  unfold zm
  simp only[O,AD,Option.isSome_none,A9,if_false]
  rw[<-ht,AF]at hi
  split at hi
  ·simpa using hi
  ·cases hi
theorem Owns.base_le{base:Nat}{sz:Nat}{s:Sl}(H:Owns h base e sz s xs):∀p,s.a=some p->base<=p.block/\p.block<h.size:=by
 intro p hp
 exact World.ownsRow.lt H p.block (by simp[Value.ownBlock,hp])
theorem Owns.keep{base:Nat}{sz:Nat}{s:Sl}(H:Owns h base e sz s xs)(k:∀p,s.a=some p->h'[p.block]?=h[p.block]?):Owns h' base e sz s xs:=by
 refine⟨H.1,?_⟩
 rcases H.2 with hn|⟨g,cap,O,hv,hb,hg,rest⟩
 ·exact .inl hn
 ·simp only[AJ]at hv
  refine .inr ⟨g,cap,O,by simp[hv],hb,?_,rest⟩
  have:=k _ hv.1
  exact this.trans hg
theorem Owns.keepN{base:Nat}{sz:Nat}{s:Sl}(H:Owns h base e sz s xs)(k:Keep h.size h h'):Owns h' base e sz s xs:=
 H.keep λp hp=>k.get _ (H.base_le p hp).2
structure ElemT (P:Program) (t e:TypeId) (z:Value) (sz bytes:Nat):Prop where
 slice:P.underlying t=some (.slice e)
 info:∃i,P.info? e=some i/\i.zero=some z/\i.size=sz/\i.bytes=bytes
 zero:z.cells.size=sz
 pos:0<sz
theorem zfp{w:World}{i:TypeInfo}{sz bytes base:Nat}(ht:P.underlying t=some (.slice e))(hi:P.info? e=some i)(hz:i.zero=some z)(al:i.size=sz)(aj:i.bytes=bytes)(ae:w.ownsRow base e sz v n xs){a:Addr}{m c:Nat}(hl:news.length=m*sz)(Z:∀j u,news[j]?=some u->w.cell? (a.add j)=some u)(h1:∀u∈news,u.oneCell'=true)
  (ar:n+m<=4611686018427387904) (aa:(n+m)*bytes<=140737488355328) {v':Value} {w':World} (r1:(Au #[t,t] ty #[v,.slice (some a) m c]).run P w=.ok v' w'):
  ∀p' l c',v'=.slice (some p') l c'->(∃p l0 c0,v=.slice (some p) l0 c0/\p'.block=p.block)\/p'.block=w.heap.size:=by
 subst al aj
 intro p' l c' O
 rcases ae.2 with⟨rfl,rfl⟩|⟨g,cap,ah,rfl,an,hg,ap,au,am,ak⟩
 ·by_cases hm:m=0
  ·subst hm
   have hn:news=[]:=Az (by simpa using hl)
   subst hn
   have hr:(Au #[t,t] ty #[.slice none 0 0,.slice (some a) 0 c]).run P w=.ok (.slice none 0 0) w:=by
    simp[Au,run_underlying ht,sizeOf,typeInfo,hi,Builtin.lenOf,Cm,loadCells,loadCellsFrom]
   rw[hr]at r1
   simp only[Eo]at r1
   rw[<-r1.1]at O;cases O
  ·have hr:=run_append_nil (P:=P) (ty:=ty) w t e i z ht hi hz a m c news hl Z (by omega) (by omega) (by have hb:=aa;simp only[AD]at hb;omega)
   rw[hr]at r1
   simp only[Eo]at r1
   rw[<-r1.1]at O
   simp only[AJ,Ab]at O
   exact .inr (by rw[<-O.1])
 ·by_cases ac:n+m<=cap
  ·have ai:n*i.size+news.length<=ah.size:=by rw[hl,am,<-Bz];exact AO _ ac
   have hr:=run_append_room (P:=P) (ty:=ty) w t e i ht hi g n cap ah hg a m c news hl Z h1 ac ai
   rw[hr]at r1
   simp only[Eo]at r1
   rw[<-r1.1]at O
   simp only[AJ,Ab]at O
   exact .inl ⟨_,_,_,rfl,by rw[<-O.1]⟩
  ·have af:∀j u,xs[j]?=some u->w.cell? ((⟨g,0,none⟩:Addr).add j)=some u:=ae.cells (g:=g) rfl
   have hr:=run_append_grow (P:=P) (ty:=ty) w t e i z ht hi hz ⟨g,0,none⟩ n cap xs ae.1 af a m c news hl Z (by omega) (by omega) (growslice_fits (by omega) aa)
   rw[hr]at r1
   simp only[Eo]at r1
   rw[<-r1.1]at O
   simp only[AJ,Ab]at O
   exact .inr (by rw[<-O.1])
theorem zen{sz bytes:Nat}(T:ElemT P t e z sz bytes){base:Nat}{s:Sl}(H:Owns h base e sz s xs)
  {src:Sl} (hs:Arr n h src.a news) (hl:news.length=src.len*sz) (h1:∀u∈news,u.oneCell'=true)
  (O:(s.len+src.len)*bytes<=140737488355328) (ae:s.len+src.len<=4611686018427387904) (ac:base<=h.size) {K:Value->zb->Prop}
  (hK:∀(s':Sl) (h':zb),s'.len=s.len+src.len->Owns h' base e sz s' (xs++news)->(∀i,i<h.size->(∀p,s.a=some p->i≠p.block)->h'[i]?=h[i]?)->h.size<=h'.size->(∀p',s'.a=some p'->(∃p,s.a=some p/\p'.block=p.block)\/p'.block=h.size)->K (.slice s'.a s'.len s'.cap) h'):
  XRun P (Au #[t,t] ty #[.slice s.a s.len s.cap,.slice src.a src.len src.cap]) h K:=by
 intro B d
 obtain⟨i,hi,hz,ah,af⟩:=T.info
 have key:∃v' w',(Au #[t,t] ty #[.slice s.a s.len s.cap,.slice src.a src.len src.cap]).run P (mk B d h)=.ok v' w'/\w'.ownsRow base e sz v' (s.len+src.len) (xs++news)/\(mk B d h).grownBy w' (Value.ownBlock (.slice s.a s.len s.cap)) /\
   ∀p' l c',v'=.slice (some p') l c'->(∃p,s.a=some p/\p'.block=p.block)\/p'.block=h.size:=by
  have Z:(mk B d h).ownsRow base e sz (.slice s.a s.len s.cap) s.len xs:=H
  rcases hs with e0|⟨b,o,e0,hb,hc⟩
  ·subst e0
   have h0:src.len=0:=by
    rcases Do src.len with h0|h0
    ·exact h0
    ·have:=Nat.mul_pos h0 T.pos;simp at hl;omega
   rw[h0]
   have ha:∃q,q=src.a:=⟨_,rfl⟩
   obtain⟨q,hq⟩:=ha
   rw[<-hq]
   cases q with
   |none=>
    refine⟨_,mk B d h,?_,by simpa using Z,⟨rfl,rfl,rfl,Ae _,λ_ _ _=>rfl⟩,λp' l c' aa=>.inl ⟨p',by simp only[AJ]at aa;exact aa.1,rfl⟩⟩
    have hT:=T.slice
    have am:s.len<=s.cap:=by
     rcases Z.2 with⟨e1,e2⟩|⟨g,cap,ak,e1,_,_,ap,_⟩
     ·omega
     ·simp only[AJ]at e1;omega
    generalize s.a=sa at *
    cases sa <;> simp[Au,run_underlying hT,sizeOf,typeInfo,hi,Builtin.lenOf,Cm,am,storeCells]
   |some p=>
    obtain⟨v',w',r1,r2,r3,_⟩:=run_append_own (P:=P) (w:=mk B d h) base t ty e i z sz bytes T.slice hi hz ah af T.zero T.pos (.slice s.a s.len s.cap) s.len xs Z p 0 src.cap [] (by simp) (by simp) (by simp) (by unfold maxLen;omega) (by rw[h0]at O;exact O) ac
    refine⟨v',w',r1,r2,r3,λp' l c' aa=>?_⟩
    rcases zfp T.slice hi hz ah af Z (news:=[]) (by simp) (by simp) (by simp) (by rw[h0]at ae;exact ae) (by rw[h0]at O;exact O) r1 p' l c' aa with⟨q,l0,c0,hq,hb⟩|hb
    ·simp only[AJ]at hq;exact .inl ⟨q,hq.1,hb⟩
    ·exact .inr hb
  ·rw[e0]
   obtain⟨v',w',r1,r2,r3,_⟩:=run_append_own (P:=P) (w:=mk B d h) base t ty e i z sz bytes T.slice hi hz ah af T.zero T.pos (.slice s.a s.len s.cap) s.len xs Z ⟨b,o,none⟩ src.len src.cap news hl
    (λj u hu=>by rw[zo];exact hc j u hu) h1 (by unfold maxLen;omega) O ac
   refine⟨v',w',r1,r2,r3,λp' l c' aa=>?_⟩
   rcases zfp T.slice hi hz ah af Z hl (λj u hu=>by rw[zo];exact hc j u hu) h1 ae O r1 p' l c' aa with⟨q,l0,c0,hq,aj⟩|aj
   ·simp only[AJ]at hq;exact .inl ⟨q,hq.1,aj⟩
   ·exact .inr aj
 obtain⟨v',w',r1,r2,r3,r4⟩:=key
 have hw:w'=mk B w'.drawn w'.heap:=by
  have e1:=r3.os;have e2:=r3.tape;have e3:=r3.output
  cases w';simp only[mk]at *;subst e1;subst e2;subst e3;rfl
 rw[hw]at r1
 have hv:∃s':Sl,v'=.slice s'.a s'.len s'.cap/\s'.len=s.len+src.len:=by
  rcases r2.2 with⟨e1,e2⟩|⟨g,cap,ak,e1,_⟩
  ·exact⟨⟨none,0,0⟩,e1,e2.symm⟩
  ·exact⟨⟨some ⟨g,0,none⟩,s.len+src.len,cap⟩,e1,rfl⟩
 obtain⟨s',rfl,ai⟩:=hv
 refine⟨_,_,_,r1,hK s' w'.heap ai ?_ ?_ r3.size λp' an=>r4 p' s'.len s'.cap (by rw[an])⟩
 ·rw[<-ai]at r2;exact r2
 ·intro j hj al
  refine r3.block j hj λhe=>?_
  cases ha:s.a with
  |none=>rw[ha]at he;cases he
  |some p=>
   rw[ha]at he
   simp only[Value.ownBlock,Ab]at he
   exact al p ha he
end
section
variable {h:zb} {m:Nat} {P:Program} {kt t et:TypeId} {z:Value}
def zee(l:List (Bt×Value))(k:Bt):Option Value:=match l with
 |[]=>none
 |p::l=>if p.1=k then some p.2 else zee l k
def zwo(l:List (Bt×Value))(k:Bt)(v:Value):List (Bt×Value):=match l with
 |[]=>[(k,v)]
 |p::l=>if p.1=k then(k,v)::l else p::zwo l k v
theorem zwp(l:List (Bt×Value))(k k':Bt)(v:Value):zee (zwo l k v) k'=if k=k' then some v else zee l k':=by
 induction l with
 |nil=>simp[zwo,zee]
 |cons p l ih=>
  simp only[zwo]
  split
  ·rename_i h
   simp only[zee]
   split <;> rename_i h2
   ·rfl
   ·rw[h];simp[h2]
  ·rename_i h
   simp only[zee,ih]
   split <;> rename_i h2
   ·rw[if_neg (λe=>h (h2.trans e.symm))]
   ·rfl
def MapAt(h:zb)(m:Nat)(l:List (Bt×Value)):Prop:=∃es O,h[m]?=some (.map es O)/\es.toList.map (λe=>(e.key,e.val))=l.map λp=>(A5 p.1,p.2)
theorem MapAt.keep{h h':zb}{l:List (Bt×Value)}(H:MapAt h m l)(k:h'[m]?=h[m]?):MapAt h' m l:=by
 obtain⟨es,c,h1,h2⟩:=H;exact⟨es,c,k.trans h1,h2⟩
theorem MapAt.lt{l:List (Bt×Value)}(H:MapAt h m l):m<h.size:=by
 obtain⟨es,c,h1,h2⟩:=H;exact(Ac.1 h1).1
theorem MapAt.new(h:zb):MapAt (h.push (.map #[] 0)) h.size []:=⟨#[],0,wu _ _,rfl⟩
structure MapT (P:Program) (t kt et:TypeId) (z:Value):Prop where
 map:P.underlying t=some (.map kt et)
 key:P.underlying kt=some .string
 zero:∃i,P.info? et=some i/\i.zero=some z
theorem zkp(a b:Bt):(a==b)=decide (a=b):=by
 show ByteArray.beq a b=_
 cases a;cases b
 rw[AB]
 simp[ByteArray.beq]
instance lawfulBA:LawfulBEq Bt where
 eq_of_beq:=λ {a b} h=>by rw[zkp]at h;simpa using h
 rfl:=λ {a}=>by rw[zkp];simp
theorem J9(k:Bt):∀(es:List MapEntry) (l:List (Bt×Value)) (i:Nat),es.map (λe=>(e.key,e.val))=l.map (λp=>(A5 p.1,p.2)) ->
  (zee l k=none/\D2 .string (.string k) es i=some none)\/(∃j v e,zee l k=some v/\es[j]?=some e/\e.key=.string k/\e.val=v/\D2 .string (.string k) es i=some (some (i+j,v)) /\
   ∀w,(es.modify j λe=>{ e with key:=.string k,val:=w }).map (λe=>(e.key,e.val))=(zwo l k w).map λp=>(A5 p.1,p.2))
 |[],l,i,h=>by
  have:l=[]:=by cases l <;> simp_all
  subst this
  exact .inl ⟨rfl,rfl⟩
 |e::es,l,i,h=>by
  cases l with
  |nil=>simp at h
  |cons p l=>
   simp only[Dx,Br,Bv]at h
   obtain⟨⟨h1,h2⟩,h3⟩:=h
   by_cases hk:p.1=k
   ·refine .inr ⟨0,p.2,e,by simp[zee,hk],rfl,by rw[h1,hk],h2,?_,λw=>?_⟩
    ·have O:(k==p.1)=true:=by rw[zkp];simpa using hk.symm
     simp[D2,Instr.sameNow,h1,h2,O]
    ·simp[zwo,hk,h3]
   ·have O:(k==p.1)=false:=by rw[zkp];simpa using λe=>hk e.symm
    rcases J9 k es l (i+1) h3 with⟨g1,g2⟩|⟨j,v,e',g1,g2,g3,g4,g5,g6⟩
    ·refine .inl ⟨by simp[zee,hk,g1],?_⟩
     simp[D2,Instr.sameNow,h1,O,g2]
    ·refine .inr ⟨j+1,v,e',by simp[zee,hk,g1],by simpa using g2,g3,g4,?_,λw=>?_⟩
     ·simp[D2,Instr.sameNow,h1,O,g5];omega
     ·simp[zwo,hk,h1,h2,g6 w]
theorem Xa(hk:P.underlying kt=some .string)(b:Bool)(k:Bt)(h:zb):QExec P (Instr.checkKey b 10000 kt (.string k)) h ():=by
 intro B d
 have hq:=QExec.underlying (h:=h) hk B d
 unfold Instr.checkKey
 rw[Sem.run_bind,hq]
 rfl
theorem Z3(hk:P.underlying kt=some .string)(k:Bt)(es:List MapEntry)(r:Option (Nat×Value))(h:zb)(hf:D2 .string (.string k) es 0=some r):
  QExec P (Instr.findKey kt (.string k) es) h r:=by
 intro B d
 have hq:=QExec.underlying (h:=h) hk B d
 unfold Instr.findKey
 rw[Sem.run_bind,hq]
 simp only[Result.andThen_ok,hf]
 rfl
theorem Ji{es:Array MapEntry}{c:Nat}(hm:h[m]?=some (.map es c)):QExec P (getObj m) h (.map es c):=by
 intro B d
 have:(mk B d h).heap[m]?=some (.map es c):=hm
 simp[getObj,Sem.run,this]
theorem zsk(hz:∃i,P.info? t=some i/\i.zero=some z):QExec P (zeroValue t) h z:=by
 obtain⟨i,h1,h2⟩:=hz
 intro B d
 simp[zeroValue,typeInfo,program,h1,h2,Sem.run]
def z0l(l:List (Bt×Value))(k:Bt)(z:Value):Value:=(zee l k).getD z
theorem zhm(T:MapT P t kt et z){l:List (Bt×Value)}(H:MapAt h m l)(k:Bt)(ok:Bool):
  QExec P (D9 t (.map (some m)) (.string k) ok) h (if ok then .tuple #[z0l l k z,.bool (zee l k).isSome]else z0l l k z):=by
 obtain⟨es,c,h1,h2⟩:=H
 intro B d
 have hu:=QExec.underlying (h:=h) T.map B d
 have hg:=Ji (P:=P) h1 B d
 have hc:=Xa T.key es.isEmpty k h B d
 unfold D9
 rw[Sem.run_bind,hu]
 simp only[Result.andThen_ok,Sem.run_bind,hg,Sem.run_pure,hc]
 rcases J9 k es.toList l 0 h2 with⟨g1,g2⟩|⟨j,v,e,g1,g2,g3,g4,g5,_⟩
 ·rw[Z3 T.key k es.toList none h g2 B d]
  have hz:=zsk (h:=h) T.zero B d
  simp only[Result.andThen_ok,Sem.run_bind,hz,Sem.run_pure,z0l,g1]
  cases ok <;> rfl
 ·rw[Z3 T.key k es.toList _ h g5 B d]
  simp only[Result.andThen_ok,z0l,g1]
  cases ok <;> rfl
theorem zbb{l:List (Bt×Value)}{k:Bt}{v:Value}(g:zee l k=none):zwo l k v=l++[(k,v)]:=by
 induction l with
 |nil=>rfl
 |cons p l ih=>
  simp only[zee]at g
  split at g
  ·cases g
  ·rename_i hp
   simp[zwo,hp,ih g]
theorem zwq(T:MapT P t kt et z){l:List (Bt×Value)}(H:MapAt h m l)(k:Bt)(v:Value){K:zb->Prop}
  (hK:∀h':zb,MapAt h' m (zwo l k v)->h'.size=h.size->(∀i,i≠m->h'[i]?=h[i]?)->K h'):XRunU P (CQ t (.map (some m)) (.string k) v) h K:=by
 have Z:=H.lt
 obtain⟨es,c,h1,h2⟩:=H
 intro B d
 have hu:=QExec.underlying (h:=h) T.map B d
 have hg:=Ji (P:=P) h1 B d
 have hc:=Xa T.key false k h B d
 have O:∀o:Obj,(setObj m o).run P (mk B d h)=.ok () (mk B d (h.setIfInBounds m o)):=by
  intro o
  have:(mk B d h).heap[m]?=some (.map es c):=h1
  simp[setObj,Sem.run,this]
  rfl
 unfold CQ
 rcases J9 k es.toList l 0 h2 with⟨g1,g2⟩|⟨j,v0,e,g1,g2,g3,g4,g5,g6⟩
 ·refine⟨d,h.setIfInBounds m (.map (es.push { key:=.string k,val:=v,born:=c }) (c+1)),?_,hK _ ⟨es.push { key:=.string k,val:=v,born:=c },c+1,by simp[Z],?_⟩ (by simp) (λi hi=>by rw[AW (Ne.symm hi)])⟩
  ·rw[Sem.run_bind,hu]
   simp only[Result.andThen_ok,Sem.run_bind,hg,hc]
   rw[Z3 T.key k es.toList none h g2 B d]
   simp only[Result.andThen_ok]
   exact O _
  ·rw[zbb g1]
   simp[h2]
 ·have ac:j<es.size:=by
   have:=(Ax.1 g2).1
   simpa using this
  refine⟨d,_,?_,hK (h.setIfInBounds m (.map (es.modify j λe=>{ e with key:=.string k,val:=v }) c)) ⟨es.modify j λe=>{ e with key:=.string k,val:=v },c,by simp[Z],?_⟩ (by simp) (λi hi=>by rw[AW (Ne.symm hi)])⟩
  ·rw[Sem.run_bind,hu]
   simp only[Result.andThen_ok,Sem.run_bind,hg,hc]
   rw[Z3 T.key k es.toList _ h g5 B d]
   simp only[Result.andThen_ok,AD]
   have aa:((es[j]?).map (·.key)).getD (.string k)=.string k:=by
    have:es[j]?=some e:=by simpa using g2
    rw[this];exact g3
   rw[aa]
   have hs:D4 (.string k) (.string k)=pure (.string k):=by
    unfold D4
    rw[if_pos (by show(k==k)=true;rw[zkp];simp)]
   rw[hs]
   exact O _
  ·have:=g6 v
   simpa using this
end
section
variable {h h':zb} {b n o:Nat} {cs:Array Value} {v:Value} {P:Program} {t:TypeId}
def Blk(h:zb)(b:Nat)(cs:Array Value):Prop:=∃T,h[b]?=some (.cells cs T (0,0))
theorem Blk.keep(H:Blk h b cs)(k:h'[b]?=h[b]?):Blk h' b cs:=by
 obtain⟨T,e⟩:=H;exact⟨T,k.trans e⟩
theorem Blk.keepN(H:Blk h b cs)(k:Keep n h h')(hb:b<n):Blk h' b cs:=H.keep (k.get b hb)
theorem Blk.new(h:zb)(cs:Array Value)(T:TypeId):Blk (h.push (.cells cs T)) h.size cs:=⟨T,wu _ _⟩
theorem Blk.lt(H:Blk h b cs):b<h.size:=by
 obtain⟨T,e⟩:=H;exact(Ac.1 e).1
theorem Blk.cell(H:Blk h b cs)(hv:cs[o]?=some v):zm h ⟨b,o,none⟩=some v:=by
 obtain⟨T,e⟩:=H
 unfold zm
 simp[e,hv]
theorem Blk.cellAdd{b o k:Nat}(H:Blk h b cs)(hv:cs[o+k]?=some v):zm h ((⟨b,o,none⟩:Addr).add k)=some v:=by
 rw[zo];exact H.cell hv
theorem Blk.ld{cs:List Value}(H:Blk h b cs.toArray):ze h ⟨b,0,none⟩ 0 cs:=by
 have key:∀(l:List Value) (i:Nat),(∀j v,l[j]?=some v->cs[i+j]?=some v)->ze h ⟨b,0,none⟩ i l:=by
  intro l
  induction l with
  |nil=>intro i _;trivial
  |cons v l ih=>
   intro i hi
   refine⟨?_,ih (i+1) λj u hu=>?_⟩
   ·rw[zo,AD]
    exact H.cell (by have:=hi 0 v rfl;simpa using this)
   ·have:=hi (j+1) u (by simpa using hu)
    rwa[show i+(j+1)=i+1+j by omega]at this
 exact key cs 0 λj v hv=>by simpa using hv
theorem zuj(H:Blk h b cs)(B:World)(d:Nat):(mk B d h).frozen? ⟨b,o,none⟩=false:=by
 obtain⟨T,e⟩:=H
 have:(mk B d h).heap[b]?=some (.cells cs T (0,0)):=e
 simp[World.frozen?,this]
theorem zcw{T:TypeId}(e:h[b]?=some (.cells cs T (0,0)))(ho:o<cs.size)(hv:v.oneCell'=true)(B:World)(d:Nat):
  (store ⟨b,o,none⟩ v).run P (mk B d h)=.ok () (mk B d (h.setIfInBounds b (.cells (cs.setIfInBounds o v) T (0,0)))):=by
 have hc:(mk B d h).cell? ⟨b,o,none⟩=some cs[o]:=Blk.cell (h:=h) ⟨T,e⟩ (by simp[ho])
 have hf:=zuj (o:=o) (⟨T,e⟩:Blk h b cs) B d
 have O:(mk B d h).setCell ⟨b,o,none⟩ v=mk B d (h.setIfInBounds b (.cells (cs.setIfInBounds o v) T (0,0))):=by
  unfold World.setCell mk
  simp only
  congr 1
  have hb:b<h.size:=(Ac.1 e).1
  apply Array.ext_getElem?
  intro i
  rw[Array.getElem?_modify]
  by_cases hi:i=b
  ·subst hi
   have e':h[i]=.cells cs T (0,0):=by
    have:=AP hb
    rw[e]at this
    exact(Aw this).symm
   simp[hb,e']
  ·rw[if_neg (Ne.symm hi),AW (Ne.symm hi)]
 cases v with
 |agg x=>simp[Value.oneCell']at hv
 |tuple x=>simp[Value.oneCell']at hv
 |_=>simp only[store,Sem.run,hc,hf,A9,if_false,O]
theorem cells_one(hv:v.oneCell'=true):v.cells=#[v]:=by
 cases v <;> first|rfl|simp[Value.oneCell']at hv
theorem zwr(hi:ji P t=true)(hs:je P t=1)(H:Blk h b cs)(ho:o<cs.size)(hv:v.oneCell'=true){K:zb->Prop}
  (hK:∀h':zb,Blk h' b (cs.setIfInBounds o v)->h'.size=h.size->(∀i,i≠b->h'[i]?=h[i]?)->K h'):XRunU P (Al t (.pointer (some ⟨b,o,none⟩)) v) h K:=by
 obtain⟨T,e⟩:=H
 have hb:b<h.size:=(Ac.1 e).1
 intro B d
 refine⟨d,_,?_,hK (h.setIfInBounds b (.cells (cs.setIfInBounds o v) T (0,0))) ⟨T,by simp[hb]⟩ (by simp) λi hi=>by rw[AW (Ne.symm hi)]⟩
 have hz:=QExec.sizeOf (P:=P) (h:=h) (j5 hi).choose_spec B d
 unfold Al D8
 simp only[Sem.run_bind,Sem.run_pure,Result.andThen_ok]
 unfold storeVar
 rw[Sem.run_bind,hz]
 simp only[Result.andThen_ok]
 rw[hs,cells_one hv]
 simp only[DI,AR,CR,AD,ne_eq,not_true_eq_false,if_false]
 show Sem.run P (storeCells ⟨b,o,none⟩ [v]) _=_
 unfold storeCells
 rw[Sem.run_bind]
 have ha:(⟨b,o,none⟩:Addr).add 0=⟨b,o,none⟩:=by rw[zo];rfl
 rw[ha,zcw e ho hv B d]
 rfl
theorem Z7{P:Program}{b:Nat}{T:TypeId}(B:World)(d:Nat):∀(vs:List Value) (i:Nat) (h:zb) (cs:Array Value),h[b]?=some (.cells cs T (0,0))->i+vs.length<=cs.size->(∀v∈vs,v.oneCell'=true) ->
  ∃h',(storeCells ⟨b,0,none⟩ vs i).run P (mk B d h)=.ok () (mk B d h')/\h'[b]?=some (.cells (cs.toList.take i++vs++cs.toList.drop (i+vs.length)).toArray T (0,0))/\h'.size=h.size/\∀j,j≠b->h'[j]?=h[j]?
 |[],i,h,cs,e,_,_=>⟨h,rfl,by simpa using e,rfl,λ_ _=>rfl⟩
 |v::vs,i,h,cs,e,hl,hv=>by
  have hb:b<h.size:=(Ac.1 e).1
  simp only[AR]at hl
  have h1:=zcw (P:=P) e (o:=i) (by omega) (hv v Aq) B d
  have e':(h.setIfInBounds b (.cells (cs.setIfInBounds i v) T (0,0)))[b]?=some (.cells (cs.setIfInBounds i v) T (0,0)):=by simp[hb]
  have O:i+1+vs.length<=(cs.setIfInBounds i v).size:=by rw[BX];omega
  obtain⟨h',r1,r2,r3,r4⟩:=Z7 (P:=P) B d vs (i+1) (h.setIfInBounds b (.cells (cs.setIfInBounds i v) T (0,0))) (cs.setIfInBounds i v) e' O λu hu=>hv u (Ah _ hu)
  refine⟨h',?_,?_,by rw[r3];simp,λj hj=>by rw[r4 j hj,AW (Ne.symm hj)]⟩
  ·unfold storeCells
   rw[Sem.run_bind,zo,AD,h1]
   simp only[Result.andThen_ok]
   exact r1
  ·rw[r2]
   congr 3
   have hi:i<cs.toList.length:=by simp;omega
   simp only[Array.toList_setIfInBounds,AR]
   rw[List.take_set,List.drop_set_of_lt (by omega)]
   have e2:(cs.toList.take (i+1)).set i v=cs.toList.take i++[v]:=by
    rw[An hi,List.set_append_right _ _ (by simp;omega)]
    have:i-(cs.toList.take i).length=0:=by simp;omega
    rw[this];rfl
   rw[e2,show i+(vs.length+1)=i+1+vs.length by omega]
   simp
theorem zws{t e:TypeId}{z:Value}{sz bytes:Nat}(T:ElemT P t e z sz bytes){g o n c:Nat}{X:TypeId}(hg:h[g]?=some (.cells cs X (0,0)))(hn:o+n*sz<=cs.size)(hz:∀v∈(Bq z.cells n).toList,v.oneCell'=true)
  (O:(Bq z.cells n).toList.length=n*sz) {ty:TypeId} {K:Value->zb->Prop}
  (hK:∀h':zb,h'[g]?=some (.cells (cs.toList.take o++(Bq z.cells n).toList++cs.toList.drop (o+n*sz)).toArray X (0,0))->h'.size=h.size->(∀i,i≠g->h'[i]?=h[i]?)->K (.tuple #[]) h') (ae:0<n):
  XRun P (DN #[t] ty #[.slice (some ⟨g,o,none⟩) n c]) h K:=by
 intro B d
 have Z:∀(vs:List Value) (i:Nat) (w:World),(storeCells ⟨g,o,none⟩ vs i).run P w=(storeCells ⟨g,0,none⟩ vs (o+i)).run P w:=by
  intro vs
  induction vs with
  |nil=>intro i w;rfl
  |cons v vs ih=>
   intro i w
   unfold storeCells
   rw[Sem.run_bind,Sem.run_bind,zo,zo,AD]
   congr 1
   funext a w'
   exact ih (i+1) w'
 obtain⟨h',r1,r2,r3,r4⟩:=Z7 (P:=P) B d (Bq z.cells n).toList (o+0) h cs hg (by rw[O];omega) hz
 refine⟨_,d,h',?_,hK h' (by rw[r2,O];simp) r3 r4⟩
 obtain⟨i,hi,aa,_,_⟩:=T.info
 have hu:=QExec.underlying (h:=h) T.slice B d
 have ac:=zsk (P:=P) (h:=h) ⟨i,hi,aa⟩ B d
 have hs:=Z (Bq z.cells n).toList 0 (mk B d h)
 rw[r1]at hs
 unfold DN
 simp only[DC,Di]
 cases n with
 |zero=>omega
 |succ n=>
  rw[Sem.run_bind,hu]
  simp only[Result.andThen_ok]
  rw[Sem.run_bind,ac]
  simp only[Result.andThen_ok]
  rw[Sem.run_bind,hs]
  rfl
theorem Owns.base{h:zb}{base O:Nat}{e:TypeId}{sz:Nat}{s:Sl}{xs:List Value}(H:Owns h base e sz s xs)(hb:O<=base):Owns h O e sz s xs:=by
 refine⟨H.1,?_⟩
 rcases H.2 with hn|⟨g,cap,Z,hv,aa,rest⟩
 ·exact .inl hn
 ·exact .inr ⟨g,cap,Z,hv,by omega,rest⟩
end
end Go.X
end
section
namespace Go.X
variable {cs:List Value}
inductive Tr where
 |mk (kind:Int) (text:Bt) (keys:List Bt) (items:List Tr)
namespace Tr
@[reducible] def kind:Tr->Int|mk k _ _ _=>k
@[reducible] def text:Tr->Bt|mk _ s _ _=>s
@[reducible] def keys:Tr->List Bt|mk _ _ ks _=>ks
@[reducible] def items:Tr->List Tr|mk _ _ _ xs=>xs
@[simp] theorem eta(t:Tr):mk t.kind t.text t.keys t.items=t:=by cases t;rfl
instance:Inhabited Tr:=⟨mk 0 ⟨#[]⟩ [] []⟩
end Tr
inductive Ty where
 |int (k:IntKind)|bool|str|row (t:Ty)|tree|unit|pair (a b:Ty)|ptr (t:Ty)|iter|err
 deriving DecidableEq
@[reducible] def El:Ty->Type
 |.int _=>Int
 |.bool=>Bool
 |.str=>Bt
 |.row t=>List (El t)
 |.tree=>Tr
 |.unit=>Unit
 |.pair a b=>El a×El b
 |.ptr t=>El t
 |.iter=>Bt×Nat
 |.err=>Bool
def z88:(t:Ty)->El t
 |.int _=>(0:Int)
 |.bool=>false
 |.str=>(⟨#[]⟩:Bt)
 |.row _=>[]
 |.tree=>default
 |.unit=>()
 |.pair a b=>(z88 a,z88 b)
 |.ptr t=>z88 t
 |.iter=>(⟨#[]⟩,0)
 |.err=>true
def sz:Ty->Nat
 |.tree=>4
 |.unit=>0
 |.pair a b=>sz a+sz b
 |_=>1
abbrev Fr:=Nat->Option (Array Value)
def Fr.le(M M':Fr):Prop:=∀b cs,M b=some cs->M' b=some cs
theorem Fr.le.refl(M:Fr):Fr.le M M:=λ_ _ h=>h
theorem Fr.le.trans{a b c:Fr}(h:Fr.le a b)(k:Fr.le b c):Fr.le a c:=λ_ _ e=>k _ _ (h _ _ e)
def cut(cs:Array Value)(o n:Nat):List Value:=(cs.toList.drop o).take n
def RowAt(M:Fr){α:Type}(R:α->List Value->Prop)(z:Nat)(xs:List α)(v:Value):Prop:=
 ∃a c,v=.slice a xs.length c/\(xs.length<=140737488355328/\xs.length<=c)/\(xs=[]\/∃b o cs,a=some ⟨b,o,none⟩/\M b=some cs/\∀i (h:i<xs.length),R xs[i] (cut cs (o+i*z) z))
inductive TrRd (M:Fr):Tr->List Value->Prop where
 |mk {k:Int} {s:Bt} {ks:List Bt} {xs:List Tr} {vk:Value} {a:Option Addr} {c b o:Nat} {cs:Array Value}
  (hk:RowAt M (λs cs=>cs=[.string s]) 1 ks vk) (hn:xs.length<=140737488355328/\xs.length<=c) (hz:xs=[]\/(a=some ⟨b,o,none⟩/\M b=some cs))
  (hi:∀i (h:i<xs.length),TrRd M xs[i] (cut cs (o+i*4) 4)):TrRd M (.mk k s ks xs) [.int .i64 k,.string s,vk,.slice a xs.length c]
def Z4(s:Bt)(p:Nat):Value:=.iface 0 (.agg #[.string s,.int .i64 p])
def Rd(M:Fr):(t:Ty)->El t->List Value->Prop
 |.int k,i,cs=>cs=[.int k i]
 |.bool,b,cs=>cs=[.bool b]
 |.str,s,cs=>cs=[.string s]
 |.row t,xs,cs=>∃v,cs=[v]/\RowAt M (Rd M t) (sz t) xs v
 |.tree,t,cs=>TrRd M t cs
 |.unit,_,cs=>cs=[]
 |.pair a b,x,cs=>∃c1 c2,cs=c1++c2/\Rd M a x.1 c1/\Rd M b x.2 c2
 |.ptr t,x,cs=>∃b o cc,cs=[.pointer (some ⟨b,o,none⟩)]/\M b=some cc/\Rd M t x (cut cc o (sz t))
 |.iter,x,cs=>cs=[Z4 x.1 x.2]
 |.err,b,cs=>∃v,cs=[v]/\((b=true/\v=.nilIface)\/(b=false/\∃t u,v=.iface t u))
theorem RowAt.mono{M M':Fr}(hM:Fr.le M M'){α:Type}{R R':α->List Value->Prop}{z:Nat}{xs:List α}{v:Value}(H:RowAt M R z xs v)(hR:∀x∈xs,∀cs,R x cs->R' x cs):RowAt M' R' z xs v:=by
 obtain⟨a,c,e,hn,h⟩:=H
 refine⟨a,c,e,hn,h.imp id ?_⟩
 rintro⟨b,o,cs,e1,e2,h3⟩
 exact⟨b,o,cs,e1,hM _ _ e2,λi h=>hR _ (Ao _) _ (h3 i h)⟩
theorem TrRd.mono{M M':Fr}(hM:Fr.le M M'){t:Tr}(H:TrRd M t cs):TrRd M' t cs:=by
 induction H with
 |mk hk hn hz _ ih=>exact .mk (hk.mono hM λ_ _ _ h=>h) hn (hz.imp id λh=>⟨h.1,hM _ _ h.2⟩) ih
theorem Rd.mono{M M':Fr}(hM:Fr.le M M'):∀{t:Ty} {x:El t} {cs:List Value},Rd M t x cs->Rd M' t x cs
 |.int _,_,_,h=>h
 |.bool,_,_,h=>h
 |.str,_,_,h=>h
 |.row _,_,_,⟨v,e,h⟩=>⟨v,e,h.mono hM λ_ _ _ h=>Rd.mono hM h⟩
 |.tree,_,_,h=>TrRd.mono hM h
 |.unit,_,_,h=>h
 |.pair _ _,_,_,⟨c1,c2,e,h1,h2⟩=>⟨c1,c2,e,Rd.mono hM h1,Rd.mono hM h2⟩
 |.ptr _,_,_,⟨b,o,cc,e,h1,h2⟩=>⟨b,o,cc,e,hM _ _ h1,Rd.mono hM h2⟩
 |.iter,_,_,h=>h
 |.err,_,_,h=>h
theorem Rd.len{M:Fr}:∀{t:Ty} {x:El t} {cs:List Value},Rd M t x cs->cs.length=sz t
 |.int _,_,_,h=>by rw[h];rfl
 |.bool,_,_,h=>by rw[h];rfl
 |.str,_,_,h=>by rw[h];rfl
 |.row t,_,_,⟨v,e,_⟩=>by rw[e];rfl
 |.tree,_,_,h=>by cases h;rfl
 |.unit,_,_,h=>by rw[h];rfl
 |.pair _ _,_,_,⟨c1,c2,e,h1,h2⟩=>by rw[e,Av,Rd.len h1,Rd.len h2];rfl
 |.ptr _,_,_,⟨b,o,cc,e,_⟩=>by rw[e];rfl
 |.iter,_,_,h=>by rw[h];rfl
 |.err,_,_,⟨v,e,_⟩=>by rw[e];rfl
theorem Rd.one{M:Fr}:∀{t:Ty} {x:El t} {cs:List Value},Rd M t x cs->∀v∈cs,v.oneCell'=true
 |.int _,_,_,h=>by rw[h];simp[Value.oneCell']
 |.bool,_,_,h=>by rw[h];simp[Value.oneCell']
 |.str,_,_,h=>by rw[h];simp[Value.oneCell']
 |.row t,_,_,⟨v,e,a,c,e2,_⟩=>by rw[e,e2];simp[Value.oneCell']
 |.tree,_,_,h=>by
  cases h with
  |mk hk _ _ _=>obtain⟨a,c,e,_⟩:=hk;rw[e];simp[Value.oneCell']
 |.unit,_,_,h=>by rw[h];simp
 |.pair _ _,_,_,⟨c1,c2,e,h1,h2⟩=>by
  intro v hv
  rw[e]at hv
  rcases Am.1 hv with hv|hv
  ·exact Rd.one h1 v hv
  ·exact Rd.one h2 v hv
 |.ptr _,_,_,⟨b,o,cc,e,_⟩=>by rw[e];simp[Value.oneCell']
 |.iter,_,_,h=>by rw[h];simp[Value.oneCell',Z4]
 |.err,_,_,⟨v,e,h⟩=>by
  rw[e]
  rcases h with⟨_,rfl⟩|⟨_,t,u,rfl⟩ <;> simp[Value.oneCell']
theorem TrRd.keys{M:Fr}{t:Tr}(H:TrRd M t cs):∃vk vi,cs=[.int .i64 t.kind,.string t.text,vk,vi]/\Rd M (.row .str) t.keys [vk]/\Rd M (.row .tree) t.items [vi]:=by
 cases H with
 | @mk k s ks xs vk a c b o cs hk hn hz hi=>
  exact⟨vk,_,rfl,⟨vk,rfl,hk⟩,⟨_,rfl,a,c,rfl,hn,hz.imp id λh=>⟨b,o,cs,h.1,h.2,hi⟩⟩⟩
theorem TrRd.of{M:Fr}{k:Int}{s:Bt}{ks:List Bt}{xs:List Tr}{vk vi:Value}(h1:Rd M (.row .str) ks [vk])(h2:Rd M (.row .tree) xs [vi]):TrRd M (.mk k s ks xs) [.int .i64 k,.string s,vk,vi]:=by
 obtain⟨v,e,h1⟩:=h1
 obtain⟨v',e',a,c,e2,hn,h2⟩:=h2
 cases e;cases e';subst e2
 rcases h2 with rfl|⟨b,o,cs,e1,e2,h3⟩
 ·exact .mk (b:=0) (o:=0) (cs:=#[]) h1 hn (.inl rfl) λi h=>absurd h (by simp)
 ·exact .mk h1 hn (.inr ⟨e1,e2⟩) h3
def Bd:(t:Ty)->El t->Prop
 |.row _,xs=>xs.length<=140737488355328
 |.tree,t=>t.keys.length<=140737488355328/\t.items.length<=140737488355328
 |.pair a b,x=>Bd a x.1/\Bd b x.2
 |_,_=>True
theorem Rd.bd{M:Fr}:∀{t:Ty} {x:El t} {cs:List Value},Rd M t x cs->Bd t x
 |.int _,_,_,_=>trivial
 |.bool,_,_,_=>trivial
 |.str,_,_,_=>trivial
 |.row t,_,_,⟨v,_,a,c,_,h,_⟩=>h.1
 |.tree,_,_,h=>by
  cases h with
  |mk hk hn _ _=>obtain⟨a,c,e,h,_⟩:=hk;exact⟨h.1,hn.1⟩
 |.unit,_,_,_=>trivial
 |.pair _ _,_,_,⟨_,_,_,h1,h2⟩=>⟨Rd.bd h1,Rd.bd h2⟩
 |.ptr _,_,_,_=>trivial
 |.iter,_,_,_=>trivial
 |.err,_,_,_=>trivial
inductive AA where
 |v (x:Value)
 |d (t:Ty) (x:El t)
 |box (c o:Nat)
 |own (c:Nat)
 |oelt (c z:Nat) (i:Nat) (o:Nat)
 |elt (t:Ty) (x:El t) (o:Nat)
 |dc (t:Ty) (xs:List (El t))
inductive AG where
 |a (x:AA)
 |agg (l:List AA)
inductive AV where
 |g (x:AG)
 |tup (l:List AG)
 |nx (b:Bool) (p:Int) (c:Int)
structure Gh where
 M:Fr
 β:Nat->Nat
 σ:Nat->Sl
def All2{α β:Type}(R:α->β->Prop):List α->List β->Prop
 |[],[]=>True
 |x::xs,y::ys=>R x y/\All2 R xs ys
 |_,_=>False
def slV(s:Sl):Value:=.slice s.a s.len s.cap
def DenA(γ:Gh):AA->Value->Prop
 |.v x,u=>u=x
 |.d t x,u=>Rd γ.M t x [u]
 |.box c o,u=>u=.pointer (some ⟨γ.β c,o,none⟩)
 |.own c,u=>u=slV (γ.σ c)
 |.oelt c z i o,u=>∃g,(γ.σ c).a=some ⟨g,0,none⟩/\u=.pointer (some ⟨g,i*z+o,none⟩)
 |.elt t x o,u=>∃b f cs,u=.pointer (some ⟨b,f+o,none⟩)/\γ.M b=some cs/\Rd γ.M t x (cut cs f (sz t))
 |.dc t xs,u=>∃s:Sl,u=slV s/\s.cap=s.len/\Rd γ.M (.row t) xs [u]
def DenG(γ:Gh):AG->Value->Prop
 |.a x,u=>DenA γ x u
 |.agg l,u=>∃us,u=.agg us.toArray/\All2 (DenA γ) l us
def DenV(γ:Gh):AV->Value->Prop
 |.g x,u=>DenG γ x u
 |.tup l,u=>∃us,u=.tuple us.toArray/\All2 (DenG γ) l us
 |.nx b p c,u=>(b=true->u=.tuple #[.bool true,.int .i64 p,.int .i32 c])/\(b=false->u=.tuple #[.bool false])
theorem All2.length{α β:Type}{R:α->β->Prop}:∀{l:List α} {m:List β},All2 R l m->l.length=m.length
 |[],[],_=>rfl
 |[],_::_,h=>h.elim
 |_::_,[],h=>h.elim
 |_::_,_::_,h=>by simp[All2.length h.2]
theorem All2.imp{α β:Type}{R R':α->β->Prop}:∀{l:List α} {m:List β},All2 R l m->(∀x∈l,∀y,R x y->R' x y)->All2 R' l m
 |[],[],_,_=>trivial
 |[],_::_,h,_=>h.elim
 |_::_,[],h,_=>h.elim
 |_::_,_::_,h,k=>⟨k _ Aq _ h.1,All2.imp h.2 λx hx y hy=>k x (Ah _ hx) y hy⟩
theorem All2.append{α β:Type}{R:α->β->Prop}:∀{l l':List α} {m m':List β},All2 R l m->All2 R l' m'->All2 R (l++l') (m++m')
 |[],_,[],_,_,h=>h
 |[],_,_::_,_,h,_=>h.elim
 |_::_,_,[],_,h,_=>h.elim
 |_::_,_,_::_,_,h,k=>⟨h.1,All2.append h.2 k⟩
theorem All2.take{α β:Type}{R:α->β->Prop}:∀(n:Nat) {l:List α} {m:List β},All2 R l m->All2 R (l.take n) (m.take n)
 |0,_,_,_=>by simp[All2]
 |_+1,[],[],_=>trivial
 |_+1,[],_::_,h=>h.elim
 |_+1,_::_,[],h=>h.elim
 |n+1,_::_,_::_,h=>⟨h.1,All2.take n h.2⟩
theorem All2.drop{α β:Type}{R:α->β->Prop}:∀(n:Nat) {l:List α} {m:List β},All2 R l m->All2 R (l.drop n) (m.drop n)
 |0,_,_,h=>by simpa using h
 |_+1,[],[],_=>trivial
 |_+1,[],_::_,h=>h.elim
 |_+1,_::_,[],h=>h.elim
 |n+1,_::_,_::_,h=>by simpa using All2.drop n h.2
theorem All2.get{α β:Type}{R:α->β->Prop}:∀{l:List α} {m:List β} {i:Nat} {x:α},All2 R l m->l[i]?=some x->∃y,m[i]?=some y/\R x y
 |[],[],_,_,_,h=>by simp at h
 |[],_::_,_,_,h,_=>h.elim
 |_::_,[],_,_,h,_=>h.elim
 |_::_,y::_,0,_,h,e=>by simp at e;subst e;exact⟨y,rfl,h.1⟩
 |_::_,_::_,i+1,_,h,e=>by simpa using All2.get h.2 (by simpa using e)
def Jj:(t:Ty)->El t->List AA
 |.int k,i=>[.v (.int k i)]
 |.bool,b=>[.v (.bool b)]
 |.str,s=>[.v (.string s)]
 |.row t,xs=>[.d (.row t) xs]
 |.tree,t=>[.v (.int .i64 t.kind),.v (.string t.text),.d (.row .str) t.keys,.d (.row .tree) t.items]
 |.unit,_=>[]
 |.pair a b,x=>Jj a x.1++Jj b x.2
 |.ptr t,x=>[.elt t x 0]
 |.iter,x=>[.d .iter x]
 |.err,x=>[.d .err x]
theorem Zg{γ:Gh}:∀{t:Ty} {x:El t} {cs:List Value},Rd γ.M t x cs->All2 (DenA γ) (Jj t x) cs
 |.int _,_,_,h=>by rw[h];exact⟨rfl,trivial⟩
 |.bool,_,_,h=>by rw[h];exact⟨rfl,trivial⟩
 |.str,_,_,h=>by rw[h];exact⟨rfl,trivial⟩
 |.row t,_,_,⟨v,e,h⟩=>by rw[e];exact⟨⟨v,rfl,h⟩,trivial⟩
 |.tree,_,_,h=>by
  obtain⟨vk,vi,e,h1,h2⟩:=TrRd.keys h
  rw[e];exact⟨rfl,rfl,h1,h2,trivial⟩
 |.unit,_,_,h=>by rw[h];trivial
 |.pair _ _,_,_,⟨c1,c2,e,h1,h2⟩=>by rw[e];exact(Zg h1).append (Zg h2)
 |.ptr t,x,_,⟨b,o,cc,e,h1,h2⟩=>by rw[e];exact⟨⟨b,o,cc,rfl,h1,h2⟩,trivial⟩
 |.iter,x,_,h=>by rw[h];exact⟨rfl,trivial⟩
 |.err,x,_,⟨v,e,h⟩=>by rw[e];exact⟨⟨v,rfl,h⟩,trivial⟩
def zqp:Ty->Bool
 |.iter=>true
 |.err=>true
 |.pair a b=>bif zqp a then true else zqp b
 |_=>false
theorem Rd.noIt{M:Fr}:∀{t:Ty} {x:El t} {cs:List Value},zqp t=false->Rd M t x cs->∀s p,Z4 s p∉cs
 |.int _,_,_,_,h,s,p=>by rw[h];simp[Z4]
 |.bool,_,_,_,h,s,p=>by rw[h];simp[Z4]
 |.str,_,_,_,h,s,p=>by rw[h];simp[Z4]
 |.row t,_,_,_,⟨v,e,a,c,e2,_⟩,s,p=>by rw[e,e2];simp[Z4]
 |.tree,_,_,_,h,s,p=>by
  cases h with
  |mk hk _ _ _=>obtain⟨a,c,e,_⟩:=hk;rw[e];simp[Z4]
 |.unit,_,_,_,h,s,p=>by rw[h];simp
 |.pair a b,_,_,hi,⟨c1,c2,e,h1,h2⟩,s,p=>by
  simp only[zqp]at hi
  cases ha:zqp a with
  |true=>rw[ha]at hi;cases hi
  |false=>
   rw[ha]at hi
   rw[e]
   intro hm
   rcases Am.1 hm with hm|hm
   ·exact Rd.noIt ha h1 s p hm
   ·exact Rd.noIt hi h2 s p hm
 |.ptr _,_,_,_,⟨b,o,cc,e,_⟩,s,p=>by rw[e];simp[Z4]
 |.iter,_,_,hi,_,_,_=>by cases hi
 |.err,_,_,hi,_,_,_=>by cases hi
def itB:List AA->Bool
 |[.d t _]=>zqp t
 |[.v (.iface _ _)]=>true
 |_=>false
theorem zsl{γ:Gh}{l:List AA}{us:List Value}(h:itB l=false)(hd:All2 (DenA γ) l us)(s:Bt)(p:Nat):us≠[Z4 s p]:=by
 intro e
 subst e
 match l,hd with
 |[x],hd=>
  cases x with
  |v y=>rw[<-show Z4 s p=y from hd.1]at h;simp[itB,Z4]at h
  |d t y=>exact Rd.noIt (show zqp t=false from h) (show Rd γ.M t y [Z4 s p]from hd.1) s p (by simp)
  |box c o=>have:Z4 s p=_:=hd.1;simp[Z4]at this
  |own c=>have:Z4 s p=_:=hd.1;simp[Z4,slV]at this
  |oelt c z i o=>obtain⟨g,_,e⟩:=hd.1;simp[Z4]at e
  |elt t y o=>obtain⟨b,f,cs,e,_⟩:=hd.1;simp[Z4]at e
  |dc t xs=>obtain⟨s',e,_⟩:=hd.1;simp[Z4,slV]at e
 |[],hd=>exact hd.elim
 |_::_::_,hd=>exact hd.2.elim
inductive Ch where
 |box (l:List AA)
 |row (e:TypeId) (t:Ty) (xs:List (El t))
 |fz (t:Ty) (xs:List (El t))
abbrev CS:=List (Nat×Ch)
def Jk:CS->Nat->Option Ch
 |[],_=>none
 |(j,k)::l,i=>bif Nat.beq i j then some k else Jk l i
theorem ql{l:CS}{i:Nat}{k:Ch}(h:Jk l i=some k):(i,k)∈l:=by
 induction l with
 |nil=>cases h
 |cons x l ih=>
  obtain⟨j,k'⟩:=x
  simp only[Jk]at h
  by_cases hb:Nat.beq i j=true
  ·simp only[hb,cond_true,Ab]at h
   subst h
   rw[Ak hb];exact Aq
  ·simp only[hb,cond_false]at h
   exact Ah _ (ih h)
def Yr(t t':Ty)(x:El t):Option (El t'):=if h:t=t' then some (h ▸ x)else none
theorem Wa{M:Fr}{t t':Ty}{x:El t}{y:El t'}(h:Yr t t' x=some y)(r:Rd M t x cs):Rd M t' y cs:=by
 unfold Yr at h
 split at h
 ·rename_i e
  subst e
  simp only[Ab]at h
  subst h;exact r
 ·cases h
def zjp(cs:CS):(t:Ty)->AA->Option (El t)
 |.int k,.v (.int k' i)=>if k=k' then some i else none
 |.bool,.v (.bool b)=>some b
 |.str,.v (.string s)=>some s
 |.row t,.v (.slice none 0 0)=>some ([]:List (El t))
 |.row t,.d t' x=>Yr t' (.row t) x
 |.row t,.dc t' x=>Yr (.row t') (.row t) x
 |.row t,.own c=>match Jk cs c with
  |some (.fz t' xs)=>Yr (.row t') (.row t) xs
  |_=>none
 |.ptr t,.elt t' x 0=>Yr t' t x
 |.ptr t,.d t' x=>Yr t' (.ptr t) x
 |.iter,.d t' x=>Yr t' .iter x
 |.err,.d t' x=>Yr t' .err x
 |.err,.v .nilIface=>some true
 |.err,.v (.iface _ _)=>some false
 |_,_=>none
def collect(cs:CS):(t:Ty)->List AA->Option (El t×List AA)
 |.unit,l=>some ((),l)
 |.pair a b,l=>match collect cs a l with
  |some (x,l')=>match collect cs b l' with
   |some (y,l'')=>some ((x,y),l'')
   |none=>none
  |none=>none
 |.tree,k::s::ks::xs::l=>match zjp cs (.int .i64) k,zjp cs .str s,zjp cs (.row .str) ks,zjp cs (.row .tree) xs with
  |some k,some s,some ks,some xs=>some (Tr.mk k s ks xs,l)
  |_,_,_,_=>none
 |.tree,_=>none
 |t,x::l=>match zjp cs t x with
  |some y=>some (y,l)
  |none=>none
 |_,[]=>none
def z0m(γ:Gh)(cs:CS):Prop:=∀c t xs,(c,Ch.fz t xs)∈cs->Rd γ.M (.row t) xs [slV (γ.σ c)]
theorem wv{γ:Gh}{cs:CS}(hf:z0m γ cs){t:Ty}{x:AA}{y:El t}(h:zjp cs t x=some y){u:Value}(hd:DenA γ x u):Rd γ.M t y [u]:=by
 unfold zjp at h
 split at h
 ·split at h
  ·rename_i hk;simp only[Ab]at h;subst h;subst hk;exact congrArg (λu=>[u]) hd
  ·cases h
 ·simp only[Ab]at h;subst h;exact congrArg (λu=>[u]) hd
 ·simp only[Ab]at h;subst h;exact congrArg (λu=>[u]) hd
 ·simp only[Ab]at h;subst h
  exact⟨u,rfl,none,0,hd,by simp,.inl rfl⟩
 ·exact Wa h hd
 ·obtain⟨s,_,_,hd⟩:=hd
  exact Wa h hd
 ·split at h
  ·rename_i t' xs O
   rw[show u=_ from hd]
   exact Wa h (hf _ _ _ (ql O))
  ·cases h
 ·rename_i t t' x
  obtain⟨b,f,cs',e,h1,h2⟩:=hd
  exact⟨b,f,cs',by rw[e];rfl,h1,by
   unfold Yr at h
   split at h
   ·rename_i e;subst e;simp only[Ab]at h;subst h;exact h2
   ·cases h⟩
 ·exact Wa h hd
 ·exact Wa h hd
 ·exact Wa h hd
 ·simp only[Ab]at h;subst h;exact⟨u,rfl,.inl ⟨rfl,hd⟩⟩
 ·rename_i t' x';simp only[Ab]at h;subst h;exact⟨u,rfl,.inr ⟨rfl,_,_,hd⟩⟩
 ·cases h
theorem Jl{γ:Gh}{cs:CS}(hf:z0m γ cs):∀{t:Ty} {l l':List AA} {y:El t},collect cs t l=some (y,l')->∀{us:List Value},All2 (DenA γ) l us->∃c1 c2,us=c1++c2/\Rd γ.M t y c1/\All2 (DenA γ) l' c2
 |.unit,l,l',y,h,us,hu=>by
  simp only[collect,Ab,Bv]at h
  obtain⟨_,rfl⟩:=h
  exact⟨[],us,rfl,rfl,hu⟩
 |.pair a b,l,l',y,h,us,hu=>by
  simp only[collect]at h
  split at h
  ·rename_i x l1 h1
   split at h
   ·rename_i z l2 h2
    simp only[Ab,Bv]at h
    obtain⟨rfl,rfl⟩:=h
    obtain⟨c1,c2,rfl,r1,r2⟩:=Jl hf h1 hu
    obtain⟨c3,c4,rfl,r3,r4⟩:=Jl hf h2 r2
    exact⟨c1++c3,c4,by simp,⟨c1,c3,rfl,r1,r3⟩,r4⟩
   ·cases h
  ·cases h
 |.tree,l,l',y,h,us,hu=>by
  match l,us,hu,h with
  |k::s::ks::xs::l,u1::u2::u3::u4::us,hu,h=>
   simp only[collect]at h
   split at h
   ·rename_i k' s' ks' O h1 h2 h3 h4
    simp only[Ab,Bv]at h
    obtain⟨rfl,rfl⟩:=h
    obtain⟨d1,d2,d3,d4,d5⟩:=hu
    have r1:=wv hf h1 d1
    have r2:=wv hf h2 d2
    have r3:=wv hf h3 d3
    have r4:=wv hf h4 d4
    refine⟨[u1,u2,u3,u4],us,rfl,?_,d5⟩
    have e1:[u1]=[Ew .i64 k']:=r1
    have e2:[u2]=[A5 s']:=r2
    cases e1;cases e2
    exact TrRd.of r3 r4
   ·cases h
  |[],_,_,h=>simp[collect]at h
  |[_],_,_,h=>simp[collect]at h
  |[_,_],_,_,h=>simp[collect]at h
  |[_,_,_],_,_,h=>simp[collect]at h
  |_::_::_::_::_,[],hu,_=>exact hu.elim
  |_::_::_::_::_,[_],hu,_=>exact hu.2.elim
  |_::_::_::_::_,[_,_],hu,_=>exact hu.2.2.elim
  |_::_::_::_::_,[_,_,_],hu,_=>exact hu.2.2.2.elim
 |.int k,x::l,l',y,h,u::us,hu=>by
  simp only[collect]at h
  split at h
  ·rename_i z hz;simp only[Ab,Bv]at h;obtain⟨rfl,rfl⟩:=h
   exact⟨[u],us,rfl,wv hf hz hu.1,hu.2⟩
  ·cases h
 |.bool,x::l,l',y,h,u::us,hu=>by
  simp only[collect]at h
  split at h
  ·rename_i z hz;simp only[Ab,Bv]at h;obtain⟨rfl,rfl⟩:=h
   exact⟨[u],us,rfl,wv hf hz hu.1,hu.2⟩
  ·cases h
 |.str,x::l,l',y,h,u::us,hu=>by
  simp only[collect]at h
  split at h
  ·rename_i z hz;simp only[Ab,Bv]at h;obtain⟨rfl,rfl⟩:=h
   exact⟨[u],us,rfl,wv hf hz hu.1,hu.2⟩
  ·cases h
 |.row _,x::l,l',y,h,u::us,hu=>by
  simp only[collect]at h
  split at h
  ·rename_i z hz;simp only[Ab,Bv]at h;obtain⟨rfl,rfl⟩:=h
   exact⟨[u],us,rfl,wv hf hz hu.1,hu.2⟩
  ·cases h
 |.ptr _,x::l,l',y,h,u::us,hu=>by
  simp only[collect]at h
  split at h
  ·rename_i z hz;simp only[Ab,Bv]at h;obtain⟨rfl,rfl⟩:=h
   exact⟨[u],us,rfl,wv hf hz hu.1,hu.2⟩
  ·cases h
 |.iter,x::l,l',y,h,u::us,hu=>by
  simp only[collect]at h
  split at h
  ·rename_i z hz;simp only[Ab,Bv]at h;obtain⟨rfl,rfl⟩:=h
   exact⟨[u],us,rfl,wv hf hz hu.1,hu.2⟩
  ·cases h
 |.iter,_::_,_,_,_,[],hu=>hu.elim
 |.iter,[],_,_,h,_,_=>by simp[collect]at h
 |.err,x::l,l',y,h,u::us,hu=>by
  simp only[collect]at h
  split at h
  ·rename_i z hz;simp only[Ab,Bv]at h;obtain⟨rfl,rfl⟩:=h
   exact⟨[u],us,rfl,wv hf hz hu.1,hu.2⟩
  ·cases h
 |.err,_::_,_,_,_,[],hu=>hu.elim
 |.err,[],_,_,h,_,_=>by simp[collect]at h
 |.int _,_::_,_,_,_,[],hu=>hu.elim
 |.bool,_::_,_,_,_,[],hu=>hu.elim
 |.str,_::_,_,_,_,[],hu=>hu.elim
 |.row _,_::_,_,_,_,[],hu=>hu.elim
 |.ptr _,_::_,_,_,_,[],hu=>hu.elim
 |.int _,[],_,_,h,_,_=>by simp[collect]at h
 |.bool,[],_,_,h,_,_=>by simp[collect]at h
 |.str,[],_,_,h,_,_=>by simp[collect]at h
 |.row _,[],_,_,h,_,_=>by simp[collect]at h
 |.ptr _,[],_,_,h,_,_=>by simp[collect]at h
end Go.X
end
