/- A part of the proof: nothing is stated here for its own sake. -/
import Derived.Deep.Quiet
import Derived.StillTail
import Derived.Laws.Strings
import Derived.Laws.Cover3
import Derived.Laws.Pointers
import Derived.Laws.OwnMore
open _root_.Go.Addr renaming add->Aj
open _root_.Array renaming getD_eq_getD_getElem?->Bq,getElem?_append_left->CN,getElem?_eq_getElem->AN,getElem?_eq_some_iff->Ac,getElem?_push->BM,getElem?_setIfInBounds_ne->AL,getElem?_toList->A0,replicate->Bm,size_setIfInBounds->Cf
open _root_.Bool renaming and_eq_true->AI,eq_iff_iff->AB,false_eq_true->AW,false_or->DV,not_eq_true'->B4,true_and->Bi
open _root_.Go.Builtin renaming append_->Au,clear_->Eb,copy_->Dp,firstCells->CC,len_->CV,zeroCells->Bv
open _root_.Go.Code renaming cond->EK,region->Db
open _root_.Go.Deferred renaming ofValue->Eh
open _root_.Go.Instr renaming findNow->Em,indexAt->EM,keyThatStays->Eo,loadAt->Ef,lookup->Eg,mapUpdate->C4,next->E7,range->E3,sliceAt->EN,storeAt->Ai,sureAddr->Es
open _root_.Go.IntKind renaming bits->Ap,signed->Ec,wrap->Aa
open _root_.List renaming all_eq_true->AQ,any_eq_true->Ei,cons_append->A5,drop_eq_getElem_cons->AE,eq_nil_iff_forall_not_mem->CU,eq_nil_of_length_eq_zero->Av,getElem?_append_right->Bj,getElem?_cons_zero->Dx,getElem?_drop->AJ,getElem?_eq_getElem->Am,getElem?_eq_none->Bu,getElem?_eq_some_iff->Az,getElem?_take->AF,getElem?_toArray->DW,getElem_mem->As,getElem_of_mem->Bc,length_append->Ao,length_cons->Ay,length_eq_zero_iff->Ck,length_erase_of_mem->CW,length_nil->Dh,length_range->DY,mapM_cons->Ev,map_cons->Dq,mem_append->An,mem_append_left->Aq,mem_append_right->AC,mem_cons->Af,mem_cons_of_mem->Ah,mem_cons_self->Ar,mem_of_getElem?->CF,mem_range->Cc,nil_append->BP,nodup_append->A9,nodup_cons->CQ,nodup_nil->Et,nodup_range->Dw,pairwise_append->CG,pairwise_cons->BR,range->BJ,replicate->Er,size_toArray->DZ,take_append_drop->Br,take_left->Eu,take_succ_cons->BV,take_succ_eq_append_getElem->Ag,take_zero->Cz
open _root_.List.cons renaming injEq->Cq
open _root_.Nat renaming add_mul->BH,add_zero->C8,blt_eq->CM,eq_of_beq_eq_true->Al,eq_or_lt_of_le->DF,eq_zero_or_pos->DG,le_of_ble_eq_true->BS,le_refl->Ae,lt_of_lt_of_le->DD,lt_or_ge->AZ,mul_le_mul_right->AM,sub_zero->Ca,zero_add->AH,zero_le->CY
open _root_.Go.Next renaming value->Ea
open _root_.Option renaming bind_some->Cu
open _root_.Option.some renaming inj->Ax,injEq->Ab
open _root_.Prod.mk renaming injEq->BG
open _root_.Pure renaming pure->Dv
open _root_.Go.Region renaming wanted->BU
open _root_.Go.Result.ok renaming injEq->EX
open _root_.Go.Value renaming int->E5,string->AU
open _root_.Go.Value.slice renaming injEq->AO
set_option linter.unusedVariables false
set_option maxRecDepth 100000
namespace Go.X
end Go.X
namespace Go.Proofs
end Go.Proofs
open Go Go.X Go.Proofs
section
namespace Go.X
section
abbrev Bt:= ByteArray
variable {i n m:Nat} {v u:Value} {a:Act} {o:Oper}
abbrev zb:=Array Obj
abbrev qf:=List (Nat×Bool)
abbrev Env:=List (Nat×qf×Value)
def mk(B:World)(d:Nat)(h:zb):World:={ B with heap:=h,drawn:=d }
def look:Env->Nat->Option (qf×Value)
 |[],_=>none
 |(j,c,v)::e,i=>bif Nat.beq i j then some (c,v)else look e i
def valid(σ:Nat->Value):qf->Prop
 |[]=>True
 |(g,p)::c=>σ g=.bool p/\valid σ c
def zw(a:Act)(i:Nat):Value:=a.tmps.getD i undef
def fact(σ:Nat->Value)(x:Nat×qf×Value):Prop:=(valid σ x.2.1->σ x.1=x.2.2)/\(¬valid σ x.2.1->σ x.1=undef)
structure Sat (n:Nat) (e:Env) (a:Act):Prop where
 defers:a.defers=[]
 size:a.tmps.size=n
 all:∀x∈e,fact (zw a) x
def mentions:qf->Nat->Bool
 |[],_=>false
 |(g,_)::c,i=>bif Nat.beq i g then true else mentions c i
def del:Env->Nat->Env
 |[],_=>[]
 |(j,c,v)::e,i=>bif (bif Nat.beq i j then true else mentions c i)then del e i else(j,c,v)::del e i
def put(e:Env)(i:Nat)(c:qf)(v:Value):Env:=(i,c,v)::del e i
def putO(e:Env):Option Nat->qf->Value->Env
 |none,_,_=>e
 |some d,c,v=>put e d c v
def clean:Env->Env
 |[]=>[]
 |(j,[],v)::e=>(j,[],v)::clean e
 |(_,_::_,_)::e=>clean e
theorem zak{e:Env}{c:qf}(h:look e i=some (c,v)):(i,c,v)∈e:=by
 induction e with
 |nil=>cases h
 |cons x e ih=>
  obtain⟨j,cj,vj⟩:=x
  simp only[look]at h
  by_cases hb:Nat.beq i j=true
  ·simp only[hb,cond_true,Ab,BG]at h
   obtain⟨rfl,rfl⟩:=h
   rw[Al hb]
   exact Ar
  ·simp only[hb,cond_false]at h
   exact Ah _ (ih h)
theorem z8p{e:Env}{x:Nat×qf×Value}(h:x∈del e i):x∈e/\x.1≠i/\mentions x.2.1 i=false:=by
 induction e with
 |nil=>cases h
 |cons y e ih=>
  obtain⟨j,cj,vj⟩:=y
  simp only[del]at h
  by_cases hb:Nat.beq i j=true
  ·simp only[hb,cond_true]at h
   exact⟨Ah _ (ih h).1,(ih h).2⟩
  ·have aa:Nat.beq i j=false:=Bool.eq_false_iff.2 hb
   simp only[aa,cond_false]at h
   by_cases hm:mentions cj i=true
   ·simp only[hm,cond_true]at h
    exact⟨Ah _ (ih h).1,(ih h).2⟩
   ·have Z:mentions cj i=false:=by simpa using hm
    simp only[Z,cond_false]at h
    rcases Af.1 h with rfl|h
    ·refine⟨Ar,λO=>?_,Z⟩
     simp only at O
     rw[O]at hb
     exact hb (by simp)
    ·exact⟨Ah _ (ih h).1,(ih h).2⟩
theorem zyi{e:Env}{x:Nat×qf×Value}(h:x∈clean e):x∈e/\x.2.1=[]:=by
 induction e with
 |nil=>cases h
 |cons y e ih=>
  obtain⟨j,cj,vj⟩:=y
  cases cj with
  |nil=>
   simp only[clean]at h
   rcases Af.1 h with rfl|h
   ·exact⟨Ar,rfl⟩
   ·exact⟨Ah _ (ih h).1,(ih h).2⟩
  |cons c cs=>
   simp only[clean]at h
   exact⟨Ah _ (ih h).1,(ih h).2⟩
theorem Sat.sub{e e':Env}(h:Sat n e a)(hs:∀x∈e',x∈e):Sat n e' a:=⟨h.defers,h.size,λx hx=>h.all x (hs x hx)⟩
theorem Sat.clean{n:Nat}{e:Env}{a:Act}(h:Sat n e a):Sat n (clean e) a:=h.sub λ_ hx=>(zyi hx).1
theorem Z4{σ τ:Nat->Value}{c:qf}(hm:mentions c i=false)(h:∀j,j≠i->σ j=τ j):valid σ c↔valid τ c:=by
 induction c with
 |nil=>exact Iff.rfl
 |cons x c ih=>
  obtain⟨g,p⟩:=x
  simp only[mentions]at hm
  by_cases hb:Nat.beq i g=true
  ·simp[hb]at hm
  ·simp only[hb,cond_false]at hm
   have hg:g≠i:=λe=>hb (by rw[e];simp)
   simp only[valid,h g hg,ih hm]
theorem yc(hi:i<a.tmps.size):zw (a.put (some i) u) i=u:=by
 simp[zw,Act.put,hi]
theorem qq{i j:Nat}(h:j≠i):zw (a.put (some i) u) j=zw a j:=by
 simp[zw,Act.put,AL (Ne.symm h)]
theorem size_put(a:Act)(d:Option Nat)(u:Value):(a.put d u).tmps.size=a.tmps.size:=by
 cases d <;> simp[Act.put]
theorem qg(a:Act)(d:Option Nat)(u:Value):(a.put d u).defers=a.defers:=by
 cases d <;> simp[Act.put]
theorem Sat.put{n:Nat}{e:Env}{a:Act}(h:Sat n e a){i:Nat}{c:qf}{v u:Value}(hi:i<n)(hm:mentions c i=false)
  (hy:valid (zw a) c->u=v) (hn:¬valid (zw a) c->u=undef):Sat n (put e i c v) (a.put (some i) u):=by
 refine⟨by rw[qg];exact h.defers,by rw[size_put];exact h.size,λx hx=>?_⟩
 have Z:i<a.tmps.size:=by rw[h.size];exact hi
 rcases Af.1 hx with rfl|hx
 ·have hv:=Z4 (σ:=zw (a.put (some i) u)) (τ:=zw a) hm (λj hj=>qq hj)
  refine⟨λhc=>?_,λhc=>?_⟩
  ·exact(yc Z).trans (hy (hv.1 hc))
  ·exact(yc Z).trans (hn (λO=>hc (hv.2 O)))
 ·obtain⟨h1,h2,h3⟩:=z8p hx
  have hv:=Z4 (σ:=zw (a.put (some i) u)) (τ:=zw a) h3 (λj hj=>qq hj)
  have hf:=h.all x h1
  refine⟨λhc=>?_,λhc=>?_⟩
  ·exact(qq h2).trans (hf.1 (hv.1 hc))
  ·exact(qq h2).trans (hf.2 (λO=>hc (hv.2 O)))
def yq(n:Nat)(c:qf):Option Nat->Bool
 |none=>true
 |some d=>bif mentions c d then false else Nat.blt d n
theorem Sat.putO{n:Nat}{e:Env}{a:Act}(h:Sat n e a){d:Option Nat}{c:qf}{v u:Value}(hd:yq n c d=true)
  (hy:valid (zw a) c->u=v) (hn:¬valid (zw a) c->u=undef):Sat n (putO e d c v) (a.put d u):=by
 cases d with
 |none=>exact h
 |some i=>
  simp only[yq]at hd
  by_cases hm:mentions c i=true
  ·simp[hm]at hd
  ·have O:mentions c i=false:=by simpa using hm
   simp only[O,cond_false]at hd
   exact h.put (by simpa[CM]using hd) O hy hn
def Z5:qf->qf->Bool
 |[],[]=>true
 |(g,p)::c,(g',p')::c'=>bif Nat.beq g g' then(bif p then(bif p' then Z5 c c' else false)else(bif p' then false else Z5 c c'))else false
 |_,_=>false
theorem Jk:∀{c c':qf},Z5 c c'=true->c=c'
 |[],[],_=>rfl
 |[],_::_,h=>by simp[Z5]at h
 |_::_,[],h=>by simp[Z5]at h
 |(g,p)::c,(g',p')::c',h=>by
  simp only[Z5]at h
  by_cases hb:Nat.beq g g'=true
  ·simp only[hb,cond_true]at h
   have e1:=Al hb
   cases p <;> cases p' <;> simp at h <;> rw[e1,Jk h]
  ·simp[hb]at h
def suf(cs:qf):qf->Bool
 |[]=>Z5 cs []
 |x::c=>bif Z5 cs (x::c)then true else suf cs c
theorem Jl{σ:Nat->Value}{cs:qf}:∀{c:qf},suf cs c=true->valid σ c->valid σ cs
 |[],h,_=>by rw[Jk h];trivial
 |x::c,h,hv=>by
  simp only[suf]at h
  by_cases hb:Z5 cs (x::c)=true
  ·rw[Jk hb];exact hv
  ·simp only[hb,cond_false]at h
   exact Jl h hv.2
def za4(e:Env)(c:qf):Operand->Option Value
 |.tmp t=>match look e t with
  |some (cs,v)=>bif suf cs c then some v else none
  |none=>none
 |.const v=>some v
 |.global g=>some (.pointer (some ⟨g,0,none⟩))
 |.func f=>some (.func (.func f) #[] #[])
theorem j6{e:Env}(h:Sat n e a){c:qf}(hc:valid (zw a) c){x:Operand}(hx:za4 e c x=some v):a.eval x=v:=by
 cases x with
 |tmp t=>
  simp only[za4]at hx
  split at hx
  ·rename_i cs u hl
   by_cases hs:suf cs c=true
   ·simp only[hs,cond_true,Ab]at hx
    subst hx
    exact(h.all _ (zak hl)).1 (Jl hs hc)
   ·simp[hs]at hx
  ·cases hx
 |const u=>simp only[za4,Ab]at hx;exact hx
 |global g=>simp only[za4,Ab]at hx;exact hx
 |func f=>simp only[za4,Ab]at hx;exact hx
def rho(e:Env)(c:qf)(x:Operand):Value:=match za4 e c x with
 |some v=>v
 |none=>undef
def known(e:Env)(c:qf):List Operand->Bool
 |[]=>true
 |x::l=>match za4 e c x with
  |some _=>known e c l
  |none=>false
theorem xy{e:Env}(h:Sat n e a){c:qf}(hc:valid (zw a) c){l:List Operand}(hk:known e c l=true):∀x∈l,a.eval x=rho e c x:=by
 induction l with
 |nil=>intro x hx;cases hx
 |cons y l ih=>
  intro x hx
  simp only[known]at hk
  split at hk
  ·rename_i v hv
   rcases Af.1 hx with rfl|hx
   ·rw[j6 h hc hv];simp[rho,hv]
   ·exact ih hk x hx
  ·cases hk
def xd:Op->Bool
 |.select _ _=>false
 |_=>true
theorem Y0{e:Env}(h:Sat n e a){c:qf}(hc:valid (zw a) c)(hs:xd o.op=true)(hk:known e c o.op.operands.toList=true):
  execOp a.eval o=execOp (rho e c) o:=
 execOp_congr o (λcs b hb=>by rw[hb]at hs;cases hs) λx hx=>xy h hc hk x (by simpa using hx)
def jd(ops:Array Oper)(j:Nat):Option Nat:=match ops[j]? with
 |some o=>o.dst
 |none=>none
def zez(ops:Array Oper)(e:Env):Option (Nat×Bool)->Option qf
 |none=>some []
 |some (j,p)=>match jd ops j with
  |some g=>match look e g with
   |some (cg,.bool _)=>some ((g,p)::cg)
   |_=>none
  |none=>none
def zyj(e:Env):qf->Option Bool
 |[]=>some true
 |(g,p)::c=>match look e g with
  |some (cg,.bool b)=>bif Z5 cg c then(match zyj e c with
    |some cb=>some (cb&&(bif p then b else !b))
    |none=>none)else none
  |_=>none
theorem zc3{b:Bool}:undef≠.bool b:=by simp[undef]
theorem zbm{n:Nat}{e:Env}{a:Act}(h:Sat n e a):∀{c:qf} {b:Bool},zyj e c=some b->(b=true↔valid (zw a) c)
 |[],b,hb=>by simp only[zyj,Ab]at hb;simp[<-hb,valid]
 |(g,p)::c,b,hb=>by
  simp only[zyj]at hb
  split at hb
  ·rename_i cg bg hl
   by_cases hq:Z5 cg c=true
   ·simp only[hq,cond_true]at hb
    split at hb
    ·rename_i cb O
     simp only[Ab]at hb
     have ih:=zbm h O
     have hf:=h.all _ (zak hl)
     rw[Jk hq]at hf
     by_cases hv:valid (zw a) c
     ·have h1:zw a g=.bool bg:=hf.1 hv
      have h2:=ih.2 hv
      subst hb
      simp only[valid,h1,hv,h2,Bi,and_true,Value.bool.injEq]
      cases p <;> cases bg <;> simp
     ·have h1:cb=false:=by cases cb with|false=>rfl|true=>exact absurd (ih.1 rfl) hv
      subst hb
      simp[valid,hv,h1]
    ·cases hb
   ·simp[hq]at hb
  ·cases hb
theorem Y1{ops:Array Oper}{e:Env}(h:Sat n e a){c:qf}(hc:zez ops e o.guard=some c):
  BU o (yielded ops a.tmps)=true↔valid (zw a) c:=by
 unfold BU
 cases hg:o.guard with
 |none=>rw[hg]at hc;simp only[zez,Ab]at hc;simp[<-hc,valid]
 |some jp=>
  obtain⟨j,p⟩:=jp
  rw[hg]at hc
  simp only[zez]at hc
  split at hc
  ·rename_i g hd
   split at hc
   ·rename_i cg b hl
    simp only[Ab]at hc
    subst hc
    have Z:((ops[j]?).bind (·.dst))=some g:=by
     simp only[jd]at hd
     split at hd
     ·rename_i o' O;simp[O,hd]
     ·cases hd
    have hf:=h.all _ (zak hl)
    have hy:yielded ops a.tmps j=some p↔zw a g=.bool p:=by
     unfold yielded zw
     rw[Z]
     simp only[Cu]
     cases ht:a.tmps[g]? with
     |none=>simp[Bq,ht,undef]
     |some v=>cases v <;> simp[Bq,ht]
    simp only[beq_iff_eq,hy,valid]
    constructor
    ·intro h1
     refine⟨h1,?_⟩
     by_cases hv:valid (zw a) cg
     ·exact hv
     ·have:=hf.2 hv
      simp only at this
      rw[h1]at this
      exact absurd this.symm zc3
    ·exact λh1=>h1.1
   ·cases hc
  ·cases hc
structure Keep (n:Nat) (h h':zb):Prop where
 size:h.size<=h'.size
 get:∀i,i<n->h'[i]?=h[i]?
theorem Keep.refl(n:Nat)(h:zb):Keep n h h:=⟨Ae _,λ_ _=>rfl⟩
theorem Keep.trans{a b c:zb}(h:Keep n a b)(k:Keep m b c)(hm:n<=m):Keep n a c:=
 ⟨Nat.le_trans h.size k.size,λi hi=>(k.get i (DD hi hm)).trans (h.get i hi)⟩
theorem Keep.mono{a b:zb}(h:Keep n a b)(hm:m<=n):Keep m a b:=⟨h.size,λi hi=>h.get i (DD hi hm)⟩
theorem Keep.push(h:zb)(o:Obj)(hn:n<=h.size):Keep n h (h.push o):=
 ⟨by simp,λi hi=>by rw[BM,if_neg (by omega)]⟩
end
section
variable {P:Program} {α:Type} {h:zb} {v i:Value} {t:TypeId} {g:Option Bool} {n l r:Int}
def zk(h:zb)(a:Addr):Option Value:=
 match h[a.block]? with
 |some (.cells c _ _)=>if a.spot.isSome then none else c[a.off]?
 |_=>none
theorem zyk(B:World)(d:Nat)(h:zb)(a:Addr):(mk B d h).cell? a=zk h a:=rfl
def Q5(P:Program){α:Type}:Sem α->Option α
 |.pure a=>some a
 |.program k=>Q5 P (k P)
 |.mark _ k=>Q5 P k
 |_=>none
def QExec(P:Program){α:Type}(s:Sem α)(h:zb)(x:α):Prop:=∀B d,s.run P (mk B d h)=.ok x (mk B d h)
theorem Xh{s:Sem α}{x:α}(h:Q5 P s=some x)(w:World):s.run P w=.ok x w:=by
 induction s with
 |pure a=>simp only[Q5,Ab]at h;subst h;rfl
 |program k ih=>exact ih P h
 |mark m k ih=>exact ih h
 |_=>simp[Q5]at h
theorem zkl{s:Sem α}{x:α}(h:Q5 P s=some x)(hp:zb):QExec P s hp x:=λ_ _=>Xh h _
theorem QExec.bind{α β:Type}{s:Sem α}{f:α->Sem β}{x:α}{y:β}(h1:QExec P s h x)(h2:QExec P (f x) h y):QExec P (s >>= f) h y:=by
 intro B d
 rw[Sem.run_bind,h1 B d]
 exact h2 B d
theorem QExec.pure(x:α):QExec P (Dv x) h x:=λ_ _=>rfl
theorem QExec.val{s:Sem Value}(h1:QExec P s h v):QExec P (s >>= λx=>Dv (Ea x)) h (Ea v):=h1.bind (QExec.pure _)
theorem QExec.underlying{d:TypeDesc}(hd:P.underlying t=some d):QExec P (Go.underlying t) h d:=by
 intro B e
 simp[Go.underlying,program,hd,Sem.run]
def ja(P:Program)(t:TypeId):Nat:=match P.info? t with
 |some i=>i.size
 |none=>0
theorem QExec.sizeOf{i:TypeInfo}(hi:P.info? t=some i):QExec P (Go.sizeOf t) h (ja P t):=by
 intro B d
 simp[Go.sizeOf,typeInfo,program,hi,Sem.run,ja]
theorem info_of_underlying{d:TypeDesc}(hd:P.underlying t=some d):∃i,P.info? t=some i:=by
 unfold Program.underlying at hd
 cases h:P.info? t with
 |none=>rw[h]at hd;cases hd
 |some i=>exact⟨i,rfl⟩
inductive Atom where
 |int (k:IntKind)|bool|str|sl|mp|ptr|raw|ad
structure Sl where
 a:Option Addr
 len:Nat
 cap:Nat
@[reducible] def Atom.den:Atom->Type
 |.int _=>Int | .bool=>Bool | .str=>Bt | .sl=>Sl | .mp=>Option Nat | .ptr=>Option Addr | .raw=>Value | .ad=>Addr
def Atom.enc:(t:Atom)->t.den->Value
 |.int k,n=>.int k n
 |.bool,b=>.bool b
 |.str,s=>.string s
 |.sl,s=>.slice s.a s.len s.cap
 |.mp,m=>.map m
 |.ptr,p=>.pointer p
 |.raw,v=>v
 |.ad,p=>.pointer (some p)
def Atom.dec:(t:Atom)->Value->Option t.den
 |.int k,.int k' n=>if k=k' then some n else none
 |.bool,.bool b=>some b
 |.str,.string s=>some s
 |.sl,.slice a l c=>some ⟨a,l,c⟩
 |.mp,.map m=>some m
 |.ptr,.pointer p=>some p
 |.raw,v=>some v
 |.ad,.pointer (some p)=>some p
 |_,_=>none
theorem Atom.enc_of_dec{t:Atom}{x:t.den}(h:t.dec v=some x):t.enc x=v:=by
 cases t with
 |ad=>
  cases v with
  |pointer p=>
   cases p with
   |none=>simp[Atom.dec]at h
   |some a=>simp[Atom.dec]at h;rw[h];rfl
  |_=>simp[Atom.dec]at h
 |_=>cases v <;> simp_all[Atom.dec,Atom.enc] <;> (subst h;first|rfl|exact⟨rfl,rfl,rfl⟩)
inductive VT where
 |one (t:Atom)
 |agg (l:List Atom)
inductive RT where
 |one (v:VT)
 |tup (l:List VT)
def zmw:List Atom->(List Value->Prop)->Prop
 |[],F=>F []
 |t::l,F=>∃x:t.den,zmw l λvs=>F (t.enc x::vs)
def qew:VT->(Value->Prop)->Prop
 |.one t,F=>∃x:t.den,F (t.enc x)
 |.agg l,F=>zmw l λvs=>F (.agg vs.toArray)
def z8q:List VT->(List Value->Prop)->Prop
 |[],F=>F []
 |t::l,F=>qew t λv=>z8q l λvs=>F (v::vs)
def z3x:RT->(Value->Prop)->Prop
 |.one v,F=>qew v F
 |.tup l,F=>z8q l λvs=>F (.tuple vs.toArray)
def zc4:List Atom->(List Value->Prop)->Prop
 |[],F=>F []
 |t::l,F=>∀x:t.den,zc4 l λvs=>F (t.enc x::vs)
def zyl:VT->(Value->Prop)->Prop
 |.one t,F=>∀x:t.den,F (t.enc x)
 |.agg l,F=>zc4 l λvs=>F (.agg vs.toArray)
def zlf:List VT->(List Value->Prop)->Prop
 |[],F=>F []
 |t::l,F=>zyl t λv=>zlf l λvs=>F (v::vs)
def qcf:RT->(Value->Prop)->Prop
 |.one v,F=>zyl v F
 |.tup l,F=>zlf l λvs=>F (.tuple vs.toArray)
theorem Yb:∀{l:List Atom} {F G:List Value->Prop},zmw l F->zc4 l G->∃vs,vs.length=l.length/\F vs/\G vs
 |[],_,_,h,g=>⟨[],rfl,h,g⟩
 |_::_,_,_,⟨x,h⟩,g=>let ⟨vs,h0,h1,h2⟩:=Yb h (g x);⟨_,by simp[h0],h1,h2⟩
theorem wm:∀(l:List Atom),zc4 l λ_=>True
 |[]=>trivial
 |_::l=>λ_=>wm l
theorem zr2{v:VT}{F G:Value->Prop}(h:qew v F)(g:zyl v G):∃u,F u/\G u:=by
 cases v with
 |one t=>obtain⟨x,h⟩:=h;exact⟨_,h,g x⟩
 |agg l=>obtain⟨vs,_,h1,h2⟩:=Yb h g;exact⟨_,h1,h2⟩
theorem zr3(v:VT):zyl v λ_=>True:=by
 cases v with
 |one t=>exact λ_=>trivial
 |agg l=>exact wm l
theorem zmx:∀{l:List VT} {F G:List Value->Prop},z8q l F->zlf l G->∃vs,F vs/\G vs
 |[],_,_,h,g=>⟨[],h,g⟩
 |_::_,_,_,h,g=>let ⟨_,h1,h2⟩:=zr2 h g;let ⟨_,h3,h4⟩:=zmx h1 h2;⟨_,h3,h4⟩
theorem zf8:∀(l:List VT),zlf l λ_=>True
 |[]=>trivial
 |v::l=>by
  have h:=zf8 l
  simp only[zlf]
  cases v with
  |one t=>exact λ_=>h
  |agg l'=>
   simp only[zyl]
   have key:∀(l':List Atom) (f:List Value->List Value),zc4 l' λ_=>zlf l λ_=>True:=λl' _=>by
    induction l' with
    |nil=>exact h
    |cons t l' ih=>exact λ_=>ih
   exact key l' id
theorem zym{r:RT}{F G:Value->Prop}(h:z3x r F)(g:qcf r G):∃v,F v/\G v:=by
 cases r with
 |one v=>exact zr2 h g
 |tup l=>obtain⟨vs,h1,h2⟩:=zmx h g;exact⟨_,h1,h2⟩
theorem zhs{r:RT}{F:Value->Prop}(h:z3x r F):∃v,F v:=by
 cases r with
 |one v=>obtain⟨u,h1,_⟩:=zr2 h (zr3 v);exact⟨u,h1⟩
 |tup l=>obtain⟨vs,h1,_⟩:=zmx h (zf8 l);exact⟨_,h1⟩
def z7m:TypeDesc->Atom
 |.int k=>.int k
 |.bool=>.bool
 |.string=>.str
 |.slice _=>.sl
 |.map _ _=>.mp
 |.pointer _=>.ptr
 |_=>.raw
def zmy(P:Program):Nat->TypeId->Option (List Atom)
 |0,_=>none
 |n+1,t=>match P.underlying t with
  |some (.struct fs)=>fs.toList.foldr (λf l=>match zmy P n f.type,l with
    |some x,some y=>some (x++y)
    |_,_=>none) (some [])
  |some (.array m e)=>match zmy P n e with
    |some x=>some (Er m x).flatten
    |none=>none
  |some d=>some [z7m d]
  |none=>none
def zyf(P:Program)(t:TypeId):Option VT:=match P.underlying t with
 |some (.struct _)|some (.array _ _)=>match zmy P 8 t with
  |some l=>bif Nat.beq l.length (ja P t)then some (.agg l)else none
  |none=>none
 |some d=>some (.one (z7m d))
 |none=>none
def qcg(P:Program):List TypeId->Option (List VT)
 |[]=>some []
 |t::l=>match zyf P t,qcg P l with
  |some x,some y=>some (x::y)
  |_,_=>none
def qb8(P:Program)(t:TypeId):Option RT:=match P.underlying t with
 |some (.tuple ts)=>match qcg P ts.toList with
  |some l=>some (.tup l)
  |none=>none
 |_=>match zyf P t with
  |some v=>some (.one v)
  |none=>none
def req:Option Bool->Prop->Prop
 |none,p=>p
 |some b,p=>b=true->p
def gok:Option Bool->Prop
 |none=>True
 |some b=>b=true
theorem req.out{p:Prop}(h:req g p)(hg:gok g):p:=by
 cases g with
 |none=>exact h
 |some b=>exact h hg
def ze(h:zb)(p:Addr):Nat->List Value->Prop
 |_,[]=>True
 |i,v::vs=>zk h (p.add i)=some v/\ze h p (i+1) vs
def ld(h:zb)(p:Addr):Value->Prop
 |.agg vs=>ze h p 0 vs.toList
 |v=>zk h p=some v
def zmz(P:Program)(h:zb)(t:TypeId)(p:Value)(g:Option Bool)(K:Value->Prop):Prop:=
 match p,zyf P t with
 |.pointer (some p),some (.one a)=>∃x:a.den,req g (zk h p=some (a.enc x))/\K (a.enc x)
 |.pointer (some p),some (.agg l)=>zmw l λvs=>req g (ze h p 0 vs)/\K (.agg vs.toArray)
 |_,_=>False
theorem Xi{P:Program}{h:zb}{p:Addr}:∀(vs:List Value) (i:Nat) (acc:Array Value),ze h p i vs->QExec P (loadCellsFrom p i vs.length acc) h (acc++vs.toArray)
 |[],i,acc,_=>by intro B d;simp[loadCellsFrom]
 |v::vs,i,acc,⟨h1,h2⟩=>by
  have ih:=Xi (P:=P) vs (i+1) (acc.push v) h2
  intro B d
  simp only[Ay,loadCellsFrom,Sem.run_bind,run_load]
  rw[zyk,h1]
  simp only[Result.andThen_ok]
  rw[ih B d]
  simp
theorem zc5{a:Atom}{p:Addr}(ht:zyf P t=some (.one a))(hc:zk h p=some v):QExec P (loadVar t p) h v:=by
 unfold zyf at ht
 cases hu:P.underlying t with
 |none=>rw[hu]at ht;cases ht
 |some d=>
  rw[hu]at ht
  intro B e
  have hq:=QExec.underlying (h:=h) hu B e
  have O:(isAgg t).run P (mk B e h)=.ok false (mk B e h):=by
   unfold isAgg
   rw[Sem.run_bind,hq]
   cases d <;> first|rfl|(exfalso;revert ht;dsimp only;split <;> first|(intro h;cases h;done)|(cases hb:Nat.beq _ _ <;> intro h <;> cases h))
  unfold loadVar
  rw[Sem.run_bind,O]
  simp only[Result.andThen_ok,AW,if_false,run_load]
  rw[zyk,hc]
theorem zc6{l:List Atom}{p:Addr}{vs:List Value}(ht:zyf P t=some (.agg l))(hl:vs.length=l.length)(hc:ze h p 0 vs):QExec P (loadVar t p) h (.agg vs.toArray):=by
 unfold zyf at ht
 cases hu:P.underlying t with
 |none=>rw[hu]at ht;cases ht
 |some d=>
  rw[hu]at ht
  obtain⟨i,hi⟩:=info_of_underlying hu
  have O:(∃fs,d=.struct fs)\/(∃n e,d=.array n e):=by
   cases d <;> first|exact Or.inl ⟨_,rfl⟩|exact Or.inr ⟨_,_,rfl⟩|(simp at ht)
  have Z:ja P t=l.length:=by
   have hm:(match zmy P 8 t with
     |some l=>bif Nat.beq l.length (ja P t)then some (VT.agg l)else none
     |none=>none)=some (.agg l):=by
    rcases O with⟨fs,rfl⟩|⟨n,e,rfl⟩ <;> exact ht
   split at hm
   ·rename_i l' _
    cases hb:Nat.beq l'.length (ja P t)with
    |false=>rw[hb]at hm;cases hm
    |true=>
     rw[hb]at hm
     simp only[cond_true,Ab,VT.agg.injEq]at hm
     rw[<-hm];exact(Al hb).symm
   ·cases hm
  intro B e
  have hq:=QExec.underlying (h:=h) hu B e
  have hA:(isAgg t).run P (mk B e h)=.ok true (mk B e h):=by
   unfold isAgg
   rw[Sem.run_bind,hq]
   rcases O with⟨fs,rfl⟩|⟨n,e',rfl⟩ <;> rfl
  have hS:=QExec.sizeOf (h:=h) hi B e
  unfold loadVar
  rw[Sem.run_bind,hA]
  simp only[Result.andThen_ok,if_true]
  rw[Sem.run_bind,hS]
  simp only[Result.andThen_ok]
  have hL:=Xi (P:=P) vs 0 #[] hc B e
  unfold loadCells
  rw[Sem.run_bind,Z,<-hl,hL]
  simp
theorem zht{p:Value}{K:Value->Prop}(H:zmz P h t p g K):
  ∃v,K v/\(gok g->QExec P (Ef t p) h v):=by
 unfold zmz at H
 split at H
 ·rename_i q a hv
  obtain⟨x,h1,h2⟩:=H
  exact⟨_,h2,λhg=>zc5 hv (h1.out hg)⟩
 ·rename_i q l hv
  obtain⟨vs,h0,⟨h1,h2⟩,_⟩:=Yb H (wm l)
  exact⟨_,h2,λhg=>zc6 hv h0 (h1.out hg)⟩
 ·exact H.elim
def zpl(P:Program)(t:TypeId)(x i:Value)(g:Option Bool)(K:Value->Prop):Prop:=
 match P.underlying t with
 |some (.slice el)=>match x,i with
  |.slice base len _,.int _ n=>∃a:Addr,req g (base=some a/\0<=n/\n<(len:Int))/\K (.pointer (some (a.add (n.toNat*ja P el))))
  |_,_=>False
 |some (.array len el)=>match x,i with
  |.pointer base,.int _ n=>∃a:Addr,req g (base=some a/\0<=n/\n<(len:Int))/\K (.pointer (some (a.add (n.toNat*ja P el))))
  |_,_=>False
 |_=>False
def jb(P:Program)(t:TypeId):Bool:=match P.info? t with
 |some _=>true
 |none=>false
theorem j7(h:jb P t=true):∃i,P.info? t=some i:=by
 unfold jb at h
 split at h
 ·exact⟨_,by assumption⟩
 ·cases h
theorem Qt(t:TypeId)(B:World)(d:Nat):(∃i,P.info? t=some i)->(Go.sizeOf t).run P (mk B d h)=.ok (ja P t) (mk B d h):=λ⟨_,hi⟩=>QExec.sizeOf hi B d
theorem Zd{x i:Value}{K:Value->Prop}
  (O:∀el,(P.underlying t=some (.slice el)\/∃n,P.underlying t=some (.array n el))->∃i,P.info? el=some i) (H:zpl P t x i g K):
  ∃v,K v/\(gok g->∀h:zb,QExec P (EM t x i) h v):=by
 unfold zpl at H
 split at H
 ·rename_i el hu
  split at H
  ·rename_i base len cap k n
   obtain⟨a,h1,h2⟩:=H
   refine⟨_,h2,λhg=>?_⟩
   obtain⟨rfl,h3,h4⟩:=h1.out hg
   intro h B d
   have hq:=QExec.underlying (h:=h) hu B d
   have hs:=Qt (h:=h) el B d (O el (Or.inl hu))
   unfold EM
   simp[asIntOf,Sem.run_bind,hq,hs,h3,h4]
  ·exact H.elim
 ·rename_i len el hu
  split at H
  ·rename_i base k n
   obtain⟨a,h1,h2⟩:=H
   refine⟨_,h2,λhg=>?_⟩
   obtain⟨rfl,h3,h4⟩:=h1.out hg
   intro h B d
   have hq:=QExec.underlying (h:=h) hu B d
   have hs:=Qt (h:=h) el B d (O el (Or.inr ⟨_,hu⟩))
   unfold EM
   simp[asIntOf,Sem.run_bind,hq,hs,h3,h4,Es]
  ·exact H.elim
 ·exact H.elim
def zc(s:Bt)(i:Nat):Int:=((s.data[i]?.getD 0).toNat:Int)
def zhu(x i:Value)(g:Option Bool)(K:Value->Prop):Prop:=
 match x,i with
 |.string s,.int _ n=>req g (0<=n/\n<(s.size:Int))/\K (.int .u8 (zc s n.toNat))
 |_,_=>False
theorem qch(s:Bt)(i:Nat)(h:i<s.size):s[i]?=some (s.data[i]?.getD 0):=by
 have h':i<s.data.size:=h
 rw[getElem?_pos s i h]
 simp[AN h']
 rfl
theorem Xj{x i:Value}{K:Value->Prop}(hu:P.underlying t=some .string)(H:zhu x i g K):
  ∃v,K v/\(gok g->∀h:zb,QExec P (Instr.index t x i) h v):=by
 unfold zhu at H
 split at H
 ·rename_i s k n
  obtain⟨h1,h2⟩:=H
  refine⟨_,h2,λhg=>?_⟩
  obtain⟨h3,h4⟩:=h1.out hg
  intro h B d
  have hq:=QExec.underlying (h:=h) hu B d
  unfold Instr.index
  have hb:=qch s n.toNat (by omega)
  simp only[asIntOf,Sem.run_bind,hq,Sem.run_pure,Result.andThen_ok,h3,if_true,hb,zc]
 ·exact H.elim
def Yw(a:Option Addr)(sz l m:Nat):Option Addr:=if m=l then a else a.map (·.add (l*sz))
def j8:Option Value->Int->Option Int
 |none,d=>some d
 |some (.int _ n),_=>some n
 |some _,_=>none
def zt2(P:Program)(t:TypeId)(x:Value)(lo hi mx:Option Value)(g:Option Bool)(K:Value->Prop):Prop:=
 match P.underlying t with
 |some .string=>match x,mx with
  |.string s,none=>match j8 lo 0,j8 hi (s.size:Int)with
   |some l,some r=>req g (0<=l/\l<=r/\r<=(s.size:Int))/\K (.string (s.extract l.toNat r.toNat))
   |_,_=>False
  |_,_=>False
 |some (.slice el)=>match x with
  |.slice a len cap=>match j8 lo 0,j8 hi (len:Int),j8 mx (cap:Int)with
   |some l,some r,some m=>(mx=none\/∃v,hi=some v)/\req g (0<=l/\l<=r/\r<=m/\m<=(cap:Int))/\K (.slice (Yw a (ja P el) l.toNat m.toNat) (r.toNat-l.toNat) (m.toNat-l.toNat))
   |_,_,_=>False
  |_=>False
 |_=>False
theorem j9{v:Option Value}{d n:Int}(h:j8 v d=some n):(v=none/\n=d)\/∃k,v=some (.int k n):=by
 unfold j8 at h
 split at h
 ·exact Or.inl ⟨rfl,by simpa using h.symm⟩
 ·simp only[Ab]at h
  exact Or.inr ⟨_,by rw[h]⟩
 ·cases h
theorem ju{k:IntKind}{y:Nat}{c:BoundsCode}(h0:0<=n)(h1:n<=(y:Int)):QExec P (Instr.sliceBound (.int k n) y c) h n.toNat:=by
 intro B d
 simp[Instr.sliceBound,asIntOf,h0,h1]
theorem zwb{n:Nat}{lo hi:Option Value}(hl:j8 lo 0=some l)(hr:j8 hi (n:Int)=some r)(h3:0<=l)(h4:l<=r)(h5:r<=(n:Int)):
  QExec P (Instr.sliceBounds false n n lo hi none) h (l.toNat,r.toNat,n):=by
 have e:(r.toNat:Int)=r:=Int.toNat_of_nonneg (by omega)
 rcases j9 hl with⟨rfl,rfl⟩|⟨k,rfl⟩ <;> rcases j9 hr with⟨rfl,rfl⟩|⟨k',rfl⟩
 ·exact QExec.pure _
 ·exact QExec.bind (QExec.pure n) (QExec.bind (ju (by omega) h5) (QExec.pure _))
 ·exact QExec.bind (QExec.pure n) (QExec.bind (QExec.pure n) (QExec.bind (ju h3 h4) (QExec.pure _)))
 ·exact QExec.bind (QExec.pure n) (QExec.bind (ju (by omega) h5) (QExec.bind (ju h3 (by omega)) (QExec.pure _)))
theorem zpm{len cap:Nat}{lo hi mx:Option Value}{l r m:Int}(hl:j8 lo 0=some l)(hr:j8 hi (len:Int)=some r)(hm:j8 mx (cap:Int)=some m)
  (h0:mx=none\/∃v,hi=some v) (h3:0<=l) (h4:l<=r) (h5:r<=m) (h6:m<=(cap:Int)):
  QExec P (Instr.sliceBounds true len cap lo hi mx) h (l.toNat,r.toNat,m.toNat):=by
 have e:(r.toNat:Int)=r:=Int.toNat_of_nonneg (by omega)
 have e2:(m.toNat:Int)=m:=Int.toNat_of_nonneg (by omega)
 rcases j9 hm with⟨rfl,rfl⟩|⟨km,rfl⟩
 ·rcases j9 hl with⟨rfl,rfl⟩|⟨k,rfl⟩ <;> rcases j9 hr with⟨rfl,rfl⟩|⟨k',rfl⟩
  ·exact QExec.pure _
  ·exact QExec.bind (QExec.pure cap) (QExec.bind (ju (by omega) h5) (QExec.pure _))
  ·exact QExec.bind (QExec.pure cap) (QExec.bind (QExec.pure len) (QExec.bind (ju h3 h4) (QExec.pure _)))
  ·exact QExec.bind (QExec.pure cap) (QExec.bind (ju (by omega) h5) (QExec.bind (ju h3 (by omega)) (QExec.pure _)))
 ·rcases h0 with h0|⟨v,rfl⟩
  ·cases h0
  ·rcases j9 hr with⟨h9,_⟩|⟨k',h9⟩
   ·cases h9
   ·cases h9
    rcases j9 hl with⟨rfl,rfl⟩|⟨k,rfl⟩
    ·exact QExec.bind (x:=m.toNat) (ju (by omega) h6) (QExec.bind (ju (by omega) (by omega)) (QExec.pure _))
    ·exact QExec.bind (x:=m.toNat) (ju (by omega) h6) (QExec.bind (ju (by omega) (by omega)) (QExec.bind (ju h3 (by omega)) (QExec.pure _)))
theorem Y2{x:Value}{lo hi mx:Option Value}{K:Value->Prop}
  (O:∀el,P.underlying t=some (.slice el)->∃i,P.info? el=some i) (H:zt2 P t x lo hi mx g K):
  ∃v,K v/\(gok g->∀h:zb,QExec P (EN t x lo hi mx) h v):=by
 unfold zt2 at H
 split at H
 ·rename_i hu
  split at H
  ·rename_i s
   split at H
   ·rename_i l r hl hr
    obtain⟨h1,h2⟩:=H
    refine⟨_,h2,λhg=>?_⟩
    obtain⟨h3,h4,h5⟩:=h1.out hg
    intro h B d
    have hq:=QExec.underlying (h:=h) hu B d
    have bb:=zwb (P:=P) (h:=h) hl hr h3 h4 h5 B d
    unfold EN
    rw[Sem.run_bind,hq]
    simp only[Result.andThen_ok]
    unfold Instr.slice
    rw[Sem.run_bind,hq]
    simp[bb]
   ·exact H.elim
  ·exact H.elim
 ·rename_i el hu
  split at H
  ·rename_i a len cap
   split at H
   ·rename_i l r m hl hr hm
    obtain⟨h0,h1,h2⟩:=H
    refine⟨_,h2,λhg=>?_⟩
    obtain⟨h3,h4,h5,h6⟩:=h1.out hg
    intro h B d
    have hq:=QExec.underlying (h:=h) hu B d
    have hs:=Qt (h:=h) el B d (O el hu)
    have bb:=zpm (P:=P) (h:=h) hl hr hm h0 h3 h4 h5 h6 B d
    unfold EN
    rw[Sem.run_bind,hq]
    simp only[Result.andThen_ok]
    unfold Instr.slice
    rw[Sem.run_bind,hq]
    simp[bb,hs,Yw]
   ·exact H.elim
  ·exact H.elim
 ·exact H.elim
end
section
variable {P:Program} {f:FuncId} {h:zb} {K:Value -> zb -> Prop} {t ty:TypeId} {g:Option Bool} {w w':World} {v:Value} {o:Oper} {ρ:Operand -> Value} {a:Act}
def XC(P:Program)(f:FuncId)(args:Array Value)(h:zb)(R:Value->zb->Prop):Prop:=
 ∀B d,Calls P f args (mk B d h) λe w'=>∃v d' h',e=.returned v/\w'=mk B d' h'/\R v h'
theorem XC.mono{args:Array Value}{R R':Value->zb->Prop}(H:XC P f args h R)(hR:∀v h',R v h'->R' v h'):XC P f args h R':=
 λB d=>(H B d).mono λ_ _ ⟨v,d',h',e1,e2,r⟩=>⟨v,d',h',e1,e2,hR _ _ r⟩
def XRun(P:Program)(s:Sem Value)(h:zb)(K:Value->zb->Prop):Prop:=∀B d,∃v d' h',s.run P (mk B d h)=.ok v (mk B d' h')/\K v h'
def XRunU(P:Program)(s:Sem Unit)(h:zb)(K:zb->Prop):Prop:=∀B d,∃d' h',s.run P (mk B d h)=.ok () (mk B d' h')/\K h'
theorem XRun.mono{s:Sem Value}{K K':Value->zb->Prop}(H:XRun P s h K)(hK:∀v h',K v h'->K' v h'):XRun P s h K':=
 λB d=>let ⟨v,d',h',e,k⟩:=H B d;⟨v,d',h',e,hK _ _ k⟩
theorem XRunU.mono{s:Sem Unit}{K K':zb->Prop}(H:XRunU P s h K)(hK:∀h',K h'->K' h'):XRunU P s h K':=
 λB d=>let ⟨d',h',e,k⟩:=H B d;⟨d',h',e,hK _ k⟩
def xm(n:Nat):Prop:=n<=9223372036854775807
def ze0(P:Program)(s:Sem Next)(K:Value->Prop):Prop:=match Q5 P s with
 |some (.value v)=>K v
 |_=>False
def z3y(P:Program)(ty:TypeId)(s:Sem Value)(g:Option Bool)(h:zb)(K:Value->Prop):Prop:=match qb8 P ty with
 |some rt=>z3x rt λv=>req g (QExec P s h v)/\K v
 |none=>False
def zwc(P:Program)(t:TypeId):Bool:=match P.underlying t with
 |some (.slice _)=>true
 |_=>false
def zwd(P:Program)(t:TypeId):Bool:=match P.underlying t with
 |some (.pointer e)=>Nat.beq e (P.pointee t)
 |_=>false
theorem zt3(h:zwd P t=true):P.underlying t=some (.pointer (P.pointee t)):=by
 unfold zwd at h
 split at h
 ·rename_i e hu;rw[hu,Al h]
 ·cases h
def qex(P:Program)(t:TypeId)(s:Sem Next)(op:BinOp)(x y:Value)(g:Option Bool)(K:Value->Prop):Prop:=
 match op,x,y with
 |.eql,.slice a _ _,.slice none 0 0=>bif zwc P t then K (.bool a.isNone)else ze0 P s K
 |.neq,.slice a _ _,.slice none 0 0=>bif zwc P t then K (.bool (!a.isNone))else ze0 P s K
 |.eql,.pointer a,.pointer none=>bif zwd P t then K (.bool a.isNone)else ze0 P s K
 |.neq,.pointer a,.pointer none=>bif zwd P t then K (.bool (!a.isNone))else ze0 P s K
 |.quo,.int k a,.int k' b=>k=k'/\req g (b≠0)/\K (.int k (k.wrap (a.tdiv b)))
 |.rem,.int k a,.int k' b=>k=k'/\req g (b≠0)/\K (.int k (a.tmod b))
 |.add,.string a,.string b=>req g (xm (a.size+b.size))/\K (.string (a++b))
 |_,_,_=>ze0 P s K
def zlg(b:Builtin)(O:Array TypeId)(Z:TypeId)(args:Array Value):Option (Sem Value):=
 match b with
 |.append=>some (Au O Z args)
 |.copy=>some (Dp O Z args)
 |.clear=>some (Eb O Z args)
 |.delete=>some (Builtin.delete_ O Z args)
 |.len=>some (CV O Z args)
 |_=>none
def qey(P:Program)(s:Sem Next)(ty:TypeId)(O:Array TypeId)(args:Array Value)(g:Option Bool)(h:zb)(K:Value->Prop):Prop:=
 match (args[0]?:Option Value)with
 |some (Value.map _)=>z3y P ty (CV O ty args) g h K
 |_=>ze0 P s K
def Xk(P:Program)(t:TypeId):Bool:=match P.underlying t with
 |some (.slice el)=>jb P el
 |some (.array _ el)=>jb P el
 |_=>true
theorem xz(h:Xk P t=true):∀el,(P.underlying t=some (.slice el)\/∃n,P.underlying t=some (.array n el))->∃i,P.info? el=some i:=by
 intro el O
 unfold Xk at h
 rcases O with O|⟨n,O⟩ <;> rw[O]at h <;> exact j7 h
def zpn(P:Program)(t:TypeId):Bool:=match P.underlying t with
 |some .string=>true
 |_=>false
theorem zpo(h:zpn P t=true):P.underlying t=some .string:=by
 unfold zpn at h
 split at h
 ·assumption
 ·cases h
def qec(P:Program)(s:Sem Next)(x:Value)(g:Option Bool)(K:Value->Prop):Prop:=match x with
 |.pointer p=>∃a:Addr,req g (p=some a)/\K (.pointer (some a))
 |_=>ze0 P s K
def Zz(P:Program)(o:Oper)(ρ:Operand->Value)(g:Option Bool)(h:zb)(K:Value->Prop):Prop:=
 match o.op with
 |.load t a=>zmz P h t (ρ a) g K
 |.indexAddr t x i=>bif Xk P t then zpl P t (ρ x) (ρ i) g K else False
 |.index t x i=>bif zpn P t then zhu (ρ x) (ρ i) g K else ze0 P (execOp ρ o) K
 |.slice t x lo hi mx=>bif Xk P t then zt2 P t (ρ x) (lo.map ρ) (hi.map ρ) (mx.map ρ) g K else False
 |.binOp op t x y _=>qex P t (execOp ρ o) op (ρ x) (ρ y) g K
 |.lookup t m k ok=>z3y P o.type (Eg t (ρ m) (ρ k) ok) g h K
 |.nilCheck x=>qec P (execOp ρ o) (ρ x) g K
 |.call c=>match c.callee with
  |.builtin .len=>qey P (execOp ρ o) o.type c.argTypes (c.args.map ρ) g h K
  |_=>ze0 P (execOp ρ o) K
 |_=>ze0 P (execOp ρ o) K
theorem zx{s:Sem Next}{K:Value->Prop}(H:ze0 P s K)(g:Option Bool):∃v,K v/\(gok g->∀h:zb,QExec P s h (.value v)):=by
 unfold ze0 at H
 split at H
 ·rename_i v hv
  exact⟨v,H,λ_ h=>zkl hv h⟩
 ·exact H.elim
theorem zhv{s:Sem Value}{K:Value->Prop}(H:z3y P ty s g h K):∃v,K v/\(gok g->QExec P s h v):=by
 unfold z3y at H
 split at H
 ·obtain⟨v,h1,h2⟩:=zhs H
  exact⟨v,h2,λhg=>h1.out hg⟩
 ·exact H.elim
theorem Wc{op:BinOp}(t:TypeId)(x y:Operand)(a b:Value)(h1:(op matches .eql | .neq)=false):eqGuard op t x y a b=pure ():=by
 unfold eqGuard
 cases op <;> simp at h1 <;> rfl
theorem zt4{s:Sem Value}(h:s.run P w=.ok v w'):(s >>= λx=>(Dv (Ea x):Sem Next)).run P w=.ok (.value v) w':=by
 rw[Sem.run_bind,h];rfl
theorem zlh{s:Sem Next}{K:Value->Prop}(h:zb)(H:∃v,K v/\(gok g->∀h:zb,QExec P s h (.value v))):∃v,K v/\(gok g->QExec P s h (.value v)):=
 let ⟨v,h1,h2⟩:=H;⟨v,h1,λhg=>h2 hg h⟩
theorem zhb{op:BinOp}{t t':TypeId}{x y:Operand}(ho:o.op=.binOp op t x y t'){K:Value->Prop}
  (H:qex P t (execOp ρ o) op (ρ x) (ρ y) g K):∃v,K v/\(gok g->∀h:zb,QExec P (execOp ρ o) h (.value v)):=by
 have Z:∀(op:BinOp) (x y:Operand) (a b:Option Addr) (l c l' c':Nat) (w:World),(eqGuard op t x y (.slice a l c) (.slice b l' c')).run P w=.ok () w:=λop x y a b l c l' c' w=>by
  unfold eqGuard;cases op <;> rfl
 have O:∀(op:BinOp) (x y:Operand) (a b:Option Addr) (w:World),(eqGuard op t x y (.pointer a) (.pointer b)).run P w=.ok () w:=λop x y a b w=>by
  unfold eqGuard;cases op <;> rfl
 unfold qex at H
 split at H
 ·rename_i a l c hx hy
  cases hs:zwc P t with
  |false=>rw[hs]at H;exact zx H g
  |true=>
   rw[hs,cond_true]at H
   refine⟨_,H,λhg h B d=>?_⟩
   have hu:∃el,P.underlying t=some (.slice el):=by
    unfold zwc at hs
    split at hs
    ·rename_i el hu;exact⟨el,hu⟩
    ·cases hs
   obtain⟨el,hu⟩:=hu
   simp only[execOp,ho,hx,hy]
   refine zt4 ?_
   rw[Sem.run_bind,Z]
   simp only[Result.andThen_ok,binOp,Sem.run_bind,run_equal_slice_nil _ t _ _ _ _ hu];rfl
 ·rename_i a l c hx hy
  cases hs:zwc P t with
  |false=>rw[hs]at H;exact zx H g
  |true=>
   rw[hs,cond_true]at H
   refine⟨_,H,λhg h B d=>?_⟩
   have hu:∃el,P.underlying t=some (.slice el):=by
    unfold zwc at hs
    split at hs
    ·rename_i el hu;exact⟨el,hu⟩
    ·cases hs
   obtain⟨el,hu⟩:=hu
   simp only[execOp,ho,hx,hy]
   refine zt4 ?_
   rw[Sem.run_bind,Z]
   simp only[Result.andThen_ok,binOp,Sem.run_bind,run_equal_slice_nil _ t _ _ _ _ hu];rfl
 ·rename_i a hx hy
  cases hs:zwd P t with
  |false=>rw[hs]at H;exact zx H g
  |true=>
   rw[hs,cond_true]at H
   refine⟨_,H,λhg h B d=>?_⟩
   have hu:=zt3 hs
   simp only[execOp,ho,hx,hy]
   refine zt4 ?_
   rw[Sem.run_bind,O]
   simp only[Result.andThen_ok,binOp,Sem.run_bind,run_equal_pointer_nil _ t _ hu];rfl
 ·rename_i a hx hy
  cases hs:zwd P t with
  |false=>rw[hs]at H;exact zx H g
  |true=>
   rw[hs,cond_true]at H
   refine⟨_,H,λhg h B d=>?_⟩
   have hu:=zt3 hs
   simp only[execOp,ho,hx,hy]
   refine zt4 ?_
   rw[Sem.run_bind,O]
   simp only[Result.andThen_ok,binOp,Sem.run_bind,run_equal_pointer_nil _ t _ hu];rfl
 ·rename_i k a k' b hx hy
  obtain⟨rfl,h1,h2⟩:=H
  refine⟨_,h2,λhg=>?_⟩
  have hb:=h1.out hg
  intro h B d
  simp only[execOp,ho,hx,hy]
  rw[Wc _ _ _ _ _ rfl]
  simp[binOp,Op.intDiv,hb]
 ·rename_i k a k' b hx hy
  obtain⟨rfl,h1,h2⟩:=H
  refine⟨_,h2,λhg=>?_⟩
  have hb:=h1.out hg
  intro h B d
  simp only[execOp,ho,hx,hy]
  rw[Wc _ _ _ _ _ rfl]
  simp[binOp,Op.intDiv,hb]
 ·rename_i a b hx hy
  obtain⟨h1,h2⟩:=H
  refine⟨_,h2,λhg=>?_⟩
  have hb:=h1.out hg
  intro h B d
  simp only[execOp,ho,hx,hy]
  rw[Wc _ _ _ _ _ rfl]
  have hm:¬((a.size+b.size:Nat):Int)>IntKind.i64.max:=by
   unfold xm at hb
   have:IntKind.i64.max=9223372036854775807:=by decide
   omega
  simp only[binOp,Op.stringOp,if_neg hm]
  rfl
 ·exact zx H g
theorem zwe{c:Call}(ho:o.op=.call c)(hc:c.callee=.builtin .len){K:Value->Prop}
  (H:qey P (execOp ρ o) o.type c.argTypes (c.args.map ρ) g h K):∃v,K v/\(gok g->QExec P (execOp ρ o) h (.value v)):=by
 unfold qey at H
 split at H
 ·obtain⟨v,h1,h2⟩:=zhv H
  refine⟨v,h1,λhg=>?_⟩
  have:=h2 hg
  intro B d
  simp only[execOp,ho,resolve,hc,Sem.run_bind,Sem.run_pure,Result.andThen_ok,invoke,builtin]
  rw[this B d]
  rfl
 ·exact zlh h (zx H g)
theorem zbn{K:Value->Prop}(H:Zz P o ρ g h K):∃v,K v/\(gok g->QExec P (execOp ρ o) h (.value v)):=by
 unfold Zz at H
 split at H
 ·rename_i t a ho
  obtain⟨v,h1,h2⟩:=zht H
  refine⟨v,h1,λhg=>?_⟩
  simp only[execOp,ho]
  exact(h2 hg).val
 ·rename_i t x i ho
  cases he:Xk P t with
  |false=>rw[he]at H;exact H.elim
  |true=>
   rw[he]at H
   obtain⟨v,h1,h2⟩:=Zd (xz he) H
   refine⟨v,h1,λhg=>?_⟩
   simp only[execOp,ho]
   exact(h2 hg h).val
 ·rename_i t x i ho
  cases he:zpn P t with
  |false=>rw[he]at H;exact zlh h (zx H g)
  |true=>
   rw[he]at H
   obtain⟨v,h1,h2⟩:=Xj (zpo he) H
   refine⟨v,h1,λhg=>?_⟩
   simp only[execOp,ho]
   exact(h2 hg h).val
 ·rename_i t x lo hi mx ho
  cases he:Xk P t with
  |false=>rw[he]at H;exact H.elim
  |true=>
   rw[he]at H
   obtain⟨v,h1,h2⟩:=Y2 (λel O=>xz he el (Or.inl O)) H
   refine⟨v,h1,λhg=>?_⟩
   simp only[execOp,ho]
   exact(h2 hg h).val
 ·rename_i op t x y t' ho
  exact zlh h (zhb ho H)
 ·rename_i t m k ok ho
  obtain⟨v,h1,h2⟩:=zhv H
  refine⟨v,h1,λhg=>?_⟩
  simp only[execOp,ho]
  exact(h2 hg).val
 ·rename_i x ho
  unfold qec at H
  split at H
  ·rename_i p hx
   obtain⟨a,h1,h2⟩:=H
   refine⟨_,h2,λhg=>?_⟩
   have hp:=h1.out hg
   subst hp
   intro B d
   simp only[execOp,ho,hx]
   rfl
  ·exact zlh h (zx H g)
 ·rename_i c ho
  split at H
  ·rename_i hc
   exact zwe ho hc H
  ·exact zlh h (zx H g)
 ·exact zlh h (zx H g)
def zgn(o:Oper):Bool:=match o.op with
 |.lookup .. => false
 |.call c=>match c.callee with
  |.builtin .len=>false
  |_=>true
 |_=>true
theorem z3z{p:Addr}(H:zk h p=some v):p.block<h.size:=by
 unfold zk at H
 cases e:h[p.block]? with
 |none=>simp[e]at H
 |some o=>exact(Ac.1 e).1
theorem zhw{h h':zb}(k:Keep h.size h h'){p:Addr}(H:zk h p=some v):zk h' p=some v:=by
 have:=z3z H
 unfold zk at H ⊢
 rw[k.get _ this];exact H
theorem zhx{h h':zb}(k:Keep h.size h h'){p:Addr}:∀{vs:List Value} {i:Nat},ze h p i vs->ze h' p i vs
 |[],_,_=>trivial
 |_::_,_,⟨h1,h2⟩=>⟨zhw k h1,zhx k h2⟩
theorem zal{K:Value->Prop}(hf:zgn o=true)(H:Zz P o ρ g h K):∃v,K v/\(gok g->∀h',Keep h.size h h'->QExec P (execOp ρ o) h' (.value v)):=by
 unfold Zz at H
 split at H
 ·rename_i t a ho
  unfold zmz at H
  split at H
  ·rename_i q b hp hv
   obtain⟨x,h1,h2⟩:=H
   refine⟨_,h2,λhg h' hk=>?_⟩
   simp only[execOp,ho,hp]
   exact(zc5 hv (zhw hk (h1.out hg))).val
  ·rename_i q l hp hv
   obtain⟨vs,h0,⟨h1,h2⟩,_⟩:=Yb H (wm l)
   refine⟨_,h2,λhg h' hk=>?_⟩
   simp only[execOp,ho,hp]
   exact(zc6 hv h0 (zhx hk (h1.out hg))).val
  ·exact H.elim
 ·rename_i t x i ho
  cases he:Xk P t with
  |false=>rw[he]at H;exact H.elim
  |true=>
   rw[he]at H
   obtain⟨v,h1,h2⟩:=Zd (xz he) H
   refine⟨v,h1,λhg h' _=>?_⟩
   simp only[execOp,ho]
   exact(h2 hg h').val
 ·rename_i t x i ho
  cases he:zpn P t with
  |false=>
   rw[he]at H
   obtain⟨v,h1,h2⟩:=zx H g
   exact⟨v,h1,λhg h' _=>h2 hg h'⟩
  |true=>
   rw[he]at H
   obtain⟨v,h1,h2⟩:=Xj (zpo he) H
   refine⟨v,h1,λhg h' _=>?_⟩
   simp only[execOp,ho]
   exact(h2 hg h').val
 ·rename_i t x lo hi mx ho
  cases he:Xk P t with
  |false=>rw[he]at H;exact H.elim
  |true=>
   rw[he]at H
   obtain⟨v,h1,h2⟩:=Y2 (λel O=>xz he el (Or.inl O)) H
   refine⟨v,h1,λhg h' _=>?_⟩
   simp only[execOp,ho]
   exact(h2 hg h').val
 ·rename_i op t x y t' ho
  obtain⟨v,h1,h2⟩:=zhb ho H
  exact⟨v,h1,λhg h' _=>h2 hg h'⟩
 ·rename_i t m k ok ho
  simp[zgn,ho]at hf
 ·rename_i x ho
  unfold qec at H
  split at H
  ·rename_i p hx
   obtain⟨a,h1,h2⟩:=H
   refine⟨_,h2,λhg h' _=>?_⟩
   have hp:=h1.out hg
   subst hp
   intro B d
   simp only[execOp,ho,hx]
   rfl
  ·obtain⟨v,h1,h2⟩:=zx H g
   exact⟨v,h1,λhg h' _=>h2 hg h'⟩
 ·rename_i c ho
  split at H
  ·rename_i hc
   simp[zgn,ho,hc]at hf
  ·obtain⟨v,h1,h2⟩:=zx H g
   exact⟨v,h1,λhg h' _=>h2 hg h'⟩
 ·obtain⟨v,h1,h2⟩:=zx H g
  exact⟨v,h1,λhg h' _=>h2 hg h'⟩
def wpN(P:Program){α:Type}:Sem α->zb->(α->zb->Prop)->Prop
 |.pure a,h,K=>K a h
 |.program k,h,K=>wpN P (k P) h K
 |.mark _ k,h,K=>wpN P k h K
 |.new o k,h,K=>wpN P (k h.size) (h.push o) K
 |_,_,_=>False
theorem zc7{α:Type}{s:Sem α}{K:α->zb->Prop}(H:wpN P s h K)(B:World)(d:Nat):∃x h',s.run P (mk B d h)=.ok x (mk B d h')/\K x h':=by
 induction s generalizing h with
 |pure a=>exact⟨a,h,rfl,H⟩
 |program k ih=>exact ih P H
 |mark m k ih=>exact ih H
 |new o k ih=>
  obtain⟨x,h',h1,h2⟩:=ih h.size H
  exact⟨x,h',h1,h2⟩
 |_=>exact H.elim
def typed(P:Program)(ty:TypeId)(v:Value)(K:Value->Prop):Prop:=match qb8 P ty with
 |some rt=>z3x rt λv'=>v=v'/\K v'
 |none=>False
theorem Zp{K:Value->Prop}(H:typed P ty v K):K v:=by
 unfold typed at H
 split at H
 ·obtain⟨v',h1,h2⟩:=zhs H;rw[h1];exact h2
 ·exact H.elim
def qp(P:Program)(f:FuncId):Bool:=match P.funcs[f]? with
 |some fn=>(match fn.body with
  |some _=>true
  | none => false) && !(fn.name == "runtime.NumGoroutine")
 |none=>false
theorem Xl(h:qp P f=true)(args:Array Value)(w:World):(callFunc f args).run P w=.ok (.enter f args) w:=by
 unfold qp at h
 split at h
 ·rename_i fn hf
  simp only[AI,B4]at h
  obtain⟨h1,h2⟩:=h
  unfold callFunc
  simp only[program,Sem.run_bind,Sem.run,Result.andThen_ok,hf]
  split at h1
  ·rename_i b hb
   simp[h2,hb]
  ·cases h1
 ·cases h
def qb9(P:Program)(v:Value)(args:Array Value)(K:FuncId->Array Value->Prop):Prop:=match v with
 |.func (.func f) first cap=>qp P f=true/\K f (first++args++cap)
 |_=>False
theorem zli{c:Call}{x:Operand}(ho:o.op=.call c)(hc:c.callee=.value x){K:FuncId->Array Value->Prop}(H:qb9 P (ρ x) (c.args.map ρ) K):
  ∃f args,K f args/\∀w,(execOp ρ o).run P w=.ok (.enter f args) w:=by
 unfold qb9 at H
 split at H
 ·rename_i f first cap hv
  obtain⟨h1,h2⟩:=H
  refine⟨_,_,h2,λw=>?_⟩
  simp only[execOp,ho,resolve,hc,hv,Eh,Sem.run_bind,Sem.run_pure,Result.andThen_ok,invoke]
  exact Xl h1 _ w
 ·exact H.elim
def Wd:Operand->Bool
 |.func _=>true
 |_=>false
def qez(P:Program)(f:FuncId):Bool:=match P.funcs[f]? with
 |some fn=>(match fn.body with
  |some _=>false
  |none=>true)
 |none=>false
def qe0(P:Program)(f:FuncId)(args:Array Value)(h:zb)(K:Value->zb->Prop):Prop:=∀B d,∃v d' h',(callFunc f args).run P (mk B d h)=.ok (.value v) (mk B d' h')/\K v h'
def z7n(P:Program):Operand->Bool
 |.func f=>qez P f
 |_=>false
def qe1(P:Program)(v:Value)(args:Array Value)(h:zb)(K:Value->zb->Prop):Prop:=match v with
 |.func (.func f) first cap=>qe0 P f (first++args++cap) h K
 |_=>False
theorem zwf{c:Call}{x:Operand}(ho:o.op=.call c)(hc:c.callee=.value x)(H:qe1 P (ρ x) (c.args.map ρ) h K)(B:World)(d:Nat):
  ∃v d' h',(execOp ρ o).run P (mk B d h)=.ok (.value v) (mk B d' h')/\K v h':=by
 unfold qe1 at H
 split at H
 ·rename_i f first cap hv
  obtain⟨v,d',h',h1,h2⟩:=H B d
  refine⟨v,d',h',?_,h2⟩
  simp only[execOp,ho,resolve,hc,hv,Eh,Sem.run_bind,Sem.run_pure,Result.andThen_ok,invoke]
  exact h1
 ·exact H.elim
def qci(P:Program)(t:TypeId):Bool:=match P.underlying t with
 |some (.map _ _)=>true
 |_=>false
def zt5(P:Program)(o:Oper)(ρ:Operand->Value)(h:zb)(K:Value->zb->Prop):Prop:=
 match o.op with
 |.store t a x=>XRunU P (Ai t (ρ a) (ρ x)) h λh'=>K undef h'
 |.mapUpdate t m k x=>XRunU P (C4 t (ρ m) (ρ k) (ρ x)) h λh'=>K undef h'
 |.insert t m k x=>XRunU P (C4 t (ρ m) (ρ k) (ρ x)) h λh'=>K undef h'
 |.entryStore t m s x=>XRunU P (Instr.entryStore t (ρ m) (ρ s) (ρ x)) h λh'=>K undef h'
 |.mapEntry t m k=>XRun P (Instr.mapEntry t (ρ m) (ρ k)) h λv h'=>typed P o.type v λv'=>K v' h'
 |.makeSlice t l c=>XRun P (Instr.makeSlice t (ρ l) (ρ c)) h λv h'=>typed P o.type v λv'=>K v' h'
 |.convert s t x=>XRun P (convert s t (ρ x)) h λv h'=>typed P o.type v λv'=>K v' h'
 |.typeAssert x t t' ok=>XRun P (Instr.typeAssert (ρ x) t t' ok) h λv h'=>typed P o.type v λv'=>K v' h'
 |.range t x=>bif qci P t then XRun P (E3 t (ρ x)) h λv h'=>∃q:Option Addr,v=.pointer q/\K (.pointer q) h' else wpN P (execOp ρ o) h λnx h'=>match nx with
   |.value v=>K v h'
   |.skip=>K undef h'
   |_=>False
 |.next x s=>bif s then wpN P (execOp ρ o) h λnx h'=>match nx with
   |.value v=>K v h'
   |.skip=>K undef h'
   |_=>False
  else XRun P (E7 (ρ x) s o.type) h λv h'=>(v=.tuple #[.bool false]/\K (.tuple #[.bool false]) h')\/∃k u:Value,v=.tuple #[.bool true,k,u]/\K (.tuple #[.bool true,k,u]) h'
 |.entry x=>XRun P (Instr.entry (ρ x)) h λv h'=>∃k u:Value,v=.tuple #[k,u]/\K (.tuple #[k,u]) h'
 |.call c=>match c.callee with
  |.builtin b=>match zlg b c.argTypes o.type (c.args.map ρ)with
   |some s=>XRun P s h λv h'=>typed P o.type v λv'=>K v' h'
   |none=>False
  |.value x=>bif z7n P x then qe1 P (ρ x) (c.args.map ρ) h (λv h'=>typed P o.type v λv'=>K v' h')else bif Wd x then(wpN P (execOp ρ o) h λnx h'=>match nx with
   |.enter f args=>XC P f args h' λv O=>typed P o.type v λv'=>K v' O
   |.value v=>K v h'
   |_=>False)else qb9 P (ρ x) (c.args.map ρ) λf args=>XC P f args h λv O=>typed P o.type v λv'=>K v' O
  |_=>False
 |_=>wpN P (execOp ρ o) h λnx h'=>match nx with
   |.value v=>K v h'
   |.skip=>K undef h'
   |_=>False
def qcj:Builtin->Bool
 |.append | .copy | .clear | .delete=>true
 |_=>false
def zyn(P:Program)(s t:TypeId):Bool:=match P.underlying s,P.underlying t with
 |some (.int _),some (.int _)=>true
 |some .string,some .string=>true
 |_,_=>false
def isQ(P:Program)(o:Oper):Bool:=
 match o.op with
 |.load _ _ | .indexAddr _ _ _ | .index _ _ _ | .slice _ _ _ _ _ | .binOp _ _ _ _ _ | .lookup _ _ _ _ | .nilCheck _=>true
 |.move _ | .assign _ | .unOp _ _ _ | .build _ _ | .makeFunc _ _ _ | .makeInterface _ _ | .extract _ _ | .field _ _ _ | .fieldAddr _ _ _=>true
 |.convert s t _=>zyn P s t
 |.call c=>match c.callee with
  |.builtin b=>!qcj b
  |_=>false
 |_=>false
def zyo(P:Program)(o:Oper)(ρ:Operand->Value)(b:Bool)(h:zb)(K:Value->zb->Prop):Prop:=
 match qb8 P o.type with
 |some rt=>∃J:Value->zb->Prop,(b=true->zt5 P o ρ h J)/\(b=false->z3x rt λv=>J v h)/\(b=true->∀v h',J v h'->z3x rt λv'=>v=v')/\qcf rt λv=>∀h',J v h'->K v h'
 |none=>False
def stepW(P:Program)(o:Oper)(ρ:Operand->Value)(g:Option Bool)(h:zb)(K:Value->zb->Prop):Prop:=
 bif isQ P o then Zz P o ρ g h (λv=>K v h)else match g with
  |none=>zt5 P o ρ h K
  |some b=>zyo P o ρ b h K
theorem upon_value{next:Act->World->Prop}{Q:Exit->Act->World->Prop}{s:Sem Next}(h:s.run P w=.ok (.value v) w')(hn:next (a.put o.dst v) w'):
  o.upon P a next Q (s.run P w):=by rw[h];exact hn
theorem upon_skip{next:Act->World->Prop}{Q:Exit->Act->World->Prop}{s:Sem Next}(h:s.run P w=.ok .skip w')(hn:next (a.put o.dst undef) w'):
  o.upon P a next Q (s.run P w):=by rw[h];exact hn
theorem Jm{s:Sem Value}(h:s.run P w=.ok v w'):(s >>= λx=>(Dv (Ea x):Sem Next)).run P w=.ok (.value v) w':=by
 rw[Sem.run_bind,h];rfl
theorem zwg{s:Sem Unit}(h:s.run P w=.ok () w'):(s >>= λ_=>(Dv Next.skip:Sem Next)).run P w=.ok .skip w':=by
 rw[Sem.run_bind,h];rfl
theorem zf9(H:zt5 P o ρ h K)(B:World)(d:Nat){next:Act->World->Prop}{Q:Exit->Act->World->Prop}
  (hn:∀v d' h',K v h'->next (a.put o.dst v) (mk B d' h')):o.upon P a next Q ((execOp ρ o).run P (mk B d h)):=by
 unfold zt5 at H
 split at H
 case h_1 t x y ho=>
  obtain⟨d',h',h1,h2⟩:=H B d
  exact upon_skip (by simp only[execOp,ho];exact zwg h1) (hn _ _ _ h2)
 case h_2 t m k x ho=>
  obtain⟨d',h',h1,h2⟩:=H B d
  exact upon_skip (by simp only[execOp,ho];exact zwg h1) (hn _ _ _ h2)
 case h_3 t m k x ho=>
  obtain⟨d',h',h1,h2⟩:=H B d
  exact upon_skip (by simp only[execOp,ho];exact zwg h1) (hn _ _ _ h2)
 case h_4 t m s x ho=>
  obtain⟨d',h',h1,h2⟩:=H B d
  exact upon_skip (by simp only[execOp,ho];exact zwg h1) (hn _ _ _ h2)
 case h_5 t m k ho=>
  obtain⟨v,d',h',h1,h2⟩:=H B d
  exact upon_value (by simp only[execOp,ho];exact Jm h1) (hn _ _ _ (Zp h2))
 case h_6 t l c ho=>
  obtain⟨v,d',h',h1,h2⟩:=H B d
  exact upon_value (by simp only[execOp,ho];exact Jm h1) (hn _ _ _ (Zp h2))
 case h_7 s t x ho=>
  obtain⟨v,d',h',h1,h2⟩:=H B d
  exact upon_value (by simp only[execOp,ho];exact Jm h1) (hn _ _ _ (Zp h2))
 case h_8 x t t' ok ho=>
  obtain⟨v,d',h',h1,h2⟩:=H B d
  exact upon_value (by simp only[execOp,ho];exact Jm h1) (hn _ _ _ (Zp h2))
 case h_9 t x ho=>
  cases hm:qci P t with
  |true=>
   rw[hm]at H
   obtain⟨v,d',h',h1,q,rfl,h2⟩:=H B d
   exact upon_value (by simp only[execOp,ho];exact Jm h1) (hn _ _ _ h2)
  |false=>
   rw[hm]at H
   obtain⟨nx,h',h1,h2⟩:=zc7 H B d
   cases nx with
   |value v=>exact upon_value h1 (hn _ _ _ h2)
   |skip=>exact upon_skip h1 (hn _ _ _ h2)
   |_=>exact h2.elim
 case h_10 x s ho=>
  cases s with
  |true=>
   simp only[cond_true]at H
   obtain⟨nx,h',h1,h2⟩:=zc7 H B d
   cases nx with
   |value v=>exact upon_value h1 (hn _ _ _ h2)
   |skip=>exact upon_skip h1 (hn _ _ _ h2)
   |_=>exact h2.elim
  |false=>
   simp only[cond_false]at H
   obtain⟨v,d',h',h1,h2⟩:=H B d
   refine upon_value (v:=v) (w':=mk B d' h') (by simp only[execOp,ho];exact Jm h1) (hn _ _ _ ?_)
   rcases h2 with⟨rfl,h2⟩|⟨k,u,rfl,h2⟩ <;> exact h2
 case h_11 x ho=>
  obtain⟨v,d',h',h1,k,u,rfl,h2⟩:=H B d
  exact upon_value (by simp only[execOp,ho];exact Jm h1) (hn _ _ _ h2)
 case h_12 c ho=>
  split at H
  ·rename_i b hb
   split at H
   ·rename_i s hs
    obtain⟨v,d',h',h1,h2⟩:=H B d
    refine upon_value (w':=mk B d' h') ?_ (hn _ _ _ (Zp h2))
    have key:execOp ρ o=s >>= λx=>(Dv (Ea x):Sem Next):=by
     simp only[execOp,ho,resolve,hb]
     unfold zlg at hs
     split at hs <;> first
      |(simp only[Ab]at hs;subst hs;rfl)
      |cases hs
    rw[key]
    exact Jm h1
   ·exact H.elim
  ·rename_i x hx
   cases hex:z7n P x with
   |true=>
    rw[hex]at H
    obtain⟨v,d',h',h1,h2⟩:=zwf ho hx H B d
    exact upon_value h1 (hn _ _ _ (Zp h2))
   |false=>
   rw[hex]at H
   simp only[cond_false]at H
   cases hst:Wd x with
   |true=>
    rw[hst]at H
    obtain⟨nx,h',h1,h2⟩:=zc7 H B d
    cases nx with
    |enter f args=>
     rw[h1]
     refine(h2 B d).mono ?_
     rintro e w' ⟨v,d',O,rfl,rfl,h3⟩
     exact hn _ _ _ (Zp h3)
    |value v=>exact upon_value h1 (hn _ _ _ h2)
    |_=>exact h2.elim
   |false=>
    rw[hst]at H
    simp only[cond_false]at H
    obtain⟨f,args,h1,h2⟩:=zli ho hx H
    rw[h2]
    refine(h1 B d).mono ?_
    rintro e w' ⟨v,d',O,rfl,rfl,h3⟩
    exact hn _ _ _ (Zp h3)
  ·exact H.elim
 case h_13=>
  obtain⟨nx,h',h1,h2⟩:=zc7 H B d
  cases nx with
  |value v=>exact upon_value h1 (hn _ _ _ h2)
  |skip=>exact upon_skip h1 (hn _ _ _ h2)
  |_=>exact h2.elim
theorem zr4(H:stepW P o ρ g h K)(hg:gok g)(B:World)(d:Nat){next:Act->World->Prop}{Q:Exit->Act->World->Prop}
  (hn:∀v d' h',K v h'->next (a.put o.dst v) (mk B d' h')):o.upon P a next Q ((execOp ρ o).run P (mk B d h)):=by
 unfold stepW at H
 cases hq:isQ P o with
 |true=>
  rw[hq]at H
  obtain⟨v,h1,h2⟩:=zbn H
  exact upon_value (h2 hg B d) (hn _ _ _ h1)
 |false=>
  rw[hq]at H
  cases g with
  |none=>exact zf9 H B d hn
  |some b=>
   have hb:b=true:=hg
   subst hb
   simp only[cond_false]at H
   unfold zyo at H
   split at H
   ·rename_i rt O
    obtain⟨J,h1,_,h3,h4⟩:=H
    refine zf9 (h1 rfl) B d λv d' h' hJ=>?_
    obtain⟨v',e1,e2⟩:=zym (h3 rfl v h' hJ) h4
    subst e1
    exact hn _ _ _ (e2 _ hJ)
   ·exact H.elim
theorem zr5(H:stepW P o ρ (some false) h K):∃v,K v h:=by
 unfold stepW at H
 cases hq:isQ P o with
 |true=>
  rw[hq]at H
  obtain⟨v,h1,_⟩:=zbn H
  exact⟨v,h1⟩
 |false=>
  rw[hq]at H
  simp only[cond_false]at H
  unfold zyo at H
  split at H
  ·obtain⟨J,_,h2,_,h4⟩:=H
   obtain⟨v,e1,e2⟩:=zym (h2 rfl) h4
   exact⟨v,e2 _ e1⟩
  ·exact H.elim
end
section
variable {n:Nat} {e:Env} {a b:Act} {c:qf} {g:Option Bool} {P:Program} {o:Oper} {h:zb} {K:Value -> zb -> Prop} {ms:List Nat} {ρ:Operand -> Value}
def zbo(e:Env):qf->Option (Option Bool)
 |[]=>some none
 |c=>match zyj e c with
  |some b=>some (some b)
  |none=>none
theorem Yg(hs:Sat n e a)(h:zbo e c=some g)(hv:valid (zw a) c):gok g:=by
 unfold zbo at h
 split at h
 ·simp only[Ab]at h;subst h;trivial
 ·split at h
  ·rename_i b hb
   simp only[Ab]at h
   subst h
   exact(zbm hs hb).2 hv
  ·cases h
theorem zwh(hs:Sat n e a)(h:zbo e c=some g)(hv:¬valid (zw a) c):g=some false:=by
 unfold zbo at h
 split at h
 ·exact absurd trivial hv
 ·split at h
  ·rename_i b hb
   simp only[Ab]at h
   subst h
   cases b with
   |false=>rfl
   |true=>exact absurd ((zbm hs hb).1 rfl) hv
  ·cases h
def zyp(b:Bool):Value->Value->Value
 |.bool x,.bool y=>.bool (bif b then x else y)
 |x,y=>bif b then x else y
theorem zt6(b:Bool)(x y:Value):zyp b x y=if b=true then x else y:=by
 unfold zyp
 split <;> cases b <;> rfl
def orV:Option Value->Option Value->Option Value
 |some v,_=>some v
 |none,w=>w
def zyq(e:Env)(c:qf)(x a b:Operand)(K:Value->Prop):Prop:=
 match x with
 |.tmp s=>match look e s with
  |some (cs,.bool t)=>bif suf cs c then(match orV (za4 e c a) (za4 e ((s,true)::cs) a),orV (za4 e c b) (za4 e ((s,false)::cs) b)with
    |some va,some vb=>K (zyp t va vb)
    |_,_=>False)else False
  |_=>False
 |_=>False
theorem We{O:Act}(hs:Sat n e O){x a b:Operand}{K:Value->Prop}(H:zyq e c x a b K):
  ∃v,K v/\(valid (zw O) c->∃t,O.eval x=.bool t/\(if t=true then O.eval a else O.eval b)=v):=by
 unfold zyq at H
 split at H
 ·rename_i s
  split at H
  ·rename_i cs t hl
   cases hsf:suf cs c with
   |false=>rw[hsf]at H;exact H.elim
   |true=>
    rw[hsf]at H
    simp only[cond_true]at H
    split at H
    ·rename_i va vb ha hb
     refine⟨_,H,λhv=>⟨t,?_,?_⟩⟩
     ·exact(hs.all _ (zak hl)).1 (Jl hsf hv)
     ·have Z:=Jl hsf hv
      have hx:zw O s=.bool t:=(hs.all _ (zak hl)).1 Z
      rw[zt6]
      cases t with
      |true=>
       simp only[if_true]
       unfold orV at ha
       split at ha
       ·rename_i v _ h1
        simp only[Ab]at ha
        subst ha
        exact j6 hs hv h1
       ·exact j6 hs (c:=(s,true)::cs) ⟨hx,Z⟩ ha
      |false=>
       simp only[AW,if_false]
       unfold orV at hb
       split at hb
       ·rename_i v _ h1
        simp only[Ab]at hb
        subst hb
        exact j6 hs hv h1
       ·exact j6 hs (c:=(s,false)::cs) ⟨hx,Z⟩ hb
    ·exact H.elim
  ·exact H.elim
 ·exact H.elim
def opW(P:Program)(o:Oper)(e:Env)(c:qf)(h:zb)(K:Value->zb->Prop):Prop:=
 match o.op with
 |.pick x a b=>zyq e c x a b λv=>K v h
 |_=>bif xd o.op then(bif known e c o.op.operands.toList then(match zbo e c with
   |some g=>stepW P o (rho e c) g h K
   |none=>False)else False)else False
def wR(P:Program)(n:Nat)(ops:Array Oper)(K:Env->zb->Prop):List Oper->Env->zb->Prop
 |[],e,h=>K (clean e) h
 |o::rest,e,h=>match zez ops e o.guard with
  |some c=>bif yq n c o.dst then opW P o e c h λv h'=>wR P n ops K rest (putO e o.dst c v) h' else False
  |none=>False
theorem zhy(H:opW P o e c h K)(hs:Sat n e a)(hv:valid (zw a) c)(B:World)(d:Nat)
  {next:Act->World->Prop} {Q:Exit->Act->World->Prop} (hn:∀v d' h',K v h'->next (a.put o.dst v) (mk B d' h')):o.wp P a (mk B d h) next Q:=by
 unfold opW at H
 unfold Oper.wp
 split at H
 ·rename_i x y z ho
  obtain⟨v,h1,h2⟩:=We hs H
  obtain⟨t,h3,h4⟩:=h2 hv
  refine upon_value (w':=mk B d h) (v:=v) ?_ (hn _ _ _ h1)
  simp only[execOp,ho,h3,asBool,Sem.run_bind,Sem.run_pure,Result.andThen_ok]
  rw[h4]
 ·cases hns:xd o.op with
  |false=>rw[hns]at H;exact H.elim
  |true=>
   rw[hns]at H
   cases hk:known e c o.op.operands.toList with
   |false=>rw[hk]at H;exact H.elim
   |true=>
    rw[hk]at H
    simp only[cond_true]at H
    split at H
    ·rename_i g hg
     rw[Y0 hs hv hns hk]
     exact zr4 H (Yg hs hg hv) B d hn
    ·exact H.elim
theorem qck(H:opW P o e c h K)(hs:Sat n e a)(hv:¬valid (zw a) c):∃v,K v h:=by
 unfold opW at H
 split at H
 ·obtain⟨v,h1,_⟩:=We hs H
  exact⟨v,h1⟩
 ·cases hns:xd o.op with
  |false=>rw[hns]at H;exact H.elim
  |true=>
   rw[hns]at H
   cases hk:known e c o.op.operands.toList with
   |false=>rw[hk]at H;exact H.elim
   |true=>
    rw[hk]at H
    simp only[cond_true]at H
    split at H
    ·rename_i g hg
     rw[zwh hs hg hv]at H
     exact zr5 H
    ·exact H.elim
def je:List Oper->List Nat
 |[]=>[]
 |o::l=>match o.dst with
  |some d=>d::je l
  |none=>je l
def Same(ms:List Nat)(a b:Act):Prop:=∀i,i∉ms->zw b i=zw a i
theorem Same.refl(ms:List Nat)(a:Act):Same ms a a:=λ_ _=>rfl
theorem Same.trans{a b c:Act}(h:Same ms a b)(k:Same ms b c):Same ms a c:=λi hi=>(k i hi).trans (h i hi)
theorem Same.mono{ms O:List Nat}(h:Same ms a b)(hs:∀x∈ms,x∈O):Same O a b:=λi hi=>h i λhm=>hi (hs i hm)
theorem Same.put(a:Act)(d:Option Nat)(v:Value)(h:∀i,d=some i->i∈ms):Same ms a (a.put d v):=by
 intro i hi
 cases d with
 |none=>rfl
 |some j=>exact qq λe=>hi (e ▸ h j rfl)
theorem Wg{P:Program}{n:Nat}{ops:Array Oper}{K:Env->zb->Prop}{Q:Exit->Act->World->Prop}(B:World):
  ∀(l:List Oper) (e:Env) (h:zb) (a:Act) (d:Nat),wR P n ops K l e h->Sat n e a->(∀e' a' d' h',Sat n e' a'->Same (je l) a a'->K e' h'->Q .normal a' (mk B d' h'))->wpList P ops Q l a (mk B d h)
 |[],e,h,a,d,H,hs,hQ=>hQ _ _ _ _ hs.clean (Same.refl _ _) H
 |o::rest,e,h,a,d,H,hs,hQ=>by
  unfold wR at H
  split at H
  ·rename_i c hc
   cases hd:yq n c o.dst with
   |false=>rw[hd]at H;exact H.elim
   |true=>
    rw[hd]at H
    simp only[cond_true]at H
    have hw:=Y1 hs hc
    have ac:∀i,o.dst=some i->i∈je (o::rest):=λi hi=>by simp[je,hi]
    have aa:∀x∈je rest,x∈je (o::rest):=λx hx=>by
     unfold je
     split
     ·exact Ah _ hx
     ·exact hx
    have O:∀v u d' h',(valid (zw a) c->u=v)->(¬valid (zw a) c->u=undef)->wR P n ops K rest (putO e o.dst c v) h'->wpList P ops Q rest (a.put o.dst u) (mk B d' h'):=λv u d' h' h1 h2 h3=>
     Wg B rest _ _ _ _ h3 (hs.putO hd h1 h2) λe' a' ae af q1 q2 q3=>hQ e' a' ae af q1 ((Same.put a o.dst u ac).trans (q2.mono aa)) q3
    unfold wpList
    by_cases hv:valid (zw a) c
    ·rw[if_pos (hw.2 hv)]
     exact .inl (zhy H hs hv B d λv d' h' hK=>O v v d' h' (λ_=>rfl) (λZ=>absurd hv Z) hK)
    ·rw[if_neg (λhx=>hv (hw.1 hx))]
     obtain⟨v,hK⟩:=qck H hs hv
     exact O v undef d h (λZ=>absurd Z hv) (λ_=>rfl) hK
  ·exact H.elim
def z8r(P:Program)(o:Oper)(ρ:Operand->Value)(g:Option Bool)(h:zb)(K:Value->Prop):Prop:=
 match o.op with
 |.call c=>match c.callee with
  |.value x=>bif Wd x then(match Q5 P (execOp ρ o)with
    |some (.enter f args)=>match qb8 P o.type with
     |some rt=>z3x rt λv=>req g (XC P f args h λv' h'=>v'=v/\h'=h)/\K v
     |none=>False
    |_=>False)else(match qb8 P o.type with
     |some rt=>z3x rt λv=>req g (qb9 P (ρ x) (c.args.map ρ) λf args=>XC P f args h λv' h'=>v'=v/\h'=h)/\K v
     |none=>False)
  |_=>False
 |_=>False
theorem zr6{K:Value->Prop}(H:z8r P o ρ g h K):
  ∃v,K v/\(gok g->∃f args,(∀w,(execOp ρ o).run P w=.ok (.enter f args) w)/\XC P f args h λv' h'=>v'=v/\h'=h):=by
 unfold z8r at H
 split at H
 ·rename_i c ho
  split at H
  ·rename_i x hx
   cases hst:Wd x with
   |true=>
    rw[hst]at H
    simp only[cond_true]at H
    split at H
    ·rename_i f args he
     split at H
     ·obtain⟨v,h1,h2⟩:=zhs H
      exact⟨v,h2,λhg=>⟨f,args,λw=>Xh he w,h1.out hg⟩⟩
     ·exact H.elim
    ·exact H.elim
   |false=>
    rw[hst]at H
    simp only[cond_false]at H
    split at H
    ·obtain⟨v,h1,h2⟩:=zhs H
     refine⟨v,h2,λhg=>?_⟩
     obtain⟨f,args,h3,h4⟩:=zli ho hx (h1.out hg)
     exact⟨f,args,h4,h3⟩
    ·exact H.elim
  ·exact H.elim
 ·exact H.elim
def zhz(o:Oper):Bool:=match o.op with
 |.call c=>match c.callee with
  |.builtin _=>false
  |_=>true
 |_=>false
def opQ(P:Program)(o:Oper)(e:Env)(c:qf)(h:zb)(O:Bool)(K:Value->Prop):Prop:=
 match o.op with
 |.pick x a b=>zyq e c x a b K
 |_=>bif xd o.op then(bif known e c o.op.operands.toList then(match zbo e c with
   |some g=>bif zhz o then(bif O then z8r P o (rho e c) g h K else False)else Zz P o (rho e c) g h K
   |none=>False)else False)else False
def wQ(P:Program)(n:Nat)(ops:Array Oper)(h:zb)(O:Bool)(K:Env->Prop):List Oper->Env->Prop
 |[],e=>K e
 |o::rest,e=>match zez ops e o.guard with
  |some c=>bif yq n c o.dst then opQ P o e c h O λv=>wQ P n ops h O K rest (putO e o.dst c v)else False
  |none=>False
def YQ(P:Program)(o:Oper)(a:Act)(B:World)(h:zb)(O:Bool)(v:Value):Prop:=
 (∀d,(execOp a.eval o).run P (mk B d h)=.ok (.value v) (mk B d h)) \/
 (O=true/\∃f args,(∀d,(execOp a.eval o).run P (mk B d h)=.ok (.enter f args) (mk B d h))/\XC P f args h λv' h'=>v'=v/\h'=h)
theorem zpp{O:Bool}{K:Value->Prop}(H:opQ P o e c h O K)(hs:Sat n e a)(B:World):
  ∃v,K v/\(valid (zw a) c->YQ P o a B h O v):=by
 unfold opQ at H
 split at H
 ·rename_i x y z ho
  obtain⟨v,h1,h2⟩:=We hs H
  refine⟨v,h1,λhv=>?_⟩
  obtain⟨t,h3,h4⟩:=h2 hv
  refine .inl λd=>?_
  simp only[execOp,ho,h3,asBool,Sem.run_bind,Sem.run_pure,Result.andThen_ok]
  rw[h4]
 ·cases hns:xd o.op with
  |false=>rw[hns]at H;exact H.elim
  |true=>
   rw[hns]at H
   cases hk:known e c o.op.operands.toList with
   |false=>rw[hk]at H;exact H.elim
   |true=>
    rw[hk]at H
    simp only[cond_true]at H
    split at H
    ·rename_i g hg
     cases hc:zhz o with
     |false=>
      rw[hc]at H
      obtain⟨v,h1,h2⟩:=zbn H
      refine⟨v,h1,λhv=>.inl λd=>?_⟩
      rw[Y0 hs hv hns hk]
      exact h2 (Yg hs hg hv) B d
     |true=>
      rw[hc]at H
      cases O with
      |false=>exact H.elim
      |true=>
       simp only[cond_true]at H
       obtain⟨v,h1,h2⟩:=zr6 H
       refine⟨v,h1,λhv=>?_⟩
       obtain⟨f,args,h3,h4⟩:=h2 (Yg hs hg hv)
       refine .inr ⟨rfl,f,args,λd=>?_,h4⟩
       rw[Y0 hs hv hns hk]
       exact h3 _
    ·exact H.elim
theorem zt7{P:Program}{n:Nat}{ops:Array Oper}{h:zb}{ac:Bool}{K:Env->Prop}{Q:Act->Prop}(B:World):
  ∀(l:List Oper) (e:Env) (a:Act),wQ P n ops h ac K l e->Sat n e a->(∀e' a',Sat n e' a'->Same (je l) a a'->K e'->Q a')->wpQuiet P ops (λw=>∃d,w=mk B d h) Q l a
 |[],e,a,H,hs,hQ=>hQ _ _ hs (Same.refl _ _) H
 |o::rest,e,a,H,hs,hQ=>by
  unfold wQ at H
  split at H
  ·rename_i c hc
   cases hd:yq n c o.dst with
   |false=>rw[hd]at H;exact H.elim
   |true=>
    rw[hd]at H
    simp only[cond_true]at H
    have hw:=Y1 hs hc
    have ae:∀i,o.dst=some i->i∈je (o::rest):=λi hi=>by simp[je,hi]
    have aa:∀x∈je rest,x∈je (o::rest):=λx hx=>by
     unfold je
     split
     ·exact Ah _ hx
     ·exact hx
    obtain⟨v,hK,hy⟩:=zpp H hs B
    have O:∀u,(valid (zw a) c->u=v)->(¬valid (zw a) c->u=undef)->wpQuiet P ops (λw=>∃d,w=mk B d h) Q rest (a.put o.dst u):=λu h1 h2=>
     zt7 B rest _ _ hK (hs.putO hd h1 h2) λe' a' q1 q2 q3=>hQ e' a' q1 ((Same.put a o.dst u ae).trans (q2.mono aa)) q3
    unfold wpQuiet
    by_cases hv:valid (zw a) c
    ·rw[if_pos (hw.2 hv)]
     refine⟨v,?_,O v (λ_=>rfl) (λZ=>absurd hv Z)⟩
     rintro w ⟨d,rfl⟩
     unfold Oper.quietAt
     rcases hy hv with h1|⟨_,f,args,h1,h2⟩
     ·rw[h1 d];exact⟨rfl,rfl⟩
     ·rw[h1 d]
      refine⟨rfl,(h2 B d).mono ?_⟩
      rintro e' w'' ⟨v',d',h',rfl,rfl,rfl,rfl⟩
      exact⟨rfl,d',rfl⟩
    ·rw[if_neg (λhx=>hv (hw.1 hx))]
     exact O undef (λZ=>absurd Z hv) (λ_=>rfl)
  ·exact H.elim
def z8s(P:Program)(o:Oper)(ρ:Operand->Value)(g:Option Bool)(h:zb)(K:Value->Prop):Prop:=
 match o.op with
 |.call c=>match c.callee with
  |.value x=>bif Wd x then(match Q5 P (execOp ρ o)with
    |some (.enter f args)=>match qb8 P o.type with
     |some rt=>z3x rt λv=>req g (∀h1,Keep h.size h h1->XC P f args h1 λv' h'=>v'=v/\Keep h1.size h1 h')/\K v
     |none=>False
    |_=>False)else False
  |_=>False
 |_=>False
theorem zr7{K:Value->Prop}(H:z8s P o ρ g h K):
  ∃v,K v/\(gok g->∃f args,(∀w,(execOp ρ o).run P w=.ok (.enter f args) w)/\∀h1,Keep h.size h h1->XC P f args h1 λv' h'=>v'=v/\Keep h1.size h1 h'):=by
 unfold z8s at H
 split at H
 ·split at H
  ·rename_i x _
   cases hx:Wd x with
   |false=>rw[hx]at H;exact H.elim
   |true=>
    rw[hx]at H
    simp only[cond_true]at H
    split at H
    ·rename_i f args hv
     split at H
     ·obtain⟨v,h1,h2⟩:=zhs H
      exact⟨v,h2,λhg=>⟨f,args,λw=>Xh hv w,h1.out hg⟩⟩
     ·exact H.elim
    ·exact H.elim
  ·exact H.elim
 ·exact H.elim
def opK(P:Program)(o:Oper)(e:Env)(c:qf)(h:zb)(K:Value->Prop):Prop:=
 match o.op with
 |.pick x a b=>zyq e c x a b K
 |_=>bif xd o.op then(bif known e c o.op.operands.toList then(match zbo e c with
   |some g=>bif zhz o then z8s P o (rho e c) g h K else bif zgn o then Zz P o (rho e c) g h K else False
   |none=>False)else False)else False
def wK(P:Program)(n:Nat)(ops:Array Oper)(h:zb)(K:Env->Prop):List Oper->Env->Prop
 |[],e=>K e
 |o::rest,e=>match zez ops e o.guard with
  |some c=>bif yq n c o.dst then opK P o e c h λv=>wK P n ops h K rest (putO e o.dst c v)else False
  |none=>False
def YK(P:Program)(o:Oper)(a:Act)(B:World)(h:zb)(v:Value):Prop:=
 (∀d h',Keep h.size h h'->(execOp a.eval o).run P (mk B d h')=.ok (.value v) (mk B d h')) \/
 (∃f args,(∀d h',(execOp a.eval o).run P (mk B d h')=.ok (.enter f args) (mk B d h'))/\∀h1,Keep h.size h h1->XC P f args h1 λv' h'=>v'=v/\Keep h1.size h1 h')
theorem zyr{K:Value->Prop}(H:opK P o e c h K)(hs:Sat n e a)(B:World):
  ∃v,K v/\(valid (zw a) c->YK P o a B h v):=by
 unfold opK at H
 split at H
 ·rename_i x y z ho
  obtain⟨v,h1,h2⟩:=We hs H
  refine⟨v,h1,λhv=>?_⟩
  obtain⟨t,h3,h4⟩:=h2 hv
  refine .inl λd h' _=>?_
  simp only[execOp,ho,h3,asBool,Sem.run_bind,Sem.run_pure,Result.andThen_ok]
  rw[h4]
 ·cases hns:xd o.op with
  |false=>rw[hns]at H;exact H.elim
  |true=>
   rw[hns]at H
   cases hk:known e c o.op.operands.toList with
   |false=>rw[hk]at H;exact H.elim
   |true=>
    rw[hk]at H
    simp only[cond_true]at H
    split at H
    ·rename_i g hg
     cases hc:zhz o with
     |false=>
      rw[hc]at H
      cases hf:zgn o with
      |false=>rw[hf]at H;exact H.elim
      |true=>
       rw[hf]at H
       obtain⟨v,h1,h2⟩:=zal hf H
       refine⟨v,h1,λhv=>.inl λd h' O=>?_⟩
       rw[Y0 hs hv hns hk]
       exact h2 (Yg hs hg hv) h' O B d
     |true=>
      rw[hc]at H
      obtain⟨v,h1,h2⟩:=zr7 H
      refine⟨v,h1,λhv=>?_⟩
      obtain⟨f,args,h3,h4⟩:=h2 (Yg hs hg hv)
      refine .inr ⟨f,args,λd h'=>?_,h4⟩
      rw[Y0 hs hv hns hk]
      exact h3 _
    ·exact H.elim
theorem zt8{P:Program}{n:Nat}{ops:Array Oper}{h:zb}{K:Env->Prop}{Q:Act->Prop}(B:World):
  ∀(l:List Oper) (e:Env) (a:Act),wK P n ops h K l e->Sat n e a->(∀e' a',Sat n e' a'->Same (je l) a a'->K e'->Q a')->wpQuiet P ops (λw=>∃d h',Keep h.size h h'/\w=mk B d h') Q l a
 |[],e,a,H,hs,hQ=>hQ _ _ hs (Same.refl _ _) H
 |o::rest,e,a,H,hs,hQ=>by
  unfold wK at H
  split at H
  ·rename_i c hc
   cases hd:yq n c o.dst with
   |false=>rw[hd]at H;exact H.elim
   |true=>
    rw[hd]at H
    simp only[cond_true]at H
    have hw:=Y1 hs hc
    have ae:∀i,o.dst=some i->i∈je (o::rest):=λi hi=>by simp[je,hi]
    have ac:∀x∈je rest,x∈je (o::rest):=λx hx=>by
     unfold je
     split
     ·exact Ah _ hx
     ·exact hx
    obtain⟨v,hK,hy⟩:=zyr H hs B
    have Z:∀u,(valid (zw a) c->u=v)->(¬valid (zw a) c->u=undef)->wpQuiet P ops (λw=>∃d h',Keep h.size h h'/\w=mk B d h') Q rest (a.put o.dst u):=λu h1 h2=>
     zt8 B rest _ _ hK (hs.putO hd h1 h2) λe' a' q1 q2 q3=>hQ e' a' q1 ((Same.put a o.dst u ae).trans (q2.mono ac)) q3
    unfold wpQuiet
    by_cases hv:valid (zw a) c
    ·rw[if_pos (hw.2 hv)]
     refine⟨v,?_,Z v (λ_=>rfl) (λaa=>absurd hv aa)⟩
     rintro w ⟨d,h0,O,rfl⟩
     unfold Oper.quietAt
     rcases hy hv with h1|⟨f,args,h1,h2⟩
     ·rw[h1 d h0 O];exact⟨rfl,rfl⟩
     ·rw[h1 d h0]
      refine⟨rfl,(h2 h0 O B d).mono ?_⟩
      rintro e' w'' ⟨v',d',h',rfl,rfl,rfl,af⟩
      exact⟨rfl,d',h',O.trans af O.size,rfl⟩
    ·rw[if_neg (λhx=>hv (hw.1 hx))]
     exact Z undef (λaa=>absurd aa hv) (λ_=>rfl)
  ·exact H.elim
theorem zt9{P:Program}{n:Nat}{ops:Array Oper}{h:zb}{K:Env->Prop}{Q:Act->Prop}(B:World)(d:Nat):
  ∀(l:List Oper) (e:Env) (a:Act),wQ P n ops h false K l e->Sat n e a->(∀e' a',Sat n e' a'->Same (je l) a a'->K e'->Q a')->wpStill P ops (mk B d h) Q l a
 |[],e,a,H,hs,hQ=>hQ _ _ hs (Same.refl _ _) H
 |o::rest,e,a,H,hs,hQ=>by
  unfold wQ at H
  split at H
  ·rename_i c hc
   cases hd:yq n c o.dst with
   |false=>rw[hd]at H;exact H.elim
   |true=>
    rw[hd]at H
    simp only[cond_true]at H
    have hw:=Y1 hs hc
    have ac:∀i,o.dst=some i->i∈je (o::rest):=λi hi=>by simp[je,hi]
    have aa:∀x∈je rest,x∈je (o::rest):=λx hx=>by
     unfold je
     split
     ·exact Ah _ hx
     ·exact hx
    obtain⟨v,hK,hy⟩:=zpp H hs B
    have O:∀u,(valid (zw a) c->u=v)->(¬valid (zw a) c->u=undef)->wpStill P ops (mk B d h) Q rest (a.put o.dst u):=λu h1 h2=>
     zt9 B d rest _ _ hK (hs.putO hd h1 h2) λe' a' q1 q2 q3=>hQ e' a' q1 ((Same.put a o.dst u ac).trans (q2.mono aa)) q3
    unfold wpStill
    by_cases hv:valid (zw a) c
    ·rw[if_pos (hw.2 hv)]
     unfold Oper.still
     rcases hy hv with h1|⟨h0,_⟩
     ·rw[h1 d,Oper.stillUpon_value];exact O v (λ_=>rfl) (λZ=>absurd hv Z)
     ·cases h0
    ·rw[if_neg (λhx=>hv (hw.1 hx))]
     exact O undef (λZ=>absurd Z hv) (λ_=>rfl)
  ·exact H.elim
end
section
variable {i n:Nat} {a b a0:Act} {o:Oper} {h h' h0:zb} {P:Program} {ρ:Operand -> Value} {ops:Array Oper} {listed:Array Bool} {tr md:Bool} {e:Env}
def memN:List Nat->Nat->Bool
 |[],_=>false
 |j::l,i=>bif Nat.beq i j then true else memN l i
theorem Ze{l:List Nat}(h:memN l i=false):i∉l:=by
 induction l with
 |nil=>simp
 |cons j l ih=>
  simp only[memN]at h
  by_cases hb:Nat.beq i j=true
  ·simp[hb]at h
  ·simp only[hb,cond_false]at h
   simp only[Af,not_or]
   exact⟨λe=>hb (by rw[e];simp),ih h⟩
def tmpsOf:List Operand->List Nat
 |[]=>[]
 |.tmp t::l=>t::tmpsOf l
 |_::l=>tmpsOf l
def Qu(ops:Array Oper)(o:Oper):List Nat:=(match o.guard with
 |some (j,_)=>match jd ops j with
  |some g=>[g]
  |none=>[]
 |none=>[])++tmpsOf o.op.operands.toList
def xl(ops:Array Oper)(k:Nat)(S:List Nat):Nat->Bool
 |0=>true
 |p+1=>bif (match jd ops p with
  |some t=>bif memN S t then Region.waitsFor .any ops k p else true
  |none=>true)then xl ops k S p else false
theorem qk{ops:Array Oper}{k:Nat}{S:List Nat}:∀{m:Nat},xl ops k S m=true->∀p t,p<m->jd ops p=some t->t∈S->Region.waitsFor .any ops k p=true
 |0,_,p,t,hp,_,_=>by omega
 |m+1,h,p,t,hp,hd,ht=>by
  simp only[xl]at h
  cases hb:(match jd ops m with
   |some t=>bif memN S t then Region.waitsFor .any ops k m else true
   |none=>true)with
  |false=>rw[hb]at h;cases h
  |true=>
   rw[hb]at h
   rcases AZ p m with h1|h1
   ·exact qk h p t h1 hd ht
   ·have:p=m:=by omega
    subst this
    rw[hd]at hb
    simp only at hb
    cases hm:memN S t with
    |false=>exact absurd ht (Ze hm)
    |true=>rw[hm]at hb;exact hb
def ql(ops:Array Oper):Nat->Bool
 |0=>true
 |j+1=>bif (match ops[j]? with
  |some o=>o.after.toList.all λe=>!(Region.binds .any e)||Nat.blt e.on j
  |none=>true)then ql ops j else false
theorem qm{ops:Array Oper}:∀{n:Nat},ql ops n=true->∀j o,j<n->ops[j]?=some o->∀e∈o.after,Region.binds .any e=true->e.on<j
 |0,_,j,_,hj,_,_,_,_=>by omega
 |n+1,h,j,o,hj,ho,e,he,hb=>by
  simp only[ql]at h
  cases hc:(match ops[n]? with
   |some o=>o.after.toList.all λe=>!(Region.binds .any e)||Nat.blt e.on n
   |none=>true)with
  |false=>rw[hc]at h;cases h
  |true=>
   rw[hc]at h
   rcases AZ j n with h1|h1
   ·exact qm h j o h1 ho e he hb
   ·have:j=n:=by omega
    subst this
    rw[ho]at hc
    have:=AQ.1 hc e (by simpa using he)
    rw[hb]at this
    simpa[CM]using this
def zys(ops:Array Oper)(d:Nat):Nat->Bool
 |0=>false
 |p+1=>bif (match jd ops p with
  |some t=>Nat.beq t d
  |none=>false)then true else zys ops d p
def w8(ops:Array Oper):Nat->Bool
 |0=>true
 |p+1=>bif (match jd ops p with
  |some t=>!(zys ops t p)
  |none=>true)then w8 ops p else false
theorem ze1{ops:Array Oper}{d:Nat}:∀{m:Nat},zys ops d m=false->∀p,p<m->jd ops p≠some d
 |0,_,p,hp=>by omega
 |m+1,h,p,hp=>by
  simp only[zys]at h
  cases hb:(match jd ops m with
   |some t=>Nat.beq t d
   |none=>false)with
  |true=>rw[hb]at h;cases h
  |false=>
   rw[hb]at h
   rcases AZ p m with h1|h1
   ·exact ze1 h p h1
   ·have:p=m:=by omega
    subst this
    intro e
    rw[e]at hb
    simp at hb
theorem yf{ops:Array Oper}:∀{m:Nat},w8 ops m=true->∀p q t,p<m->q<m->jd ops p=some t->jd ops q=some t->p=q
 |0,_,p,q,t,hp,_,_,_=>by omega
 |m+1,h,p,q,t,hp,hq,e1,e2=>by
  simp only[w8]at h
  cases hb:(match jd ops m with
   |some t=>!(zys ops t m)
   |none=>true)with
  |false=>rw[hb]at h;cases h
  |true=>
   rw[hb]at h
   rcases AZ p m with h1|h1 <;> rcases AZ q m with h2|h2
   ·exact yf h p q t h1 h2 e1 e2
   ·have:q=m:=by omega
    subst this
    rw[e2]at hb
    simp only[B4]at hb
    exact absurd e1 (ze1 hb p h1)
   ·have:p=m:=by omega
    subst this
    rw[e1]at hb
    simp only[B4]at hb
    exact absurd e2 (ze1 hb q h2)
   ·omega
def zbd(o:Oper):Option Bool:=match o.op with
 |.fieldAddr _ _ _=>some true
 |.indexAddr _ _ _=>some true
 |.move _=>some true
 |.assign _=>match o.after.toList with
  |[]=>some true
  |_=>none
 |.nilCheck _=>some true
 |.slice _ _ _ _ _=>some true
 |.binOp _ _ _ _ _=>some true
 |.load _ _=>some false
 |_=>none
def zf(o:Oper):Bool:=match zbd o with
 |some _=>true
 |none=>false
def zp(o:Oper):Bool:=match zbd o with
 |some b=>!b
 |none=>false
def heavyL:Nat->List Oper->List Nat
 |_,[]=>[]
 |k,o::l=>bif zf o then heavyL (k+1) l else k::heavyL (k+1) l
def Jn(ops:Array Oper):List Nat->Bool
 |[]=>true
 |[_]=>true
 |i::j::l=>bif Region.waitsFor .any ops j i then Jn ops (j::l)else false
def wq(ops:Array Oper)(i:Nat):List Nat->Bool
 |[]=>false
 |j::l=>bif Region.waitsFor .any ops j i then true else wq ops i l
def zh0(ops:Array Oper)(T:List Nat):Nat->Bool
 |0=>false
 |k+1=>bif (match ops[k]? with
  |some o=>bif zp o then !(wq ops k T)else false
  |none=>false)then true else zh0 ops T k
def Z2(ops:Array Oper)(T:List Nat):Nat->Nat->Bool
 |0,k=>memN T k
 |f+1,k=>bif memN T k then true else(BJ ops.size).any λp=>bif Region.waitsFor .any ops p k then Z2 ops T f p else false
def z4a(ops:Array Oper)(T:List Nat):Nat->Bool
 |0=>false
 |k+1=>bif (match ops[k]? with
  |some o=>bif zp o then !(Z2 ops T ops.size k)else false
  |none=>false)then true else z4a ops T k
def zpq(tr:Bool)(ops:Array Oper)(T:List Nat)(m:Nat):Bool:=bif tr then z4a ops T m else zh0 ops T m
def wa(l:List Oper):Bool:=l.all λo=>match o.guard with
 |none=>xd o.op
 |some _=>false
def Jo(ops:Array Oper):Nat->Bool
 |0=>true
 |k+1=>bif (match ops[k]? with
  |some o=>bif xl ops k (tmpsOf o.op.operands.toList) ops.size then(bif zf o then(heavyL 0 ops.toList).all λj=>!(Region.waitsFor .any ops k j)||(match jd ops j with
   |some t=>!(memN (tmpsOf o.op.operands.toList) t)
   |none=>true)else true)else false
  |none=>true)then Jo ops k else false
def mixB(ops:Array Oper):Bool:=bif wa ops.toList then(bif ql ops ops.size then(bif w8 ops ops.size then(bif Jn ops (heavyL 0 ops.toList)then Jo ops ops.size else false)else false)else false)else false
def wU(P:Program)(n:Nat)(h:zb)(K:Env->Prop):List Oper->Env->Prop
 |[],e=>K e
 |o::l,e=>bif zf o then(bif yq n [] o.dst then(bif xd o.op then(bif known e [] o.op.operands.toList then Zz P o (rho e []) none h λv=>wU P n h K l (putO e o.dst [] v)else False)else False)else False)else wU P n h K l e
def wT(P:Program)(n:Nat)(ops:Array Oper)(h0:zb)(K:Env->zb->Prop)(tr:Bool):List Nat->List Nat->Env->zb->Prop
 |_,[],e,h=>K (clean e) h
 |T,j::l,e,h=>match ops[j]? with
  |some o=>bif yq n [] o.dst then opW P o e [] h λv h'=>(bif zpq tr ops (j::T) ops.size then Keep h0.size h0 h'/\wT P n ops h0 K tr (j::T) l (putO e o.dst [] v) h' else wT P n ops h0 K tr (j::T) l (putO e o.dst [] v) h')else False
  |none=>False
def qs:Nat->List Oper->(Nat->Value)->Act->Act
 |_,[],_,a=>a
 |k,o::l,f,a=>qs (k+1) l f (bif zf o then a.put o.dst (f k)else a)
theorem yx{a b:Act}:∀{l:List Operand},(∀t∈tmpsOf l,zw a t=zw b t)->∀x∈l,a.eval x=b.eval x
 |[],_,x,hx=>by cases hx
 |y::l,h,x,hx=>by
  rcases Af.1 hx with rfl|hx
  ·cases x with
   |tmp t=>exact h t (by simp[tmpsOf])
   |const v=>rfl
   |global g=>rfl
   |func f=>rfl
  ·refine yx (l:=l) (λt ht=>h t ?_) x hx
   cases y <;> simp[tmpsOf,ht]
theorem yy(hs:xd o.op=true)(h:∀t∈tmpsOf o.op.operands.toList,zw a t=zw b t):execOp a.eval o=execOp b.eval o:=
 execOp_congr o (λcs b hb=>by rw[hb]at hs;cases hs) λx hx=>yx h x (by simpa using hx)
theorem zr8{p:Addr}(e:h'[p.block]?=h[p.block]?)(i:Nat):zk h' (p.add i)=zk h (p.add i):=by
 have hb:(p.add i).block=p.block:=by unfold Aj;split <;> rfl
 unfold zk;rw[hb,e]
theorem zc8{h h':zb}{p:Addr}(e:h'[p.block]?=h[p.block]?):∀{vs:List Value} {i:Nat},ze h p i vs->ze h' p i vs
 |[],_,_=>trivial
 |v::vs,i,⟨h1,h2⟩=>⟨(zr8 e i).trans h1,zc8 e h2⟩
theorem zr9{t:TypeId}{x:Value}{K:Value->Prop}(H:zmz P h t x none K):∃v p,x=.pointer (some p)/\K v/\∀h',h'[p.block]?=h[p.block]?->QExec P (Ef t x) h' v:=by
 unfold zmz at H
 split at H
 ·rename_i q a hv
  obtain⟨x,h1,h2⟩:=H
  refine⟨_,q,rfl,h2,λh' e=>zc5 hv ?_⟩
  have h1:zk h q=some _:=h1
  unfold zk at h1 ⊢
  rw[e];exact h1
 ·rename_i q l hv
  obtain⟨vs,h0,⟨h1,h2⟩,_⟩:=Yb H (wm l)
  exact⟨_,q,rfl,h2,λh' e=>zc6 hv h0 (zc8 e h1)⟩
 ·exact H.elim
def LdOK(o:Oper)(ρ:Operand->Value)(h h':zb):Prop:=zp o=false\/Keep h.size h h'\/∀t a p,o.op=.load t a->ρ a=.pointer (some p)->h'[p.block]?=h[p.block]?
theorem LdOK.congr{ρ ρ':Operand->Value}(e:∀x∈o.op.operands.toList,ρ' x=ρ x)(H:LdOK o ρ h h'):LdOK o ρ' h h':=by
 rcases H with H|H|H
 ·exact .inl H
 ·exact .inr (.inl H)
 ·refine .inr (.inr λt a p ho hp=>H t a p ho ?_)
  rw[<-e a (by rw[ho];simp[Op.operands])];exact hp
theorem zam(hq:zf o=true){K:Value->Prop}(H:Zz P o ρ none h K):
  ∃v,K v/\∀h',LdOK o ρ h h'->QExec P (execOp ρ o) h' (.value v):=by
 cases ho:o.op with
 |load t x=>
  have O:zgn o=true:=by unfold zgn;rw[ho]
  obtain⟨v1,k1,k2⟩:=zal O H
  unfold Zz at H;rw[ho]at H
  simp only at H
  obtain⟨v,p,hx,h1,h2⟩:=zr9 H
  have hv:v1=v:=by
   have a1:=k2 trivial h (Keep.refl _ _) default 0
   have a2:QExec P (execOp ρ o) h (.value v):=by simp only[execOp,ho];exact(h2 h rfl).val
   have a2:=a2 default 0
   rw[a1]at a2
   injection a2 with a2 _
   injection a2
  subst hv
  refine⟨v1,k1,λh' hk=>?_⟩
  rcases hk with hk|hk|hk
  ·unfold zp zbd at hk;rw[ho]at hk;cases hk
  ·exact k2 trivial h' hk
  ·have:=h2 h' (hk t x p ho hx)
   simp only[execOp,ho]
   exact this.val
 |fieldAddr t x i=>
  unfold Zz at H;rw[ho]at H
  obtain⟨v,h1,h2⟩:=zx H none
  exact⟨v,h1,λh' _=>h2 trivial h'⟩
 |indexAddr t x i=>
  unfold Zz at H;rw[ho]at H
  simp only at H
  cases he:Xk P t with
  |false=>rw[he]at H;exact H.elim
  |true=>
   rw[he]at H
   obtain⟨v,h1,h2⟩:=Zd (xz he) H
   refine⟨v,h1,λh' _=>?_⟩
   simp only[execOp,ho]
   exact(h2 trivial h').val
 |move x=>
  unfold Zz at H;rw[ho]at H
  obtain⟨v,h1,h2⟩:=zx H none
  exact⟨v,h1,λh' _=>h2 trivial h'⟩
 |assign x=>
  unfold Zz at H;rw[ho]at H
  obtain⟨v,h1,h2⟩:=zx H none
  exact⟨v,h1,λh' _=>h2 trivial h'⟩
 |slice t x lo hi mx=>
  unfold Zz at H;rw[ho]at H
  simp only at H
  cases he:Xk P t with
  |false=>rw[he]at H;exact H.elim
  |true=>
   rw[he]at H
   obtain⟨v,h1,h2⟩:=Y2 (λel Z=>xz he el (Or.inl Z)) H
   refine⟨v,h1,λh' _=>?_⟩
   simp only[execOp,ho]
   exact(h2 (show gok none from trivial) h').val
 |binOp op t x y t'=>
  unfold Zz at H;rw[ho]at H
  obtain⟨v,h1,h2⟩:=zhb ho H
  exact⟨v,h1,λh' _=>h2 trivial h'⟩
 |nilCheck x=>
  unfold Zz at H;rw[ho]at H
  simp only at H
  unfold qec at H
  split at H
  ·rename_i p hx
   obtain⟨a,h1,h2⟩:=H
   have hp:=h1.out (g:=none) trivial
   subst hp
   refine⟨_,h2,λh' _ B d=>?_⟩
   simp only[execOp,ho,hx]
   rfl
  ·obtain⟨v,h1,h2⟩:=zx H none
   exact⟨v,h1,λh' _=>h2 trivial h'⟩
 |_=>unfold zf zbd at hq;rw[ho]at hq;cases hq
theorem qi(σ:Nat->Value):valid σ []:=by unfold valid;trivial
theorem Yc:∀{l:List Oper} {k:Nat} {f:Nat->Value} {a:Act},(qs k l f a).tmps.size=a.tmps.size/\(qs k l f a).defers=a.defers
 |[],_,_,_=>⟨rfl,rfl⟩
 |o::l,k,f,a=>by
  unfold qs
  have:=Yc (l:=l) (k:=k+1) (f:=f) (a:=bif zf o then a.put o.dst (f k)else a)
  rw[this.1,this.2]
  cases zf o with
  |true=>exact⟨size_put _ _ _,qg _ _ _⟩
  |false=>exact⟨rfl,rfl⟩
theorem zq{d:Option Nat}{u:Value}{s:Nat}(h:d≠some s):zw (a.put d u) s=zw a s:=by
 cases d with
 |none=>rfl
 |some t=>exact qq λe=>h (by rw[e])
theorem yu{s:Nat}:∀{l:List Oper} {k:Nat} {f:Nat->Value} {a:Act},(∀o∈l,zf o=true->o.dst≠some s)->zw (qs k l f a) s=zw a s
 |[],_,_,_,_=>rfl
 |o::l,k,f,a,h=>by
  unfold qs
  rw[yu λo' O=>h o' (Ah _ O)]
  cases hq:zf o with
  |true=>exact zq (h o Ar hq)
  |false=>rfl
theorem Y3{P:Program}{n:Nat}{h:zb}{K:Env->Prop}:∀{l:List Oper} {k:Nat} {e:Env} {a:Act},wU P n h K l e->Sat n e a->∃(f:Nat->Value) (e':Env),K e'/\Sat n e' (qs k l f a) /\
  ∀i o,l[i]?=some o->zf o=true->xd o.op=true/\yq n [] o.dst=true/\∀h',LdOK o (qs k (l.take i) f a).eval h h'->QExec P (execOp (qs k (l.take i) f a).eval o) h' (.value (f (k+i)))
 |[],k,e,a,H,hs=>⟨λ_=>undef,e,H,hs,λi o h=>by simp at h⟩
 |o::l,k,e,a,H,hs=>by
  unfold wU at H
  cases hq:zf o with
  |false=>
   rw[hq]at H
   obtain⟨f,e',h1,h2,h3⟩:=Y3 (k:=k+1) H hs
   refine⟨f,e',h1,by unfold qs;rw[hq];exact h2,λi o' hi O=>?_⟩
   cases i with
   |zero=>simp at hi;subst hi;rw[hq]at O;cases O
   |succ i=>
    have:=h3 i o' (by simpa using hi) O
    rw[BV]
    unfold qs
    rw[hq,show k+(i+1)=k+1+i by omega];exact this
  |true=>
   rw[hq]at H
   simp only[cond_true]at H
   cases hd:yq n [] o.dst with
   |false=>rw[hd]at H;exact H.elim
   |true=>
    rw[hd]at H
    simp only[cond_true]at H
    cases hns:xd o.op with
    |false=>rw[hns]at H;exact H.elim
    |true=>
     rw[hns]at H
     simp only[cond_true]at H
     cases hk:known e [] o.op.operands.toList with
     |false=>rw[hk]at H;exact H.elim
     |true=>
      rw[hk]at H
      simp only[cond_true]at H
      obtain⟨v,H1,H2⟩:=zam hq H
      obtain⟨f,e',h1,h2,h3⟩:=Y3 (k:=k+1) (a:=a.put o.dst v) H1 (hs.putO hd (λ_=>rfl) λhv=>absurd (qi _) hv)
      have hf:∀(m:List Oper) (j:Nat) (b:Act),qs (k+1+j) m (λx=>if x=k then v else f x) b=qs (k+1+j) m f b:=by
       intro m
       induction m with
       |nil=>intro j b;rfl
       |cons o' m ih=>
        intro j b
        unfold qs
        dsimp only
        rw[if_neg (show¬k+1+j=k by omega),show k+1+j+1=k+1+(j+1)by omega,ih]
      refine⟨λx=>if x=k then v else f x,e',h1,?_,λi o' hi O=>?_⟩
      ·unfold qs
       rw[hq,cond_true]
       dsimp only
       rw[if_pos rfl]
       have:=hf l 0 (a.put o.dst v)
       rw[C8]at this
       rw[this];exact h2
      ·cases i with
       |zero=>
        simp at hi;subst hi
        rw[Cz,C8]
        dsimp only
        rw[if_pos rfl]
        refine⟨hns,hd,λh' hh=>?_⟩
        show QExec P (execOp a.eval o) h' _
        rw[Y0 hs (qi _) hns hk]
        exact H2 h' (LdOK.congr (λx hx=>(xy hs (qi _) hk x hx).symm) hh)
       |succ i=>
        have:=h3 i o' (by simpa using hi) O
        rw[BV]
        unfold qs
        rw[hq,cond_true]
        dsimp only
        rw[if_pos rfl]
        have e2:=hf (l.take i) 0 (a.put o.dst v)
        rw[C8]at e2
        rw[e2,if_neg (show¬k+(i+1)=k by omega),show k+(i+1)=k+1+i by omega]
        exact this
theorem Jp{next:Act->World->Prop}{Q:Exit->Act->World->Prop}{r:Result Next}(hb:b.defers=[])
  (H:o.upon P b (λc w=>c.defers=[]/\∀v,c=b.put o.dst v->next (a.put o.dst v) w) (λ_ _ _=>False) r):o.upon P a next Q r:=by
 have lo:¬LetsOut (λ(_:Exit) (_:Act) (_:World)=>False):=λh=>by
  obtain⟨_,_,h⟩:=h
  exact h
 cases r with
 |ok x w=>
  cases x with
  |value v=>exact H.2 v rfl
  |skip=>exact H.2 undef rfl
  |defer d=>
   have:=H.1
   rw[qg]at this;cases this
  |enter f args=>
   refine Calls.mono (show Calls P f args w _ from H) λe w' he=>?_
   cases e with
   |returned v=>exact he.2 v rfl
   |panicked c=>exact he.elim
   |outgrown=>exact absurd he lo
  |row row args=>exact Rows.mono (show Rows P row args w _ from H) λv w' he=>he.2 v rfl
  |_=>exact H
 |halt x w=>cases x <;> first|exact H.elim|exact H
theorem qz{j:Nat}:∀{l:List Oper} {k:Nat},j∈heavyL k l↔k<=j/\∃o,l[j-k]?=some o/\zf o=false
 |[],k=>by simp[heavyL]
 |o::l,k=>by
  unfold heavyL
  cases hq:zf o with
  |true=>
   rw[cond_true,qz (l:=l)]
   constructor
   ·rintro⟨h1,o',h2,h3⟩
    exact⟨by omega,o',by rw[show j-k=(j-(k+1))+1 by omega];simpa using h2,h3⟩
   ·rintro⟨h1,o',h2,h3⟩
    rcases DF h1 with e|e
    ·subst e
     simp at h2;subst h2;rw[hq]at h3;cases h3
    ·exact⟨by omega,o',by rw[show j-k=(j-(k+1))+1 by omega]at h2;simpa using h2,h3⟩
  |false=>
   rw[cond_false,Af,qz (l:=l)]
   constructor
   ·rintro(rfl|⟨h1,o',h2,h3⟩)
    ·exact⟨Ae _,o,by simp,hq⟩
    ·exact⟨by omega,o',by rw[show j-k=(j-(k+1))+1 by omega];simpa using h2,h3⟩
   ·rintro⟨h1,o',h2,h3⟩
    rcases DF h1 with e|e
    ·exact .inl e.symm
    ·exact .inr ⟨by omega,o',by rw[show j-k=(j-(k+1))+1 by omega]at h2;simpa using h2,h3⟩
theorem yw:∀{l:List Oper} {k:Nat},(heavyL k l).Nodup
 |[],_=>Et
 |o::l,k=>by
  unfold heavyL
  cases zf o with
  |true=>exact yw
  |false=>exact CQ.2 ⟨λh=>by have:=(qz.1 h).1;omega,yw⟩
theorem qw{ops:Array Oper}:∀{m:Nat},Jo ops m=true->∀k o,k<m->ops[k]?=some o->xl ops k (tmpsOf o.op.operands.toList) ops.size=true/\(zf o=true->∀j∈heavyL 0 ops.toList,Region.waitsFor .any ops k j=true->∀t,jd ops j=some t->t∉tmpsOf o.op.operands.toList)
 |0,_,k,o,hk,_=>by omega
 |m+1,h,k,o,hk,ho=>by
  unfold Jo at h
  split at h
  ·rename_i o' O
   cases hs:xl ops m (tmpsOf o'.op.operands.toList) ops.size with
   |false=>rw[hs]at h;cases h
   |true=>
    rw[hs,cond_true]at h
    rcases AZ k m with h1|h1
    ·refine qw (m:=m) ?_ k o h1 ho
     revert h
     cases(bif zf o' then(heavyL 0 ops.toList).all λj=>!(Region.waitsFor .any ops m j)||(match jd ops j with
      |some t=>!(memN (tmpsOf o'.op.operands.toList) t)
      |none=>true)else true) <;> intro h <;> first|exact h|cases h
    ·have:k=m:=by omega
     subst this
     have:o'=o:=Ax (O.symm.trans ho)
     subst this
     refine⟨hs,λhq j hj hw t ht=>?_⟩
     rw[hq,cond_true]at h
     cases hall:(heavyL 0 ops.toList).all λj=>!(Region.waitsFor .any ops k j)||(match jd ops j with
      |some t=>!(memN (tmpsOf o'.op.operands.toList) t)
      |none=>true)with
     |false=>rw[hall]at h;cases h
     |true=>
      have:=AQ.1 hall j hj
      rw[hw,ht]at this
      simp only[Bool.not_true,DV,B4]at this
      exact Ze this
  ·rename_i O
   rw[cond_true]at h
   rcases AZ k m with h1|h1
   ·exact qw h k o h1 ho
   ·have:k=m:=by omega
    subst this
    rw[O]at ho;cases ho
theorem Yh{ops:Array Oper}:∀{l:List Nat},Jn ops l=true->∀q i j,l[q]?=some i->l[q+1]?=some j->Region.waitsFor .any ops j i=true
 |[],_,q,i,j,h,_=>by simp at h
 |[_],_,q,i,j,_,h=>by simp at h
 |a::b::l,h,q,i,j,h1,h2=>by
  unfold Jn at h
  cases hw:Region.waitsFor .any ops b a with
  |false=>rw[hw]at h;cases h
  |true=>
   rw[hw,cond_true]at h
   cases q with
   |zero=>simp at h1 h2;subst h1;subst h2;exact hw
   |succ q=>exact Yh h q i j (by simpa using h1) (by simpa using h2)
theorem Zf{ops:Array Oper}{i:Nat}:∀{l:List Nat},wq ops i l=true->∃j∈l,Region.waitsFor .any ops j i=true
 |[],h=>by cases h
 |j::l,h=>by
  unfold wq at h
  cases hw:Region.waitsFor .any ops j i with
  |true=>exact⟨j,Ar,hw⟩
  |false=>
   rw[hw,cond_false]at h
   obtain⟨j',h1,h2⟩:=Zf h
   exact⟨j',Ah _ h1,h2⟩
theorem Jq{ops:Array Oper}{T:List Nat}:∀{m:Nat},zh0 ops T m=false->∀k o,k<m->ops[k]?=some o->zp o=true->wq ops k T=true
 |0,_,k,o,hk,_,_=>by omega
 |m+1,h,k,o,hk,ho,hl=>by
  unfold zh0 at h
  cases hb:(match ops[m]? with
   |some o=>bif zp o then !(wq ops m T)else false
   |none=>false)with
  |true=>rw[hb]at h;cases h
  |false=>
   rw[hb,cond_false]at h
   rcases AZ k m with h1|h1
   ·exact Jq h k o h1 ho hl
   ·have:k=m:=by omega
    subst this
    rw[ho]at hb
    simp only[hl,cond_true,Bool.not_eq_false']at hb
    exact hb
theorem Z6{ops:Array Oper}{T:List Nat}:∀{f k:Nat},Z2 ops T f k=true->∀{listed:Array Bool},(∀i p,listed.getD i false=true->Region.waitsFor .any ops i p=true->listed.getD p false=true)->(∀j∈T,listed.getD j false=true)->listed.getD k false=true
 |0,k,h,_,_,hT=>by
  have hm:k∈T:=by
   unfold Z2 at h
   exact Classical.byContradiction λhc=>by
    have:memN T k=false:=by
     clear h hT
     induction T with
     |nil=>rfl
     |cons x T ih=>
      simp only[Af,not_or]at hc
      simp only[memN]
      have:Nat.beq k x=false:=by
       cases hb:Nat.beq k x with
       |false=>rfl
       |true=>exact absurd (Al hb) hc.1
      rw[this,cond_false];exact ih hc.2
    rw[this]at h;cases h
  exact hT k hm
 |f+1,k,h,listed,hc,hT=>by
  unfold Z2 at h
  cases hm:memN T k with
  |true=>exact Z6 (f:=0) (k:=k) (by unfold Z2;exact hm) hc hT
  |false=>
   rw[hm,cond_false,Ei]at h
   obtain⟨p,_,hp⟩:=h
   cases hw:Region.waitsFor .any ops p k with
   |false=>rw[hw]at hp;cases hp
   |true=>rw[hw,cond_true]at hp;exact hc p k (Z6 hp hc hT) hw
theorem ze2{ops:Array Oper}{T:List Nat}:∀{m:Nat},z4a ops T m=false->∀k o,k<m->ops[k]?=some o->zp o=true->Z2 ops T ops.size k=true
 |0,_,k,o,hk,_,_=>by omega
 |m+1,h,k,o,hk,ho,hl=>by
  unfold z4a at h
  cases hb:(match ops[m]? with
   |some o=>bif zp o then !(Z2 ops T ops.size m)else false
   |none=>false)with
  |true=>rw[hb]at h;cases h
  |false=>
   rw[hb,cond_false]at h
   rcases AZ k m with h1|h1
   ·exact ze2 h k o h1 ho hl
   ·have:k=m:=by omega
    subst this
    rw[ho]at hb
    simp only[hl,cond_true]at hb
    simpa using hb
theorem Zg{i p:Nat}(hi:i∈Region.ready .any ops listed)(hw:Region.waitsFor .any ops i p=true):listed.getD p false=true:=by
 obtain⟨oj,Z,e,he,hb,aa⟩:=Region.waitsFor_spec hw
 obtain⟨_,o,ho,O⟩:=mem_ready.1 hi
 have:oj=o:=Ax (Z.symm.trans ho)
 subst this
 rw[<-aa];exact O e he hb
theorem ya(inv:HeadInv .any ops n listed){i p:Nat}(hi:listed.getD i false=true)(hw:Region.waitsFor .any ops i p=true):listed.getD p false=true:=by
 obtain⟨oj,O,e,he,hb,Z⟩:=Region.waitsFor_spec hw
 rw[<-Z];exact inv.closed i oj O hi e he hb
theorem Yi{p:Nat->Bool}{N:Nat}(h:∃k,k<N/\p k=false):∃k,k<N/\p k=false/\∀j,j<k->p j=true:=by
 obtain⟨k,h1,h2⟩:=h
 induction k using Nat.strongRecOn with
 |_ k ih=>
  by_cases hm:∃j,j<k/\p j=false
  ·obtain⟨j,h3,h4⟩:=hm
   exact ih j h3 (by omega) h4
  ·exact⟨k,h1,h2,λj hj=>by
    cases hb:p j with
    |true=>rfl
    |false=>exact absurd ⟨j,hj,hb⟩ hm⟩
theorem Xm(h:mixB ops=true):wa ops.toList=true/\ql ops ops.size=true/\w8 ops ops.size=true/\Jn ops (heavyL 0 ops.toList)=true/\Jo ops ops.size=true:=by
 unfold mixB at h
 cases h1:wa ops.toList <;> cases h2:ql ops ops.size <;> cases h3:w8 ops ops.size <;> cases h4:Jn ops (heavyL 0 ops.toList) <;> simp[h1,h2,h3,h4]at h ⊢
 exact h
theorem Zq{l:List Oper}(h:wa l=true):∀o∈l,o.guard=none/\xd o.op=true:=by
 intro o ho
 have:=AQ.1 h o ho
 cases hg:o.guard with
 |none=>rw[hg]at this;exact⟨rfl,this⟩
 |some g=>rw[hg]at this;cases this
theorem Zh:∀{l m:List Oper} {k:Nat} {f:Nat->Value} {a:Act},qs k (l++m) f a=qs (k+l.length) m f (qs k l f a)
 |[],m,k,f,a=>rfl
 |o::l,m,k,f,a=>by
  have e:∀l',qs k (o::l') f a=qs (k+1) l' f (bif zf o then a.put o.dst (f k)else a):=λ_=>rfl
  rw[A5,e,e,Zh,show k+1+l.length=k+(o::l).length by simp;omega]
theorem toL(ho:ops[i]?=some o):ops.toList[i]?=some o:=by rw[A0];exact ho
theorem ofL(ho:ops.toList[i]?=some o):ops[i]?=some o:=by rw[A0]at ho;exact ho
structure StM (P:Program) (n:Nat) (ops:Array Oper) (h0:zb) (K:Env->zb->Prop) (tr:Bool) (f:Nat->Value) (a0:Act) (listed:Array Bool) (a b:Act) (e:Env) (h:zb) (done todo:List Nat):Prop where
 inv:HeadInv .any ops ops.size listed
 ag:∀s,(∀i o,ops[i]?=some o->zf o=true->listed.getD i false=false->o.dst≠some s)->zw a s=zw b s
 sz:a.tmps.size=n
 ad:a.defers=[]
 sb:Sat n e b
 qv:∀i o t,ops[i]?=some o->zf o=true->o.dst=some t->zw b t=f i/\t<n
 qx:∀i o,ops[i]?=some o->zf o=true->∀h',(zp o=false\/Keep h0.size h0 h')->QExec P (execOp b.eval o) h' (.value (f i))
 tt:heavyL 0 ops.toList=done.reverse++todo
 ch:∀j,j∈heavyL 0 ops.toList->(listed.getD j false=true↔j∈done)
 wt:wT P n ops h0 K tr done todo e h
 kp:∀i o,ops[i]?=some o->zp o=true->listed.getD i false=false->Keep h0.size h0 h
 sm:Same (je ops.toList) a0 a
theorem Qc{o:Oper}:∀{l:List Oper},o∈l->∀i,o.dst=some i->i∈je l
 |[],h,_,_=>by cases h
 |x::l,h,i,hi=>by
  unfold je
  rcases Af.1 h with rfl|h
  ·rw[hi];exact Ar
  ·have:=Qc h i hi
   split
   ·exact Ah _ this
   ·exact this
theorem zo{k:Nat}(h:ops[k]?=some o):jd ops k=o.dst:=by simp[jd,h]
theorem zsa{K:Env->zb->Prop}{Q:Exit->Act->World->Prop}(B:World)(a8:mixB ops=true){f:Nat->Value}
  (hQ:∀e' a' d' h',Sat n e' a'->Same (je ops.toList) a0 a'->K e' h'->Q .normal a' (mk B d' h')):
  ∀(N:Nat) (U:List Nat) (listed:Array Bool) (a b:Act) (e:Env) (h:zb) (d:Nat) (done todo:List Nat),U.length=N->U.Nodup->(∀k,k∈U↔k<ops.size/\listed.getD k false=false) ->
   StM P n ops h0 K tr f a0 listed a b e h done todo->wpAny P .any ops Q N listed a (mk B d h):=by
 obtain⟨bu,aI,bp,aB,al⟩:=Xm a8
 have aU:∀(i:Nat) (o:Oper),ops[i]?=some o->o.guard=none/\xd o.op=true:=λi o ho=>Zq bu o (by
  obtain⟨aa,e⟩:=Ac.1 ho
  rw[<-e];simp)
 have bz:∀{listed:Array Bool} {a b:Act} {e:Env} {h:zb} {d:Nat} {done todo:List Nat},(∀k,k<ops.size->listed.getD k false=true)->StM P n ops h0 K tr f a0 listed a b e h done todo->Q .normal a (mk B d h):=by
  intro listed a b e h d done todo ac S
  have aj:todo=[]:=by
   cases todo with
   |nil=>rfl
   |cons j l=>
    have hj:j∈heavyL 0 ops.toList:=by rw[S.tt];simp
    have aa:j<ops.size:=by
     obtain⟨_,o,ho,_⟩:=qz.1 hj
     have:=(Az.1 ho).1
     simpa using this
    have hd:=(S.ch j hj).1 (ac j aa)
    have hn:=yw (l:=ops.toList) (k:=0)
    rw[S.tt,A9]at hn
    exact absurd rfl (hn.2.2 j (by simpa using hd) j (by simp))
  have hw:=S.wt
  rw[aj]at hw
  unfold wT at hw
  have hv:∀s,zw a s=zw b s:=λs=>S.ag s λi o ho hq hl=>by
   rw[ac i (Ac.1 ho).1]at hl;cases hl
  have hs:Sat n e a:=⟨S.ad,S.sz,λx hx=>by
   have:=S.sb.all x hx
   have e1:zw a=zw b:=funext hv
   rw[e1];exact this⟩
  exact hQ _ _ _ _ hs.clean S.sm hw
 intro N
 induction N with
 |zero=>
  intro U listed a b e h d done todo hU _ ah S
  have bF:U=[]:=Ck.1 hU
  subst bF
  have ac:∀k,k<ops.size->listed.getD k false=true:=λk hk=>by
   cases hb:listed.getD k false with
   |true=>rfl
   |false=>exact absurd ((ah k).2 ⟨hk,hb⟩) (by simp)
  refine⟨?_,bz ac S⟩
  rw[CU]
  intro j hj
  obtain⟨h1,o,ho,_⟩:=mem_ready.1 hj
  have aa:=(Ac.1 ho).1
  have:=ac j aa
  have h2:=getD_both h1
  rw[this]at h2;cases h2
 |succ N ih=>
  intro U listed a b e h d done todo hU aF ah S
  have bq:∃k,k<ops.size/\listed.getD k false=false:=by
   cases U with
   |nil=>cases hU
   |cons k U=>exact⟨k,(ah k).1 Ar⟩
  refine⟨λhr=>?_,λi hi=>?_⟩
  ·exfalso
   obtain⟨k,aC,aT,bB⟩:=Yi bq
   have:k∈Region.ready .any ops listed:=mem_ready.2 ⟨by rw[<-aT];simp[S.inv.size,aC],ops[k],AN aC,λx hx hb=>bB _ (qm aI k ops[k] aC (AN aC) x hx hb)⟩
   rw[hr]at this;cases this
  ·obtain⟨bj,o,ho,ac⟩:=mem_ready.1 hi
   have aD:listed.getD i false=false:=getD_both bj
   have aa:i<ops.size:=(Ac.1 ho).1
   obtain⟨hg,bD⟩:=aU i o ho
   have aE:i<listed.size:=by rw[S.inv.size];exact aa
   have a6:(U.erase i).length=N:=by rw[CW ((ah i).2 ⟨aa,aD⟩),hU];rfl
   have am:(U.erase i).Nodup:=aF.erase i
   have an:∀k,k∈U.erase i↔k<ops.size/\(listed.setIfInBounds i true).getD k false=false:=λk=>by
    rw[aF.mem_erase_iff,ah k]
    by_cases hk:i=k
    ·subst hk;simp[aE]
    ·rw[getD_set_ne false hk];exact⟨λhx=>hx.2,λhx=>⟨λe=>hk e.symm,hx⟩⟩
   have ak:=S.inv.set hi aa
   have ae:∀k,k≠i->(listed.setIfInBounds i true).getD k false=listed.getD k false:=λk hk=>getD_set_ne false (Ne.symm hk)
   have ai:(listed.setIfInBounds i true).getD i false=true:=by simp[aE]
   obtain⟨aA,bI⟩:=qw al i o aa ho
   have aZ:∀t∈tmpsOf o.op.operands.toList,zw a t=zw b t:=λt ht=>S.ag t λk ok O hq hl hd=>by
    have hw:=qk aA k t (Ac.1 O).1 (by rw[zo O,hd]) ht
    rw[Zg hi hw]at hl;cases hl
   have aO:=yy bD aZ
   unfold wpOp
   rw[ho]
   simp only
   have aJ:BU o (yielded ops a.tmps)=true:=by unfold BU;rw[hg]
   rw[if_pos aJ]
   left
   unfold Oper.wp
   rw[aO]
   cases hq:zf o with
   |true=>
    have hx:=S.qx i o ho hq h (by
     cases hl:zp o with
     |false=>exact .inl rfl
     |true=>exact .inr (S.kp i o ho hl aD)) B d
    rw[hx,Oper.upon_value]
    have a7:i∉heavyL 0 ops.toList:=λhm=>by
     obtain⟨_,o',aY,bh⟩:=qz.1 hm
     rw[Ca]at aY
     have:o'=o:=by
      have h2:ops[i]?=some o':=ofL aY
      exact Ax (h2.symm.trans ho)
     subst this;rw[hq]at bh;cases bh
    refine ih _ _ _ b e h d done todo a6 am an { S with inv:=ak,ag:=λs hs=>?_,sz:=by rw[size_put];exact S.sz,ad:=by rw[qg];exact S.ad,ch:=λj hj=>?_,kp:=λk ok O hl hk=>?_,sm:=S.sm.trans (Same.put a o.dst _ λt ht=>Qc (by
     obtain⟨bn,e2⟩:=Ac.1 ho
     rw[<-e2];simp) t ht) }
    ·by_cases hd:o.dst=some s
     ·obtain⟨hv,az⟩:=S.qv i o s ho hq hd
      rw[hd,yc (by rw[S.sz];exact az),hv]
     ·rw[zq hd]
      refine S.ag s λk ok O Z aN=>?_
      by_cases af:k=i
      ·subst af
       have:ok=o:=Ax (O.symm.trans ho)
       subst this;exact hd
      ·exact hs k ok O Z (by rw[ae k af];exact aN)
    ·have:j≠i:=λe=>a7 (e ▸ hj)
     rw[ae j this];exact S.ch j hj
    ·by_cases af:k=i
     ·subst af;rw[ai]at hk;cases hk
     ·rw[ae k af]at hk;exact S.kp k ok O hl hk
   |false=>
    have aP:i∈heavyL 0 ops.toList:=qz.2 ⟨CY _,o,by rw[Ca];exact toL ho,hq⟩
    have aG:=yw (l:=ops.toList) (k:=0)
    have ar:i∉done:=λhd=>by rw[(S.ch i aP).2 hd]at aD;cases aD
    have aj:∃rest,todo=i::rest:=by
     have bc:i∈todo:=by
      have:=aP
      rw[S.tt,An]at this
      rcases this with h1|h1
      ·exact absurd (by simpa using h1) ar
      ·exact h1
     cases todo with
     |nil=>cases bc
     |cons j rest=>
      rcases Af.1 bc with rfl|hr
      ·exact⟨rest,rfl⟩
      ·exfalso
       obtain⟨m,hm,em⟩:=Bc hr
       have hp:∃pr,(j::rest)[m]?=some pr:=⟨_,Am (by simp;omega)⟩
       obtain⟨pr,ba⟩:=hp
       have hw:=Yh aB (done.reverse.length+m) pr i (by rw[S.tt,Bj (by omega),Nat.add_sub_cancel_left];exact ba) (by
        rw[S.tt,Bj (by omega),show done.reverse.length+m+1-done.reverse.length=m+1 by omega,List.getElem?_cons_succ,Am hm,em])
       have aH:pr∈j::rest:=CF ba
       have be:pr∈heavyL 0 ops.toList:=by rw[S.tt];exact AC _ aH
       have hd:=(S.ch pr be).1 (Zg hi hw)
       rw[S.tt,A9]at aG
       exact aG.2.2 pr (by simpa using hd) pr aH rfl
    obtain⟨rest,rfl⟩:=aj
    have hW:=S.wt
    unfold wT at hW
    rw[ho]at hW
    simp only at hW
    cases hd:yq n [] o.dst with
    |false=>rw[hd]at hW;exact hW.elim
    |true=>
     rw[hd,cond_true]at hW
     refine Jp (b:=b) S.sb.defers ?_
     refine zhy hW S.sb (qi _) B d λv d' h' hK=>⟨by rw[qg];exact S.sb.defers,λv2 bm=>?_⟩
     have bG:b.put o.dst v2=b.put o.dst v:=bm.symm
     have ax:∀j,j∈heavyL 0 ops.toList->((listed.setIfInBounds i true).getD j false=true↔j∈i::done):=λj hj=>by
      by_cases aM:j=i
      ·subst aM;rw[ai];simp
      ·rw[ae j aM,S.ch j hj];simp[aM]
     have aS:zpq tr ops (i::done) ops.size=false->∀k ok,ops[k]?=some ok->zp ok=true->(listed.setIfInBounds i true).getD k false=true:=λhl k ok O ay=>by
      have aV:∀j∈i::done,(listed.setIfInBounds i true).getD j false=true:=λj hj=>by
       rcases Af.1 hj with rfl|hj
       ·exact ai
       ·exact getD_set_true ((S.ch j (by rw[S.tt];simp[hj])).2 hj)
      cases tr with
      |false=>
       obtain⟨j,hj,hw⟩:=Zf (Jq hl k ok (Ac.1 O).1 O ay)
       exact ya ak (aV j hj) hw
      |true=>exact Z6 (ze2 hl k ok (Ac.1 O).1 O ay) (λi p h1 h2=>ya ak h1 h2) aV
     have a1:wT P n ops h0 K tr (i::done) rest (putO e o.dst [] v) h'/\(∀k ok,ops[k]?=some ok->zp ok=true->(listed.setIfInBounds i true).getD k false=false->Keep h0.size h0 h'):=by
      cases hl:zpq tr ops (i::done) ops.size with
      |true=>rw[hl,cond_true]at hK;exact⟨hK.2,λ_ _ _ _ _=>hK.1⟩
      |false=>rw[hl,cond_false]at hK;exact⟨hK,λk ok O ay hf=>by rw[aS hl k ok O ay]at hf;cases hf⟩
     have aL:∀k ok t,ops[k]?=some ok->zf ok=true->ok.dst=some t->o.dst≠some t:=λk ok t O Z au ap=>by
      have:=yf bp k i t (Ac.1 O).1 aa (by rw[zo O,au]) (by rw[zo ho,ap])
      subst this
      have:ok=o:=Ax (O.symm.trans ho)
      subst this;rw[hq]at Z;cases Z
     refine ih _ _ _ (b.put o.dst v) (putO e o.dst [] v) h' d' (i::done) rest a6 am an ⟨ak,λs hs=>?_,by rw[size_put];exact S.sz,by rw[qg];exact S.ad,S.sb.putO hd (λ_=>rfl) λhv=>absurd (qi _) hv,λk ok t O Z au=>?_,λk ok O Z bC hh=>?_,by rw[S.tt];simp,ax,a1.1,a1.2,S.sm.trans (Same.put a o.dst _ λt ht=>Qc (by
      obtain⟨bn,e2⟩:=Ac.1 ho
      rw[<-e2];simp) t ht)⟩
     ·have bo:∀u,(∀k ok,ops[k]?=some ok->zf ok=true->listed.getD k false=false->ok.dst≠some s)->o.dst≠some s->zw (a.put o.dst u) s=zw (b.put o.dst v) s:=λu h1 h2=>by
       rw[zq h2,zq h2];exact S.ag s h1
      have bE:∀k ok,ops[k]?=some ok->zf ok=true->listed.getD k false=false->ok.dst≠some s:=λk ok O Z aN=>by
       by_cases af:k=i
       ·subst af
        have:ok=o:=Ax (O.symm.trans ho)
        subst this;rw[hq]at Z;cases Z
       ·exact hs k ok O Z (by rw[ae k af];exact aN)
      by_cases aQ:o.dst=some s
      ·rw[<-bG,aQ]
       have az:s<n:=by
        rw[aQ]at hd
        unfold yq at hd
        simp at hd;exact hd.2
       rw[yc (by rw[S.sz];exact az),yc (by rw[S.sb.size];exact az)]
      ·exact bo v2 bE aQ
     ·have:=S.qv k ok t O Z au
      rw[zq (aL k ok t O Z au)];exact this
     ·have aT:=aU k ok O
      rw[yy (b:=b) aT.2 λt ht=>?_]
      ·exact S.qx k ok O Z bC hh
      ·refine zq λap=>?_
       obtain⟨bH,bA⟩:=qw al k ok (Ac.1 O).1 O
       have hw:=qk bH i t aa (by rw[zo ho,ap]) ht
       exact bA Z i aP hw t (by rw[zo ho,ap]) ht
theorem mix_sound{K:Env->zb->Prop}{Q:Exit->Act->World->Prop}(B:World)(ac:mixB ops=true)
  (H:wU P n h (λe'=>wT P n ops h K tr [] (heavyL 0 ops.toList) e' h) ops.toList e) (hs:Sat n e a)
  (hQ:∀e' a' d' h',Sat n e' a'->Same (je ops.toList) a a'->K e' h'->Q .normal a' (mk B d' h')) (d:Nat):wpAny P .any ops Q ops.size (Bm ops.size false) a (mk B d h):=by
 obtain⟨aB,af,ap,am,ae⟩:=Xm ac
 obtain⟨f,e1,HT,aj,hf⟩:=Y3 (k:=0) H hs
 have hl:∀(i:Nat) (o:Oper),ops[i]?=some o->ops.toList[i]?=some o:=λi o ho=>toL ho
 have O:∀i,qs 0 ops.toList f a=qs (0+(ops.toList.take i).length) (ops.toList.drop i) f (qs 0 (ops.toList.take i) f a):=λi=>by
  rw[<-Zh,Br]
 refine zsa B ac (f:=f) hQ ops.size (BJ ops.size) _ a (qs 0 ops.toList f a) e1 h d [] (heavyL 0 ops.toList) DY Dw (λk=>by rw[Cc,getD_replicate_false];simp) ⟨⟨by simp,λj oj _ hl=>(by rw[getD_replicate_false]at hl;cases hl),λt ht az=>by omega⟩,λs ar=>?_,hs.size,hs.defers,aj,λi o t ho hq hd=>?_,λi o ho hq h' hh=>?_,by simp,λj hj=>by rw[getD_replicate_false];simp,HT,λ_ _ _ _ _=>Keep.refl _ _,Same.refl _ _⟩
 ·refine(yu λo ho hq=>?_).symm
  obtain⟨i,hi,e⟩:=Bc ho
  exact ar i o (ofL (by rw[Am hi,e])) hq (getD_replicate_false _ _)
 ·obtain⟨h1,h2,h3⟩:=hf i o (hl i o ho) hq
  have ak:t<n:=by
   rw[hd]at h2
   unfold yq at h2
   simp at h2;exact h2.2
  refine⟨?_,ak⟩
  have aa:=(Ac.1 ho).1
  have al:(ops.toList.take i).length=i:=by simp;omega
  rw[O i,al,AH]
  have an:ops.toList.drop i=o::ops.toList.drop (i+1):=by
   have:=(Az.1 (hl i o ho))
   rw[AE this.1,this.2]
  rw[an]
  unfold qs
  rw[hq,cond_true,yu λo' ah au ai=>?_]
  ·rw[hd,yc (by rw[Yc.1,hs.size];exact ak)]
  ·obtain⟨m,hm,em⟩:=Bc ah
   have Z:ops[i+1+m]?=some o':=by
    have:ops.toList[i+1+m]?=some o':=by rw[<-AJ,Am hm,em]
    exact ofL this
   have:=yf ap i (i+1+m) t aa (Ac.1 Z).1 (by rw[zo ho,hd]) (by rw[zo Z,ai])
   omega
 ·obtain⟨h1,h2,h3⟩:=hf i o (hl i o ho) hq
  have:=h3 h' (hh.imp id Or.inl)
  rw[AH]at this
  rw[yy h1 λt ht=>?_]
  ·exact this
  ·have aa:=(Ac.1 ho).1
   rw[O i]
   refine yu λo' ah au ai=>?_
   obtain⟨m,hm,em⟩:=Bc ah
   have Z:ops[i+m]?=some o':=by
    have:ops.toList[i+m]?=some o':=by rw[<-AJ,Am hm,em]
    exact ofL this
   obtain⟨ax,_⟩:=qw ae i o aa ho
   have hw:=qk ax (i+m) t (Ac.1 Z).1 (by rw[zo Z,ai]) ht
   obtain⟨oj,ay,x,hx,hb,aA⟩:=Region.waitsFor_spec hw
   have:=qm af i oj aa ay x hx hb
   omega
def zga(j:Nat):List Nat->List Nat
 |[]=>[]
 |k::l=>bif Nat.beq k j then zga j l else k::zga j l
theorem Wh{j x:Nat}:∀{l:List Nat},x∈zga j l↔x∈l/\x≠j
 |[]=>by simp[zga]
 |k::l=>by
  simp only[zga]
  cases hb:Nat.beq k j with
  |true=>
   have:=Al hb
   subst this
   rw[cond_true,Wh,Af]
   exact⟨λh=>⟨.inr h.1,h.2⟩,λh=>⟨h.1.resolve_left h.2,h.2⟩⟩
  |false=>
   have O:k≠j:=λe=>by rw[e]at hb;simp at hb
   rw[cond_false,Af,Af,Wh]
   constructor
   ·rintro(rfl|h)
    ·exact⟨.inl rfl,O⟩
    ·exact⟨.inr h.1,h.2⟩
   ·rintro⟨rfl|h,h2⟩
    ·exact .inl rfl
    ·exact .inr ⟨h,h2⟩
theorem zan{j:Nat}:∀{l:List Nat},l.Nodup->(zga j l).Nodup
 |[],h=>h
 |k::l,h=>by
  simp only[zga]
  rw[CQ]at h
  cases Nat.beq k j with
  |true=>exact zan h.2
  |false=>
   rw[cond_false,CQ]
   exact⟨λhm=>h.1 (Wh.1 hm).1,zan h.2⟩
theorem zyt{j:Nat}:∀{l:List Nat},(zga j l).length<=l.length
 |[]=>Ae _
 |k::l=>by
  simp only[zga]
  have:=zyt (j:=j) (l:=l)
  cases Nat.beq k j with
  |true=>rw[cond_true,Ay];omega
  |false=>rw[cond_false,Ay,Ay];omega
theorem zm0{j:Nat}:∀{l:List Nat},j∈l->(zga j l).length+1<=l.length
 |[],h=>by cases h
 |k::l,h=>by
  simp only[zga]
  cases hb:Nat.beq k j with
  |true=>
   have:=zyt (j:=j) (l:=l)
   rw[cond_true,Ay];omega
  |false=>
   have O:k≠j:=λe=>by rw[e]at hb;simp at hb
   have:=zm0 (j:=j) (l:=l) (by
    rcases Af.1 h with rfl|h
    ·exact absurd rfl O
    ·exact h)
   rw[cond_false,Ay,Ay];omega
def z4b(ops:Array Oper)(todo:List Nat)(j:Nat):Bool:=todo.all λk=>bif Nat.beq k j then true else !(Z2 ops [j] ops.size k)
def qed(p:Nat->Prop):List Nat->Prop
 |[]=>True
 |[j]=>p j
 |j::k::l=>p j/\qed p (k::l)
theorem zm1{p:Nat->Prop}:∀{l:List Nat},qed p l->∀j∈l,p j
 |[],_,j,h=>by cases h
 |[k],H,j,h=>by simp at h;subst h;exact H
 |k::k2::l,H,j,h=>by
  rcases Af.1 h with rfl|h
  ·exact H.1
  ·exact zm1 H.2 j h
def zwi(p:Nat->Bool):List Nat->List Nat
 |[]=>[]
 |j::l=>bif p j then j::zwi p l else zwi p l
theorem zc9{p:Nat->Bool}{j:Nat}:∀{l:List Nat},j∈l->p j=true->j∈zwi p l
 |[],h,_=>by cases h
 |k::l,h,hp=>by
  simp only[zwi]
  rcases Af.1 h with rfl|h
  ·rw[hp];exact Ar
  ·cases p k with
   |true=>exact Ah _ (zc9 h hp)
   |false=>exact zc9 h hp
def zpr(ops:Array Oper)(T:List Nat)(e:Env)(h0 h':zb)(K:Prop):Nat->Prop
 |0=>K
 |k+1=>match ops[k]? with
  |some o=>bif zp o then(bif Z2 ops T ops.size k then zpr ops T e h0 h' K k else match o.op with
   |.load _ a=>bif known e [] [a]then(match rho e [] a with
    |.pointer (some p)=>h'[p.block]?=h0[p.block]?/\zpr ops T e h0 h' K k
    |_=>False)else False
   |_=>False)else zpr ops T e h0 h' K k
  |none=>zpr ops T e h0 h' K k
theorem zlj{ops:Array Oper}{T:List Nat}{e:Env}{h0 h':zb}{K:Prop}:∀{m:Nat},zpr ops T e h0 h' K m->K/\∀k o,k<m->ops[k]?=some o->zp o=true->Z2 ops T ops.size k=false ->
  ∃t a p,o.op=.load t a/\known e [] [a]=true/\rho e [] a=.pointer (some p)/\h'[p.block]?=h0[p.block]?
 |0,H=>⟨H,λk o hk=>by omega⟩
 |m+1,H=>by
  unfold zpr at H
  have step:zpr ops T e h0 h' K m->(∀o,ops[m]?=some o->zp o=true->Z2 ops T ops.size m=false->∃t a p,o.op=.load t a/\known e [] [a]=true/\rho e [] a=.pointer (some p)/\h'[p.block]?=h0[p.block]?) ->
    K/\∀k o,k<m+1->ops[k]?=some o->zp o=true->Z2 ops T ops.size k=false->∃t a p,o.op=.load t a/\known e [] [a]=true/\rho e [] a=.pointer (some p)/\h'[p.block]?=h0[p.block]?:=λH1 H2=>by
   obtain⟨h1,h2⟩:=zlj H1
   refine⟨h1,λk o hk ho hl hr=>?_⟩
   rcases AZ k m with h3|h3
   ·exact h2 k o h3 ho hl hr
   ·have:k=m:=by omega
    subst this
    exact H2 o ho hl hr
  cases ho:ops[m]? with
  |none=>rw[ho]at H;exact step H λo h1=>by rw[ho]at h1;cases h1
  |some o=>
   rw[ho]at H
   simp only at H
   have same:∀o',ops[m]?=some o'->o'=o:=λo' h1=>Ax (h1.symm.trans ho)
   cases hl:zp o with
   |false=>rw[hl]at H;exact step H λo' h1 h2=>by rw[same o' h1,hl]at h2;cases h2
   |true=>
    rw[hl,cond_true]at H
    cases hr:Z2 ops T ops.size m with
    |true=>rw[hr]at H;exact step H λo' h1 h2 h3=>by rw[hr]at h3;cases h3
    |false=>
     rw[hr,cond_false]at H
     split at H
     ·rename_i t a O
      cases hk:known e [] [a]with
      |false=>rw[hk]at H;exact H.elim
      |true=>
       rw[hk,cond_true]at H
       split at H
       ·rename_i p hp
        exact step H.2 λo' h1 h2 h3=>⟨t,a,p,by rw[same o' h1];exact O,hk,hp,H.1⟩
       ·exact H.elim
     ·exact H.elim
def z4c(md:Bool)(ops:Array Oper)(T:List Nat)(e:Env)(h0 h':zb)(K:Prop):Prop:=bif md then zpr ops T e h0 h' K ops.size else Keep h0.size h0 h'/\K
def wB(P:Program)(n:Nat)(ops:Array Oper)(h0:zb)(K:Env->zb->Prop)(md:Bool):Nat->List Nat->List Nat->Env->zb->Prop
 |_,_,[],e,h=>K (clean e) h
 |0,_,_::_,_,_=>False
 |f+1,T,j0::l0,e,h=>qed (λj=>match ops[j]? with
  |some o=>bif yq n [] o.dst then opW P o e [] h λv h'=>(bif zpq true ops (j::T) ops.size then z4c md ops (j::T) e h0 h' (wB P n ops h0 K md f (j::T) (zga j (j0::l0)) (putO e o.dst [] v) h')else wB P n ops h0 K md f (j::T) (zga j (j0::l0)) (putO e o.dst [] v) h')else False
  |none=>False) (zwi (z4b ops (j0::l0)) (j0::l0))
theorem zyu{K:Env->zb->Prop}{f:Nat}{T todo:List Nat}(H:wB P n ops h0 K md (f+1) T todo e h){j:Nat}(hj:j∈todo)(hc:z4b ops todo j=true):match ops[j]? with
  |some o=>bif yq n [] o.dst then opW P o e [] h λv h'=>(bif zpq true ops (j::T) ops.size then z4c md ops (j::T) e h0 h' (wB P n ops h0 K md f (j::T) (zga j todo) (putO e o.dst [] v) h')else wB P n ops h0 K md f (j::T) (zga j todo) (putO e o.dst [] v) h')else False
  |none=>False:=by
 cases todo with
 |nil=>cases hj
 |cons j0 l0=>exact zm1 H j (zc9 hj hc)
def zps(ops:Array Oper):Bool:=bif wa ops.toList then(bif ql ops ops.size then(bif w8 ops ops.size then Jo ops ops.size else false)else false)else false
theorem zlk(h:zps ops=true):wa ops.toList=true/\ql ops ops.size=true/\w8 ops ops.size=true/\Jo ops ops.size=true:=by
 unfold zps at h
 cases h1:wa ops.toList <;> cases h2:ql ops ops.size <;> cases h3:w8 ops ops.size <;> simp[h1,h2,h3]at h ⊢
 exact h
structure StB (P:Program) (n:Nat) (ops:Array Oper) (h0:zb) (K:Env->zb->Prop) (md:Bool) (f:Nat->Value) (a0:Act) (listed:Array Bool) (a b:Act) (e:Env) (h:zb) (done todo:List Nat):Prop where
 inv:HeadInv .any ops ops.size listed
 ag:∀s,(∀i o,ops[i]?=some o->zf o=true->listed.getD i false=false->o.dst≠some s)->zw a s=zw b s
 sz:a.tmps.size=n
 ad:a.defers=[]
 sb:Sat n e b
 qv:∀i o t,ops[i]?=some o->zf o=true->o.dst=some t->zw b t=f i/\t<n
 qx:∀i o,ops[i]?=some o->zf o=true->∀h',LdOK o b.eval h0 h'->QExec P (execOp b.eval o) h' (.value (f i))
 tt:∀j,j∈heavyL 0 ops.toList->(j∈todo↔listed.getD j false=false)
 ch:∀j,j∈heavyL 0 ops.toList->(listed.getD j false=true↔j∈done)
 dn:∀j∈done,j∈heavyL 0 ops.toList
 th:∀j∈todo,j∈heavyL 0 ops.toList
 nd:todo.Nodup
 wt:∃fu,todo.length<=fu/\wB P n ops h0 K md fu done todo e h
 kp:∀i o,ops[i]?=some o->zp o=true->listed.getD i false=false->LdOK o b.eval h0 h
 sm:Same (je ops.toList) a0 a
theorem z4d{K:Env->zb->Prop}{Q:Exit->Act->World->Prop}(B:World)(bc:zps ops=true){f:Nat->Value}
  (hQ:∀e' a' d' h',Sat n e' a'->Same (je ops.toList) a0 a'->K e' h'->Q .normal a' (mk B d' h')):
  ∀(N:Nat) (U:List Nat) (listed:Array Bool) (a b:Act) (e:Env) (h:zb) (d:Nat) (done todo:List Nat),U.length=N->U.Nodup->(∀k,k∈U↔k<ops.size/\listed.getD k false=false) ->
   StB P n ops h0 K md f a0 listed a b e h done todo->wpAny P .any ops Q N listed a (mk B d h):=by
 obtain⟨bp,aI,bm,an⟩:=zlk bc
 have aY:∀(i:Nat) (o:Oper),ops[i]?=some o->o.guard=none/\xd o.op=true:=λi o ho=>Zq bp o (by
  obtain⟨ae,e⟩:=Ac.1 ho
  rw[<-e];simp)
 have bq:∀{listed:Array Bool} {a b:Act} {e:Env} {h:zb} {d:Nat} {done todo:List Nat},(∀k,k<ops.size->listed.getD k false=true)->StB P n ops h0 K md f a0 listed a b e h done todo->Q .normal a (mk B d h):=by
  intro listed a b e h d done todo ai S
  have aP:todo=[]:=by
   cases htd:todo with
   |nil=>rfl
   |cons j l=>
    have hm:j∈todo:=by rw[htd];simp
    have hj:j∈heavyL 0 ops.toList:=S.th j hm
    have ae:j<ops.size:=by
     obtain⟨_,o,ho,_⟩:=qz.1 hj
     have:=(Az.1 ho).1
     simpa using this
    have:=(S.tt j hj).1 hm
    rw[ai j ae]at this;cases this
  obtain⟨fu,_,hw⟩:=S.wt
  rw[aP]at hw
  have hw:K (clean e) h:=by cases fu <;> exact hw
  have hv:∀s,zw a s=zw b s:=λs=>S.ag s λi o ho hq hl=>by
   rw[ai i (Ac.1 ho).1]at hl;cases hl
  have hs:Sat n e a:=⟨S.ad,S.sz,λx hx=>by
   have:=S.sb.all x hx
   have e1:zw a=zw b:=funext hv
   rw[e1];exact this⟩
  exact hQ _ _ _ _ hs.clean S.sm hw
 intro N
 induction N with
 |zero=>
  intro U listed a b e h d done todo hU _ ah S
  have bF:U=[]:=Ck.1 hU
  subst bF
  have ai:∀k,k<ops.size->listed.getD k false=true:=λk hk=>by
   cases hb:listed.getD k false with
   |true=>rfl
   |false=>exact absurd ((ah k).2 ⟨hk,hb⟩) (by simp)
  refine⟨?_,bq ai S⟩
  rw[CU]
  intro j hj
  obtain⟨h1,o,ho,_⟩:=mem_ready.1 hj
  have ae:=(Ac.1 ho).1
  have:=ai j ae
  have h2:=getD_both h1
  rw[this]at h2;cases h2
 |succ N ih=>
  intro U listed a b e h d done todo hU aF ah S
  have bn:∃k,k<ops.size/\listed.getD k false=false:=by
   cases U with
   |nil=>cases hU
   |cons k U=>exact⟨k,(ah k).1 Ar⟩
  refine⟨λhr=>?_,λi hi=>?_⟩
  ·exfalso
   obtain⟨k,aB,aV,bA⟩:=Yi bn
   have:k∈Region.ready .any ops listed:=mem_ready.2 ⟨by rw[<-aV];simp[S.inv.size,aB],ops[k],AN aB,λx hx hb=>bA _ (qm aI k ops[k] aB (AN aB) x hx hb)⟩
   rw[hr]at this;cases this
  ·obtain⟨aZ,o,ho,ai⟩:=mem_ready.1 hi
   have aS:listed.getD i false=false:=getD_both aZ
   have ae:i<ops.size:=(Ac.1 ho).1
   obtain⟨hg,bC⟩:=aY i o ho
   have aE:i<listed.size:=by rw[S.inv.size];exact ae
   have ba:(U.erase i).length=N:=by rw[CW ((ah i).2 ⟨ae,aS⟩),hU];rfl
   have ap:(U.erase i).Nodup:=aF.erase i
   have ar:∀k,k∈U.erase i↔k<ops.size/\(listed.setIfInBounds i true).getD k false=false:=λk=>by
    rw[aF.mem_erase_iff,ah k]
    by_cases hk:i=k
    ·subst hk;simp[aE]
    ·rw[getD_set_ne false hk];exact⟨λhx=>hx.2,λhx=>⟨λe=>hk e.symm,hx⟩⟩
   have aj:=S.inv.set hi ae
   have ac:∀k,k≠i->(listed.setIfInBounds i true).getD k false=listed.getD k false:=λk hk=>getD_set_ne false (Ne.symm hk)
   have aa:(listed.setIfInBounds i true).getD i false=true:=by simp[aE]
   obtain⟨az,bI⟩:=qw an i o ae ho
   have a7:∀t∈tmpsOf o.op.operands.toList,zw a t=zw b t:=λt ht=>S.ag t λk ok O hq hl hd=>by
    have hw:=qk az k t (Ac.1 O).1 (by rw[zo O,hd]) ht
    rw[Zg hi hw]at hl;cases hl
   have aN:=yy bC a7
   unfold wpOp
   rw[ho]
   simp only
   have aJ:BU o (yielded ops a.tmps)=true:=by unfold BU;rw[hg]
   rw[if_pos aJ]
   left
   unfold Oper.wp
   rw[aN]
   cases hq:zf o with
   |true=>
    have hx:=S.qx i o ho hq h (by
     cases hl:zp o with
     |false=>exact .inl hl
     |true=>exact S.kp i o ho hl aS) B d
    rw[hx,Oper.upon_value]
    have aG:i∉heavyL 0 ops.toList:=λhm=>by
     obtain⟨_,o',a1,be⟩:=qz.1 hm
     rw[Ca]at a1
     have:o'=o:=by
      have h2:ops[i]?=some o':=ofL a1
      exact Ax (h2.symm.trans ho)
     subst this;rw[hq]at be;cases be
    refine ih _ _ _ b e h d done todo ba ap ar { S with inv:=aj,ag:=λs hs=>?_,sz:=by rw[size_put];exact S.sz,ad:=by rw[qg];exact S.ad,tt:=λj hj=>(by have:j≠i:=λe=>aG (e ▸ hj);rw[ac j this];exact S.tt j hj),ch:=λj hj=>?_,kp:=λk ok O hl hk=>?_,sm:=S.sm.trans (Same.put a o.dst _ λt ht=>Qc (by
     obtain⟨bj,e2⟩:=Ac.1 ho
     rw[<-e2];simp) t ht) }
    ·by_cases hd:o.dst=some s
     ·obtain⟨hv,ay⟩:=S.qv i o s ho hq hd
      rw[hd,yc (by rw[S.sz];exact ay),hv]
     ·rw[zq hd]
      refine S.ag s λk ok O Z aM=>?_
      by_cases af:k=i
      ·subst af
       have:ok=o:=Ax (O.symm.trans ho)
       subst this;exact hd
      ·exact hs k ok O Z (by rw[ac k af];exact aM)
    ·have:j≠i:=λe=>aG (e ▸ hj)
     rw[ac j this];exact S.ch j hj
    ·by_cases af:k=i
     ·subst af;rw[aa]at hk;cases hk
     ·rw[ac k af]at hk;exact S.kp k ok O hl hk
   |false=>
    have aO:i∈heavyL 0 ops.toList:=qz.2 ⟨CY _,o,by rw[Ca];exact toL ho,hq⟩
    have aC:i∈todo:=(S.tt i aO).2 aS
    obtain⟨fu,bJ,bE⟩:=S.wt
    have aT:z4b ops todo i=true:=by
     unfold z4b
     rw[AQ]
     intro k hk
     cases af:Nat.beq k i with
     |true=>rfl
     |false=>
      have aH:k≠i:=λe=>by rw[e]at af;simp at af
      cases hr:Z2 ops [i] ops.size k with
      |false=>rfl
      |true=>
       exfalso
       have:=Z6 hr (listed:=listed.setIfInBounds i true) (λp q h1 h2=>ya aj h1 h2) (λj hj=>by simp at hj;subst hj;exact aa)
       rw[ac k aH]at this
       have h2:=(S.tt k (S.th k hk)).1 hk
       rw[this]at h2;cases h2
    have hW:match ops[i]? with
      |some o=>bif yq n [] o.dst then opW P o e [] h λv h'=>(bif zpq true ops (i::done) ops.size then z4c md ops (i::done) e h0 h' (wB P n ops h0 K md (fu-1) (i::done) (zga i todo) (putO e o.dst [] v) h')else wB P n ops h0 K md (fu-1) (i::done) (zga i todo) (putO e o.dst [] v) h')else False
      |none=>False:=by
     cases fu with
     |zero=>(have:todo.length=0:=by omega);rw[Ck.1 this]at aC;cases aC
     |succ fu=>
      have:=zyu (show wB P n ops h0 K md (fu+1) done todo e h from bE) aC aT
      exact this
    rw[ho]at hW
    simp only at hW
    cases hd:yq n [] o.dst with
    |false=>rw[hd]at hW;exact hW.elim
    |true=>
     rw[hd,cond_true]at hW
     refine Jp (b:=b) S.sb.defers ?_
     refine zhy hW S.sb (qi _) B d λv d' h' hK=>⟨by rw[qg];exact S.sb.defers,λv2 bh=>?_⟩
     have bG:b.put o.dst v2=b.put o.dst v:=bh.symm
     have aA:∀j,j∈heavyL 0 ops.toList->((listed.setIfInBounds i true).getD j false=true↔j∈i::done):=λj hj=>by
      by_cases al:j=i
      ·subst al;rw[aa];simp
      ·rw[ac j al,S.ch j hj];simp[al]
     have aU:zpq true ops (i::done) ops.size=false->∀k ok,ops[k]?=some ok->zp ok=true->(listed.setIfInBounds i true).getD k false=true:=λhl k ok O ak=>by
      have bo:∀j∈i::done,(listed.setIfInBounds i true).getD j false=true:=λj hj=>by
       rcases Af.1 hj with rfl|hj
       ·exact aa
       ·exact getD_set_true ((S.ch j (S.dn j hj)).2 hj)
      exact Z6 (ze2 hl k ok (Ac.1 O).1 O ak) (λi p h1 h2=>ya aj h1 h2) bo
     have am:∀k ok,ops[k]?=some ok->zf ok=true->∀t∈tmpsOf ok.op.operands.toList,zw (b.put o.dst v) t=zw b t:=λk ok O Z t ht=>zq λau=>by
      obtain⟨bH,bz⟩:=qw an k ok (Ac.1 O).1 O
      have hw:=qk bH i t ae (by rw[zo ho,au]) ht
      exact bz Z i aO hw t (by rw[zo ho,au]) ht
     have aD:∀k,Z2 ops (i::done) ops.size k=true->(listed.setIfInBounds i true).getD k false=true:=λk hr=>Z6 hr (λi p h1 h2=>ya aj h1 h2) λj hj=>by
      rcases Af.1 hj with rfl|hj
      ·exact aa
      ·exact getD_set_true ((S.ch j (S.dn j hj)).2 hj)
     have a8:wB P n ops h0 K md (fu-1) (i::done) (zga i todo) (putO e o.dst [] v) h'/\(∀k ok,ops[k]?=some ok->zp ok=true->(listed.setIfInBounds i true).getD k false=false->LdOK ok (b.put o.dst v).eval h0 h'):=by
      cases hl:zpq true ops (i::done) ops.size with
      |false=>rw[hl,cond_false]at hK;exact⟨hK,λk ok O ak hf=>by rw[aU hl k ok O ak]at hf;cases hf⟩
      |true=>
       rw[hl,cond_true]at hK
       unfold z4c at hK
       cases md with
       |false=>exact⟨hK.2,λ_ _ _ _ _=>.inr (.inl hK.1)⟩
       |true=>
        rw[cond_true]at hK
        obtain⟨g1,g2⟩:=zlj hK
        refine⟨g1,λk ok O ak hf=>.inr (.inr λt a p a6 hp=>?_)⟩
        have hr:Z2 ops (i::done) ops.size k=false:=by
         cases hr:Z2 ops (i::done) ops.size k with
         |false=>rfl
         |true=>rw[aD k hr]at hf;cases hf
        obtain⟨t',a',p',e1,e2,e3,e4⟩:=g2 k ok (Ac.1 O).1 O ak hr
        rw[a6]at e1
        injection e1 with _ e1
        subst e1
        have Z:zf ok=true:=by
         unfold zp at ak
         unfold zf
         split at ak
         ·rfl
         ·cases ak
        have ah:a∈ok.op.operands.toList:=by rw[a6];simp[Op.operands]
        have ea:=yx (am k ok O Z) a ah
        have eb:b.eval a=rho e [] a:=xy S.sb (qi _) e2 a (by simp)
        rw[ea,eb,e3]at hp
        injection hp with hp
        injection hp with hp
        rw[<-hp];exact e4
     have bu:∀j,j∈heavyL 0 ops.toList->(j∈zga i todo↔(listed.setIfInBounds i true).getD j false=false):=λj hj=>by
      rw[Wh]
      by_cases al:j=i
      ·subst al;rw[aa];simp
      ·rw[ac j al,<-S.tt j hj];exact⟨λhx=>hx.1,λhx=>⟨hx,al⟩⟩
     have aL:∀k ok t,ops[k]?=some ok->zf ok=true->ok.dst=some t->o.dst≠some t:=λk ok t O Z ax au=>by
      have:=yf bm k i t (Ac.1 O).1 ae (by rw[zo O,ax]) (by rw[zo ho,au])
      subst this
      have:ok=o:=Ax (O.symm.trans ho)
      subst this;rw[hq]at Z;cases Z
     refine ih _ _ _ (b.put o.dst v) (putO e o.dst [] v) h' d' (i::done) (zga i todo) ba ap ar ⟨aj,λs hs=>?_,by rw[size_put];exact S.sz,by rw[qg];exact S.ad,S.sb.putO hd (λ_=>rfl) λhv=>absurd (qi _) hv,λk ok t O Z ax=>?_,λk ok O Z bB hh=>?_,bu,aA,(λj hj=>by
      rcases Af.1 hj with rfl|hj
      ·exact aO
      ·exact S.dn j hj),(λj hj=>S.th j (Wh.1 hj).1),zan S.nd,⟨fu-1,by have:=zm0 aC;omega,a8.1⟩,a8.2,S.sm.trans (Same.put a o.dst _ λt ht=>Qc (by
      obtain⟨bj,e2⟩:=Ac.1 ho
      rw[<-e2];simp) t ht)⟩
     ·have aH:∀u,(∀k ok,ops[k]?=some ok->zf ok=true->listed.getD k false=false->ok.dst≠some s)->o.dst≠some s->zw (a.put o.dst u) s=zw (b.put o.dst v) s:=λu h1 h2=>by
       rw[zq h2,zq h2];exact S.ag s h1
      have bD:∀k ok,ops[k]?=some ok->zf ok=true->listed.getD k false=false->ok.dst≠some s:=λk ok O Z aM=>by
       by_cases af:k=i
       ·subst af
        have:ok=o:=Ax (O.symm.trans ho)
        subst this;rw[hq]at Z;cases Z
       ·exact hs k ok O Z (by rw[ac k af];exact aM)
      by_cases aQ:o.dst=some s
      ·rw[<-bG,aQ]
       have ay:s<n:=by
        rw[aQ]at hd
        unfold yq at hd
        simp at hd;exact hd.2
       rw[yc (by rw[S.sz];exact ay),yc (by rw[S.sb.size];exact ay)]
      ·exact aH v2 bD aQ
     ·have:=S.qv k ok t O Z ax
      rw[zq (aL k ok t O Z ax)];exact this
     ·have aV:=aY k ok O
      rw[yy (b:=b) aV.2 (am k ok O Z)]
      exact S.qx k ok O Z bB (LdOK.congr (λx hx=>(yx (am k ok O Z) x hx).symm) hh)
theorem zll{K:Env->zb->Prop}{Q:Exit->Act->World->Prop}(B:World)(ac:zps ops=true)
  (H:wU P n h (λe'=>wB P n ops h K md (heavyL 0 ops.toList).length [] (heavyL 0 ops.toList) e' h) ops.toList e) (hs:Sat n e a)
  (hQ:∀e' a' d' h',Sat n e' a'->Same (je ops.toList) a a'->K e' h'->Q .normal a' (mk B d' h')) (d:Nat):wpAny P .any ops Q ops.size (Bm ops.size false) a (mk B d h):=by
 obtain⟨aB,af,ap,ae⟩:=zlk ac
 obtain⟨f,e1,HT,aj,hf⟩:=Y3 (k:=0) H hs
 have hl:∀(i:Nat) (o:Oper),ops[i]?=some o->ops.toList[i]?=some o:=λi o ho=>toL ho
 have O:∀i,qs 0 ops.toList f a=qs (0+(ops.toList.take i).length) (ops.toList.drop i) f (qs 0 (ops.toList.take i) f a):=λi=>by
  rw[<-Zh,Br]
 refine z4d B ac (f:=f) hQ ops.size (BJ ops.size) _ a (qs 0 ops.toList f a) e1 h d [] (heavyL 0 ops.toList) DY Dw (λk=>by rw[Cc,getD_replicate_false];simp) ⟨⟨by simp,λj oj _ hl=>(by rw[getD_replicate_false]at hl;cases hl),λt ht az=>by omega⟩,λs ar=>?_,hs.size,hs.defers,aj,λi o t ho hq hd=>?_,λi o ho hq h' hh=>?_,(λj hj=>by rw[getD_replicate_false];simp[hj]),(λj hj=>by rw[getD_replicate_false];simp),(λj hj=>by cases hj),(λj hj=>hj),yw,⟨_,Ae _,HT⟩,λ_ _ _ _ _=>.inr (.inl (Keep.refl _ _)),Same.refl _ _⟩
 ·refine(yu λo ho hq=>?_).symm
  obtain⟨i,hi,e⟩:=Bc ho
  exact ar i o (ofL (by rw[Am hi,e])) hq (getD_replicate_false _ _)
 ·obtain⟨h1,h2,h3⟩:=hf i o (hl i o ho) hq
  have ak:t<n:=by
   rw[hd]at h2
   unfold yq at h2
   simp at h2;exact h2.2
  refine⟨?_,ak⟩
  have aa:=(Ac.1 ho).1
  have al:(ops.toList.take i).length=i:=by simp;omega
  rw[O i,al,AH]
  have an:ops.toList.drop i=o::ops.toList.drop (i+1):=by
   have:=(Az.1 (hl i o ho))
   rw[AE this.1,this.2]
  rw[an]
  unfold qs
  rw[hq,cond_true,yu λo' ah au ai=>?_]
  ·rw[hd,yc (by rw[Yc.1,hs.size];exact ak)]
  ·obtain⟨m,hm,em⟩:=Bc ah
   have Z:ops[i+1+m]?=some o':=by
    have:ops.toList[i+1+m]?=some o':=by rw[<-AJ,Am hm,em]
    exact ofL this
   have:=yf ap i (i+1+m) t aa (Ac.1 Z).1 (by rw[zo ho,hd]) (by rw[zo Z,ai])
   omega
 ·obtain⟨h1,h2,h3⟩:=hf i o (hl i o ho) hq
  have am:∀t∈tmpsOf o.op.operands.toList,zw (qs 0 ops.toList f a) t=zw (qs 0 (ops.toList.take i) f a) t:=λt ht=>by
   have aa:=(Ac.1 ho).1
   rw[O i]
   refine yu λo' ah au ai=>?_
   obtain⟨m,hm,em⟩:=Bc ah
   have Z:ops[i+m]?=some o':=by
    have:ops.toList[i+m]?=some o':=by rw[<-AJ,Am hm,em]
    exact ofL this
   obtain⟨ax,_⟩:=qw ae i o aa ho
   have hw:=qk ax (i+m) t (Ac.1 Z).1 (by rw[zo Z,ai]) ht
   obtain⟨oj,ay,x,hx,hb,aA⟩:=Region.waitsFor_spec hw
   have:=qm af i oj aa ay x hx hb
   omega
  have:=h3 h' (LdOK.congr (λx hx=>(yx am x hx).symm) hh)
  rw[AH]at this
  rw[yy h1 am]
  exact this
end
section
variable {l done:List Nat} {i j m n:Nat} {ops:Array Oper} {P:Program} {h h0:zb} {md:Bool} {e:Env} {a:Act}
def z7o(o:Oper):Bool:=match o.op with
 |.extract _ _=>true
 |_=>false
def zpt(o:Oper):Bool:=bif zf o then true else z7o o
def upL(ops:Array Oper):Nat->List Nat->List Nat
 |0,S=>S
 |k+1,S=>upL ops k (bif S.any λp=>Region.waitsFor .any ops p k then k::S else S)
theorem zm2{ops:Array Oper}{listed:Array Bool}(hc:∀i p,listed.getD i false=true->Region.waitsFor .any ops i p=true->listed.getD p false=true):∀{m:Nat} {S:List Nat},(∀j∈S,listed.getD j false=true)->∀k∈upL ops m S,listed.getD k false=true
 |0,S,h,k,hk=>h k hk
 |m+1,S,h,k,hk=>by
  unfold upL at hk
  refine zm2 hc (m:=m) (λj hj=>?_) k hk
  cases ha:(S.any λp=>Region.waitsFor .any ops p m)with
  |false=>rw[ha]at hj;exact h j hj
  |true=>
   rw[ha,cond_true]at hj
   rcases Af.1 hj with rfl|hj
   ·obtain⟨p,hp,hw⟩:=Ei.1 ha
    exact hc p _ (h p hp) hw
   ·exact h j hj
theorem Wi(h:memN l i=true):i∈l:=by
 induction l with
 |nil=>cases h
 |cons j l ih=>
  simp only[memN]at h
  cases hb:Nat.beq i j with
  |true=>rw[Al hb];exact Ar
  |false=>rw[hb]at h;exact Ah _ (ih h)
theorem zm3(h:i∈l):memN l i=true:=by
 cases hm:memN l i with
 |true=>rfl
 |false=>exact absurd h (Ze hm)
def qe2(ops:Array Oper)(k:Nat):Bool:=match ops[k]? with
 |some o=>!(zpt o)
 |none=>false
def qf6(ops:Array Oper)(i:Nat):Bool:=(upL ops ops.size [i]).any (qe2 ops)
def zao(ops:Array Oper)(i:Nat):Bool:=match ops[i]? with
 |some o=>bif zpt o then(bif zp o then qf6 ops i else false)else true
 |none=>true
def hvL(ops:Array Oper):List Nat:=(BJ ops.size).filter (zao ops)
theorem zh1:j∈hvL ops↔j<ops.size/\zao ops j=true:=by
 unfold hvL;rw[List.mem_filter,Cc]
theorem zyv(ops:Array Oper):(hvL ops).Nodup:=Dw.filter _
def okW(ops:Array Oper)(done S:List Nat)(k:Nat):Nat->Bool
 |0=>true
 |p+1=>bif Region.waitsFor .any ops k p then(bif (bif zao ops p then memN done p else memN S p)then okW ops done S k p else false)else okW ops done S k p
theorem zhc{ops:Array Oper}{done S:List Nat}{k:Nat}:∀{m:Nat},okW ops done S k m=true↔∀p,p<m->Region.waitsFor .any ops k p=true->(zao ops p=true->p∈done)/\(zao ops p=false->p∈S)
 |0=>⟨λ_ p hp=>by omega,λ_=>rfl⟩
 |m+1=>by
  unfold okW
  have ih:=zhc (ops:=ops) (done:=done) (S:=S) (k:=k) (m:=m)
  constructor
  ·intro h p hp hw
   rcases AZ p m with h1|h1
   ·refine ih.1 ?_ p h1 hw
    revert h
    cases Region.waitsFor .any ops k m with
    |false=>exact id
    |true=>
     cases(bif zao ops m then memN done m else memN S m)with
     |false=>intro h;cases h
     |true=>exact id
   ·have:p=m:=by omega
    subst this
    rw[hw,cond_true]at h
    cases hi:zao ops p with
    |true=>
     rw[hi,cond_true]at h
     cases hm:memN done p with
     |false=>rw[hm]at h;cases h
     |true=>exact⟨λ_=>Wi hm,(λhc=>by cases hc)⟩
    |false=>
     rw[hi,cond_false]at h
     cases hm:memN S p with
     |false=>rw[hm]at h;cases h
     |true=>exact⟨(λhc=>by cases hc),λ_=>Wi hm⟩
  ·intro h
   have h1:=ih.2 λp hp hw=>h p (by omega) hw
   cases hw:Region.waitsFor .any ops k m with
   |false=>exact h1
   |true=>
    obtain⟨a,b⟩:=h m (by omega) hw
    rw[cond_true]
    cases hi:zao ops m with
    |true=>rw[cond_true,zm3 (a hi)];exact h1
    |false=>rw[cond_false,zm3 (b hi)];exact h1
def qee(ops:Array Oper)(done S:List Nat)(k:Nat):List Nat:=bif zao ops k then S else(bif okW ops done S k k then k::S else S)
def Wa(ops:Array Oper)(done:List Nat):Nat->List Nat
 |0=>[]
 |k+1=>qee ops done (Wa ops done k) k
theorem Qv{ops:Array Oper}{done:List Nat}:∀{m i:Nat},i∈Wa ops done m->i<m/\zao ops i=false/\okW ops done (Wa ops done i) i i=true
 |0,i,h=>by cases h
 |m+1,i,h=>by
  unfold Wa qee at h
  cases hi:zao ops m with
  |true=>rw[hi,cond_true]at h;have:=Qv h;exact⟨by omega,this.2⟩
  |false=>
   rw[hi,cond_false]at h
   cases ho:okW ops done (Wa ops done m) m m with
   |false=>rw[ho,cond_false]at h;have:=Qv h;exact⟨by omega,this.2⟩
   |true=>
    rw[ho,cond_true]at h
    rcases Af.1 h with rfl|h
    ·exact⟨by omega,hi,ho⟩
    ·have:=Qv h;exact⟨by omega,this.2⟩
theorem zh2{ops:Array Oper}{done:List Nat}{m:Nat}:∀{m' i:Nat},m<=m'->i∈Wa ops done m->i∈Wa ops done m'
 |0,i,h,hi=>by(have:m=0:=by omega);subst this;exact hi
 |m'+1,i,h,hi=>by
  rcases DF h with e|e
  ·rw[<-e];exact hi
  ·have:=zh2 (m':=m') (by omega) hi
   unfold Wa qee
   cases zao ops m' with
   |true=>exact this
   |false=>
    rw[cond_false]
    cases okW ops done (Wa ops done m') m' m' with
    |true=>exact Ah _ this
    |false=>exact this
theorem zm4(hm:i<m)(h1:zao ops i=false)(h2:okW ops done (Wa ops done i) i i=true):i∈Wa ops done m:=by
 refine zh2 (m:=i+1) hm ?_
 unfold Wa qee
 rw[h1,h2];exact Ar
theorem zua{m i p:Nat}(h:i∈Wa ops done m)(hp:p<i)(hw:Region.waitsFor .any ops i p=true):(zao ops p=true->p∈done)/\(zao ops p=false->p∈Wa ops done m):=by
 obtain⟨h1,h2,h3⟩:=Qv h
 obtain⟨a,b⟩:=zhc.1 h3 p hp hw
 exact⟨a,λhi=>zh2 (by omega) (b hi)⟩
def Xb(Z O:List Nat)(n:Nat):List Nat:=(BJ n).filter λi=>bif memN O i then !(memN Z i)else false
theorem zlm{Z O:List Nat}:i∈Xb Z O n↔i<n/\i∈O/\i∉Z:=by
 unfold Xb
 rw[List.mem_filter,Cc]
 constructor
 ·rintro⟨h1,h2⟩
  cases hn:memN O i with
  |false=>rw[hn]at h2;cases h2
  |true=>
   rw[hn,cond_true]at h2
   exact⟨h1,Wi hn,λhm=>by rw[zm3 hm]at h2;cases h2⟩
 ·rintro⟨h1,h2,h3⟩
  refine⟨h1,?_⟩
  rw[zm3 h2,cond_true]
  cases hw:memN Z i with
  |false=>rfl
  |true=>exact absurd (Wi hw) h3
theorem zda(Z O:List Nat)(n:Nat):(Xb Z O n).Pairwise (· < ·):=List.pairwise_lt_range.filter _
def wI(P:Program)(n:Nat)(h:zb)(ld:Bool)(ops:Array Oper)(K:Env->Prop):List Nat->Env->Prop
 |[],e=>K e
 |i::l,e=>match ops[i]? with
  |some o=>bif zpt o then(bif (bif ld then true else !(zp o))then(bif yq n [] o.dst then(bif xd o.op then(bif known e [] o.op.operands.toList then Zz P o (rho e []) none h λv=>wI P n h ld ops K l (putO e o.dst [] v)else False)else False)else False)else False)else False
  |none=>False
def jv(ops:Array Oper)(f:Nat->Value):List Nat->Act->Act
 |[],a=>a
 |i::l,a=>jv ops f l (a.put (jd ops i) (f i))
theorem zyw{o:Oper}(hq:zpt o=true){ρ:Operand->Value}{K:Value->Prop}(H:Zz P o ρ none h K):
  ∃v,K v/\∀h',LdOK o ρ h h'->QExec P (execOp ρ o) h' (.value v):=by
 unfold zpt at hq
 cases hb:zf o with
 |true=>exact zam hb H
 |false=>
  rw[hb,cond_false]at hq
  unfold z7o at hq
  split at hq
  ·rename_i x i ho
   unfold Zz at H;rw[ho]at H
   obtain⟨v,h1,h2⟩:=zx H none
   exact⟨v,h1,λh' _=>h2 trivial h'⟩
  ·cases hq
theorem zln{ops:Array Oper}{f:Nat->Value}:∀{l:List Nat} {a:Act},(jv ops f l a).tmps.size=a.tmps.size/\(jv ops f l a).defers=a.defers
 |[],_=>⟨rfl,rfl⟩
 |i::l,a=>by
  unfold jv
  have:=zln (ops:=ops) (f:=f) (l:=l) (a:=a.put (jd ops i) (f i))
  rw[this.1,this.2]
  exact⟨size_put _ _ _,qg _ _ _⟩
theorem x8{ops:Array Oper}{f:Nat->Value}{s:Nat}:∀{l:List Nat} {a:Act},(∀i∈l,jd ops i≠some s)->zw (jv ops f l a) s=zw a s
 |[],_,_=>rfl
 |i::l,a,h=>by
  unfold jv
  rw[x8 λj hj=>h j (Ah _ hj)]
  exact zq (h i Ar)
theorem zbp{ops:Array Oper}{f:Nat->Value}:∀{l m:List Nat} {a:Act},jv ops f (l++m) a=jv ops f m (jv ops f l a)
 |[],_,_=>rfl
 |i::l,m,a=>by
  rw[A5]
  show jv ops f (l++m) _=jv ops f m (jv ops f l _)
  exact zbp
theorem zm5{P:Program}{n:Nat}{h:zb}{ld:Bool}{ops:Array Oper}{K:Env->Prop}(f0:Nat->Value):∀{l:List Nat} {e:Env} {a:Act},l.Nodup->wI P n h ld ops K l e->Sat n e a->∃(f:Nat->Value) (e':Env),K e'/\Sat n e' (jv ops f l a)/\(∀i,i∉l->f i=f0 i) /\
  ∀l1 i l2,l=l1++i::l2->∃o,ops[i]?=some o/\zpt o=true/\(ld=false->zp o=false)/\xd o.op=true/\yq n [] o.dst=true/\∀h',LdOK o (jv ops f l1 a).eval h h'->QExec P (execOp (jv ops f l1 a).eval o) h' (.value (f i))
 |[],e,a,_,H,hs=>⟨f0,e,H,hs,λ_ _=>rfl,λl1 i l2 h=>by simp at h⟩
 |i::l,e,a,hnd,H,hs=>by
  unfold wI at H
  cases ho:ops[i]? with
  |none=>rw[ho]at H;exact H.elim
  |some o=>
   rw[ho]at H
   simp only at H
   cases hq:zpt o with
   |false=>rw[hq]at H;exact H.elim
   |true=>
    rw[hq,cond_true]at H
    cases hld:(bif ld then true else !(zp o))with
    |false=>rw[hld]at H;exact H.elim
    |true=>
     rw[hld,cond_true]at H
     cases hd:yq n [] o.dst with
     |false=>rw[hd]at H;exact H.elim
     |true=>
      rw[hd,cond_true]at H
      cases hns:xd o.op with
      |false=>rw[hns]at H;exact H.elim
      |true=>
       rw[hns,cond_true]at H
       cases hk:known e [] o.op.operands.toList with
       |false=>rw[hk]at H;exact H.elim
       |true=>
        rw[hk,cond_true]at H
        rw[CQ]at hnd
        obtain⟨v,H1,H2⟩:=zyw hq H
        have O:jd ops i=o.dst:=zo ho
        obtain⟨f,e',g1,g2,g3,g4⟩:=zm5 (λx=>if x=i then v else f0 x) (a:=a.put o.dst v) hnd.2 H1 (hs.putO hd (λ_=>rfl) λhv=>absurd (qi _) hv)
        have aa:f i=v:=by rw[g3 i hnd.1,if_pos rfl]
        have ac:jv ops f (i::l) a=jv ops f l (a.put o.dst v):=by
         show jv ops f l (a.put (jd ops i) (f i))=_
         rw[O,aa]
        refine⟨f,e',g1,by rw[ac];exact g2,λj hj=>?_,λl1 j l2 hl=>?_⟩
        ·simp only[Af,not_or]at hj
         rw[g3 j hj.2,if_neg hj.1]
        ·cases l1 with
         |nil=>
          simp only[BP,Cq]at hl
          obtain⟨rfl,rfl⟩:=hl
          refine⟨o,ho,hq,λhl=>by rw[hl]at hld;simpa using hld,hns,hd,λh' hh=>?_⟩
          show QExec P (execOp a.eval o) h' _
          rw[Y0 hs (qi _) hns hk,aa]
          exact H2 h' (LdOK.congr (λx hx=>(xy hs (qi _) hk x hx).symm) hh)
         |cons i' l1=>
          simp only[A5,Cq]at hl
          obtain⟨rfl,rfl⟩:=hl
          obtain⟨o',q1,q2,q3,q4,q5,q6⟩:=g4 l1 j l2 rfl
          have Z:jv ops f (i::l1) a=jv ops f l1 (a.put o.dst v):=by
           show jv ops f l1 (a.put (jd ops i) (f i))=_
           rw[O,aa]
          refine⟨o',q1,q2,q3,q4,q5,λh' hh=>?_⟩
          rw[Z]at hh ⊢
          exact q6 h' hh
def zyx(ops:Array Oper)(U:List Nat):Nat->Bool
 |0=>false
 |k+1=>bif (match ops[k]? with
  |some o=>bif zp o then(bif zao ops k then false else !(memN U k))else false
  |none=>false)then true else zyx ops U k
theorem zlo{ops:Array Oper}{U:List Nat}:∀{m:Nat},zyx ops U m=false->∀k o,k<m->ops[k]?=some o->zp o=true->zao ops k=false->k∈U
 |0,_,k,o,hk,_,_,_=>by omega
 |m+1,h,k,o,hk,ho,hl,hi=>by
  unfold zyx at h
  cases hb:(match ops[m]? with
   |some o=>bif zp o then(bif zao ops m then false else !(memN U m))else false
   |none=>false)with
  |true=>rw[hb]at h;cases h
  |false=>
   rw[hb,cond_false]at h
   rcases AZ k m with h1|h1
   ·exact zlo h k o h1 ho hl hi
   ·have:k=m:=by omega
    subst this
    rw[ho]at hb
    simp only[hl,hi,cond_true,cond_false]at hb
    exact Wi (by simpa using hb)
def zh3(ops:Array Oper)(U:List Nat)(e:Env)(h0 h':zb)(K:Prop):Nat->Prop
 |0=>K
 |k+1=>match ops[k]? with
  |some o=>bif (bif zp o then(bif zao ops k then false else !(memN U k))else false)then(match o.op with
   |.load _ a=>bif known e [] [a]then(match rho e [] a with
    |.pointer (some p)=>h'[p.block]?=h0[p.block]?/\zh3 ops U e h0 h' K k
    |_=>False)else False
   |_=>False)else zh3 ops U e h0 h' K k
  |none=>zh3 ops U e h0 h' K k
theorem zh4{ops:Array Oper}{U:List Nat}{e:Env}{h0 h':zb}{K:Prop}:∀{m:Nat},zh3 ops U e h0 h' K m->K/\∀k o,k<m->ops[k]?=some o->zp o=true->zao ops k=false->k∉U ->
  ∃t a p,o.op=.load t a/\known e [] [a]=true/\rho e [] a=.pointer (some p)/\h'[p.block]?=h0[p.block]?
 |0,H=>⟨H,λk o hk=>by omega⟩
 |m+1,H=>by
  unfold zh3 at H
  have step:zh3 ops U e h0 h' K m->(∀o,ops[m]?=some o->zp o=true->zao ops m=false->m∉U->∃t a p,o.op=.load t a/\known e [] [a]=true/\rho e [] a=.pointer (some p)/\h'[p.block]?=h0[p.block]?) ->
    K/\∀k o,k<m+1->ops[k]?=some o->zp o=true->zao ops k=false->k∉U->∃t a p,o.op=.load t a/\known e [] [a]=true/\rho e [] a=.pointer (some p)/\h'[p.block]?=h0[p.block]?:=λH1 H2=>by
   obtain⟨h1,h2⟩:=zh4 H1
   refine⟨h1,λk o hk ho hl hi hr=>?_⟩
   rcases AZ k m with h3|h3
   ·exact h2 k o h3 ho hl hi hr
   ·have:k=m:=by omega
    subst this
    exact H2 o ho hl hi hr
  cases ho:ops[m]? with
  |none=>rw[ho]at H;exact step H λo h1=>by rw[ho]at h1;cases h1
  |some o=>
   rw[ho]at H
   simp only at H
   have same:∀o',ops[m]?=some o'->o'=o:=λo' h1=>Ax (h1.symm.trans ho)
   cases hc:(bif zp o then(bif zao ops m then false else !(memN U m))else false)with
   |false=>
    rw[hc]at H
    refine step H λo' h1 h2 h3 h4=>?_
    rw[same o' h1]at h2
    rw[h2,h3,cond_true,cond_false]at hc
    exact absurd (Wi (by simpa using hc)) h4
   |true=>
    rw[hc,cond_true]at H
    split at H
    ·rename_i t a O
     cases hk:known e [] [a]with
     |false=>rw[hk]at H;exact H.elim
     |true=>
      rw[hk,cond_true]at H
      split at H
      ·rename_i p hp
       exact step H.2 λo' h1 h2 h3 h4=>⟨t,a,p,by rw[same o' h1];exact O,hk,hp,H.1⟩
      ·exact H.elim
    ·exact H.elim
def zub(md:Bool)(ops:Array Oper)(T:List Nat)(e:Env)(h0 h':zb)(K:Prop):Prop:=bif zyx ops (upL ops ops.size T) ops.size then(bif md then zh3 ops (upL ops ops.size T) e h0 h' K ops.size else Keep h0.size h0 h'/\K)else K
def z4e(ops:Array Oper)(todo:List Nat)(j:Nat):Bool:=todo.all λk=>bif Nat.beq k j then true else !(memN (upL ops ops.size [j]) k)
def wB7(P:Program)(n:Nat)(ops:Array Oper)(h0:zb)(K:Env->zb->Prop)(md:Bool):Nat->List Nat->List Nat->Env->zb->Prop
 |_,_,[],e,h=>K (clean e) h
 |0,_,_::_,_,_=>False
 |f+1,T,j0::l0,e,h=>qed (λj=>match ops[j]? with
  |some o=>bif yq n [] o.dst then opW P o e [] h λv h'=>wI P n h' false ops (λe'=>zub md ops (j::T) e' h0 h' (wB7 P n ops h0 K md f (j::T) (zga j (j0::l0)) e' h')) (Xb (Wa ops T ops.size) (Wa ops (j::T) ops.size) ops.size) (putO e o.dst [] v)else False
  |none=>False) (zwi (z4e ops (j0::l0)) (j0::l0))
theorem zwj{K:Env->zb->Prop}{f:Nat}{T todo:List Nat}(H:wB7 P n ops h0 K md (f+1) T todo e h)(hj:j∈todo)(hc:z4e ops todo j=true):match ops[j]? with
  |some o=>bif yq n [] o.dst then opW P o e [] h λv h'=>wI P n h' false ops (λe'=>zub md ops (j::T) e' h0 h' (wB7 P n ops h0 K md f (j::T) (zga j todo) e' h')) (Xb (Wa ops T ops.size) (Wa ops (j::T) ops.size) ops.size) (putO e o.dst [] v)else False
  |none=>False:=by
 cases todo with
 |nil=>cases hj
 |cons j0 l0=>exact zm1 H j (zc9 hj hc)
def zap(ops:Array Oper):Nat->Bool
 |0=>true
 |k+1=>bif (match ops[k]? with
  |some o=>xl ops k (tmpsOf o.op.operands.toList) ops.size
  |none=>true)then zap ops k else false
theorem Wj{ops:Array Oper}:∀{m:Nat},zap ops m=true->∀k o,k<m->ops[k]?=some o->xl ops k (tmpsOf o.op.operands.toList) ops.size=true
 |0,_,k,o,hk,_=>by omega
 |m+1,h,k,o,hk,ho=>by
  unfold zap at h
  cases hb:(match ops[m]? with
   |some o=>xl ops m (tmpsOf o.op.operands.toList) ops.size
   |none=>true)with
  |false=>rw[hb]at h;cases h
  |true=>
   rw[hb,cond_true]at h
   rcases AZ k m with h1|h1
   ·exact Wj h k o h1 ho
   ·have:k=m:=by omega
    subst this
    rw[ho]at hb;exact hb
def zpu(ops:Array Oper):Bool:=bif wa ops.toList then(bif ql ops ops.size then(bif w8 ops ops.size then zap ops ops.size else false)else false)else false
theorem zlp(h:zpu ops=true):wa ops.toList=true/\ql ops ops.size=true/\w8 ops ops.size=true/\zap ops ops.size=true:=by
 unfold zpu at h
 cases h1:wa ops.toList <;> cases h2:ql ops ops.size <;> cases h3:w8 ops ops.size <;> simp[h1,h2,h3]at h ⊢
 exact h
structure St7 (P:Program) (n:Nat) (ops:Array Oper) (h0:zb) (K:Env->zb->Prop) (md:Bool) (f:Nat->Value) (a0:Act) (listed:Array Bool) (a b:Act) (e:Env) (h:zb) (done todo:List Nat):Prop where
 inv:HeadInv .any ops ops.size listed
 ag:∀s,(∀i o,ops[i]?=some o->zao ops i=false->listed.getD i false=false->o.dst≠some s)->zw a s=zw b s
 sz:a.tmps.size=n
 ad:a.defers=[]
 sb:Sat n e b
 qv:∀i o t,ops[i]?=some o->i∈Wa ops done ops.size->o.dst=some t->zw b t=f i/\t<n
 qx:∀i o,ops[i]?=some o->i∈Wa ops done ops.size->∀h',LdOK o b.eval h0 h'->QExec P (execOp b.eval o) h' (.value (f i))
 tt:∀j,j∈hvL ops->(j∈todo↔listed.getD j false=false)
 ch:∀j,j∈hvL ops->(listed.getD j false=true↔j∈done)
 dn:∀j∈done,j∈hvL ops
 th:∀j∈todo,j∈hvL ops
 nd:todo.Nodup
 wt:∃fu,todo.length<=fu/\wB7 P n ops h0 K md fu done todo e h
 kp:∀i o,ops[i]?=some o->zp o=true->zao ops i=false->listed.getD i false=false->LdOK o b.eval h0 h
 sm:Same (je ops.toList) a0 a
theorem zh5{ld:Bool}(ae:ql ops ops.size=true)(ak:w8 ops ops.size=true)(am:zap ops ops.size=true){f:Nat->Value}{b:Act}(aj:b.tmps.size=n)(ac:∀i∈l,i<ops.size)(O:l.Pairwise (· < ·))
  (H:∀l1 i l2,l=l1++i::l2->∃o,ops[i]?=some o/\zpt o=true/\(ld=false->zp o=false)/\xd o.op=true/\yq n [] o.dst=true/\∀h',LdOK o (jv ops f l1 b).eval h h'->QExec P (execOp (jv ops f l1 b).eval o) h' (.value (f i))):
  ∀i o,ops[i]?=some o->i∈l->(∀t,o.dst=some t->zw (jv ops f l b) t=f i/\t<n)/\(ld=false->zp o=false)/\∀h',LdOK o (jv ops f l b).eval h h'->QExec P (execOp (jv ops f l b).eval o) h' (.value (f i)):=by
 intro i o ho hi
 obtain⟨l1,l2,rfl⟩:=List.append_of_mem hi
 obtain⟨o',q1,q2,q3,q4,q5,q6⟩:=H l1 i l2 rfl
 have:o'=o:=Ax (q1.symm.trans ho)
 subst this
 have af:i<ops.size:=ac i (by simp)
 have hs:∀j∈l2,i<j:=λj hj=>by
  rw[CG]at O
  exact(BR.1 O.2.1).1 j hj
 have Z:jv ops f (l1++i::l2) b=jv ops f l2 ((jv ops f l1 b).put (jd ops i) (f i)):=by rw[zbp];rfl
 have aa:jd ops i=o'.dst:=zo ho
 refine⟨λt ht=>?_,q3,λh' hh=>?_⟩
 ·have ah:t<n:=by
   rw[ht]at q5
   unfold yq at q5
   simp at q5;exact q5.2
  refine⟨?_,ah⟩
  rw[Z,x8 λj hj hd=>?_,aa,ht,yc (by rw[zln.1,aj];exact ah)]
  have:=yf ak i j t af (ac j (by simp[hj])) (by rw[aa,ht]) hd
  have:=hs j hj
  omega
 ·have ai:∀t∈tmpsOf o'.op.operands.toList,zw (jv ops f (l1++i::l2) b) t=zw (jv ops f l1 b) t:=λt ht=>by
   have e1:jv ops f (l1++i::l2) b=jv ops f (i::l2) (jv ops f l1 b):=zbp
   rw[e1]
   refine x8 λj hj hd=>?_
   have al:j<ops.size:=ac j (by simp[hj])
   have hw:=qk (Wj am i o' af ho) j t al hd ht
   obtain⟨oj,an,x,hx,hb,ap⟩:=Region.waitsFor_spec hw
   have h1:=qm ae i oj af an x hx hb
   rcases Af.1 hj with rfl|hj
   ·omega
   ·have:=hs j hj;omega
  rw[yy q4 ai]
  exact q6 h' (LdOK.congr (λx hx=>(yx ai x hx).symm) hh)
theorem z4f{K:Env->zb->Prop}{Q:Exit->Act->World->Prop}(B:World)(bS:zpu ops=true){a0:Act}
  (hQ:∀e' a' d' h',Sat n e' a'->Same (je ops.toList) a0 a'->K e' h'->Q .normal a' (mk B d' h')):
  ∀(N:Nat) (U:List Nat) (listed:Array Bool) (f:Nat->Value) (a b:Act) (e:Env) (h:zb) (d:Nat) (done todo:List Nat),U.length=N->U.Nodup->(∀k,k∈U↔k<ops.size/\listed.getD k false=false) ->
   St7 P n ops h0 K md f a0 listed a b e h done todo->wpAny P .any ops Q N listed a (mk B d h):=by
 obtain⟨b9,an,a6,bG⟩:=zlp bS
 have bC:∀(i:Nat) (o:Oper),ops[i]?=some o->o.guard=none/\xd o.op=true:=λi o ho=>Zq b9 o (by
  obtain⟨af,e⟩:=Ac.1 ho
  rw[<-e];simp)
 have ak:∀k o,ops[k]?=some o->∀p t,p<ops.size->jd ops p=some t->t∈tmpsOf o.op.operands.toList->Region.waitsFor .any ops k p=true:=λk o ho p t hp hd ht=>
  qk (Wj bG k o (Ac.1 ho).1 ho) p t hp hd ht
 have bQ:∀k p,Region.waitsFor .any ops k p=true->p<k:=λk p hw=>by
  obtain⟨oj,bB,x,hx,hb,cE⟩:=Region.waitsFor_spec hw
  have:=qm an k oj (Ac.1 bB).1 bB x hx hb
  omega
 have cb:∀{listed:Array Bool} {f:Nat->Value} {a b:Act} {e:Env} {h:zb} {d:Nat} {done todo:List Nat},(∀k,k<ops.size->listed.getD k false=true)->St7 P n ops h0 K md f a0 listed a b e h done todo->Q .normal a (mk B d h):=by
  intro listed f a b e h d done todo ae S
  have bj:todo=[]:=by
   cases htd:todo with
   |nil=>rfl
   |cons j l=>
    have hm:j∈todo:=by rw[htd];simp
    have hj:=S.th j hm
    have:=(S.tt j hj).1 hm
    rw[ae j (zh1.1 hj).1]at this;cases this
  obtain⟨fu,_,hw⟩:=S.wt
  rw[bj]at hw
  have hw:K (clean e) h:=by cases fu <;> exact hw
  have hv:∀s,zw a s=zw b s:=λs=>S.ag s λi o ho hq hl=>by
   rw[ae i (Ac.1 ho).1]at hl;cases hl
  have hs:Sat n e a:=⟨S.ad,S.sz,λx hx=>by
   have:=S.sb.all x hx
   have e1:zw a=zw b:=funext hv
   rw[e1];exact this⟩
  exact hQ _ _ _ _ hs.clean S.sm hw
 intro N
 induction N with
 |zero=>
  intro U listed f a b e h d done todo hU _ am S
  have cy:U=[]:=Ck.1 hU
  subst cy
  have ae:∀k,k<ops.size->listed.getD k false=true:=λk hk=>by
   cases hb:listed.getD k false with
   |true=>rfl
   |false=>exact absurd ((am k).2 ⟨hk,hb⟩) (by simp)
  refine⟨?_,cb ae S⟩
  rw[CU]
  intro j hj
  obtain⟨h1,o,ho,_⟩:=mem_ready.1 hj
  have af:=(Ac.1 ho).1
  have:=ae j af
  have h2:=getD_both h1
  rw[this]at h2;cases h2
 |succ N ih=>
  intro U listed f a b e h d done todo hU aU am S
  have b8:∃k,k<ops.size/\listed.getD k false=false:=by
   cases U with
   |nil=>cases hU
   |cons k U=>exact⟨k,(am k).1 Ar⟩
  refine⟨λhr=>?_,λi hi=>?_⟩
  ·exfalso
   obtain⟨k,aN,cp,cc⟩:=Yi b8
   have:k∈Region.ready .any ops listed:=mem_ready.2 ⟨by rw[<-cp];simp[S.inv.size,aN],ops[k],AN aN,λx hx hb=>cc _ (qm an k ops[k] aN (AN aN) x hx hb)⟩
   rw[hr]at this;cases this
  ·obtain⟨bz,o,ho,ae⟩:=mem_ready.1 hi
   have aG:listed.getD i false=false:=getD_both bz
   have af:i<ops.size:=(Ac.1 ho).1
   obtain⟨hg,bZ⟩:=bC i o ho
   have a1:i<listed.size:=by rw[S.inv.size];exact af
   have bL:(U.erase i).length=N:=by rw[CW ((am i).2 ⟨af,aG⟩),hU];rfl
   have aB:(U.erase i).Nodup:=aU.erase i
   have aF:∀k,k∈U.erase i↔k<ops.size/\(listed.setIfInBounds i true).getD k false=false:=λk=>by
    rw[aU.mem_erase_iff,am k]
    by_cases hk:i=k
    ·subst hk;simp[a1]
    ·rw[getD_set_ne false hk];exact⟨λhx=>hx.2,λhx=>⟨λe=>hk e.symm,hx⟩⟩
   have aD:=S.inv.set hi af
   have Z:∀k,k≠i->(listed.setIfInBounds i true).getD k false=listed.getD k false:=λk hk=>getD_set_ne false (Ne.symm hk)
   have aa:(listed.setIfInBounds i true).getD i false=true:=by simp[a1]
   have bP:∀t∈tmpsOf o.op.operands.toList,zw a t=zw b t:=λt ht=>S.ag t λk ok O hq hl hd=>by
    have hw:=ak i o ho k t (Ac.1 O).1 (by rw[zo O,hd]) ht
    rw[Zg hi hw]at hl;cases hl
   have bh:=yy bZ bP
   have aE:∀v,Same (je ops.toList) a0 (a.put o.dst v):=λv=>S.sm.trans (Same.put a o.dst _ λt ht=>Qc (by
     obtain⟨cC,e2⟩:=Ac.1 ho
     rw[<-e2];simp) t ht)
   unfold wpOp
   rw[ho]
   simp only
   have a7:BU o (yielded ops a.tmps)=true:=by unfold BU;rw[hg]
   rw[if_pos a7]
   left
   unfold Oper.wp
   rw[bh]
   cases hq:zao ops i with
   |false=>
    have a8:∀m k ok,k<m->ops[k]?=some ok->zao ops k=false->(∀p,Region.waitsFor .any ops k p=true->listed.getD p false=true)->k∈Wa ops done ops.size:=by
     intro m
     induction m with
     |zero=>intro k ok hk;omega
     |succ m bc=>
      intro k ok hk O ai bM
      refine zm4 (Ac.1 O).1 ai (zhc.2 λp hp hw=>⟨λar=>?_,λar=>?_⟩)
      ·have cr:=bM p hw
       exact(S.ch p (zh1.2 ⟨by have:=(Ac.1 O).1;omega,ar⟩)).1 cr
      ·have aJ:p<ops.size:=by have:=(Ac.1 O).1;omega
       have aI:=bc p ops[p] (by omega) (AN aJ) ar λq cj=>ya S.inv (bM p hw) cj
       obtain⟨_,g2,g3⟩:=Qv aI
       exact zm4 hp g2 g3
    have aV:=a8 (i+1) i o (by omega) ho hq λp hw=>Zg hi hw
    have hx:=S.qx i o ho aV h (by
     cases hl:zp o with
     |false=>exact .inl hl
     |true=>exact S.kp i o ho hl hq aG) B d
    rw[hx,Oper.upon_value]
    have aY:i∉hvL ops:=λhm=>by rw[(zh1.1 hm).2]at hq;cases hq
    refine ih _ _ f _ b e h d done todo bL aB aF { S with inv:=aD,ag:=λs hs=>?_,sz:=by rw[size_put];exact S.sz,ad:=by rw[qg];exact S.ad,tt:=λj hj=>(by have:j≠i:=λe=>aY (e ▸ hj);rw[Z j this];exact S.tt j hj),ch:=λj hj=>?_,kp:=λk ok O hl ai hk=>?_,sm:=aE _ }
    ·by_cases hd:o.dst=some s
     ·obtain⟨hv,aT⟩:=S.qv i o s ho aV hd
      rw[hd,yc (by rw[S.sz];exact aT),hv]
     ·rw[zq hd]
      refine S.ag s λk ok O aP bn=>?_
      by_cases ac:k=i
      ·subst ac
       have:ok=o:=Ax (O.symm.trans ho)
       subst this;exact hd
      ·exact hs k ok O aP (by rw[Z k ac];exact bn)
    ·have:j≠i:=λe=>aY (e ▸ hj)
     rw[Z j this];exact S.ch j hj
    ·by_cases ac:k=i
     ·subst ac;rw[aa]at hk;cases hk
     ·rw[Z k ac]at hk;exact S.kp k ok O hl ai hk
   |true=>
    have aI:i∈hvL ops:=zh1.2 ⟨af,hq⟩
    have aO:i∈todo:=(S.tt i aI).2 aG
    obtain⟨fu,cF,cn⟩:=S.wt
    have bH:∀p q,(listed.setIfInBounds i true).getD p false=true->Region.waitsFor .any ops p q=true->(listed.setIfInBounds i true).getD q false=true:=λp q h1 h2=>ya aD h1 h2
    have bo:z4e ops todo i=true:=by
     unfold z4e
     rw[AQ]
     intro k hk
     cases ac:Nat.beq k i with
     |true=>rfl
     |false=>
      have bV:k≠i:=λe=>by rw[e]at ac;simp at ac
      cases hr:memN (upL ops ops.size [i]) k with
      |false=>rfl
      |true=>
       exfalso
       have:=zm2 bH (m:=ops.size) (S:=[i]) (λj hj=>by simp at hj;subst hj;exact aa) k (Wi hr)
       rw[Z k bV]at this
       have h2:=(S.tt k (S.th k hk)).1 hk
       rw[this]at h2;cases h2
    have hW:match ops[i]? with
      |some o=>bif yq n [] o.dst then opW P o e [] h λv h'=>wI P n h' false ops (λe'=>zub md ops (i::done) e' h0 h' (wB7 P n ops h0 K md (fu-1) (i::done) (zga i todo) e' h')) (Xb (Wa ops done ops.size) (Wa ops (i::done) ops.size) ops.size) (putO e o.dst [] v)else False
      |none=>False:=by
     cases fu with
     |zero=>(have:todo.length=0:=by omega);rw[Ck.1 this]at aO;cases aO
     |succ fu=>
      have:=zwj (show wB7 P n ops h0 K md (fu+1) done todo e h from cn) aO bo
      exact this
    rw[ho]at hW
    simp only at hW
    cases hd:yq n [] o.dst with
    |false=>rw[hd]at hW;exact hW.elim
    |true=>
     rw[hd,cond_true]at hW
     refine Jp (b:=b) S.sb.defers ?_
     refine zhy hW S.sb (qi _) B d λv d' h' hK=>⟨by rw[qg];exact S.sb.defers,λv2 bU=>?_⟩
     have cz:b.put o.dst v2=b.put o.dst v:=bU.symm
     generalize aQ:Xb (Wa ops done ops.size) (Wa ops (i::done) ops.size) ops.size=bl at hK
     have ah:∀k,k∈bl↔k<ops.size/\k∈Wa ops (i::done) ops.size/\k∉Wa ops done ops.size:=λk=>by rw[<-aQ];exact zlm
     have ax:bl.Pairwise (· < ·):=by rw[<-aQ];exact zda _ _ _
     have bI:bl.Nodup:=ax.imp λh=>by omega
     have bq:Sat n (putO e o.dst [] v) (b.put o.dst v):=S.sb.putO hd (λ_=>rfl) λhv=>absurd (qi _) hv
     obtain⟨f',e2,HK,bA,bF,cg⟩:=zm5 f bI hK bq
     have bu:=zh5 an a6 bG (f:=f') (l:=bl) (b:=b.put o.dst v) bq.size (λk hk=>((ah k).1 hk).1) ax cg
     have aZ:∀k∈bl,zao ops k=false:=λk hk=>(Qv ((ah k).1 hk).2.1).2.1
     have aL:∀j,j∈hvL ops->((listed.setIfInBounds i true).getD j false=true↔j∈i::done):=λj hj=>by
      by_cases ap:j=i
      ·subst ap;rw[aa];simp
      ·rw[Z j ap,S.ch j hj];simp[ap]
     have ck:∀j∈i::done,(listed.setIfInBounds i true).getD j false=true:=λj hj=>by
      rcases Af.1 hj with rfl|hj
      ·exact aa
      ·exact getD_set_true ((S.ch j (S.dn j hj)).2 hj)
     have bO:∀k,k∈upL ops ops.size (i::done)->(listed.setIfInBounds i true).getD k false=true:=λk hk=>zm2 bH ck k hk
     have aA:i∉done:=λhm=>by rw[(S.ch i aI).2 hm]at aG;cases aG
     have aS:∀k ok,ops[k]?=some ok->k∈Wa ops done ops.size->∀t∈tmpsOf ok.op.operands.toList,zw (b.put o.dst v) t=zw b t:=λk ok O hk t ht=>zq λbe=>by
      have hw:=ak k ok O i t af (by rw[zo ho,be]) ht
      exact aA ((zua hk (bQ k i hw) hw).1 hq)
     have aj:∀k ok,ops[k]?=some ok->k∈Wa ops done ops.size->∀t∈tmpsOf ok.op.operands.toList,zw (jv ops f' bl (b.put o.dst v)) t=zw b t:=λk ok O hk t ht=>by
      rw[x8 λp hp aH=>?_]
      ·exact aS k ok O hk t ht
      ·have hw:=ak k ok O p t ((ah p).1 hp).1 aH ht
       exact((ah p).1 hp).2.2 ((zua hk (bQ k p hw) hw).2 (aZ p hp))
     have ba:∀k ok t,ops[k]?=some ok->k≠i->ok.dst=some t->o.dst≠some t:=λk ok t O ac ay be=>by
      have:=yf a6 k i t (Ac.1 O).1 af (by rw[zo O,ay]) (by rw[zo ho,be])
      exact ac this
     have au:∀k,zao ops k=false->k≠i:=λk hk e=>by rw[e,hq]at hk;cases hk
     have cA:∀k ok,ops[k]?=some ok->zp ok=true->zao ops k=false->k∈Wa ops done ops.size->LdOK ok b.eval h0 h'->LdOK ok (jv ops f' bl (b.put o.dst v)).eval h0 h':=λk ok O _ _ hk hh=>
      LdOK.congr (λx hx=>(yx (aj k ok O hk) x hx)) hh
     have bD:wB7 P n ops h0 K md (fu-1) (i::done) (zga i todo) e2 h'/\(∀k ok,ops[k]?=some ok->zp ok=true->zao ops k=false->(listed.setIfInBounds i true).getD k false=false->LdOK ok (jv ops f' bl (b.put o.dst v)).eval h0 h'):=by
      unfold zub at HK
      cases hl:zyx ops (upL ops ops.size (i::done)) ops.size with
      |false=>
       rw[hl,cond_false]at HK
       exact⟨HK,λk ok O bm ai hf=>by rw[bO k (zlo hl k ok (Ac.1 O).1 O bm ai)]at hf;cases hf⟩
      |true=>
       rw[hl,cond_true]at HK
       cases md with
       |false=>exact⟨HK.2,λ_ _ _ _ _ _=>.inr (.inl HK.1)⟩
       |true=>
        rw[cond_true]at HK
        obtain⟨g1,g2⟩:=zh4 HK
        refine⟨g1,λk ok O bm ai hf=>.inr (.inr λt a p ca hp=>?_)⟩
        obtain⟨t',a',p',e1,cq,e3,e4⟩:=g2 k ok (Ac.1 O).1 O bm ai (λhm=>by rw[bO k hm]at hf;cases hf)
        rw[ca]at e1
        injection e1 with _ e1
        subst e1
        have eb:(jv ops f' bl (b.put o.dst v)).eval a=rho e2 [] a:=xy bA (qi _) cq a (by simp)
        rw[eb,e3]at hp
        injection hp with hp
        injection hp with hp
        rw[<-hp];exact e4
     have bY:∀j,j∈hvL ops->(j∈zga i todo↔(listed.setIfInBounds i true).getD j false=false):=λj hj=>by
      rw[Wh]
      by_cases ap:j=i
      ·subst ap;rw[aa];simp
      ·rw[Z j ap,<-S.tt j hj];exact⟨λhx=>hx.1,λhx=>⟨hx,ap⟩⟩
     refine ih _ _ f' _ (jv ops f' bl (b.put o.dst v)) e2 h' d' (i::done) (zga i todo) bL aB aF ⟨aD,λs hs=>?_,by rw[size_put];exact S.sz,by rw[qg];exact S.ad,bA,λk ok t O hk ay=>?_,λk ok O hk bJ hh=>?_,bY,aL,(λj hj=>by
      rcases Af.1 hj with rfl|hj
      ·exact aI
      ·exact S.dn j hj),(λj hj=>S.th j (Wh.1 hj).1),zan S.nd,⟨fu-1,by have:=zm0 aO;omega,bD.1⟩,bD.2,aE _⟩
     ·-- slots
      have co:∀k ok,ops[k]?=some ok->zao ops k=false->listed.getD k false=false->ok.dst≠some s:=λk ok O aP bn=>hs k ok O aP (by rw[Z k (au k aP)];exact bn)
      have aQ:∀p∈bl,jd ops p≠some s:=λp hp aH=>by
       have aJ:=((ah p).1 hp).1
       have O:ops[p]?=some ops[p]:=AN aJ
       have ar:=aZ p hp
       refine hs p _ O ar ?_ (by rw[<-zo O];exact aH)
       cases hlp:(listed.setIfInBounds i true).getD p false with
       |false=>rfl
       |true=>
        exfalso
        rw[Z p (au p ar)]at hlp
        have:∀m q,q<m->q<ops.size->zao ops q=false->listed.getD q false=true->q∈Wa ops done ops.size:=by
         intro m
         induction m with
         |zero=>intro q hq;omega
         |succ m bc=>
          intro q cB cu cd bE
          refine zm4 cu cd (zhc.2 λp2 cm bT=>⟨λaC=>?_,λaC=>?_⟩)
          ·exact(S.ch p2 (zh1.2 ⟨by omega,aC⟩)).1 (ya S.inv bE bT)
          ·have bp:=bc p2 (by omega) (by omega) aC (ya S.inv bE bT)
           obtain⟨_,g2,g3⟩:=Qv bp
           exact zm4 cm g2 g3
        exact((ah p).1 hp).2.2 (this (p+1) p (by omega) aJ ar hlp)
      rw[x8 aQ]
      by_cases aM:o.dst=some s
      ·rw[<-cz,aM]
       have aT:s<n:=by
        rw[aM]at hd
        unfold yq at hd
        simp at hd;exact hd.2
       rw[yc (by rw[S.sz];exact aT),yc (by rw[S.sb.size];exact aT)]
      ·rw[zq aM,zq aM];exact S.ag s co
     ·by_cases al:k∈bl
      ·exact(bu k ok O al).1 t ay
      ·have az:k∈Wa ops done ops.size:=Classical.byContradiction λhc=>al ((ah k).2 ⟨(Ac.1 O).1,hk,hc⟩)
       have ai:=(Qv az).2.1
       obtain⟨q1,q2⟩:=S.qv k ok t O az ay
       refine⟨?_,q2⟩
       rw[x8 λp hp aH=>?_,zq (ba k ok t O (au k ai) ay),q1,bF k al]
       have:=yf a6 p k t ((ah p).1 hp).1 (Ac.1 O).1 aH (by rw[zo O,ay])
       subst this;exact al hp
     ·by_cases al:k∈bl
      ·obtain⟨_,q2,q3⟩:=bu k ok O al
       exact q3 bJ (.inl (q2 rfl))
      ·have az:k∈Wa ops done ops.size:=Classical.byContradiction λhc=>al ((ah k).2 ⟨(Ac.1 O).1,hk,hc⟩)
       rw[yy (b:=b) (bC k ok O).2 (aj k ok O az),bF k al]
       exact S.qx k ok O az bJ (LdOK.congr (λx hx=>(yx (aj k ok O az) x hx).symm) hh)
theorem zlq{K:Env->zb->Prop}{Q:Exit->Act->World->Prop}(B:World)(aa:zpu ops=true)
  (H:wI P n h true ops (λe'=>wB7 P n ops h K md (hvL ops).length [] (hvL ops) e' h) (Xb [] (Wa ops [] ops.size) ops.size) e) (hs:Sat n e a)
  (hQ:∀e' a' d' h',Sat n e' a'->Same (je ops.toList) a a'->K e' h'->Q .normal a' (mk B d' h')) (d:Nat):wpAny P .any ops Q ops.size (Bm ops.size false) a (mk B d h):=by
 obtain⟨au,ac,ak,an⟩:=zlp aa
 have Z:∀k,k∈Xb [] (Wa ops [] ops.size) ops.size↔k∈Wa ops [] ops.size:=λk=>by
  rw[zlm]
  exact⟨λh=>h.2.1,λh=>⟨(Qv h).1,h,by simp⟩⟩
 have O:=zda [] (Wa ops [] ops.size) ops.size
 generalize Xb [] (Wa ops [] ops.size) ops.size=bl at H Z O
 have ae:bl.Nodup:=O.imp λh=>by omega
 obtain⟨f,e2,HK,ap,_,aj⟩:=zm5 (λ_=>undef) ae H hs
 have ah:=zh5 ac ak an (f:=f) (l:=bl) (b:=a) hs.size (λk hk=>(Qv ((Z k).1 hk)).1) O aj
 have af:∀s,(∀i o,ops[i]?=some o->zao ops i=false->(Bm ops.size false).getD i false=false->o.dst≠some s)->zw a s=zw (jv ops f bl a) s:=λs ar=>(x8 λp hp am=>by
  have al:=(Qv ((Z p).1 hp)).1
  have ai:ops[p]?=some ops[p]:=AN al
  exact ar p _ ai (Qv ((Z p).1 hp)).2.1 (getD_replicate_false _ _) (by rw[<-zo ai];exact am)).symm
 refine z4f B aa hQ ops.size (BJ ops.size) _ f a (jv ops f bl a) e2 h d [] (hvL ops) DY Dw (λk=>by rw[Cc,getD_replicate_false];simp) ⟨⟨by simp,λj oj _ hl=>(by rw[getD_replicate_false]at hl;cases hl),λt ht ax=>by omega⟩,af,hs.size,hs.defers,ap,λi o t ho hi hd=>(ah i o ho ((Z i).2 hi)).1 t hd,λi o ho hi=>(ah i o ho ((Z i).2 hi)).2.2,(λj hj=>by rw[getD_replicate_false];simp[hj]),(λj hj=>by rw[getD_replicate_false];simp),(λj hj=>by cases hj),(λj hj=>hj),zyv ops,⟨_,Ae _,HK⟩,λ_ _ _ _ _ _=>.inr (.inl (Keep.refl _ _)),Same.refl _ _⟩
def zyy:List (Nat×Nat)->Nat->Option Nat
 |[],_=>none
 |(j,m)::l,i=>bif Nat.beq i j then some m else zyy l i
def regionF(P:Program)(n:Nat)(tl:List (Nat×Nat))(id:Nat)(ops:Array Oper)(O:Bool)(K:Env->zb->Prop)(e:Env)(h:zb):Prop:=
 bif O then(match zyy tl id with
  |none=>bif Region.lexB .any ops then wQ P n ops h true (λe'=>K (clean e') h) ops.toList e else False
  |some m=>bif Nat.beq m 2000 then(bif mixB ops then wU P n h (λe'=>wT P n ops h K false [] (heavyL 0 ops.toList) e' h) ops.toList e else False)else bif Nat.beq m 3000 then(bif mixB ops then wU P n h (λe'=>wT P n ops h K true [] (heavyL 0 ops.toList) e' h) ops.toList e else False)else bif Nat.beq m 5000 then(bif zps ops then wU P n h (λe'=>wB P n ops h K false (heavyL 0 ops.toList).length [] (heavyL 0 ops.toList) e' h) ops.toList e else False)else bif Nat.beq m 6000 then(bif zps ops then wU P n h (λe'=>wB P n ops h K true (heavyL 0 ops.toList).length [] (heavyL 0 ops.toList) e' h) ops.toList e else False)else bif Nat.beq m 7000 then(bif zpu ops then wI P n h true ops (λe'=>wB7 P n ops h K false (hvL ops).length [] (hvL ops) e' h) (Xb [] (Wa ops [] ops.size) ops.size) e else False)else bif Nat.beq m 8000 then(bif zpu ops then wI P n h true ops (λe'=>wB7 P n ops h K true (hvL ops).length [] (hvL ops) e' h) (Xb [] (Wa ops [] ops.size) ops.size) e else False)else bif Nat.beq m 1000 then(bif Region.lexB .any ops then wK P n ops h (λe'=>∀h',Keep h.size h h'->K (clean e') h') ops.toList e else False)
   else bif Region.lexTailB .any ops m then wQ P n ops h false (λe'=>wR P n ops K (ops.toList.drop m) e' h) (ops.toList.take m) e else False)
 else wR P n ops K ops.toList e h
theorem Z7(l m:List Oper):je (l++m)=je l++je m:=by
 induction l with
 |nil=>rfl
 |cons o l ih=>simp only[A5,je];split <;> simp[ih]
theorem zdb(hm:P.follows .mixedOrders=true){tl:List (Nat×Nat)}{id:Nat}{O:Bool}{K:Env->zb->Prop}
  (H:regionF P n tl id ops O K e h) (B:World) (d:Nat) (hs:Sat n e a) {Q:Exit->Act->World->Prop}
  (hQ:∀e' a' d' h',Sat n e' a'->Same (je ops.toList) a a'->K e' h'->Q .normal a' (mk B d' h')):(Db id ops O).wp P Q a (mk B d h):=by
 unfold regionF at H
 cases O with
 |false=>exact wp_region_list (Wg B _ _ _ _ _ H hs hQ)
 |true=>
  simp only[cond_true]at H
  split at H
  ·cases hB:Region.lexB .any ops with
   |false=>rw[hB]at H;exact H.elim
   |true=>
    rw[hB]at H
    refine wp_region_quiet (C:=λw=>∃d,w=mk B d h) hm hB ⟨d+1,rfl⟩ ?_
    refine zt7 B _ _ _ H hs λe' a' q1 q2 q3=>?_
    rintro w' ⟨d',rfl⟩
    exact hQ _ _ _ _ q1.clean q2 q3
  ·rename_i m _
   cases hX:Nat.beq m 2000 with
   |true=>
    rw[hX]at H
    simp only[cond_true]at H
    cases hB:mixB ops with
    |false=>rw[hB]at H;exact H.elim
    |true=>
     rw[hB]at H
     exact wp_region_any hm (mix_sound B hB H hs hQ (d+1))
   |false=>
   rw[hX]at H
   simp only[cond_false]at H
   cases hY:Nat.beq m 3000 with
   |true=>
    rw[hY]at H
    simp only[cond_true]at H
    cases hB:mixB ops with
    |false=>rw[hB]at H;exact H.elim
    |true=>
     rw[hB]at H
     exact wp_region_any hm (mix_sound B hB H hs hQ (d+1))
   |false=>
   rw[hY]at H
   simp only[cond_false]at H
   cases hZ:Nat.beq m 5000 with
   |true=>
    rw[hZ]at H
    simp only[cond_true]at H
    cases hB:zps ops with
    |false=>rw[hB]at H;exact H.elim
    |true=>
     rw[hB]at H
     exact wp_region_any hm (zll B hB H hs hQ (d+1))
   |false=>
   rw[hZ]at H
   simp only[cond_false]at H
   cases hY6:Nat.beq m 6000 with
   |true=>
    rw[hY6]at H
    simp only[cond_true]at H
    cases hB:zps ops with
    |false=>rw[hB]at H;exact H.elim
    |true=>
     rw[hB]at H
     exact wp_region_any hm (zll B hB H hs hQ (d+1))
   |false=>
   rw[hY6]at H
   simp only[cond_false]at H
   cases hY7:Nat.beq m 7000 with
   |true=>
    rw[hY7]at H
    simp only[cond_true]at H
    cases hB:zpu ops with
    |false=>rw[hB]at H;exact H.elim
    |true=>
     rw[hB]at H
     exact wp_region_any hm (zlq B hB H hs hQ (d+1))
   |false=>
   rw[hY7]at H
   simp only[cond_false]at H
   cases hY8:Nat.beq m 8000 with
   |true=>
    rw[hY8]at H
    simp only[cond_true]at H
    cases hB:zpu ops with
    |false=>rw[hB]at H;exact H.elim
    |true=>
     rw[hB]at H
     exact wp_region_any hm (zlq B hB H hs hQ (d+1))
   |false=>
   rw[hY8]at H
   simp only[cond_false]at H
   cases hM:Nat.beq m 1000 with
   |true=>
    rw[hM]at H
    simp only[cond_true]at H
    cases hB:Region.lexB .any ops with
    |false=>rw[hB]at H;exact H.elim
    |true=>
     rw[hB]at H
     refine wp_region_quiet (C:=λw=>∃d h',Keep h.size h h'/\w=mk B d h') hm hB ⟨d+1,h,Keep.refl _ _,rfl⟩ ?_
     refine zt8 B _ _ _ H hs λe' a' q1 q2 q3=>?_
     rintro w' ⟨d',h',hk,rfl⟩
     exact hQ _ _ _ _ q1.clean q2 (q3 h' hk)
   |false=>
   rw[hM]at H
   simp only[cond_false]at H
   cases hB:Region.lexTailB .any ops m with
   |false=>rw[hB]at H;exact H.elim
   |true=>
    rw[hB]at H
    have:=wp_region_still_tail (id:=id) (Q:=Q) (a:=a) (w:=mk B d h) (l:=ops.toList) m hm (by simpa using hB) (by
     simp only[Array.toArray_toList]
     refine zt9 B (d+1) _ _ _ H hs λe' a' q1 q2 q3=>?_
     refine Wg B _ _ _ _ (d+1) q3 q1 λaa af ae ac q4 q5 q6=>hQ aa af ae ac q4 ?_ q6
     have Z:je ops.toList=je (ops.toList.take m)++je (ops.toList.drop m):=by rw[<-Z7,Br]
     rw[Z]
     exact(q2.mono λx hx=>Aq _ hx).trans (q5.mono λx hx=>AC _ hx))
    simpa using this
end
section
variable {n:Nat} {e:Env} {a:Act} {ms:List Nat} {P:Program} {h:zb} {R:Value -> zb -> Prop} {f:FuncId}
@[reducible] def zwk:List Atom->Type->Type
 |[],X=>X
 |t::l,X=>t.den->zwk l X
def qcl{X:Type}:(l:List Atom)->zwk l X->(List Value->X->Prop)->Prop
 |[],f,k=>k [] f
 |t::l,f,k=>∀x:t.den,qcl l (f x) λvs y=>k (t.enc x::vs) y
def zpv{X:Type}:(l:List Atom)->List Value->zwk l X->Option X
 |[],[],f=>some f
 |t::l,v::vs,f=>match t.dec v with
  |some x=>zpv l vs (f x)
  |none=>none
 |_,_,_=>none
def mkC{X:Type}:(l:List Atom)->(List Value->X)->zwk l X
 |[],f=>f []
 |t::l,f=>λx=>mkC l λvs=>f (t.enc x::vs)
def zwl{X Y:Type}:(l:List Atom)->zwk l X->zwk l Y->zwk l (X×Y)
 |[],f,g=>(f,g)
 |_::l,f,g=>λx=>zwl l (f x) (g x)
theorem zh6{X:Type}:∀{l:List Atom} {vs:List Value} {f:zwk l X} {x:X} {k:List Value->X->Prop},zpv l vs f=some x->qcl l f k->k vs x
 |[],[],f,x,k,h,g=>by simp only[zpv,Ab]at h;subst h;exact g
 |[],_::_,f,x,k,h,g=>by simp[zpv]at h
 |_::_,[],f,x,k,h,g=>by simp[zpv]at h
 |t::l,v::vs,f,x,k,h,g=>by
  simp only[zpv]at h
  split at h
  ·rename_i y hy
   have:=zh6 h (g y)
   rw[Atom.enc_of_dec hy]at this
   exact this
  ·cases h
theorem zm6{X:Type}:∀{l:List Atom} {vs:List Value} {f:List Value->X} {x:X},zpv l vs (mkC l f)=some x->x=f vs
 |[],[],f,x,h=>by simp only[zpv,mkC,Ab]at h;exact h.symm
 |[],_::_,f,x,h=>by simp[zpv]at h
 |_::_,[],f,x,h=>by simp[zpv]at h
 |t::l,v::vs,f,x,h=>by
  simp only[zpv,mkC]at h
  split at h
  ·rename_i y hy
   have:=zm6 h
   rw[Atom.enc_of_dec hy]at this
   exact this
  ·cases h
theorem zm7{X:Type}:∀{l:List Atom} {f:List Value->X} {k:List Value->X->Prop},(∀vs,k vs (f vs))->qcl l (mkC l f) k
 |[],_,_,h=>h []
 |_::_,_,_,h=>λ_=>zm7 λ_=>h _
abbrev Ann:=List (Nat×VT)
def xg:Ann->List Atom
 |[]=>[]
 |(_,.one t)::J=>t::xg J
 |(_,.agg l)::J=>l++xg J
def za5(σ:Nat->Option Value):Ann->Option (List Value)
 |[]=>some []
 |(i,.one _)::J=>match σ i,za5 σ J with
  |some v,some vs=>some (v::vs)
  |_,_=>none
 |(i,.agg l)::J=>match σ i,za5 σ J with
  |some (.agg cs),some vs=>bif Nat.beq cs.toList.length l.length then some (cs.toList++vs)else none
  |_,_=>none
def Y4:Ann->List Value->Env
 |[],_=>[]
 |(i,.one _)::J,v::vs=>(i,[],v)::Y4 J vs
 |(_,.one _)::_,[]=>[]
 |(i,.agg l)::J,vs=>(i,[],.agg (vs.take l.length).toArray)::Y4 J (vs.drop l.length)
def ze3(e:Env)(i:Nat):Option Value:=match look e i with
 |some ([],v)=>some v
 |_=>none
theorem wb(h:Sat n e a){i:Nat}{v:Value}(hv:ze3 e i=some v):zw a i=v:=by
 unfold ze3 at hv
 split at hv
 ·rename_i u hl
  simp only[Ab]at hv
  subst hv
  exact(h.all _ (zak hl)).1 trivial
 ·cases hv
theorem wn{n:Nat}{e:Env}{a:Act}(h:Sat n e a):∀{J:Ann} {vs:List Value},za5 (ze3 e) J=some vs->za5 (λi=>some (zw a i)) J=some vs
 |[],vs,hv=>hv
 |(i,.one t)::J,vs,hv=>by
  simp only[za5]at hv ⊢
  split at hv
  ·rename_i v us h1 h2
   simp only[wn h h2,wb h h1]
   exact hv
  ·cases hv
 |(i,.agg l)::J,vs,hv=>by
  simp only[za5]at hv ⊢
  split at hv
  ·rename_i cs us h1 h2
   simp only[wn h h2,wb h h1]
   exact hv
  ·cases hv
theorem Xn{σ:Nat->Value}:∀{J:Ann} {vs:List Value},za5 (λi=>some (σ i)) J=some vs->∀x∈Y4 J vs,fact σ x
 |[],vs,_,x,hx=>by cases hx
 |(i,.one t)::J,vs,hv,x,hx=>by
  simp only[za5]at hv
  split at hv
  ·rename_i v us h1 h2
   simp only[Ab]at h1 hv
   subst hv
   simp only[Y4,Af]at hx
   rcases hx with rfl|hx
   ·exact⟨λ_=>h1,λhn=>absurd trivial hn⟩
   ·exact Xn h2 x hx
  ·cases hv
 |(i,.agg l)::J,vs,hv,x,hx=>by
  simp only[za5]at hv
  split at hv
  ·rename_i cs us h1 h2
   simp only[Ab]at h1
   cases hb:Nat.beq cs.toList.length l.length with
   |false=>rw[hb]at hv;cases hv
   |true=>
    rw[hb]at hv
    simp only[cond_true,Ab]at hv
    subst hv
    have O:cs.toList.length=l.length:=Al hb
    simp only[Y4,Af]at hx
    rcases hx with rfl|hx
    ·refine⟨λ_=>?_,λhn=>absurd trivial hn⟩
     simp only
     rw[h1,<-O,Eu]
    ·rw[<-O,List.drop_left]at hx
     exact Xn h2 x hx
  ·cases hv
def Xo(ms:List Nat):Env->Env
 |[]=>[]
 |(i,[],v)::e=>bif memN ms i then Xo ms e else(i,[],v)::Xo ms e
 |(_,_::_,_)::e=>Xo ms e
theorem zyz{x:Nat×qf×Value}(h:x∈Xo ms e):x∈e/\x.2.1=[]/\x.1∉ms:=by
 induction e with
 |nil=>cases h
 |cons y e ih=>
  obtain⟨i,c,v⟩:=y
  cases c with
  |nil=>
   simp only[Xo]at h
   cases hm:memN ms i with
   |true=>rw[hm]at h;exact⟨Ah _ (ih h).1,(ih h).2⟩
   |false=>
    rw[hm]at h
    simp only[cond_false]at h
    rcases Af.1 h with rfl|h
    ·exact⟨Ar,rfl,Ze hm⟩
    ·exact⟨Ah _ (ih h).1,(ih h).2⟩
  |cons g c=>
   simp only[Xo]at h
   exact⟨Ah _ (ih h).1,(ih h).2⟩
theorem zdc{a a1:Act}(hs:Sat n e a)(hd:a1.defers=[])(hz:a1.tmps.size=n)(O:Same ms a a1){J:Ann}{vs:List Value}
  (hv:za5 (λi=>some (zw a1 i)) J=some vs):Sat n (Y4 J vs++Xo ms e) a1:=by
 refine⟨hd,hz,λx hx=>?_⟩
 rcases An.1 hx with hx|hx
 ·exact Xn hv x hx
 ·obtain⟨h1,h2,h3⟩:=zyz hx
  have hf:=hs.all x h1
  refine⟨λ_=>?_,λhn=>absurd (by rw[h2];trivial) hn⟩
  rw[O _ h3]
  exact hf.1 (by rw[h2];trivial)
def wv:Code->Option Nat
 |.region id _ _=>some id
 |.seq a b=>match wv a with
  |some i=>some i
  |none=>wv b
 |.cond _ a b=>match wv a with
  |some i=>some i
  |none=>wv b
 |.block _ b=>wv b
 |.loop b=>wv b
 |_=>none
def Q3:Code->List Nat
 |.region _ ops _=>je ops.toList
 |.seq a b=>Q3 a++Q3 b
 |.cond _ a b=>Q3 a++Q3 b
 |.block _ b=>Q3 b
 |.loop b=>Q3 b
 |_=>[]
structure Plan where
 tails:List (Nat×Nat)
 loops:List (Nat×Ann)
 joins:List (Nat×Ann)
def qcm:List (Nat×Ann)->Nat->Option Ann
 |[],_=>none
 |(j,m)::l,i=>bif Nat.beq i j then some m else qcm l i
def z4g(l:List (Nat×Ann)):Option Nat->Option Ann
 |some i=>qcm l i
 |none=>none
abbrev zkm:=Exit->Env->zb->Prop
def zwm(K:Env->zb->Prop)(Q:zkm):zkm
 |.normal,e,h=>K e h
 |x,e,h=>Q x e h
def zuc(id:Nat)(Q:zkm):zkm
 |.exit i,e,h=>bif Nat.beq i id then Q .normal e h else Q (.exit i) e h
 |x,e,h=>Q x e h
def atC{X:Type}(J:Ann)(F:zwk (xg J) X)(e:Env)(k:X->Prop):Prop:=
 match za5 (ze3 e) J with
 |some vs=>match zpv (xg J) vs F with
  |some q=>k q
  |none=>False
 |none=>False
def qcn(J:Ann)(rest:Env->zb->Prop)(F:(Env->zb->Prop)->Prop)(e0:Env):Prop:=
 ∀K:zwk (xg J) (zb->Prop),qcl (xg J) K (λvs q=>∀h,rest (Y4 J vs++e0) h->q h)->F λe h=>atC J K e λq=>q h
def qco(J:Ann)(body:(Env->zb->Prop)->Env->zb->Prop)(e0 e:Env)(h:zb):Prop:=
 ∃(I:zwk (xg J) (zb->Prop)) (μ:zwk (xg J) (zb->Nat)),(atC J (zwl (xg J) I μ) e λp=>p.1 h) /\
  qcl (xg J) (zwl (xg J) I μ) λvs p=>∀h,p.1 h->body (λe' h'=>atC J (zwl (xg J) I μ) e' λq=>q.1 h'/\q.2 h'<p.2 h) (Y4 J vs++e0) h
def W(P:Program)(n:Nat)(pl:Plan):Code->zkm->Env->zb->Prop
 |.skip,Q,e,h=>Q .normal e h
 |.ret,Q,e,h=>Q .ret e h
 |.exit id,Q,e,h=>Q (.exit id) e h
 |.label _,Q,e,h=>Q .normal e h
 |.goto l,Q,e,h=>Q (.goto l) e h
 |.region id ops draw,Q,e,h=>regionF P n pl.tails id ops draw (λe h=>Q .normal e h) e h
 |.seq x y,Q,e,h=>match z4g pl.joins (wv y)with
  |none=>W P n pl x (zwm (λe h=>W P n pl y Q e h) Q) e h
  |some J=>qcn J (λe h=>W P n pl y Q e h) (λK=>W P n pl x (zwm K Q) e h) (Xo (Q3 x) e)
 |.cond c x y,Q,e,h=>match za4 e [] c with
  |some (.bool b)=>(b=true->W P n pl x Q e h)/\(b=false->W P n pl y Q e h)
  |_=>False
 |.block id x,Q,e,h=>W P n pl x (zuc id Q) e h
 |.loop x,Q,e,h=>match z4g pl.loops (wv x)with
  |some J=>qco J (λQn e h=>W P n pl x (zwm Qn Q) e h) (Xo (Q3 x) e) e h
  |none=>False
 |_,_,_,_=>False
def qcp(n:Nat)(B:World)(ms:List Nat)(a0:Act)(Q:zkm):Exit->Act->World->Prop:=
 λx a w=>∃e d h,w=mk B d h/\Sat n e a/\Same ms a0 a/\Q x e h
theorem ze4{X:Type}{J:Ann}{F:zwk (xg J) X}{k:X->Prop}(h:atC J F e k):∃vs q,za5 (ze3 e) J=some vs/\zpv (xg J) vs F=some q/\k q:=by
 unfold atC at h
 split at h
 ·rename_i vs hv
  split at h
  ·rename_i q hq
   exact⟨vs,q,hv,hq,h⟩
  ·exact h.elim
 ·exact h.elim
theorem z8t(hm:P.follows .mixedOrders=true){pl:Plan}:∀(c:Code) (Q:zkm) (e:Env) (h:zb),W P n pl c Q e h ->
  ∀(B:World) (d:Nat) (a:Act),Sat n e a->c.wp P (qcp n B (Q3 c) a Q) a (mk B d h):=by
 intro c
 induction c with
 |skip=>exact λQ e h H B d a hs=>wp_skip ⟨e,d,h,rfl,hs,Same.refl _ _,H⟩
 |ret=>exact λQ e h H B d a hs=>wp_ret ⟨e,d,h,rfl,hs,Same.refl _ _,H⟩
 |exit id=>exact λQ e h H B d a hs=>wp_exit ⟨e,d,h,rfl,hs,Same.refl _ _,H⟩
 |label l=>exact λQ e h H B d a hs=>wp_label ⟨e,d,h,rfl,hs,Same.refl _ _,H⟩
 |goto l=>exact λQ e h H B d a hs=>wp_goto ⟨e,d,h,rfl,hs,Same.refl _ _,H⟩
 |region id ops az=>
  exact λQ e h H B d a hs=>zdb hm H B d hs λe' a' d' h' q1 q2 q3=>⟨e',d',h',rfl,q1,q2,q3⟩
 |seq x y aa Z=>
  intro Q e h H B d a hs
  simp only[W]at H
  have hl:∀i∈Q3 x,i∈Q3 (x.seq y):=λi hi=>Aq _ hi
  have hr:∀i∈Q3 y,i∈Q3 (x.seq y):=λi hi=>AC _ hi
  split at H
  ·refine wp_seq (wp_mono (aa _ _ _ H B d a hs) ?_)
   rintro ex a1 w1 ⟨e1,d1,h1,rfl,s1,m1,q1⟩
   cases ex with
   |normal=>
    refine wp_mono (Z _ _ _ q1 B d1 a1 s1) ?_
    rintro ex a2 w2 ⟨e2,d2,h2,rfl,s2,m2,q2⟩
    exact⟨e2,d2,h2,rfl,s2,(m1.mono hl).trans (m2.mono hr),q2⟩
   |_=>exact⟨e1,d1,h1,rfl,s1,m1.mono hl,q1⟩
  ·rename_i J hJ
   have H':=H (mkC (xg J) λvs=>λh=>W P n pl y Q (Y4 J vs++Xo (Q3 x) e) h) (zm7 λvs h hq=>hq)
   refine wp_seq (wp_mono (aa _ _ _ H' B d a hs) ?_)
   rintro ex a1 w1 ⟨e1,d1,h1,rfl,s1,m1,q1⟩
   cases ex with
   |normal=>
    obtain⟨vs,q,hv,hq,hk⟩:=ze4 q1
    have ay:=zm6 hq
    subst ay
    have ap:Sat n (Y4 J vs++Xo (Q3 x) e) a1:=zdc hs s1.defers s1.size m1 (wn s1 hv)
    refine wp_mono (Z _ _ _ hk B d1 a1 ap) ?_
    rintro ex a2 w2 ⟨e2,d2,h2,rfl,s2,m2,q2⟩
    exact⟨e2,d2,h2,rfl,s2,(m1.mono hl).trans (m2.mono hr),q2⟩
   |_=>exact⟨e1,d1,h1,rfl,s1,m1.mono hl,q1⟩
 |cond c x y aa Z=>
  intro Q e h H B d a hs
  simp only[W]at H
  have hl:∀i∈Q3 x,i∈Q3 (EK c x y):=λi hi=>Aq _ hi
  have hr:∀i∈Q3 y,i∈Q3 (EK c x y):=λi hi=>AC _ hi
  split at H
  ·rename_i b hb
   refine wp_cond_split (j6 hs (c:=[]) trivial hb) (λan=>?_) (λax=>?_)
   ·refine wp_mono (aa _ _ _ (H.1 an) B d a hs) ?_
    rintro ex a2 w2 ⟨e2,d2,h2,rfl,s2,m2,q2⟩
    exact⟨e2,d2,h2,rfl,s2,m2.mono hl,q2⟩
   ·refine wp_mono (Z _ _ _ (H.2 ax) B d a hs) ?_
    rintro ex a2 w2 ⟨e2,d2,h2,rfl,s2,m2,q2⟩
    exact⟨e2,d2,h2,rfl,s2,m2.mono hr,q2⟩
  ·exact H.elim
 |block id x ih=>
  intro Q e h H B d a hs
  refine wp_block (wp_mono (ih _ _ _ H B d a hs) ?_)
  rintro ex a1 w1 ⟨e1,d1,h1,rfl,s1,m1,q1⟩
  cases ex with
  |exit i=>
   simp only[zuc]at q1
   simp only[Exit.inBlock]
   by_cases hb:Nat.beq i id=true
   ·rw[if_pos (Al hb)]
    simp only[hb,cond_true]at q1
    exact⟨e1,d1,h1,rfl,s1,m1,q1⟩
   ·rw[if_neg (λhe=>hb (by rw[he];simp))]
    simp only[hb,cond_false]at q1
    exact⟨e1,d1,h1,rfl,s1,m1,q1⟩
  |_=>exact⟨e1,d1,h1,rfl,s1,m1,q1⟩
 |loop x ih=>
  intro Q e h H B d a hs
  simp only[W]at H
  split at H
  ·rename_i J hJ
   obtain⟨I,μ,h0,ac⟩:=H
   obtain⟨aj,p0,au,al,ak⟩:=ze4 h0
   let F:=zwl (xg J) I μ
   let at_:Act->Option ((zb->Prop)×(zb->Nat)):=λa1=>(za5 (λi=>some (zw a1 i)) J).bind λvs=>zpv (xg J) vs F
   refine wp_loop (λa1 w1=>∃d1 h1 vs p,w1=mk B d1 h1/\a1.defers=[]/\a1.tmps.size=n/\Same (Q3 x) a a1/\za5 (λi=>some (zw a1 i)) J=some vs/\zpv (xg J) vs F=some p/\p.1 h1)
    (λa1 w1=>match at_ a1 with|some p=>p.2 w1.heap|none=>0) ⟨d,h,aj,p0,rfl,hs.defers,hs.size,Same.refl _ _,wn hs au,al,ak⟩ ?_
   rintro a1 w1 ⟨d1,h1,vs,p,rfl,am,ah,O,hv,hp,hI⟩
   have s1:Sat n (Y4 J vs++Xo (Q3 x) e) a1:=zdc hs am ah O hv
   have hb:=zh6 hp ac h1 hI
   refine wp_mono (ih _ _ _ hb B d1 a1 s1) ?_
   rintro ex a2 w2 ⟨e2,d2,h2,rfl,s2,m2,q2⟩
   cases ex with
   |normal=>
    obtain⟨ai,q,ae,hq,ar,af⟩:=ze4 q2
    refine⟨⟨d2,h2,ai,q,rfl,s2.defers,s2.size,O.trans m2,wn s2 ae,hq,ar⟩,?_⟩
    have e1:at_ a1=some p:=by simp only[at_,hv,Cu];exact hp
    have e2:at_ a2=some q:=by simp only[at_,wn s2 ae,Cu];exact hq
    rw[e1,e2]
    exact af
   |_=>exact⟨e2,d2,h2,rfl,s2,O.trans m2,q2⟩
  ·exact H.elim
 |_=>exact λQ e h H=>H.elim
def zy0:Nat->List Value->Env
 |_,[]=>[]
 |i,v::vs=>(i,[],v)::zy0 (i+1) vs
def z3n(P:Program)(h:zb)(e:Env):List ResultVar->(List Value->Prop)->Prop
 |[],K=>K []
 |.tmp t::l,K=>match ze3 e t with
  |some v=>z3n P h e l λvs=>K (v::vs)
  |none=>False
 |.cell a t::l,K=>match ze3 e a with
  |some p=>zmz P h t p none λv=>z3n P h e l λvs=>K (v::vs)
  |none=>False
def zkn:List Value->Value
 |[v]=>v
 |vs=>.tuple vs.toArray
def qef(P:Program)(rs:List ResultVar)(R:Value->zb->Prop):zkm
 |.normal,e,h=>z3n P h e rs λvs=>R (zkn vs) h
 |.ret,e,h=>z3n P h e rs λvs=>R (zkn vs) h
 |_,_,_=>False
def zh7(tmps:Array Value):ResultVar->Sem Value
 |.tmp t=>pure (tmps.getD t undef)
 |.cell a t=>do loadVar t (<-asAddr (tmps.getD a undef))
theorem ze5{P:Program}{n:Nat}{h:zb}{e:Env}{a:Act}(hs:Sat n e a):∀{l:List ResultVar} {K:List Value->Prop},z3n P h e l K->∃vs,K vs/\vs.length=l.length/\QExec P (l.mapM (zh7 a.tmps)) h vs
 |[],K,H=>⟨[],H,rfl,λ_ _=>by simp⟩
 |.tmp t::l,K,H=>by
  simp only[z3n]at H
  split at H
  ·rename_i v hv
   obtain⟨vs,h1,h2,h3⟩:=ze5 hs H
   refine⟨v::vs,h1,by simp[h2],?_⟩
   rw[Ev]
   refine QExec.bind (x:=v) ?_ (h3.bind (QExec.pure _))
   rw[<-wb hs hv]
   exact QExec.pure _
  ·exact H.elim
 |.cell x t::l,K,H=>by
  simp only[z3n]at H
  split at H
  ·rename_i p hp
   obtain⟨v,hK,hq⟩:=zht H
   obtain⟨vs,h1,h2,h3⟩:=ze5 hs hK
   refine⟨v::vs,h1,by simp[h2],?_⟩
   rw[Ev]
   refine QExec.bind (x:=v) ?_ (h3.bind (QExec.pure _))
   have hx:a.tmps.getD x undef=p:=wb hs hp
   simp only[zh7,hx]
   have O:=hq trivial
   unfold Ef at O
   unfold zmz at H
   split at H
   ·exact O
   ·exact O
   ·exact H.elim
  ·exact H.elim
theorem Yj{fn:Func}(hs:Sat n e a){rs:List ResultVar}(hr:fn.results.toList=rs)(H:z3n P h e rs λvs=>R (zkn vs) h):
  ∃v,R v h/\QExec P (results fn a.tmps) h v:=by
 obtain⟨vs,h1,h2,h3⟩:=ze5 hs H
 refine⟨_,h1,?_⟩
 intro B d
 have e0:results fn a.tmps=(fn.results.mapM (zh7 a.tmps) >>= λvs=>Dv (if h:vs.size=1 then vs[0]else .tuple vs)):=by
  unfold results
  congr 1
 rw[e0,Array.mapM_eq_mapM_toList,hr,Sem.run_bind,Sem.run_map,h3 B d]
 simp only[Result.andThen_ok,Sem.run_pure]
 match vs,h2 with
 |[],_=>rfl
 |[v],_=>rfl
 |v::u::vs,_=>simp[zkn]
theorem zaq(args:Array Value)(k:Nat):∀(vs:List Value) (i:Nat),(∀j v,vs[j]?=some v->(args++Bm k undef).getD (i+j) undef=v) ->
  ∀x∈zy0 i vs,fact (λi=>(args++Bm k undef).getD i undef) x
 |[],_,_,x,hx=>by cases hx
 |v::vs,i,h,x,hx=>by
  simp only[zy0,Af]at hx
  rcases hx with rfl|hx
  ·exact⟨λ_=>h 0 v rfl,λhn=>absurd trivial hn⟩
  ·exact zaq args k vs (i+1) (λj u hj=>by have:=h (j+1) u (by simpa using hj);rwa[show i+(j+1)=i+1+j by omega]at this) x hx
theorem z8u(hm:P.follows .mixedOrders=true){fn:Func}{c:Code}(pl:Plan)(vs:List Value){rs:List ResultVar}(hf:P.funcs[f]?=some fn)(hb:fn.body=some c)(hr:fn.results.toList=rs)(hn:fn.ntmps=n)
  (hz:Nat.ble vs.length n=true) (H:W P n pl c (qef P rs R) (zy0 0 vs) h):XC P f vs.toArray h R:=by
 intro B d
 subst hn
 refine calls_of_wp hf hb ?_
 have Z:vs.length<=fn.ntmps:=BS hz
 have hs:Sat fn.ntmps (zy0 0 vs) { tmps:=vs.toArray++Bm (fn.ntmps-vs.toArray.size) undef,defers:=[] }:=by
  refine⟨rfl,by simp;omega,?_⟩
  refine zaq vs.toArray _ vs 0 λj v hj=>?_
  have O:j<vs.length:=by
   rcases AZ j vs.length with h|h
   ·exact h
   ·rw[Bu h]at hj;cases hj
  simp only[AH,Bq]
  rw[CN (by simpa using O)]
  simp[hj]
 refine wp_mono (z8t hm c _ _ _ H B d _ hs) ?_
 rintro ex a w ⟨e1,d1,h1,rfl,s1,m1,q1⟩
 cases ex with
 |normal=>
  obtain⟨v,hv,hq⟩:=Yj s1 hr q1
  exact⟨s1.defers,v,hq B d1,v,d1,h1,rfl,rfl,hv⟩
 |ret=>
  obtain⟨v,hv,hq⟩:=Yj s1 hr q1
  exact⟨s1.defers,v,hq B d1,v,d1,h1,rfl,rfl,hv⟩
 |_=>exact q1.elim
def codeOf(fn:Func):Code:=match fn.body with
 |some c=>c
 |none=>.skip
def Wl(fn:Func):Bool:=match fn.body with
 |some _=>true
 |none=>false
theorem zwn(hm:P.follows .mixedOrders=true)(pl:Plan)(vs:List Value){fn:Func}{rs:List ResultVar}(hf:P.funcs[f]?=some fn)(hb:Wl fn=true)(hr:fn.results.toList=rs)(hn:fn.ntmps=n)
  (hz:Nat.ble vs.length n=true) (H:W P n pl (codeOf fn) (qef P rs R) (zy0 0 vs) h):XC P f vs.toArray h R:=by
 have O:fn.body=some (codeOf fn):=by
  unfold Wl at hb
  unfold codeOf
  split at hb
  ·rename_i c hc;rw[hc]
  ·cases hb
 exact z8u hm pl vs hf O hr hn hz H
end
section
variable {n m k:Nat} {h h':zb} {a:Option Addr} {cs xs news:List Value} {v z:Value} {e t ty:TypeId} {P:Program}
theorem ww(h:zb)(o:Obj):(h.push o)[h.size]?=some o:=by simp
theorem zwo(k:Keep n h h'){a:Addr}(ha:a.block<n):zk h' a=zk h a:=by
 unfold zk;rw[k.get _ ha]
def Arr(n:Nat)(h:zb)(a:Option Addr)(cs:List Value):Prop:=
 cs=[]\/∃b o,a=some ⟨b,o,none⟩/\b<n/\∀i v,cs[i]?=some v->zk h ⟨b,o+i,none⟩=some v
theorem Arr.mono(H:Arr n h a cs)(hm:n<=m):Arr m h a cs:=by
 rcases H with e|⟨b,o,e,hb,hc⟩
 ·exact .inl e
 ·exact .inr ⟨b,o,e,by omega,hc⟩
theorem Arr.keep(H:Arr n h a cs)(k:Keep n h h'):Arr n h' a cs:=by
 rcases H with e|⟨b,o,e,hb,hc⟩
 ·exact .inl e
 ·exact .inr ⟨b,o,e,hb,λi v hi=>(zwo k (a:=⟨b,o+i,none⟩) hb).trans (hc i v hi)⟩
theorem zm(b o i:Nat):(⟨b,o,none⟩:Addr).add i=⟨b,o+i,none⟩:=by
 unfold Aj
 split
 ·rename_i h;rw[h];rfl
 ·rfl
theorem Arr.cell(H:Arr n h a cs)(hv:cs[k]?=some v):∃p:Addr,a=some p/\zk h (p.add k)=some v:=by
 rcases H with e|⟨b,o,e,hb,hc⟩
 ·rw[e]at hv;simp at hv
 ·exact⟨⟨b,o,none⟩,e,by rw[zm];exact hc k v hv⟩
def Strs(n:Nat)(h:zb)(s:Sl)(xs:List Bt):Prop:=s.len=xs.length/\Arr n h s.a (xs.map AU)
theorem Strs.mono{s:Sl}{xs:List Bt}(H:Strs n h s xs)(hm:n<=m):Strs m h s xs:=⟨H.1,H.2.mono hm⟩
theorem Strs.keep{s:Sl}{xs:List Bt}(H:Strs n h s xs)(k:Keep n h h'):Strs n h' s xs:=⟨H.1,H.2.keep k⟩
theorem Strs.nil(n:Nat)(h:zb)(a:Option Addr)(c:Nat):Strs n h ⟨a,0,c⟩ []:=⟨rfl,.inl rfl⟩
theorem Yk(a:Option Addr)(sz m:Nat):Yw a sz 0 m=a:=by
 unfold Yw
 split
 ·rfl
 ·cases a with
  |none=>rfl
  |some p=>simp[Aj]
theorem wrap64{n:Int}(h1:-9223372036854775808<=n)(h2:n<=9223372036854775807):Aa .i64 n=n:=by
 unfold Aa
 have e:(2:Int) ^ Ap .i64=18446744073709551616:=by decide
 have e':(2:Int) ^ (Ap .i64-1)=9223372036854775808:=by decide
 simp only[e,e']
 have hs:Ec .i64=true:=rfl
 simp only[hs,Bi,decide_eq_true_eq]
 split <;> omega
theorem zy1(h:k<9223372036854775807):Aa .i64 ((k:Int)+1)=((k+1:Nat):Int):=by
 rw[wrap64 (by omega) (by omega)];omega
def Owns(h:zb)(base:Nat)(e:TypeId)(sz:Nat)(s:Sl)(xs:List Value):Prop:=
 (mk default 0 h).ownsRow base e sz (.slice s.a s.len s.cap) s.len xs
theorem Owns.nil(h:zb)(base:Nat)(e:TypeId)(sz:Nat):Owns h base e sz ⟨none,0,0⟩ []:=World.ownsRow_nil _ _ _ _
theorem Owns.length{base:Nat}{sz:Nat}{s:Sl}(H:Owns h base e sz s xs):xs.length=s.len*sz:=H.1
theorem Owns.arr{base:Nat}{sz:Nat}{s:Sl}(H:Owns h base e sz s xs):Arr h.size h s.a xs:=by
 rcases H.2 with⟨hv,h0⟩|⟨g,cap,aa,hv,hb,hg,ac,hm,ae,ht⟩
 ·have hl:=H.1
  rw[h0]at hl
  exact .inl (by simpa using hl)
 ·simp only[AO]at hv
  have Z:g<h.size:=(Ac.1 hg).1
  refine .inr ⟨g,0,hv.1,Z,λi v hi=>?_⟩
  have O:h[g]?=some (.cells aa e (0,0)):=hg
  unfold zk
  simp only[O,AH,Option.isSome_none,AW,if_false]
  rw[<-ht,AF]at hi
  split at hi
  ·simpa using hi
  ·cases hi
theorem Owns.base_le{base:Nat}{sz:Nat}{s:Sl}(H:Owns h base e sz s xs):∀p,s.a=some p->base<=p.block/\p.block<h.size:=by
 intro p hp
 exact World.ownsRow.lt H p.block (by simp[Value.ownBlock,hp])
theorem Owns.keep{base:Nat}{sz:Nat}{s:Sl}(H:Owns h base e sz s xs)(k:∀p,s.a=some p->h'[p.block]?=h[p.block]?):Owns h' base e sz s xs:=by
 refine⟨H.1,?_⟩
 rcases H.2 with hn|⟨g,cap,O,hv,hb,hg,rest⟩
 ·exact .inl hn
 ·simp only[AO]at hv
  refine .inr ⟨g,cap,O,by simp[hv],hb,?_,rest⟩
  have:=k _ hv.1
  exact this.trans hg
theorem Owns.keepN{base:Nat}{sz:Nat}{s:Sl}(H:Owns h base e sz s xs)(k:Keep h.size h h'):Owns h' base e sz s xs:=
 H.keep λp hp=>k.get _ (H.base_le p hp).2
structure ElemT (P:Program) (t e:TypeId) (z:Value) (sz bytes:Nat):Prop where
 slice:P.underlying t=some (.slice e)
 info:∃i,P.info? e=some i/\i.zero=some z/\i.size=sz/\i.bytes=bytes
 zero:z.cells.size=sz
 pos:0<sz
theorem zgb{w:World}{i:TypeInfo}{sz bytes base:Nat}(ht:P.underlying t=some (.slice e))(hi:P.info? e=some i)(hz:i.zero=some z)(aj:i.size=sz)(ak:i.bytes=bytes)(ac:w.ownsRow base e sz v n xs){a:Addr}{m c:Nat}(hl:news.length=m*sz)(Z:∀j u,news[j]?=some u->w.cell? (a.add j)=some u)(h1:∀u∈news,u.oneCell'=true)
  (au:n+m<=4611686018427387904) (aa:(n+m)*bytes<=140737488355328) {v':Value} {w':World} (r1:(Au #[t,t] ty #[v,.slice (some a) m c]).run P w=.ok v' w'):
  ∀p' l c',v'=.slice (some p') l c'->(∃p l0 c0,v=.slice (some p) l0 c0/\p'.block=p.block)\/p'.block=w.heap.size:=by
 subst aj ak
 intro p' l c' O
 rcases ac.2 with⟨rfl,rfl⟩|⟨g,cap,ah,rfl,ar,hg,an,ap,al,am⟩
 ·by_cases hm:m=0
  ·subst hm
   have hn:news=[]:=Av (by simpa using hl)
   subst hn
   have hr:(Au #[t,t] ty #[.slice none 0 0,.slice (some a) 0 c]).run P w=.ok (.slice none 0 0) w:=by
    simp[Au,run_underlying ht,sizeOf,typeInfo,hi,Builtin.lenOf,CC,loadCells,loadCellsFrom]
   rw[hr]at r1
   simp only[EX]at r1
   rw[<-r1.1]at O;cases O
  ·have hr:=run_append_nil (P:=P) (ty:=ty) w t e i z ht hi hz a m c news hl Z (by omega) (by omega) (by have hb:=aa;simp only[AH]at hb;omega)
   rw[hr]at r1
   simp only[EX]at r1
   rw[<-r1.1]at O
   simp only[AO,Ab]at O
   exact .inr (by rw[<-O.1])
 ·by_cases ae:n+m<=cap
  ·have ai:n*i.size+news.length<=ah.size:=by rw[hl,al,<-BH];exact AM _ ae
   have hr:=run_append_room (P:=P) (ty:=ty) w t e i ht hi g n cap ah hg a m c news hl Z h1 ae ai
   rw[hr]at r1
   simp only[EX]at r1
   rw[<-r1.1]at O
   simp only[AO,Ab]at O
   exact .inl ⟨_,_,_,rfl,by rw[<-O.1]⟩
  ·have af:∀j u,xs[j]?=some u->w.cell? ((⟨g,0,none⟩:Addr).add j)=some u:=ac.cells (g:=g) rfl
   have hr:=run_append_grow (P:=P) (ty:=ty) w t e i z ht hi hz ⟨g,0,none⟩ n cap xs ac.1 af a m c news hl Z (by omega) (by omega) (growslice_fits (by omega) aa)
   rw[hr]at r1
   simp only[EX]at r1
   rw[<-r1.1]at O
   simp only[AO,Ab]at O
   exact .inr (by rw[<-O.1])
theorem zar{sz bytes:Nat}(T:ElemT P t e z sz bytes){base:Nat}{s:Sl}(H:Owns h base e sz s xs)
  {src:Sl} (hs:Arr n h src.a news) (hl:news.length=src.len*sz) (h1:∀u∈news,u.oneCell'=true)
  (O:(s.len+src.len)*bytes<=140737488355328) (ac:s.len+src.len<=4611686018427387904) (ae:base<=h.size) {K:Value->zb->Prop}
  (hK:∀(s':Sl) (h':zb),s'.len=s.len+src.len->Owns h' base e sz s' (xs++news)->(∀i,i<h.size->(∀p,s.a=some p->i≠p.block)->h'[i]?=h[i]?)->h.size<=h'.size->(∀p',s'.a=some p'->(∃p,s.a=some p/\p'.block=p.block)\/p'.block=h.size)->K (.slice s'.a s'.len s'.cap) h'):
  XRun P (Au #[t,t] ty #[.slice s.a s.len s.cap,.slice src.a src.len src.cap]) h K:=by
 intro B d
 obtain⟨i,hi,hz,af,ah⟩:=T.info
 have key:∃v' w',(Au #[t,t] ty #[.slice s.a s.len s.cap,.slice src.a src.len src.cap]).run P (mk B d h)=.ok v' w'/\w'.ownsRow base e sz v' (s.len+src.len) (xs++news)/\(mk B d h).grownBy w' (Value.ownBlock (.slice s.a s.len s.cap)) /\
   ∀p' l c',v'=.slice (some p') l c'->(∃p,s.a=some p/\p'.block=p.block)\/p'.block=h.size:=by
  have Z:(mk B d h).ownsRow base e sz (.slice s.a s.len s.cap) s.len xs:=H
  rcases hs with e0|⟨b,o,e0,hb,hc⟩
  ·subst e0
   have h0:src.len=0:=by
    rcases DG src.len with h0|h0
    ·exact h0
    ·have:=Nat.mul_pos h0 T.pos;simp at hl;omega
   rw[h0]
   have ha:∃q,q=src.a:=⟨_,rfl⟩
   obtain⟨q,hq⟩:=ha
   rw[<-hq]
   cases q with
   |none=>
    refine⟨_,mk B d h,?_,by simpa using Z,⟨rfl,rfl,rfl,Ae _,λ_ _ _=>rfl⟩,λp' l c' aa=>.inl ⟨p',by simp only[AO]at aa;exact aa.1,rfl⟩⟩
    have hT:=T.slice
    have an:s.len<=s.cap:=by
     rcases Z.2 with⟨e1,e2⟩|⟨g,cap,am,e1,_,_,ap,_⟩
     ·omega
     ·simp only[AO]at e1;omega
    generalize s.a=sa at *
    cases sa <;> simp[Au,run_underlying hT,sizeOf,typeInfo,hi,Builtin.lenOf,CC,an,storeCells]
   |some p=>
    obtain⟨v',w',r1,r2,r3,_⟩:=run_append_own (P:=P) (w:=mk B d h) base t ty e i z sz bytes T.slice hi hz af ah T.zero T.pos (.slice s.a s.len s.cap) s.len xs Z p 0 src.cap [] (by simp) (by simp) (by simp) (by unfold maxLen;omega) (by rw[h0]at O;exact O) ae
    refine⟨v',w',r1,r2,r3,λp' l c' aa=>?_⟩
    rcases zgb T.slice hi hz af ah Z (news:=[]) (by simp) (by simp) (by simp) (by rw[h0]at ac;exact ac) (by rw[h0]at O;exact O) r1 p' l c' aa with⟨q,l0,c0,hq,hb⟩|hb
    ·simp only[AO]at hq;exact .inl ⟨q,hq.1,hb⟩
    ·exact .inr hb
  ·rw[e0]
   obtain⟨v',w',r1,r2,r3,_⟩:=run_append_own (P:=P) (w:=mk B d h) base t ty e i z sz bytes T.slice hi hz af ah T.zero T.pos (.slice s.a s.len s.cap) s.len xs Z ⟨b,o,none⟩ src.len src.cap news hl
    (λj u hu=>by rw[zm];exact hc j u hu) h1 (by unfold maxLen;omega) O ae
   refine⟨v',w',r1,r2,r3,λp' l c' aa=>?_⟩
   rcases zgb T.slice hi hz af ah Z hl (λj u hu=>by rw[zm];exact hc j u hu) h1 ac O r1 p' l c' aa with⟨q,l0,c0,hq,aj⟩|aj
   ·simp only[AO]at hq;exact .inl ⟨q,hq.1,aj⟩
   ·exact .inr aj
 obtain⟨v',w',r1,r2,r3,r4⟩:=key
 have hw:w'=mk B w'.drawn w'.heap:=by
  have e1:=r3.os;have e2:=r3.tape;have e3:=r3.output
  cases w';simp only[mk]at *;subst e1;subst e2;subst e3;rfl
 rw[hw]at r1
 have hv:∃s':Sl,v'=.slice s'.a s'.len s'.cap/\s'.len=s.len+src.len:=by
  rcases r2.2 with⟨e1,e2⟩|⟨g,cap,am,e1,_⟩
  ·exact⟨⟨none,0,0⟩,e1,e2.symm⟩
  ·exact⟨⟨some ⟨g,0,none⟩,s.len+src.len,cap⟩,e1,rfl⟩
 obtain⟨s',rfl,ai⟩:=hv
 refine⟨_,_,_,r1,hK s' w'.heap ai ?_ ?_ r3.size λp' ak=>r4 p' s'.len s'.cap (by rw[ak])⟩
 ·rw[<-ai]at r2;exact r2
 ·intro j hj al
  refine r3.block j hj λhe=>?_
  cases ha:s.a with
  |none=>rw[ha]at he;cases he
  |some p=>
   rw[ha]at he
   simp only[Value.ownBlock,Ab]at he
   exact al p ha he
end
section
variable {h:zb} {m:Nat} {P:Program} {kt t et:TypeId} {z:Value}
def zdd(l:List (Bt×Value))(k:Bt):Option Value:=match l with
 |[]=>none
 |p::l=>if p.1=k then some p.2 else zdd l k
def zy2(l:List (Bt×Value))(k:Bt)(v:Value):List (Bt×Value):=match l with
 |[]=>[(k,v)]
 |p::l=>if p.1=k then(k,v)::l else p::zy2 l k v
theorem zy3(l:List (Bt×Value))(k k':Bt)(v:Value):zdd (zy2 l k v) k'=if k=k' then some v else zdd l k':=by
 induction l with
 |nil=>simp[zy2,zdd]
 |cons p l ih=>
  simp only[zy2]
  split
  ·rename_i h
   simp only[zdd]
   split <;> rename_i h2
   ·rfl
   ·rw[h];simp[h2]
  ·rename_i h
   simp only[zdd,ih]
   split <;> rename_i h2
   ·rw[if_neg (λe=>h (h2.trans e.symm))]
   ·rfl
def MapAt(h:zb)(m:Nat)(l:List (Bt×Value)):Prop:=∃es O,h[m]?=some (.map es O)/\es.toList.map (λe=>(e.key,e.val))=l.map λp=>(AU p.1,p.2)
theorem MapAt.keep{h h':zb}{l:List (Bt×Value)}(H:MapAt h m l)(k:h'[m]?=h[m]?):MapAt h' m l:=by
 obtain⟨es,c,h1,h2⟩:=H;exact⟨es,c,k.trans h1,h2⟩
theorem MapAt.lt{l:List (Bt×Value)}(H:MapAt h m l):m<h.size:=by
 obtain⟨es,c,h1,h2⟩:=H;exact(Ac.1 h1).1
theorem MapAt.new(h:zb):MapAt (h.push (.map #[] 0)) h.size []:=⟨#[],0,ww _ _,rfl⟩
structure MapT (P:Program) (t kt et:TypeId) (z:Value):Prop where
 map:P.underlying t=some (.map kt et)
 key:P.underlying kt=some .string
 zero:∃i,P.info? et=some i/\i.zero=some z
theorem zlr(a b:Bt):(a==b)=decide (a=b):=by
 show ByteArray.beq a b=_
 cases a;cases b
 rw[AB]
 simp[ByteArray.beq]
instance lawfulBA:LawfulBEq Bt where
 eq_of_beq:=λ {a b} h=>by rw[zlr]at h;simpa using h
 rfl:=λ {a}=>by rw[zlr];simp
theorem Wm(k:Bt):∀(es:List MapEntry) (l:List (Bt×Value)) (i:Nat),es.map (λe=>(e.key,e.val))=l.map (λp=>(AU p.1,p.2)) ->
  (zdd l k=none/\Em .string (.string k) es i=some none)\/(∃j v e,zdd l k=some v/\es[j]?=some e/\e.key=.string k/\e.val=v/\Em .string (.string k) es i=some (some (i+j,v)) /\
   ∀w,(es.modify j λe=>{ e with key:=.string k,val:=w }).map (λe=>(e.key,e.val))=(zy2 l k w).map λp=>(AU p.1,p.2))
 |[],l,i,h=>by
  have:l=[]:=by cases l <;> simp_all
  subst this
  exact .inl ⟨rfl,rfl⟩
 |e::es,l,i,h=>by
  cases l with
  |nil=>simp at h
  |cons p l=>
   simp only[Dq,Cq,BG]at h
   obtain⟨⟨h1,h2⟩,h3⟩:=h
   by_cases hk:p.1=k
   ·refine .inr ⟨0,p.2,e,by simp[zdd,hk],rfl,by rw[h1,hk],h2,?_,λw=>?_⟩
    ·have O:(k==p.1)=true:=by rw[zlr];simpa using hk.symm
     simp[Em,Instr.sameNow,h1,h2,O]
    ·simp[zy2,hk,h3]
   ·have O:(k==p.1)=false:=by rw[zlr];simpa using λe=>hk e.symm
    rcases Wm k es l (i+1) h3 with⟨g1,g2⟩|⟨j,v,e',g1,g2,g3,g4,g5,g6⟩
    ·refine .inl ⟨by simp[zdd,hk,g1],?_⟩
     simp[Em,Instr.sameNow,h1,O,g2]
    ·refine .inr ⟨j+1,v,e',by simp[zdd,hk,g1],by simpa using g2,g3,g4,?_,λw=>?_⟩
     ·simp[Em,Instr.sameNow,h1,O,g5];omega
     ·simp[zy2,hk,h1,h2,g6 w]
theorem Xp(hk:P.underlying kt=some .string)(b:Bool)(k:Bt)(h:zb):QExec P (Instr.checkKey b 10000 kt (.string k)) h ():=by
 intro B d
 have hq:=QExec.underlying (h:=h) hk B d
 unfold Instr.checkKey
 rw[Sem.run_bind,hq]
 rfl
theorem Z8(hk:P.underlying kt=some .string)(k:Bt)(es:List MapEntry)(r:Option (Nat×Value))(h:zb)(hf:Em .string (.string k) es 0=some r):
  QExec P (Instr.findKey kt (.string k) es) h r:=by
 intro B d
 have hq:=QExec.underlying (h:=h) hk B d
 unfold Instr.findKey
 rw[Sem.run_bind,hq]
 simp only[Result.andThen_ok,hf]
 rfl
theorem Jr{es:Array MapEntry}{c:Nat}(hm:h[m]?=some (.map es c)):QExec P (getObj m) h (.map es c):=by
 intro B d
 have:(mk B d h).heap[m]?=some (.map es c):=hm
 simp[getObj,Sem.run,this]
theorem zud(hz:∃i,P.info? t=some i/\i.zero=some z):QExec P (zeroValue t) h z:=by
 obtain⟨i,h1,h2⟩:=hz
 intro B d
 simp[zeroValue,typeInfo,program,h1,h2,Sem.run]
def zwp(l:List (Bt×Value))(k:Bt)(z:Value):Value:=(zdd l k).getD z
theorem zbq(T:MapT P t kt et z){l:List (Bt×Value)}(H:MapAt h m l)(k:Bt)(ok:Bool):
  QExec P (Eg t (.map (some m)) (.string k) ok) h (if ok then .tuple #[zwp l k z,.bool (zdd l k).isSome]else zwp l k z):=by
 obtain⟨es,c,h1,h2⟩:=H
 intro B d
 have hu:=QExec.underlying (h:=h) T.map B d
 have hg:=Jr (P:=P) h1 B d
 have hc:=Xp T.key es.isEmpty k h B d
 unfold Eg
 rw[Sem.run_bind,hu]
 simp only[Result.andThen_ok,Sem.run_bind,hg,Sem.run_pure,hc]
 rcases Wm k es.toList l 0 h2 with⟨g1,g2⟩|⟨j,v,e,g1,g2,g3,g4,g5,_⟩
 ·rw[Z8 T.key k es.toList none h g2 B d]
  have hz:=zud (h:=h) T.zero B d
  simp only[Result.andThen_ok,Sem.run_bind,hz,Sem.run_pure,zwp,g1]
  cases ok <;> rfl
 ·rw[Z8 T.key k es.toList _ h g5 B d]
  simp only[Result.andThen_ok,zwp,g1]
  cases ok <;> rfl
theorem zbr{l:List (Bt×Value)}{k:Bt}{v:Value}(g:zdd l k=none):zy2 l k v=l++[(k,v)]:=by
 induction l with
 |nil=>rfl
 |cons p l ih=>
  simp only[zdd]at g
  split at g
  ·cases g
  ·rename_i hp
   simp[zy2,hp,ih g]
theorem zy4(T:MapT P t kt et z){l:List (Bt×Value)}(H:MapAt h m l)(k:Bt)(v:Value){K:zb->Prop}
  (hK:∀h':zb,MapAt h' m (zy2 l k v)->h'.size=h.size->(∀i,i≠m->h'[i]?=h[i]?)->K h'):XRunU P (C4 t (.map (some m)) (.string k) v) h K:=by
 have Z:=H.lt
 obtain⟨es,c,h1,h2⟩:=H
 intro B d
 have hu:=QExec.underlying (h:=h) T.map B d
 have hg:=Jr (P:=P) h1 B d
 have hc:=Xp T.key false k h B d
 have O:∀o:Obj,(setObj m o).run P (mk B d h)=.ok () (mk B d (h.setIfInBounds m o)):=by
  intro o
  have:(mk B d h).heap[m]?=some (.map es c):=h1
  simp[setObj,Sem.run,this]
  rfl
 unfold C4
 rcases Wm k es.toList l 0 h2 with⟨g1,g2⟩|⟨j,v0,e,g1,g2,g3,g4,g5,g6⟩
 ·refine⟨d,h.setIfInBounds m (.map (es.push { key:=.string k,val:=v,born:=c }) (c+1)),?_,hK _ ⟨es.push { key:=.string k,val:=v,born:=c },c+1,by simp[Z],?_⟩ (by simp) (λi hi=>by rw[AL (Ne.symm hi)])⟩
  ·rw[Sem.run_bind,hu]
   simp only[Result.andThen_ok,Sem.run_bind,hg,hc]
   rw[Z8 T.key k es.toList none h g2 B d]
   simp only[Result.andThen_ok]
   exact O _
  ·rw[zbr g1]
   simp[h2]
 ·have ac:j<es.size:=by
   have:=(Az.1 g2).1
   simpa using this
  refine⟨d,_,?_,hK (h.setIfInBounds m (.map (es.modify j λe=>{ e with key:=.string k,val:=v }) c)) ⟨es.modify j λe=>{ e with key:=.string k,val:=v },c,by simp[Z],?_⟩ (by simp) (λi hi=>by rw[AL (Ne.symm hi)])⟩
  ·rw[Sem.run_bind,hu]
   simp only[Result.andThen_ok,Sem.run_bind,hg,hc]
   rw[Z8 T.key k es.toList _ h g5 B d]
   simp only[Result.andThen_ok,AH]
   have aa:((es[j]?).map (·.key)).getD (.string k)=.string k:=by
    have:es[j]?=some e:=by simpa using g2
    rw[this];exact g3
   rw[aa]
   have hs:Eo (.string k) (.string k)=pure (.string k):=by
    unfold Eo
    rw[if_pos (by show(k==k)=true;rw[zlr];simp)]
   rw[hs]
   exact O _
  ·have:=g6 v
   simpa using this
end
section
variable {h h':zb} {b n o:Nat} {cs:Array Value} {v:Value} {P:Program} {t:TypeId}
def Blk(h:zb)(b:Nat)(cs:Array Value):Prop:=∃T,h[b]?=some (.cells cs T (0,0))
theorem Blk.keep(H:Blk h b cs)(k:h'[b]?=h[b]?):Blk h' b cs:=by
 obtain⟨T,e⟩:=H;exact⟨T,k.trans e⟩
theorem Blk.keepN(H:Blk h b cs)(k:Keep n h h')(hb:b<n):Blk h' b cs:=H.keep (k.get b hb)
theorem Blk.new(h:zb)(cs:Array Value)(T:TypeId):Blk (h.push (.cells cs T)) h.size cs:=⟨T,ww _ _⟩
theorem Blk.lt(H:Blk h b cs):b<h.size:=by
 obtain⟨T,e⟩:=H;exact(Ac.1 e).1
theorem Blk.cell(H:Blk h b cs)(hv:cs[o]?=some v):zk h ⟨b,o,none⟩=some v:=by
 obtain⟨T,e⟩:=H
 unfold zk
 simp[e,hv]
theorem Blk.cellAdd{b o k:Nat}(H:Blk h b cs)(hv:cs[o+k]?=some v):zk h ((⟨b,o,none⟩:Addr).add k)=some v:=by
 rw[zm];exact H.cell hv
theorem Blk.ld{cs:List Value}(H:Blk h b cs.toArray):ze h ⟨b,0,none⟩ 0 cs:=by
 have key:∀(l:List Value) (i:Nat),(∀j v,l[j]?=some v->cs[i+j]?=some v)->ze h ⟨b,0,none⟩ i l:=by
  intro l
  induction l with
  |nil=>intro i _;trivial
  |cons v l ih=>
   intro i hi
   refine⟨?_,ih (i+1) λj u hu=>?_⟩
   ·rw[zm,AH]
    exact H.cell (by have:=hi 0 v rfl;simpa using this)
   ·have:=hi (j+1) u (by simpa using hu)
    rwa[show i+(j+1)=i+1+j by omega]at this
 exact key cs 0 λj v hv=>by simpa using hv
theorem Keep.setBlk(o:Obj)(hb:n<=b):Keep n h (h.setIfInBounds b o):=
 ⟨by simp,λi hi=>by rw[AL (by omega)]⟩
theorem zls(H:Blk h b cs)(B:World)(d:Nat):(mk B d h).frozen? ⟨b,o,none⟩=false:=by
 obtain⟨T,e⟩:=H
 have:(mk B d h).heap[b]?=some (.cells cs T (0,0)):=e
 simp[World.frozen?,this]
theorem zde{T:TypeId}(e:h[b]?=some (.cells cs T (0,0)))(ho:o<cs.size)(hv:v.oneCell'=true)(B:World)(d:Nat):
  (store ⟨b,o,none⟩ v).run P (mk B d h)=.ok () (mk B d (h.setIfInBounds b (.cells (cs.setIfInBounds o v) T (0,0)))):=by
 have hc:(mk B d h).cell? ⟨b,o,none⟩=some cs[o]:=Blk.cell (h:=h) ⟨T,e⟩ (by simp[ho])
 have hf:=zls (o:=o) (⟨T,e⟩:Blk h b cs) B d
 have O:(mk B d h).setCell ⟨b,o,none⟩ v=mk B d (h.setIfInBounds b (.cells (cs.setIfInBounds o v) T (0,0))):=by
  unfold World.setCell mk
  simp only
  congr 1
  have hb:b<h.size:=(Ac.1 e).1
  apply Array.ext_getElem?
  intro i
  rw[Array.getElem?_modify]
  by_cases hi:i=b
  ·subst hi
   have e':h[i]=.cells cs T (0,0):=by
    have:=AN hb
    rw[e]at this
    exact(Ax this).symm
   simp[hb,e']
  ·rw[if_neg (Ne.symm hi),AL (Ne.symm hi)]
 cases v with
 |agg x=>simp[Value.oneCell']at hv
 |tuple x=>simp[Value.oneCell']at hv
 |_=>simp only[store,Sem.run,hc,hf,AW,if_false,O]
theorem cells_one(hv:v.oneCell'=true):v.cells=#[v]:=by
 cases v <;> first|rfl|simp[Value.oneCell']at hv
theorem zdf(hi:jb P t=true)(hs:ja P t=1)(H:Blk h b cs)(ho:o<cs.size)(hv:v.oneCell'=true){K:zb->Prop}
  (hK:∀h':zb,Blk h' b (cs.setIfInBounds o v)->h'.size=h.size->(∀i,i≠b->h'[i]?=h[i]?)->K h'):XRunU P (Ai t (.pointer (some ⟨b,o,none⟩)) v) h K:=by
 obtain⟨T,e⟩:=H
 have hb:b<h.size:=(Ac.1 e).1
 intro B d
 refine⟨d,_,?_,hK (h.setIfInBounds b (.cells (cs.setIfInBounds o v) T (0,0))) ⟨T,by simp[hb]⟩ (by simp) λi hi=>by rw[AL (Ne.symm hi)]⟩
 have hz:=QExec.sizeOf (P:=P) (h:=h) (j7 hi).choose_spec B d
 unfold Ai Es
 simp only[Sem.run_bind,Sem.run_pure,Result.andThen_ok]
 unfold storeVar
 rw[Sem.run_bind,hz]
 simp only[Result.andThen_ok]
 rw[hs,cells_one hv]
 simp only[DZ,Ay,Dh,AH,ne_eq,not_true_eq_false,if_false]
 show Sem.run P (storeCells ⟨b,o,none⟩ [v]) _=_
 unfold storeCells
 rw[Sem.run_bind]
 have ha:(⟨b,o,none⟩:Addr).add 0=⟨b,o,none⟩:=by rw[zm];rfl
 rw[ha,zde e ho hv B d]
 rfl
theorem Qd{P:Program}{b:Nat}{T:TypeId}(B:World)(d:Nat):∀(vs:List Value) (i:Nat) (h:zb) (cs:Array Value),h[b]?=some (.cells cs T (0,0))->i+vs.length<=cs.size->(∀v∈vs,v.oneCell'=true) ->
  ∃h',(storeCells ⟨b,0,none⟩ vs i).run P (mk B d h)=.ok () (mk B d h')/\h'[b]?=some (.cells (cs.toList.take i++vs++cs.toList.drop (i+vs.length)).toArray T (0,0))/\h'.size=h.size/\∀j,j≠b->h'[j]?=h[j]?
 |[],i,h,cs,e,_,_=>⟨h,rfl,by simpa using e,rfl,λ_ _=>rfl⟩
 |v::vs,i,h,cs,e,hl,hv=>by
  have hb:b<h.size:=(Ac.1 e).1
  simp only[Ay]at hl
  have h1:=zde (P:=P) e (o:=i) (by omega) (hv v Ar) B d
  have e':(h.setIfInBounds b (.cells (cs.setIfInBounds i v) T (0,0)))[b]?=some (.cells (cs.setIfInBounds i v) T (0,0)):=by simp[hb]
  have O:i+1+vs.length<=(cs.setIfInBounds i v).size:=by rw[Cf];omega
  obtain⟨h',r1,r2,r3,r4⟩:=Qd (P:=P) B d vs (i+1) (h.setIfInBounds b (.cells (cs.setIfInBounds i v) T (0,0))) (cs.setIfInBounds i v) e' O λu hu=>hv u (Ah _ hu)
  refine⟨h',?_,?_,by rw[r3];simp,λj hj=>by rw[r4 j hj,AL (Ne.symm hj)]⟩
  ·unfold storeCells
   rw[Sem.run_bind,zm,AH,h1]
   simp only[Result.andThen_ok]
   exact r1
  ·rw[r2]
   congr 3
   have hi:i<cs.toList.length:=by simp;omega
   simp only[Array.toList_setIfInBounds,Ay]
   rw[List.take_set,List.drop_set_of_lt (by omega)]
   have e2:(cs.toList.take (i+1)).set i v=cs.toList.take i++[v]:=by
    rw[Ag hi,List.set_append_right _ _ (by simp;omega)]
    have:i-(cs.toList.take i).length=0:=by simp;omega
    rw[this];rfl
   rw[e2,show i+(vs.length+1)=i+1+vs.length by omega]
   simp
theorem zy5{t e:TypeId}{z:Value}{sz bytes:Nat}(T:ElemT P t e z sz bytes){g o n c:Nat}{X:TypeId}(hg:h[g]?=some (.cells cs X (0,0)))(hn:o+n*sz<=cs.size)(hz:∀v∈(Bv z.cells n).toList,v.oneCell'=true)
  (O:(Bv z.cells n).toList.length=n*sz) {ty:TypeId} {K:Value->zb->Prop}
  (hK:∀h':zb,h'[g]?=some (.cells (cs.toList.take o++(Bv z.cells n).toList++cs.toList.drop (o+n*sz)).toArray X (0,0))->h'.size=h.size->(∀i,i≠g->h'[i]?=h[i]?)->K (.tuple #[]) h') (ae:0<n):
  XRun P (Eb #[t] ty #[.slice (some ⟨g,o,none⟩) n c]) h K:=by
 intro B d
 have Z:∀(vs:List Value) (i:Nat) (w:World),(storeCells ⟨g,o,none⟩ vs i).run P w=(storeCells ⟨g,0,none⟩ vs (o+i)).run P w:=by
  intro vs
  induction vs with
  |nil=>intro i w;rfl
  |cons v vs ih=>
   intro i w
   unfold storeCells
   rw[Sem.run_bind,Sem.run_bind,zm,zm,AH]
   congr 1
   funext a w'
   exact ih (i+1) w'
 obtain⟨h',r1,r2,r3,r4⟩:=Qd (P:=P) B d (Bv z.cells n).toList (o+0) h cs hg (by rw[O];omega) hz
 refine⟨_,d,h',?_,hK h' (by rw[r2,O];simp) r3 r4⟩
 obtain⟨i,hi,ac,_,_⟩:=T.info
 have hu:=QExec.underlying (h:=h) T.slice B d
 have aa:=zud (P:=P) (h:=h) ⟨i,hi,ac⟩ B d
 have hs:=Z (Bv z.cells n).toList 0 (mk B d h)
 rw[r1]at hs
 unfold Eb
 simp only[DW,Dx]
 cases n with
 |zero=>omega
 |succ n=>
  rw[Sem.run_bind,hu]
  simp only[Result.andThen_ok]
  rw[Sem.run_bind,aa]
  simp only[Result.andThen_ok]
  rw[Sem.run_bind,hs]
  rfl
theorem Owns.base{h:zb}{base O:Nat}{e:TypeId}{sz:Nat}{s:Sl}{xs:List Value}(H:Owns h base e sz s xs)(hb:O<=base):Owns h O e sz s xs:=by
 refine⟨H.1,?_⟩
 rcases H.2 with hn|⟨g,cap,Z,hv,aa,rest⟩
 ·exact .inl hn
 ·exact .inr ⟨g,cap,Z,hv,by omega,rest⟩
end
end Go.X
end
section
namespace Go.X
variable {cs:List Value}
inductive Tr where
 |mk (kind:Int) (text:Bt) (keys:List Bt) (items:List Tr)
namespace Tr
@[reducible] def kind:Tr->Int|mk k _ _ _=>k
@[reducible] def text:Tr->Bt|mk _ s _ _=>s
@[reducible] def keys:Tr->List Bt|mk _ _ ks _=>ks
@[reducible] def items:Tr->List Tr|mk _ _ _ xs=>xs
@[simp] theorem eta(t:Tr):mk t.kind t.text t.keys t.items=t:=by cases t;rfl
instance:Inhabited Tr:=⟨mk 0 ⟨#[]⟩ [] []⟩
end Tr
inductive Ty where
 |int (k:IntKind)|bool|str|row (t:Ty)|tree|unit|pair (a b:Ty)|ptr (t:Ty)|iter|err
 deriving DecidableEq
@[reducible] def El:Ty->Type
 |.int _=>Int
 |.bool=>Bool
 |.str=>Bt
 |.row t=>List (El t)
 |.tree=>Tr
 |.unit=>Unit
 |.pair a b=>El a×El b
 |.ptr t=>El t
 |.iter=>Bt×Nat
 |.err=>Bool
def qcq:(t:Ty)->El t
 |.int _=>(0:Int)
 |.bool=>false
 |.str=>(⟨#[]⟩:Bt)
 |.row _=>[]
 |.tree=>default
 |.unit=>()
 |.pair a b=>(qcq a,qcq b)
 |.ptr t=>qcq t
 |.iter=>(⟨#[]⟩,0)
 |.err=>true
def sz:Ty->Nat
 |.tree=>4
 |.unit=>0
 |.pair a b=>sz a+sz b
 |_=>1
abbrev Fr:=Nat->Option (Array Value)
def Fr.le(M M':Fr):Prop:=∀b cs,M b=some cs->M' b=some cs
theorem Fr.le.refl(M:Fr):Fr.le M M:=λ_ _ h=>h
theorem Fr.le.trans{a b c:Fr}(h:Fr.le a b)(k:Fr.le b c):Fr.le a c:=λ_ _ e=>k _ _ (h _ _ e)
def cut(cs:Array Value)(o n:Nat):List Value:=(cs.toList.drop o).take n
def RowAt(M:Fr){α:Type}(R:α->List Value->Prop)(z:Nat)(xs:List α)(v:Value):Prop:=
 ∃a c,v=.slice a xs.length c/\(xs.length<=140737488355328/\xs.length<=c)/\(xs=[]\/∃b o cs,a=some ⟨b,o,none⟩/\M b=some cs/\∀i (h:i<xs.length),R xs[i] (cut cs (o+i*z) z))
inductive TrRd (M:Fr):Tr->List Value->Prop where
 |mk {k:Int} {s:Bt} {ks:List Bt} {xs:List Tr} {vk:Value} {a:Option Addr} {c b o:Nat} {cs:Array Value}
  (hk:RowAt M (λs cs=>cs=[.string s]) 1 ks vk) (hn:xs.length<=140737488355328/\xs.length<=c) (hz:xs=[]\/(a=some ⟨b,o,none⟩/\M b=some cs))
  (hi:∀i (h:i<xs.length),TrRd M xs[i] (cut cs (o+i*4) 4)):TrRd M (.mk k s ks xs) [.int .i64 k,.string s,vk,.slice a xs.length c]
def Z9(s:Bt)(p:Nat):Value:=.iface 0 (.agg #[.string s,.int .i64 p])
def Rd(M:Fr):(t:Ty)->El t->List Value->Prop
 |.int k,i,cs=>cs=[.int k i]
 |.bool,b,cs=>cs=[.bool b]
 |.str,s,cs=>cs=[.string s]
 |.row t,xs,cs=>∃v,cs=[v]/\RowAt M (Rd M t) (sz t) xs v
 |.tree,t,cs=>TrRd M t cs
 |.unit,_,cs=>cs=[]
 |.pair a b,x,cs=>∃c1 c2,cs=c1++c2/\Rd M a x.1 c1/\Rd M b x.2 c2
 |.ptr t,x,cs=>∃b o cc,cs=[.pointer (some ⟨b,o,none⟩)]/\M b=some cc/\Rd M t x (cut cc o (sz t))
 |.iter,x,cs=>cs=[Z9 x.1 x.2]
 |.err,b,cs=>∃v,cs=[v]/\((b=true/\v=.nilIface)\/(b=false/\∃t u,v=.iface t u))
theorem RowAt.mono{M M':Fr}(hM:Fr.le M M'){α:Type}{R R':α->List Value->Prop}{z:Nat}{xs:List α}{v:Value}(H:RowAt M R z xs v)(hR:∀x∈xs,∀cs,R x cs->R' x cs):RowAt M' R' z xs v:=by
 obtain⟨a,c,e,hn,h⟩:=H
 refine⟨a,c,e,hn,h.imp id ?_⟩
 rintro⟨b,o,cs,e1,e2,h3⟩
 exact⟨b,o,cs,e1,hM _ _ e2,λi h=>hR _ (As _) _ (h3 i h)⟩
theorem TrRd.mono{M M':Fr}(hM:Fr.le M M'){t:Tr}(H:TrRd M t cs):TrRd M' t cs:=by
 induction H with
 |mk hk hn hz _ ih=>exact .mk (hk.mono hM λ_ _ _ h=>h) hn (hz.imp id λh=>⟨h.1,hM _ _ h.2⟩) ih
theorem Rd.mono{M M':Fr}(hM:Fr.le M M'):∀{t:Ty} {x:El t} {cs:List Value},Rd M t x cs->Rd M' t x cs
 |.int _,_,_,h=>h
 |.bool,_,_,h=>h
 |.str,_,_,h=>h
 |.row _,_,_,⟨v,e,h⟩=>⟨v,e,h.mono hM λ_ _ _ h=>Rd.mono hM h⟩
 |.tree,_,_,h=>TrRd.mono hM h
 |.unit,_,_,h=>h
 |.pair _ _,_,_,⟨c1,c2,e,h1,h2⟩=>⟨c1,c2,e,Rd.mono hM h1,Rd.mono hM h2⟩
 |.ptr _,_,_,⟨b,o,cc,e,h1,h2⟩=>⟨b,o,cc,e,hM _ _ h1,Rd.mono hM h2⟩
 |.iter,_,_,h=>h
 |.err,_,_,h=>h
theorem Rd.len{M:Fr}:∀{t:Ty} {x:El t} {cs:List Value},Rd M t x cs->cs.length=sz t
 |.int _,_,_,h=>by rw[h];rfl
 |.bool,_,_,h=>by rw[h];rfl
 |.str,_,_,h=>by rw[h];rfl
 |.row t,_,_,⟨v,e,_⟩=>by rw[e];rfl
 |.tree,_,_,h=>by cases h;rfl
 |.unit,_,_,h=>by rw[h];rfl
 |.pair _ _,_,_,⟨c1,c2,e,h1,h2⟩=>by rw[e,Ao,Rd.len h1,Rd.len h2];rfl
 |.ptr _,_,_,⟨b,o,cc,e,_⟩=>by rw[e];rfl
 |.iter,_,_,h=>by rw[h];rfl
 |.err,_,_,⟨v,e,_⟩=>by rw[e];rfl
theorem Rd.one{M:Fr}:∀{t:Ty} {x:El t} {cs:List Value},Rd M t x cs->∀v∈cs,v.oneCell'=true
 |.int _,_,_,h=>by rw[h];simp[Value.oneCell']
 |.bool,_,_,h=>by rw[h];simp[Value.oneCell']
 |.str,_,_,h=>by rw[h];simp[Value.oneCell']
 |.row t,_,_,⟨v,e,a,c,e2,_⟩=>by rw[e,e2];simp[Value.oneCell']
 |.tree,_,_,h=>by
  cases h with
  |mk hk _ _ _=>obtain⟨a,c,e,_⟩:=hk;rw[e];simp[Value.oneCell']
 |.unit,_,_,h=>by rw[h];simp
 |.pair _ _,_,_,⟨c1,c2,e,h1,h2⟩=>by
  intro v hv
  rw[e]at hv
  rcases An.1 hv with hv|hv
  ·exact Rd.one h1 v hv
  ·exact Rd.one h2 v hv
 |.ptr _,_,_,⟨b,o,cc,e,_⟩=>by rw[e];simp[Value.oneCell']
 |.iter,_,_,h=>by rw[h];simp[Value.oneCell',Z9]
 |.err,_,_,⟨v,e,h⟩=>by
  rw[e]
  rcases h with⟨_,rfl⟩|⟨_,t,u,rfl⟩ <;> simp[Value.oneCell']
theorem TrRd.keys{M:Fr}{t:Tr}(H:TrRd M t cs):∃vk vi,cs=[.int .i64 t.kind,.string t.text,vk,vi]/\Rd M (.row .str) t.keys [vk]/\Rd M (.row .tree) t.items [vi]:=by
 cases H with
 | @mk k s ks xs vk a c b o cs hk hn hz hi=>
  exact⟨vk,_,rfl,⟨vk,rfl,hk⟩,⟨_,rfl,a,c,rfl,hn,hz.imp id λh=>⟨b,o,cs,h.1,h.2,hi⟩⟩⟩
theorem TrRd.of{M:Fr}{k:Int}{s:Bt}{ks:List Bt}{xs:List Tr}{vk vi:Value}(h1:Rd M (.row .str) ks [vk])(h2:Rd M (.row .tree) xs [vi]):TrRd M (.mk k s ks xs) [.int .i64 k,.string s,vk,vi]:=by
 obtain⟨v,e,h1⟩:=h1
 obtain⟨v',e',a,c,e2,hn,h2⟩:=h2
 cases e;cases e';subst e2
 rcases h2 with rfl|⟨b,o,cs,e1,e2,h3⟩
 ·exact .mk (b:=0) (o:=0) (cs:=#[]) h1 hn (.inl rfl) λi h=>absurd h (by simp)
 ·exact .mk h1 hn (.inr ⟨e1,e2⟩) h3
def Bd:(t:Ty)->El t->Prop
 |.row _,xs=>xs.length<=140737488355328
 |.tree,t=>t.keys.length<=140737488355328/\t.items.length<=140737488355328
 |.pair a b,x=>Bd a x.1/\Bd b x.2
 |_,_=>True
theorem Rd.bd{M:Fr}:∀{t:Ty} {x:El t} {cs:List Value},Rd M t x cs->Bd t x
 |.int _,_,_,_=>trivial
 |.bool,_,_,_=>trivial
 |.str,_,_,_=>trivial
 |.row t,_,_,⟨v,_,a,c,_,h,_⟩=>h.1
 |.tree,_,_,h=>by
  cases h with
  |mk hk hn _ _=>obtain⟨a,c,e,h,_⟩:=hk;exact⟨h.1,hn.1⟩
 |.unit,_,_,_=>trivial
 |.pair _ _,_,_,⟨_,_,_,h1,h2⟩=>⟨Rd.bd h1,Rd.bd h2⟩
 |.ptr _,_,_,_=>trivial
 |.iter,_,_,_=>trivial
 |.err,_,_,_=>trivial
inductive AA where
 |v (x:Value)
 |d (t:Ty) (x:El t)
 |box (c o:Nat)
 |own (c:Nat)
 |oelt (c z:Nat) (i:Nat) (o:Nat)
 |elt (t:Ty) (x:El t) (o:Nat)
 |dc (t:Ty) (xs:List (El t))
inductive AG where
 |a (x:AA)
 |agg (l:List AA)
inductive AV where
 |g (x:AG)
 |tup (l:List AG)
 |nx (b:Bool) (p:Int) (c:Int)
structure Gh where
 M:Fr
 β:Nat->Nat
 σ:Nat->Sl
def All2{α β:Type}(R:α->β->Prop):List α->List β->Prop
 |[],[]=>True
 |x::xs,y::ys=>R x y/\All2 R xs ys
 |_,_=>False
def slV(s:Sl):Value:=.slice s.a s.len s.cap
def DenA(γ:Gh):AA->Value->Prop
 |.v x,u=>u=x
 |.d t x,u=>Rd γ.M t x [u]
 |.box c o,u=>u=.pointer (some ⟨γ.β c,o,none⟩)
 |.own c,u=>u=slV (γ.σ c)
 |.oelt c z i o,u=>∃g,(γ.σ c).a=some ⟨g,0,none⟩/\u=.pointer (some ⟨g,i*z+o,none⟩)
 |.elt t x o,u=>∃b f cs,u=.pointer (some ⟨b,f+o,none⟩)/\γ.M b=some cs/\Rd γ.M t x (cut cs f (sz t))
 |.dc t xs,u=>∃s:Sl,u=slV s/\s.cap=s.len/\Rd γ.M (.row t) xs [u]
def DenG(γ:Gh):AG->Value->Prop
 |.a x,u=>DenA γ x u
 |.agg l,u=>∃us,u=.agg us.toArray/\All2 (DenA γ) l us
def DenV(γ:Gh):AV->Value->Prop
 |.g x,u=>DenG γ x u
 |.tup l,u=>∃us,u=.tuple us.toArray/\All2 (DenG γ) l us
 |.nx b p c,u=>(b=true->u=.tuple #[.bool true,.int .i64 p,.int .i32 c])/\(b=false->u=.tuple #[.bool false])
theorem All2.length{α β:Type}{R:α->β->Prop}:∀{l:List α} {m:List β},All2 R l m->l.length=m.length
 |[],[],_=>rfl
 |[],_::_,h=>h.elim
 |_::_,[],h=>h.elim
 |_::_,_::_,h=>by simp[All2.length h.2]
theorem All2.imp{α β:Type}{R R':α->β->Prop}:∀{l:List α} {m:List β},All2 R l m->(∀x∈l,∀y,R x y->R' x y)->All2 R' l m
 |[],[],_,_=>trivial
 |[],_::_,h,_=>h.elim
 |_::_,[],h,_=>h.elim
 |_::_,_::_,h,k=>⟨k _ Ar _ h.1,All2.imp h.2 λx hx y hy=>k x (Ah _ hx) y hy⟩
theorem All2.append{α β:Type}{R:α->β->Prop}:∀{l l':List α} {m m':List β},All2 R l m->All2 R l' m'->All2 R (l++l') (m++m')
 |[],_,[],_,_,h=>h
 |[],_,_::_,_,h,_=>h.elim
 |_::_,_,[],_,h,_=>h.elim
 |_::_,_,_::_,_,h,k=>⟨h.1,All2.append h.2 k⟩
theorem All2.take{α β:Type}{R:α->β->Prop}:∀(n:Nat) {l:List α} {m:List β},All2 R l m->All2 R (l.take n) (m.take n)
 |0,_,_,_=>by simp[All2]
 |_+1,[],[],_=>trivial
 |_+1,[],_::_,h=>h.elim
 |_+1,_::_,[],h=>h.elim
 |n+1,_::_,_::_,h=>⟨h.1,All2.take n h.2⟩
theorem All2.drop{α β:Type}{R:α->β->Prop}:∀(n:Nat) {l:List α} {m:List β},All2 R l m->All2 R (l.drop n) (m.drop n)
 |0,_,_,h=>by simpa using h
 |_+1,[],[],_=>trivial
 |_+1,[],_::_,h=>h.elim
 |_+1,_::_,[],h=>h.elim
 |n+1,_::_,_::_,h=>by simpa using All2.drop n h.2
theorem All2.get{α β:Type}{R:α->β->Prop}:∀{l:List α} {m:List β} {i:Nat} {x:α},All2 R l m->l[i]?=some x->∃y,m[i]?=some y/\R x y
 |[],[],_,_,_,h=>by simp at h
 |[],_::_,_,_,h,_=>h.elim
 |_::_,[],_,_,h,_=>h.elim
 |_::_,y::_,0,_,h,e=>by simp at e;subst e;exact⟨y,rfl,h.1⟩
 |_::_,_::_,i+1,_,h,e=>by simpa using All2.get h.2 (by simpa using e)
def Js:(t:Ty)->El t->List AA
 |.int k,i=>[.v (.int k i)]
 |.bool,b=>[.v (.bool b)]
 |.str,s=>[.v (.string s)]
 |.row t,xs=>[.d (.row t) xs]
 |.tree,t=>[.v (.int .i64 t.kind),.v (.string t.text),.d (.row .str) t.keys,.d (.row .tree) t.items]
 |.unit,_=>[]
 |.pair a b,x=>Js a x.1++Js b x.2
 |.ptr t,x=>[.elt t x 0]
 |.iter,x=>[.d .iter x]
 |.err,x=>[.d .err x]
theorem Zi{γ:Gh}:∀{t:Ty} {x:El t} {cs:List Value},Rd γ.M t x cs->All2 (DenA γ) (Js t x) cs
 |.int _,_,_,h=>by rw[h];exact⟨rfl,trivial⟩
 |.bool,_,_,h=>by rw[h];exact⟨rfl,trivial⟩
 |.str,_,_,h=>by rw[h];exact⟨rfl,trivial⟩
 |.row t,_,_,⟨v,e,h⟩=>by rw[e];exact⟨⟨v,rfl,h⟩,trivial⟩
 |.tree,_,_,h=>by
  obtain⟨vk,vi,e,h1,h2⟩:=TrRd.keys h
  rw[e];exact⟨rfl,rfl,h1,h2,trivial⟩
 |.unit,_,_,h=>by rw[h];trivial
 |.pair _ _,_,_,⟨c1,c2,e,h1,h2⟩=>by rw[e];exact(Zi h1).append (Zi h2)
 |.ptr t,x,_,⟨b,o,cc,e,h1,h2⟩=>by rw[e];exact⟨⟨b,o,cc,rfl,h1,h2⟩,trivial⟩
 |.iter,x,_,h=>by rw[h];exact⟨rfl,trivial⟩
 |.err,x,_,⟨v,e,h⟩=>by rw[e];exact⟨⟨v,rfl,h⟩,trivial⟩
def zsb:Ty->Bool
 |.iter=>true
 |.err=>true
 |.pair a b=>bif zsb a then true else zsb b
 |_=>false
theorem Rd.noIt{M:Fr}:∀{t:Ty} {x:El t} {cs:List Value},zsb t=false->Rd M t x cs->∀s p,Z9 s p∉cs
 |.int _,_,_,_,h,s,p=>by rw[h];simp[Z9]
 |.bool,_,_,_,h,s,p=>by rw[h];simp[Z9]
 |.str,_,_,_,h,s,p=>by rw[h];simp[Z9]
 |.row t,_,_,_,⟨v,e,a,c,e2,_⟩,s,p=>by rw[e,e2];simp[Z9]
 |.tree,_,_,_,h,s,p=>by
  cases h with
  |mk hk _ _ _=>obtain⟨a,c,e,_⟩:=hk;rw[e];simp[Z9]
 |.unit,_,_,_,h,s,p=>by rw[h];simp
 |.pair a b,_,_,hi,⟨c1,c2,e,h1,h2⟩,s,p=>by
  simp only[zsb]at hi
  cases ha:zsb a with
  |true=>rw[ha]at hi;cases hi
  |false=>
   rw[ha]at hi
   rw[e]
   intro hm
   rcases An.1 hm with hm|hm
   ·exact Rd.noIt ha h1 s p hm
   ·exact Rd.noIt hi h2 s p hm
 |.ptr _,_,_,_,⟨b,o,cc,e,_⟩,s,p=>by rw[e];simp[Z9]
 |.iter,_,_,hi,_,_,_=>by cases hi
 |.err,_,_,hi,_,_,_=>by cases hi
def itB:List AA->Bool
 |[.d t _]=>zsb t
 |[.v (.iface _ _)]=>true
 |_=>false
theorem zue{γ:Gh}{l:List AA}{us:List Value}(h:itB l=false)(hd:All2 (DenA γ) l us)(s:Bt)(p:Nat):us≠[Z9 s p]:=by
 intro e
 subst e
 match l,hd with
 |[x],hd=>
  cases x with
  |v y=>rw[<-show Z9 s p=y from hd.1]at h;simp[itB,Z9]at h
  |d t y=>exact Rd.noIt (show zsb t=false from h) (show Rd γ.M t y [Z9 s p]from hd.1) s p (by simp)
  |box c o=>have:Z9 s p=_:=hd.1;simp[Z9]at this
  |own c=>have:Z9 s p=_:=hd.1;simp[Z9,slV]at this
  |oelt c z i o=>obtain⟨g,_,e⟩:=hd.1;simp[Z9]at e
  |elt t y o=>obtain⟨b,f,cs,e,_⟩:=hd.1;simp[Z9]at e
  |dc t xs=>obtain⟨s',e,_⟩:=hd.1;simp[Z9,slV]at e
 |[],hd=>exact hd.elim
 |_::_::_,hd=>exact hd.2.elim
inductive Ch where
 |box (l:List AA)
 |row (e:TypeId) (t:Ty) (xs:List (El t))
 |fz (t:Ty) (xs:List (El t))
abbrev CS:=List (Nat×Ch)
def Jt:CS->Nat->Option Ch
 |[],_=>none
 |(j,k)::l,i=>bif Nat.beq i j then some k else Jt l i
theorem qj{l:CS}{i:Nat}{k:Ch}(h:Jt l i=some k):(i,k)∈l:=by
 induction l with
 |nil=>cases h
 |cons x l ih=>
  obtain⟨j,k'⟩:=x
  simp only[Jt]at h
  by_cases hb:Nat.beq i j=true
  ·simp only[hb,cond_true,Ab]at h
   subst h
   rw[Al hb];exact Ar
  ·simp only[hb,cond_false]at h
   exact Ah _ (ih h)
def Yx(t t':Ty)(x:El t):Option (El t'):=if h:t=t' then some (h ▸ x)else none
theorem Wn{M:Fr}{t t':Ty}{x:El t}{y:El t'}(h:Yx t t' x=some y)(r:Rd M t x cs):Rd M t' y cs:=by
 unfold Yx at h
 split at h
 ·rename_i e
  subst e
  simp only[Ab]at h
  subst h;exact r
 ·cases h
def zko(cs:CS):(t:Ty)->AA->Option (El t)
 |.int k,.v (.int k' i)=>if k=k' then some i else none
 |.bool,.v (.bool b)=>some b
 |.str,.v (.string s)=>some s
 |.row t,.v (.slice none 0 0)=>some ([]:List (El t))
 |.row t,.d t' x=>Yx t' (.row t) x
 |.row t,.dc t' x=>Yx (.row t') (.row t) x
 |.row t,.own c=>match Jt cs c with
  |some (.fz t' xs)=>Yx (.row t') (.row t) xs
  |_=>none
 |.ptr t,.elt t' x 0=>Yx t' t x
 |.ptr t,.d t' x=>Yx t' (.ptr t) x
 |.iter,.d t' x=>Yx t' .iter x
 |.err,.d t' x=>Yx t' .err x
 |.err,.v .nilIface=>some true
 |.err,.v (.iface _ _)=>some false
 |_,_=>none
def collect(cs:CS):(t:Ty)->List AA->Option (El t×List AA)
 |.unit,l=>some ((),l)
 |.pair a b,l=>match collect cs a l with
  |some (x,l')=>match collect cs b l' with
   |some (y,l'')=>some ((x,y),l'')
   |none=>none
  |none=>none
 |.tree,k::s::ks::xs::l=>match zko cs (.int .i64) k,zko cs .str s,zko cs (.row .str) ks,zko cs (.row .tree) xs with
  |some k,some s,some ks,some xs=>some (Tr.mk k s ks xs,l)
  |_,_,_,_=>none
 |.tree,_=>none
 |t,x::l=>match zko cs t x with
  |some y=>some (y,l)
  |none=>none
 |_,[]=>none
def z3o(γ:Gh)(cs:CS):Prop:=∀c t xs,(c,Ch.fz t xs)∈cs->Rd γ.M (.row t) xs [slV (γ.σ c)]
theorem wy{γ:Gh}{cs:CS}(hf:z3o γ cs){t:Ty}{x:AA}{y:El t}(h:zko cs t x=some y){u:Value}(hd:DenA γ x u):Rd γ.M t y [u]:=by
 unfold zko at h
 split at h
 ·split at h
  ·rename_i hk;simp only[Ab]at h;subst h;subst hk;exact congrArg (λu=>[u]) hd
  ·cases h
 ·simp only[Ab]at h;subst h;exact congrArg (λu=>[u]) hd
 ·simp only[Ab]at h;subst h;exact congrArg (λu=>[u]) hd
 ·simp only[Ab]at h;subst h
  exact⟨u,rfl,none,0,hd,by simp,.inl rfl⟩
 ·exact Wn h hd
 ·obtain⟨s,_,_,hd⟩:=hd
  exact Wn h hd
 ·split at h
  ·rename_i t' xs O
   rw[show u=_ from hd]
   exact Wn h (hf _ _ _ (qj O))
  ·cases h
 ·rename_i t t' x
  obtain⟨b,f,cs',e,h1,h2⟩:=hd
  exact⟨b,f,cs',by rw[e];rfl,h1,by
   unfold Yx at h
   split at h
   ·rename_i e;subst e;simp only[Ab]at h;subst h;exact h2
   ·cases h⟩
 ·exact Wn h hd
 ·exact Wn h hd
 ·exact Wn h hd
 ·simp only[Ab]at h;subst h;exact⟨u,rfl,.inl ⟨rfl,hd⟩⟩
 ·rename_i t' x';simp only[Ab]at h;subst h;exact⟨u,rfl,.inr ⟨rfl,_,_,hd⟩⟩
 ·cases h
theorem Ju{γ:Gh}{cs:CS}(hf:z3o γ cs):∀{t:Ty} {l l':List AA} {y:El t},collect cs t l=some (y,l')->∀{us:List Value},All2 (DenA γ) l us->∃c1 c2,us=c1++c2/\Rd γ.M t y c1/\All2 (DenA γ) l' c2
 |.unit,l,l',y,h,us,hu=>by
  simp only[collect,Ab,BG]at h
  obtain⟨_,rfl⟩:=h
  exact⟨[],us,rfl,rfl,hu⟩
 |.pair a b,l,l',y,h,us,hu=>by
  simp only[collect]at h
  split at h
  ·rename_i x l1 h1
   split at h
   ·rename_i z l2 h2
    simp only[Ab,BG]at h
    obtain⟨rfl,rfl⟩:=h
    obtain⟨c1,c2,rfl,r1,r2⟩:=Ju hf h1 hu
    obtain⟨c3,c4,rfl,r3,r4⟩:=Ju hf h2 r2
    exact⟨c1++c3,c4,by simp,⟨c1,c3,rfl,r1,r3⟩,r4⟩
   ·cases h
  ·cases h
 |.tree,l,l',y,h,us,hu=>by
  match l,us,hu,h with
  |k::s::ks::xs::l,u1::u2::u3::u4::us,hu,h=>
   simp only[collect]at h
   split at h
   ·rename_i k' s' ks' O h1 h2 h3 h4
    simp only[Ab,BG]at h
    obtain⟨rfl,rfl⟩:=h
    obtain⟨d1,d2,d3,d4,d5⟩:=hu
    have r1:=wy hf h1 d1
    have r2:=wy hf h2 d2
    have r3:=wy hf h3 d3
    have r4:=wy hf h4 d4
    refine⟨[u1,u2,u3,u4],us,rfl,?_,d5⟩
    have e1:[u1]=[E5 .i64 k']:=r1
    have e2:[u2]=[AU s']:=r2
    cases e1;cases e2
    exact TrRd.of r3 r4
   ·cases h
  |[],_,_,h=>simp[collect]at h
  |[_],_,_,h=>simp[collect]at h
  |[_,_],_,_,h=>simp[collect]at h
  |[_,_,_],_,_,h=>simp[collect]at h
  |_::_::_::_::_,[],hu,_=>exact hu.elim
  |_::_::_::_::_,[_],hu,_=>exact hu.2.elim
  |_::_::_::_::_,[_,_],hu,_=>exact hu.2.2.elim
  |_::_::_::_::_,[_,_,_],hu,_=>exact hu.2.2.2.elim
 |.int k,x::l,l',y,h,u::us,hu=>by
  simp only[collect]at h
  split at h
  ·rename_i z hz;simp only[Ab,BG]at h;obtain⟨rfl,rfl⟩:=h
   exact⟨[u],us,rfl,wy hf hz hu.1,hu.2⟩
  ·cases h
 |.bool,x::l,l',y,h,u::us,hu=>by
  simp only[collect]at h
  split at h
  ·rename_i z hz;simp only[Ab,BG]at h;obtain⟨rfl,rfl⟩:=h
   exact⟨[u],us,rfl,wy hf hz hu.1,hu.2⟩
  ·cases h
 |.str,x::l,l',y,h,u::us,hu=>by
  simp only[collect]at h
  split at h
  ·rename_i z hz;simp only[Ab,BG]at h;obtain⟨rfl,rfl⟩:=h
   exact⟨[u],us,rfl,wy hf hz hu.1,hu.2⟩
  ·cases h
 |.row _,x::l,l',y,h,u::us,hu=>by
  simp only[collect]at h
  split at h
  ·rename_i z hz;simp only[Ab,BG]at h;obtain⟨rfl,rfl⟩:=h
   exact⟨[u],us,rfl,wy hf hz hu.1,hu.2⟩
  ·cases h
 |.ptr _,x::l,l',y,h,u::us,hu=>by
  simp only[collect]at h
  split at h
  ·rename_i z hz;simp only[Ab,BG]at h;obtain⟨rfl,rfl⟩:=h
   exact⟨[u],us,rfl,wy hf hz hu.1,hu.2⟩
  ·cases h
 |.iter,x::l,l',y,h,u::us,hu=>by
  simp only[collect]at h
  split at h
  ·rename_i z hz;simp only[Ab,BG]at h;obtain⟨rfl,rfl⟩:=h
   exact⟨[u],us,rfl,wy hf hz hu.1,hu.2⟩
  ·cases h
 |.iter,_::_,_,_,_,[],hu=>hu.elim
 |.iter,[],_,_,h,_,_=>by simp[collect]at h
 |.err,x::l,l',y,h,u::us,hu=>by
  simp only[collect]at h
  split at h
  ·rename_i z hz;simp only[Ab,BG]at h;obtain⟨rfl,rfl⟩:=h
   exact⟨[u],us,rfl,wy hf hz hu.1,hu.2⟩
  ·cases h
 |.err,_::_,_,_,_,[],hu=>hu.elim
 |.err,[],_,_,h,_,_=>by simp[collect]at h
 |.int _,_::_,_,_,_,[],hu=>hu.elim
 |.bool,_::_,_,_,_,[],hu=>hu.elim
 |.str,_::_,_,_,_,[],hu=>hu.elim
 |.row _,_::_,_,_,_,[],hu=>hu.elim
 |.ptr _,_::_,_,_,_,[],hu=>hu.elim
 |.int _,[],_,_,h,_,_=>by simp[collect]at h
 |.bool,[],_,_,h,_,_=>by simp[collect]at h
 |.str,[],_,_,h,_,_=>by simp[collect]at h
 |.row _,[],_,_,h,_,_=>by simp[collect]at h
 |.ptr _,[],_,_,h,_,_=>by simp[collect]at h
end Go.X
end
