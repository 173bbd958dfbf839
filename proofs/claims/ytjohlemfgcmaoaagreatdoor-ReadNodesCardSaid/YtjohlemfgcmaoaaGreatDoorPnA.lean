/- A part of the proof: nothing is stated here for its own sake. -/
import Derived.Deep.Quiet
import Derived.StillTail
import Derived.Laws.Strings
import Derived.Laws.Cover3
import Derived.Laws.Pointers
import Derived.Laws.OwnMore
open _root_.Go.Addr renaming add->Af
open _root_.Array renaming getD_eq_getD_getElem?->BE,getElem?_append_left->Cn,getElem?_eq_getElem->AJ,getElem?_eq_some_iff->Ac,getElem?_push->B6,getElem?_setIfInBounds_ne->AO,getElem?_toList->BB,replicate->Be,size_setIfInBounds->A7
open _root_.Bool renaming and_eq_true->Bm,eq_iff_iff->Az,false_eq_true->A9,false_or->Dl,not_eq_true'->C3,true_and->Cf
open _root_.Go.Builtin renaming append_->AD,len_->Dz
open _root_.Classical renaming byContradiction->CC
open _root_.Go.Code renaming cond->DZ,region->D4
open _root_.Go.Deferred renaming ofValue->DC
open _root_.Go.Instr renaming findNow->DJ,indexAt->D3,loadAt->Dx,mapUpdate->DN,sliceAt->DI,storeAt->Aj,sureAddr->Dq
open _root_.Go.IntKind renaming bits->An,signed->C9,wrap->Aa
open _root_.List renaming all_eq_true->A4,cons_append->Bu,drop_eq_getElem_cons->Ay,eq_nil_iff_forall_not_mem->CG,getElem?_append_right->A6,getElem?_drop->AE,getElem?_eq_getElem->Ak,getElem?_eq_none->BN,getElem?_eq_some_iff->Au,getElem?_take->AC,getElem_mem->AM,getElem_of_mem->AY,length_append->Ar,length_cons->AI,length_eq_zero_iff->AW,length_erase_of_mem->CH,length_nil->Cv,length_range->Dn,mapM_cons->DW,map_cons->BZ,mem_append->Aw,mem_append_left->Ao,mem_append_right->Av,mem_cons->Ai,mem_cons_of_mem->Ag,mem_cons_self->Am,mem_of_getElem?->Ba,mem_range->BK,nil_append->Cu,nodup_append->BQ,nodup_cons->DO,nodup_range->C8,pairwise_append->Ck,pairwise_cons->BI,range->BO,take_append_drop->Ce,take_left->Dr,take_succ_cons->Cs,take_succ_eq_append_getElem->AH,take_zero->DV
open _root_.List.cons renaming injEq->BR
open _root_.Nat renaming add_sub_cancel_left->C7,add_zero->CQ,blt_eq->Cj,eq_of_beq_eq_true->Ah,eq_or_lt_of_le->Dh,le_of_ble_eq_true->BM,le_refl->Ad,le_trans->DU,lt_of_lt_of_le->Df,lt_or_ge->AF,sub_zero->CU,zero_add->AB,zero_le->CK
open _root_.Go.Next renaming value->Dg
open _root_.Go.Op renaming equal->Ea
open _root_.Option renaming bind_some->CF
open _root_.Option.some renaming inj->Aq,injEq->Ab
open _root_.Prod.mk renaming injEq->Br
open _root_.Pure renaming pure->CZ
open _root_.Go.Region renaming wanted->Bl
open _root_.Go.Value renaming int->D7,string->Di
open _root_.Go.Value.slice renaming injEq->Bb
set_option linter.unusedVariables false
set_option maxRecDepth 100000
namespace Go.X
end Go.X
namespace Go.Proofs
end Go.Proofs
open Go Go.X Go.Proofs
section
namespace Go.X
section
abbrev Bt:= ByteArray
variable {i n m:Nat} {v u:Value} {a:Act} {o:Oper}
abbrev zb:=Array Obj
abbrev zx:=List (Nat×Bool)
abbrev Env:=List (Nat×zx×Value)
def mk(B:World)(d:Nat)(h:zb):World:={ B with heap:=h,drawn:=d }
def look:Env->Nat->Option (zx×Value)
 |[],_=>none
 |(j,c,v)::e,i=>bif Nat.beq i j then some (c,v)else look e i
def valid(σ:Nat->Value):zx->Prop
 |[]=>True
 |(g,p)::c=>σ g=.bool p/\valid σ c
def zm(a:Act)(i:Nat):Value:=a.tmps.getD i undef
def fact(σ:Nat->Value)(x:Nat×zx×Value):Prop:=(valid σ x.2.1->σ x.1=x.2.2)/\(¬valid σ x.2.1->σ x.1=undef)
structure Sat (n:Nat) (e:Env) (a:Act):Prop where
 defers:a.defers=[]
 size:a.tmps.size=n
 all:∀x∈e,fact (zm a) x
def mentions:zx->Nat->Bool
 |[],_=>false
 |(g,_)::c,i=>bif Nat.beq i g then true else mentions c i
def del:Env->Nat->Env
 |[],_=>[]
 |(j,c,v)::e,i=>bif (bif Nat.beq i j then true else mentions c i)then del e i else(j,c,v)::del e i
def put(e:Env)(i:Nat)(c:zx)(v:Value):Env:=(i,c,v)::del e i
def putO(e:Env):Option Nat->zx->Value->Env
 |none,_,_=>e
 |some d,c,v=>put e d c v
def clean:Env->Env
 |[]=>[]
 |(j,[],v)::e=>(j,[],v)::clean e
 |(_,_::_,_)::e=>clean e
theorem Wy{e:Env}{c:zx}(h:look e i=some (c,v)):(i,c,v)∈e:=by
 induction e with
 |nil=>cases h
 |cons x e ih=>
  obtain⟨j,cj,vj⟩:=x
  simp only[look]at h
  by_cases hb:Nat.beq i j=true
  ·simp only[hb,cond_true,Ab,Br]at h
   obtain⟨rfl,rfl⟩:=h
   rw[Ah hb]
   exact Am
  ·simp only[hb,cond_false]at h
   exact Ag _ (ih h)
theorem z06{e:Env}{x:Nat×zx×Value}(h:x∈del e i):x∈e/\x.1≠i/\mentions x.2.1 i=false:=by
 induction e with
 |nil=>cases h
 |cons y e ih=>
  obtain⟨j,cj,vj⟩:=y
  simp only[del]at h
  by_cases hb:Nat.beq i j=true
  ·simp only[hb,cond_true]at h
   exact⟨Ag _ (ih h).1,(ih h).2⟩
  ·have ab:Nat.beq i j=false:=Bool.eq_false_iff.2 hb
   simp only[ab,cond_false]at h
   by_cases hm:mentions cj i=true
   ·simp only[hm,cond_true]at h
    exact⟨Ag _ (ih h).1,(ih h).2⟩
   ·have Z:mentions cj i=false:=by simpa using hm
    simp only[Z,cond_false]at h
    rcases Ai.1 h with rfl|h
    ·refine⟨Am,λaa=>?_,Z⟩
     simp only at aa
     rw[aa]at hb
     exact hb (by simp)
    ·exact⟨Ag _ (ih h).1,(ih h).2⟩
theorem ztv{e:Env}{x:Nat×zx×Value}(h:x∈clean e):x∈e/\x.2.1=[]:=by
 induction e with
 |nil=>cases h
 |cons y e ih=>
  obtain⟨j,cj,vj⟩:=y
  cases cj with
  |nil=>
   simp only[clean]at h
   rcases Ai.1 h with rfl|h
   ·exact⟨Am,rfl⟩
   ·exact⟨Ag _ (ih h).1,(ih h).2⟩
  |cons c cs=>
   simp only[clean]at h
   exact⟨Ag _ (ih h).1,(ih h).2⟩
theorem Sat.sub{e e':Env}(h:Sat n e a)(hs:∀x∈e',x∈e):Sat n e' a:=⟨h.defers,h.size,λx hx=>h.all x (hs x hx)⟩
theorem Sat.clean{n:Nat}{e:Env}{a:Act}(h:Sat n e a):Sat n (clean e) a:=h.sub λ_ hx=>(ztv hx).1
theorem xb{σ τ:Nat->Value}{c:zx}(hm:mentions c i=false)(h:∀j,j≠i->σ j=τ j):valid σ c↔valid τ c:=by
 induction c with
 |nil=>exact Iff.rfl
 |cons x c ih=>
  obtain⟨g,p⟩:=x
  simp only[mentions]at hm
  by_cases hb:Nat.beq i g=true
  ·simp[hb]at hm
  ·simp only[hb,cond_false]at hm
   have hg:g≠i:=λe=>hb (by rw[e];simp)
   simp only[valid,h g hg,ih hm]
theorem qi(hi:i<a.tmps.size):zm (a.put (some i) u) i=u:=by
 simp[zm,Act.put,hi]
theorem qe{i j:Nat}(h:j≠i):zm (a.put (some i) u) j=zm a j:=by
 simp[zm,Act.put,AO (Ne.symm h)]
theorem size_put(a:Act)(d:Option Nat)(u:Value):(a.put d u).tmps.size=a.tmps.size:=by
 cases d <;> simp[Act.put]
theorem zy(a:Act)(d:Option Nat)(u:Value):(a.put d u).defers=a.defers:=by
 cases d <;> simp[Act.put]
theorem Sat.put{n:Nat}{e:Env}{a:Act}(h:Sat n e a){i:Nat}{c:zx}{v u:Value}(hi:i<n)(hm:mentions c i=false)
  (hy:valid (zm a) c->u=v) (hn:¬valid (zm a) c->u=undef):Sat n (put e i c v) (a.put (some i) u):=by
 refine⟨by rw[zy];exact h.defers,by rw[size_put];exact h.size,λx hx=>?_⟩
 have aa:i<a.tmps.size:=by rw[h.size];exact hi
 rcases Ai.1 hx with rfl|hx
 ·have hv:=xb (σ:=zm (a.put (some i) u)) (τ:=zm a) hm (λj hj=>qe hj)
  refine⟨λhc=>?_,λhc=>?_⟩
  ·exact(qi aa).trans (hy (hv.1 hc))
  ·exact(qi aa).trans (hn (λZ=>hc (hv.2 Z)))
 ·obtain⟨h1,h2,h3⟩:=z06 hx
  have hv:=xb (σ:=zm (a.put (some i) u)) (τ:=zm a) h3 (λj hj=>qe hj)
  have hf:=h.all x h1
  refine⟨λhc=>?_,λhc=>?_⟩
  ·exact(qe h2).trans (hf.1 (hv.1 hc))
  ·exact(qe h2).trans (hf.2 (λZ=>hc (hv.2 Z)))
def qk(n:Nat)(c:zx):Option Nat->Bool
 |none=>true
 |some d=>bif mentions c d then false else Nat.blt d n
theorem Sat.putO{n:Nat}{e:Env}{a:Act}(h:Sat n e a){d:Option Nat}{c:zx}{v u:Value}(hd:qk n c d=true)
  (hy:valid (zm a) c->u=v) (hn:¬valid (zm a) c->u=undef):Sat n (putO e d c v) (a.put d u):=by
 cases d with
 |none=>exact h
 |some i=>
  simp only[qk]at hd
  by_cases hm:mentions c i=true
  ·simp[hm]at hd
  ·have Z:mentions c i=false:=by simpa using hm
   simp only[Z,cond_false]at hd
   exact h.put (by simpa[Cj]using hd) Z hy hn
def xd:zx->zx->Bool
 |[],[]=>true
 |(g,p)::c,(g',p')::c'=>bif Nat.beq g g' then(bif p then(bif p' then xd c c' else false)else(bif p' then false else xd c c'))else false
 |_,_=>false
theorem Q5:∀{c c':zx},xd c c'=true->c=c'
 |[],[],_=>rfl
 |[],_::_,h=>by simp[xd]at h
 |_::_,[],h=>by simp[xd]at h
 |(g,p)::c,(g',p')::c',h=>by
  simp only[xd]at h
  by_cases hb:Nat.beq g g'=true
  ·simp only[hb,cond_true]at h
   have e1:=Ah hb
   cases p <;> cases p' <;> simp at h <;> rw[e1,Q5 h]
  ·simp[hb]at h
def suf(cs:zx):zx->Bool
 |[]=>xd cs []
 |x::c=>bif xd cs (x::c)then true else suf cs c
theorem Q6{σ:Nat->Value}{cs:zx}:∀{c:zx},suf cs c=true->valid σ c->valid σ cs
 |[],h,_=>by rw[Q5 h];trivial
 |x::c,h,hv=>by
  simp only[suf]at h
  by_cases hb:xd cs (x::c)=true
  ·rw[Q5 hb];exact hv
  ·simp only[hb,cond_false]at h
   exact Q6 h hv.2
def Yr(e:Env)(c:zx):Operand->Option Value
 |.tmp t=>match look e t with
  |some (cs,v)=>bif suf cs c then some v else none
  |none=>none
 |.const v=>some v
 |.global g=>some (.pointer (some ⟨g,0,none⟩))
 |.func f=>some (.func (.func f) #[] #[])
theorem yc{e:Env}(h:Sat n e a){c:zx}(hc:valid (zm a) c){x:Operand}(hx:Yr e c x=some v):a.eval x=v:=by
 cases x with
 |tmp t=>
  simp only[Yr]at hx
  split at hx
  ·rename_i cs u hl
   by_cases hs:suf cs c=true
   ·simp only[hs,cond_true,Ab]at hx
    subst hx
    exact(h.all _ (Wy hl)).1 (Q6 hs hc)
   ·simp[hs]at hx
  ·cases hx
 |const u=>simp only[Yr,Ab]at hx;exact hx
 |global g=>simp only[Yr,Ab]at hx;exact hx
 |func f=>simp only[Yr,Ab]at hx;exact hx
def rho(e:Env)(c:zx)(x:Operand):Value:=match Yr e c x with
 |some v=>v
 |none=>undef
def known(e:Env)(c:zx):List Operand->Bool
 |[]=>true
 |x::l=>match Yr e c x with
  |some _=>known e c l
  |none=>false
theorem j6{e:Env}(h:Sat n e a){c:zx}(hc:valid (zm a) c){l:List Operand}(hk:known e c l=true):∀x∈l,a.eval x=rho e c x:=by
 induction l with
 |nil=>intro x hx;cases hx
 |cons y l ih=>
  intro x hx
  simp only[known]at hk
  split at hk
  ·rename_i v hv
   rcases Ai.1 hx with rfl|hx
   ·rw[yc h hc hv];simp[rho,hv]
   ·exact ih hk x hx
  ·cases hk
def jc:Op->Bool
 |.select _ _=>false
 |_=>true
theorem Qi{e:Env}(h:Sat n e a){c:zx}(hc:valid (zm a) c)(hs:jc o.op=true)(hk:known e c o.op.operands.toList=true):
  execOp a.eval o=execOp (rho e c) o:=
 execOp_congr o (λcs b hb=>by rw[hb]at hs;cases hs) λx hx=>j6 h hc hk x (by simpa using hx)
def yh(ops:Array Oper)(j:Nat):Option Nat:=match ops[j]? with
 |some o=>o.dst
 |none=>none
def Qv(ops:Array Oper)(e:Env):Option (Nat×Bool)->Option zx
 |none=>some []
 |some (j,p)=>match yh ops j with
  |some g=>match look e g with
   |some (cg,.bool _)=>some ((g,p)::cg)
   |_=>none
  |none=>none
def ztw(e:Env):zx->Option Bool
 |[]=>some true
 |(g,p)::c=>match look e g with
  |some (cg,.bool b)=>bif xd cg c then(match ztw e c with
    |some cb=>some (cb&&(bif p then b else !b))
    |none=>none)else none
  |_=>none
theorem zbf{b:Bool}:undef≠.bool b:=by simp[undef]
theorem X3{n:Nat}{e:Env}{a:Act}(h:Sat n e a):∀{c:zx} {b:Bool},ztw e c=some b->(b=true↔valid (zm a) c)
 |[],b,hb=>by simp only[ztw,Ab]at hb;simp[<-hb,valid]
 |(g,p)::c,b,hb=>by
  simp only[ztw]at hb
  split at hb
  ·rename_i cg bg hl
   by_cases hq:xd cg c=true
   ·simp only[hq,cond_true]at hb
    split at hb
    ·rename_i cb Z
     simp only[Ab]at hb
     have ih:=X3 h Z
     have hf:=h.all _ (Wy hl)
     rw[Q5 hq]at hf
     by_cases hv:valid (zm a) c
     ·have h1:zm a g=.bool bg:=hf.1 hv
      have h2:=ih.2 hv
      subst hb
      simp only[valid,h1,hv,h2,Cf,and_true,Value.bool.injEq]
      cases p <;> cases bg <;> simp
     ·have h1:cb=false:=by cases cb with|false=>rfl|true=>exact absurd (ih.1 rfl) hv
      subst hb
      simp[valid,hv,h1]
    ·cases hb
   ·simp[hq]at hb
  ·cases hb
theorem xq{ops:Array Oper}{e:Env}(h:Sat n e a){c:zx}(hc:Qv ops e o.guard=some c):
  Bl o (yielded ops a.tmps)=true↔valid (zm a) c:=by
 unfold Bl
 cases hg:o.guard with
 |none=>rw[hg]at hc;simp only[Qv,Ab]at hc;simp[<-hc,valid]
 |some jp=>
  obtain⟨j,p⟩:=jp
  rw[hg]at hc
  simp only[Qv]at hc
  split at hc
  ·rename_i g hd
   split at hc
   ·rename_i cg b hl
    simp only[Ab]at hc
    subst hc
    have aa:((ops[j]?).bind (·.dst))=some g:=by
     simp only[yh]at hd
     split at hd
     ·rename_i o' Z;simp[Z,hd]
     ·cases hd
    have hf:=h.all _ (Wy hl)
    have hy:yielded ops a.tmps j=some p↔zm a g=.bool p:=by
     unfold yielded zm
     rw[aa]
     simp only[CF]
     cases ht:a.tmps[g]? with
     |none=>simp[BE,ht,undef]
     |some v=>cases v <;> simp[BE,ht]
    simp only[beq_iff_eq,hy,valid]
    constructor
    ·intro h1
     refine⟨h1,?_⟩
     by_cases hv:valid (zm a) cg
     ·exact hv
     ·have:=hf.2 hv
      simp only at this
      rw[h1]at this
      exact absurd this.symm zbf
    ·exact λh1=>h1.1
   ·cases hc
  ·cases hc
structure Keep (n:Nat) (h h':zb):Prop where
 size:h.size<=h'.size
 get:∀i,i<n->h'[i]?=h[i]?
theorem Keep.refl(n:Nat)(h:zb):Keep n h h:=⟨Ad _,λ_ _=>rfl⟩
theorem Keep.trans{a b c:zb}(h:Keep n a b)(k:Keep m b c)(hm:n<=m):Keep n a c:=
 ⟨DU h.size k.size,λi hi=>(k.get i (Df hi hm)).trans (h.get i hi)⟩
theorem Keep.mono{a b:zb}(h:Keep n a b)(hm:m<=n):Keep m a b:=⟨h.size,λi hi=>h.get i (Df hi hm)⟩
theorem Keep.push(h:zb)(o:Obj)(hn:n<=h.size):Keep n h (h.push o):=
 ⟨by simp,λi hi=>by rw[B6,if_neg (by omega)]⟩
end
section
variable {P:Program} {α:Type} {h:zb} {v x i:Value} {t:TypeId} {g:Option Bool} {n l r:Int}
def zc(h:zb)(a:Addr):Option Value:=
 match h[a.block]? with
 |some (.cells c _ _)=>if a.spot.isSome then none else c[a.off]?
 |_=>none
theorem ztx(B:World)(d:Nat)(h:zb)(a:Addr):(mk B d h).cell? a=zc h a:=rfl
def Zl(P:Program){α:Type}:Sem α->Option α
 |.pure a=>some a
 |.program k=>Zl P (k P)
 |.mark _ k=>Zl P k
 |_=>none
def QExec(P:Program){α:Type}(s:Sem α)(h:zb)(x:α):Prop:=∀B d,s.run P (mk B d h)=.ok x (mk B d h)
theorem J4{s:Sem α}{x:α}(h:Zl P s=some x)(w:World):s.run P w=.ok x w:=by
 induction s with
 |pure a=>simp only[Zl,Ab]at h;subst h;rfl
 |program k ih=>exact ih P h
 |mark m k ih=>exact ih h
 |_=>simp[Zl]at h
theorem zgv{s:Sem α}{x:α}(h:Zl P s=some x)(hp:zb):QExec P s hp x:=λ_ _=>J4 h _
theorem QExec.bind{α β:Type}{s:Sem α}{f:α->Sem β}{x:α}{y:β}(h1:QExec P s h x)(h2:QExec P (f x) h y):QExec P (s >>= f) h y:=by
 intro B d
 rw[Sem.run_bind,h1 B d]
 exact h2 B d
theorem QExec.pure(x:α):QExec P (CZ x) h x:=λ_ _=>rfl
theorem QExec.val{s:Sem Value}(h1:QExec P s h v):QExec P (s >>= λx=>CZ (Dg x)) h (Dg v):=h1.bind (QExec.pure _)
theorem QExec.underlying{d:TypeDesc}(hd:P.underlying t=some d):QExec P (Go.underlying t) h d:=by
 intro B e
 simp[Go.underlying,program,hd,Sem.run]
def qy(P:Program)(t:TypeId):Nat:=match P.info? t with
 |some i=>i.size
 |none=>0
theorem QExec.sizeOf{i:TypeInfo}(hi:P.info? t=some i):QExec P (Go.sizeOf t) h (qy P t):=by
 intro B d
 simp[Go.sizeOf,typeInfo,program,hi,Sem.run,qy]
theorem info_of_underlying{d:TypeDesc}(hd:P.underlying t=some d):∃i,P.info? t=some i:=by
 unfold Program.underlying at hd
 cases h:P.info? t with
 |none=>rw[h]at hd;cases hd
 |some i=>exact⟨i,rfl⟩
inductive Atom where
 |int (k:IntKind)|bool|str|sl|mp|ptr|raw|ad
structure Sl where
 a:Option Addr
 len:Nat
 cap:Nat
@[reducible] def Atom.den:Atom->Type
 |.int _=>Int | .bool=>Bool | .str=>Bt | .sl=>Sl | .mp=>Option Nat | .ptr=>Option Addr | .raw=>Value | .ad=>Addr
def Atom.enc:(t:Atom)->t.den->Value
 |.int k,n=>.int k n
 |.bool,b=>.bool b
 |.str,s=>.string s
 |.sl,s=>.slice s.a s.len s.cap
 |.mp,m=>.map m
 |.ptr,p=>.pointer p
 |.raw,v=>v
 |.ad,p=>.pointer (some p)
def Atom.dec:(t:Atom)->Value->Option t.den
 |.int k,.int k' n=>if k=k' then some n else none
 |.bool,.bool b=>some b
 |.str,.string s=>some s
 |.sl,.slice a l c=>some ⟨a,l,c⟩
 |.mp,.map m=>some m
 |.ptr,.pointer p=>some p
 |.raw,v=>some v
 |.ad,.pointer (some p)=>some p
 |_,_=>none
theorem Atom.enc_of_dec{t:Atom}{x:t.den}(h:t.dec v=some x):t.enc x=v:=by
 cases t with
 |ad=>
  cases v with
  |pointer p=>
   cases p with
   |none=>simp[Atom.dec]at h
   |some a=>simp[Atom.dec]at h;rw[h];rfl
  |_=>simp[Atom.dec]at h
 |_=>cases v <;> simp_all[Atom.dec,Atom.enc] <;> (subst h;first|rfl|exact⟨rfl,rfl,rfl⟩)
inductive VT where
 |one (t:Atom)
 |agg (l:List Atom)
inductive RT where
 |one (v:VT)
 |tup (l:List VT)
def ziw:List Atom->(List Value->Prop)->Prop
 |[],F=>F []
 |t::l,F=>∃x:t.den,ziw l λvs=>F (t.enc x::vs)
def z8x:VT->(Value->Prop)->Prop
 |.one t,F=>∃x:t.den,F (t.enc x)
 |.agg l,F=>ziw l λvs=>F (.agg vs.toArray)
def z07:List VT->(List Value->Prop)->Prop
 |[],F=>F []
 |t::l,F=>z8x t λv=>z07 l λvs=>F (v::vs)
def zx9:RT->(Value->Prop)->Prop
 |.one v,F=>z8x v F
 |.tup l,F=>z07 l λvs=>F (.tuple vs.toArray)
def zbg:List Atom->(List Value->Prop)->Prop
 |[],F=>F []
 |t::l,F=>∀x:t.den,zbg l λvs=>F (t.enc x::vs)
def zty:VT->(Value->Prop)->Prop
 |.one t,F=>∀x:t.den,F (t.enc x)
 |.agg l,F=>zbg l λvs=>F (.agg vs.toArray)
def zhd:List VT->(List Value->Prop)->Prop
 |[],F=>F []
 |t::l,F=>zty t λv=>zhd l λvs=>F (v::vs)
def z4z:RT->(Value->Prop)->Prop
 |.one v,F=>zty v F
 |.tup l,F=>zhd l λvs=>F (.tuple vs.toArray)
theorem Zu:∀{l:List Atom} {F G:List Value->Prop},ziw l F->zbg l G->∃vs,vs.length=l.length/\F vs/\G vs
 |[],_,_,h,g=>⟨[],rfl,h,g⟩
 |_::_,_,_,⟨x,h⟩,g=>let ⟨vs,h0,h1,h2⟩:=Zu h (g x);⟨_,by simp[h0],h1,h2⟩
theorem jf:∀(l:List Atom),zbg l λ_=>True
 |[]=>trivial
 |_::l=>λ_=>jf l
theorem znn{v:VT}{F G:Value->Prop}(h:z8x v F)(g:zty v G):∃u,F u/\G u:=by
 cases v with
 |one t=>obtain⟨x,h⟩:=h;exact⟨_,h,g x⟩
 |agg l=>obtain⟨vs,_,h1,h2⟩:=Zu h g;exact⟨_,h1,h2⟩
theorem zno(v:VT):zty v λ_=>True:=by
 cases v with
 |one t=>exact λ_=>trivial
 |agg l=>exact jf l
theorem zix:∀{l:List VT} {F G:List Value->Prop},z07 l F->zhd l G->∃vs,F vs/\G vs
 |[],_,_,h,g=>⟨[],h,g⟩
 |_::_,_,_,h,g=>let ⟨_,h1,h2⟩:=znn h g;let ⟨_,h3,h4⟩:=zix h1 h2;⟨_,h3,h4⟩
theorem zdz:∀(l:List VT),zhd l λ_=>True
 |[]=>trivial
 |v::l=>by
  have h:=zdz l
  simp only[zhd]
  cases v with
  |one t=>exact λ_=>h
  |agg l'=>
   simp only[zty]
   have key:∀(l':List Atom) (f:List Value->List Value),zbg l' λ_=>zhd l λ_=>True:=λl' _=>by
    induction l' with
    |nil=>exact h
    |cons t l' ih=>exact λ_=>ih
   exact key l' id
theorem ztz{r:RT}{F G:Value->Prop}(h:zx9 r F)(g:z4z r G):∃v,F v/\G v:=by
 cases r with
 |one v=>exact znn h g
 |tup l=>obtain⟨vs,h1,h2⟩:=zix h g;exact⟨_,h1,h2⟩
theorem ze4{r:RT}{F:Value->Prop}(h:zx9 r F):∃v,F v:=by
 cases r with
 |one v=>obtain⟨u,h1,_⟩:=znn h (zno v);exact⟨u,h1⟩
 |tup l=>obtain⟨vs,h1,_⟩:=zix h (zdz l);exact⟨_,h1⟩
def z0f:TypeDesc->Atom
 |.int k=>.int k
 |.bool=>.bool
 |.string=>.str
 |.slice _=>.sl
 |.map _ _=>.mp
 |.pointer _=>.ptr
 |_=>.raw
def ziy(P:Program):Nat->TypeId->Option (List Atom)
 |0,_=>none
 |n+1,t=>match P.underlying t with
  |some (.struct fs)=>fs.toList.foldr (λf l=>match ziy P n f.type,l with
    |some x,some y=>some (x++y)
    |_,_=>none) (some [])
  |some (.array m e)=>match ziy P n e with
    |some x=>some (List.replicate m x).flatten
    |none=>none
  |some d=>some [z0f d]
  |none=>none
def zts(P:Program)(t:TypeId):Option VT:=match P.underlying t with
 |some (.struct _)|some (.array _ _)=>match ziy P 8 t with
  |some l=>bif Nat.beq l.length (qy P t)then some (.agg l)else none
  |none=>none
 |some d=>some (.one (z0f d))
 |none=>none
def z5a(P:Program):List TypeId->Option (List VT)
 |[]=>some []
 |t::l=>match zts P t,z5a P l with
  |some x,some y=>some (x::y)
  |_,_=>none
def z4q(P:Program)(t:TypeId):Option RT:=match P.underlying t with
 |some (.tuple ts)=>match z5a P ts.toList with
  |some l=>some (.tup l)
  |none=>none
 |_=>match zts P t with
  |some v=>some (.one v)
  |none=>none
def req:Option Bool->Prop->Prop
 |none,p=>p
 |some b,p=>b=true->p
def gok:Option Bool->Prop
 |none=>True
 |some b=>b=true
theorem req.out{p:Prop}(h:req g p)(hg:gok g):p:=by
 cases g with
 |none=>exact h
 |some b=>exact h hg
def zh(h:zb)(p:Addr):Nat->List Value->Prop
 |_,[]=>True
 |i,v::vs=>zc h (p.add i)=some v/\zh h p (i+1) vs
def ld(h:zb)(p:Addr):Value->Prop
 |.agg vs=>zh h p 0 vs.toList
 |v=>zc h p=some v
def ziz(P:Program)(h:zb)(t:TypeId)(p:Value)(g:Option Bool)(K:Value->Prop):Prop:=
 match p,zts P t with
 |.pointer (some p),some (.one a)=>∃x:a.den,req g (zc h p=some (a.enc x))/\K (a.enc x)
 |.pointer (some p),some (.agg l)=>ziw l λvs=>req g (zh h p 0 vs)/\K (.agg vs.toArray)
 |_,_=>False
theorem J5{P:Program}{h:zb}{p:Addr}:∀(vs:List Value) (i:Nat) (acc:Array Value),zh h p i vs->QExec P (loadCellsFrom p i vs.length acc) h (acc++vs.toArray)
 |[],i,acc,_=>by intro B d;simp[loadCellsFrom]
 |v::vs,i,acc,⟨h1,h2⟩=>by
  have ih:=J5 (P:=P) vs (i+1) (acc.push v) h2
  intro B d
  simp only[AI,loadCellsFrom,Sem.run_bind,run_load]
  rw[ztx,h1]
  simp only[Result.andThen_ok]
  rw[ih B d]
  simp
theorem zbh{a:Atom}{p:Addr}(ht:zts P t=some (.one a))(hc:zc h p=some v):QExec P (loadVar t p) h v:=by
 unfold zts at ht
 cases hu:P.underlying t with
 |none=>rw[hu]at ht;cases ht
 |some d=>
  rw[hu]at ht
  intro B e
  have hq:=QExec.underlying (h:=h) hu B e
  have Z:(isAgg t).run P (mk B e h)=.ok false (mk B e h):=by
   unfold isAgg
   rw[Sem.run_bind,hq]
   cases d <;> first|rfl|(exfalso;revert ht;dsimp only;split <;> first|(intro h;cases h;done)|(cases hb:Nat.beq _ _ <;> intro h <;> cases h))
  unfold loadVar
  rw[Sem.run_bind,Z]
  simp only[Result.andThen_ok,A9,if_false,run_load]
  rw[ztx,hc]
theorem zbi{l:List Atom}{p:Addr}{vs:List Value}(ht:zts P t=some (.agg l))(hl:vs.length=l.length)(hc:zh h p 0 vs):QExec P (loadVar t p) h (.agg vs.toArray):=by
 unfold zts at ht
 cases hu:P.underlying t with
 |none=>rw[hu]at ht;cases ht
 |some d=>
  rw[hu]at ht
  obtain⟨i,hi⟩:=info_of_underlying hu
  have Z:(∃fs,d=.struct fs)\/(∃n e,d=.array n e):=by
   cases d <;> first|exact Or.inl ⟨_,rfl⟩|exact Or.inr ⟨_,_,rfl⟩|(simp at ht)
  have aa:qy P t=l.length:=by
   have hm:(match ziy P 8 t with
     |some l=>bif Nat.beq l.length (qy P t)then some (VT.agg l)else none
     |none=>none)=some (.agg l):=by
    rcases Z with⟨fs,rfl⟩|⟨n,e,rfl⟩ <;> exact ht
   split at hm
   ·rename_i l' _
    cases hb:Nat.beq l'.length (qy P t)with
    |false=>rw[hb]at hm;cases hm
    |true=>
     rw[hb]at hm
     simp only[cond_true,Ab,VT.agg.injEq]at hm
     rw[<-hm];exact(Ah hb).symm
   ·cases hm
  intro B e
  have hq:=QExec.underlying (h:=h) hu B e
  have hA:(isAgg t).run P (mk B e h)=.ok true (mk B e h):=by
   unfold isAgg
   rw[Sem.run_bind,hq]
   rcases Z with⟨fs,rfl⟩|⟨n,e',rfl⟩ <;> rfl
  have hS:=QExec.sizeOf (h:=h) hi B e
  unfold loadVar
  rw[Sem.run_bind,hA]
  simp only[Result.andThen_ok,if_true]
  rw[Sem.run_bind,hS]
  simp only[Result.andThen_ok]
  have hL:=J5 (P:=P) vs 0 #[] hc B e
  unfold loadCells
  rw[Sem.run_bind,aa,<-hl,hL]
  simp
theorem ze5{p:Value}{K:Value->Prop}(H:ziz P h t p g K):
  ∃v,K v/\(gok g->QExec P (Dx t p) h v):=by
 unfold ziz at H
 split at H
 ·rename_i q a hv
  obtain⟨x,h1,h2⟩:=H
  exact⟨_,h2,λhg=>zbh hv (h1.out hg)⟩
 ·rename_i q l hv
  obtain⟨vs,h0,⟨h1,h2⟩,_⟩:=Zu H (jf l)
  exact⟨_,h2,λhg=>zbi hv h0 (h1.out hg)⟩
 ·exact H.elim
def zkz(P:Program)(t:TypeId)(x i:Value)(g:Option Bool)(K:Value->Prop):Prop:=
 match P.underlying t with
 |some (.slice el)=>match x,i with
  |.slice base len _,.int _ n=>∃a:Addr,req g (base=some a/\0<=n/\n<(len:Int))/\K (.pointer (some (a.add (n.toNat*qy P el))))
  |_,_=>False
 |some (.array len el)=>match x,i with
  |.pointer base,.int _ n=>∃a:Addr,req g (base=some a/\0<=n/\n<(len:Int))/\K (.pointer (some (a.add (n.toNat*qy P el))))
  |_,_=>False
 |_=>False
def ql(P:Program)(t:TypeId):Bool:=match P.info? t with
 |some _=>true
 |none=>false
theorem y8(h:ql P t=true):∃i,P.info? t=some i:=by
 unfold ql at h
 split at h
 ·exact⟨_,by assumption⟩
 ·cases h
theorem jy(t:TypeId)(B:World)(d:Nat):(∃i,P.info? t=some i)->(Go.sizeOf t).run P (mk B d h)=.ok (qy P t) (mk B d h):=λ⟨_,hi⟩=>QExec.sizeOf hi B d
theorem wa{K:Value->Prop}
  (Z:∀el,(P.underlying t=some (.slice el)\/∃n,P.underlying t=some (.array n el))->∃i,P.info? el=some i) (H:zkz P t x i g K):
  ∃v,K v/\(gok g->∀h:zb,QExec P (D3 t x i) h v):=by
 unfold zkz at H
 split at H
 ·rename_i el hu
  split at H
  ·rename_i base len cap k n
   obtain⟨a,h1,h2⟩:=H
   refine⟨_,h2,λhg=>?_⟩
   obtain⟨rfl,h3,h4⟩:=h1.out hg
   intro h B d
   have hq:=QExec.underlying (h:=h) hu B d
   have hs:=jy (h:=h) el B d (Z el (Or.inl hu))
   unfold D3
   simp[asIntOf,Sem.run_bind,hq,hs,h3,h4]
  ·exact H.elim
 ·rename_i len el hu
  split at H
  ·rename_i base k n
   obtain⟨a,h1,h2⟩:=H
   refine⟨_,h2,λhg=>?_⟩
   obtain⟨rfl,h3,h4⟩:=h1.out hg
   intro h B d
   have hq:=QExec.underlying (h:=h) hu B d
   have hs:=jy (h:=h) el B d (Z el (Or.inr ⟨_,hu⟩))
   unfold D3
   simp[asIntOf,Sem.run_bind,hq,hs,h3,h4,Dq]
  ·exact H.elim
 ·exact H.elim
def za(s:Bt)(i:Nat):Int:=((s.data[i]?.getD 0).toNat:Int)
def ze6(x i:Value)(g:Option Bool)(K:Value->Prop):Prop:=
 match x,i with
 |.string s,.int _ n=>req g (0<=n/\n<(s.size:Int))/\K (.int .u8 (za s n.toNat))
 |_,_=>False
theorem z5b(s:Bt)(i:Nat)(h:i<s.size):s[i]?=some (s.data[i]?.getD 0):=by
 have h':i<s.data.size:=h
 rw[getElem?_pos s i h]
 simp[AJ h']
 rfl
theorem J6{K:Value->Prop}(hu:P.underlying t=some .string)(H:ze6 x i g K):
  ∃v,K v/\(gok g->∀h:zb,QExec P (Instr.index t x i) h v):=by
 unfold ze6 at H
 split at H
 ·rename_i s k n
  obtain⟨h1,h2⟩:=H
  refine⟨_,h2,λhg=>?_⟩
  obtain⟨h3,h4⟩:=h1.out hg
  intro h B d
  have hq:=QExec.underlying (h:=h) hu B d
  unfold Instr.index
  have hb:=z5b s n.toNat (by omega)
  simp only[asIntOf,Sem.run_bind,hq,Sem.run_pure,Result.andThen_ok,h3,if_true,hb,za]
 ·exact H.elim
def zpu(a:Option Addr)(sz l m:Nat):Option Addr:=if m=l then a else a.map (·.add (l*sz))
def yq:Option Value->Int->Option Int
 |none,d=>some d
 |some (.int _ n),_=>some n
 |some _,_=>none
def zpv(P:Program)(t:TypeId)(x:Value)(lo hi mx:Option Value)(g:Option Bool)(K:Value->Prop):Prop:=
 match P.underlying t with
 |some .string=>match x,mx with
  |.string s,none=>match yq lo 0,yq hi (s.size:Int)with
   |some l,some r=>req g (0<=l/\l<=r/\r<=(s.size:Int))/\K (.string (s.extract l.toNat r.toNat))
   |_,_=>False
  |_,_=>False
 |some (.slice el)=>match x with
  |.slice a len cap=>match yq lo 0,yq hi (len:Int),yq mx (cap:Int)with
   |some l,some r,some m=>(mx=none\/∃v,hi=some v)/\req g (0<=l/\l<=r/\r<=m/\m<=(cap:Int))/\K (.slice (zpu a (qy P el) l.toNat m.toNat) (r.toNat-l.toNat) (m.toNat-l.toNat))
   |_,_,_=>False
  |_=>False
 |some (.array n el)=>match x,mx with
  |.pointer (some a),none=>match yq lo 0,yq hi (n:Int)with
   |some l,some r=>req g (0<=l/\l<=r/\r<=(n:Int))/\K (.slice (zpu (some a) (qy P el) l.toNat n) (r.toNat-l.toNat) (n-l.toNat))
   |_,_=>False
  |_,_=>False
 |_=>False
theorem y9{v:Option Value}{d n:Int}(h:yq v d=some n):(v=none/\n=d)\/∃k,v=some (.int k n):=by
 unfold yq at h
 split at h
 ·exact Or.inl ⟨rfl,by simpa using h.symm⟩
 ·simp only[Ab]at h
  exact Or.inr ⟨_,by rw[h]⟩
 ·cases h
theorem yv{k:IntKind}{y:Nat}{c:BoundsCode}(h0:0<=n)(h1:n<=(y:Int)):QExec P (Instr.sliceBound (.int k n) y c) h n.toNat:=by
 intro B d
 simp[Instr.sliceBound,asIntOf,h0,h1]
theorem zhe{n:Nat}{lo hi:Option Value}(hl:yq lo 0=some l)(hr:yq hi (n:Int)=some r)(h3:0<=l)(h4:l<=r)(h5:r<=(n:Int)):
  QExec P (Instr.sliceBounds false n n lo hi none) h (l.toNat,r.toNat,n):=by
 have e:(r.toNat:Int)=r:=Int.toNat_of_nonneg (by omega)
 rcases y9 hl with⟨rfl,rfl⟩|⟨k,rfl⟩ <;> rcases y9 hr with⟨rfl,rfl⟩|⟨k',rfl⟩
 ·exact QExec.pure _
 ·exact QExec.bind (QExec.pure n) (QExec.bind (yv (by omega) h5) (QExec.pure _))
 ·exact QExec.bind (QExec.pure n) (QExec.bind (QExec.pure n) (QExec.bind (yv h3 h4) (QExec.pure _)))
 ·exact QExec.bind (QExec.pure n) (QExec.bind (yv (by omega) h5) (QExec.bind (yv h3 (by omega)) (QExec.pure _)))
theorem zk0{len cap:Nat}{lo hi mx:Option Value}{l r m:Int}(hl:yq lo 0=some l)(hr:yq hi (len:Int)=some r)(hm:yq mx (cap:Int)=some m)
  (h0:mx=none\/∃v,hi=some v) (h3:0<=l) (h4:l<=r) (h5:r<=m) (h6:m<=(cap:Int)):
  QExec P (Instr.sliceBounds true len cap lo hi mx) h (l.toNat,r.toNat,m.toNat):=by
 have e:(r.toNat:Int)=r:=Int.toNat_of_nonneg (by omega)
 have e2:(m.toNat:Int)=m:=Int.toNat_of_nonneg (by omega)
 rcases y9 hm with⟨rfl,rfl⟩|⟨km,rfl⟩
 ·rcases y9 hl with⟨rfl,rfl⟩|⟨k,rfl⟩ <;> rcases y9 hr with⟨rfl,rfl⟩|⟨k',rfl⟩
  ·exact QExec.pure _
  ·exact QExec.bind (QExec.pure cap) (QExec.bind (yv (by omega) h5) (QExec.pure _))
  ·exact QExec.bind (QExec.pure cap) (QExec.bind (QExec.pure len) (QExec.bind (yv h3 h4) (QExec.pure _)))
  ·exact QExec.bind (QExec.pure cap) (QExec.bind (yv (by omega) h5) (QExec.bind (yv h3 (by omega)) (QExec.pure _)))
 ·rcases h0 with h0|⟨v,rfl⟩
  ·cases h0
  ·rcases y9 hr with⟨h9,_⟩|⟨k',h9⟩
   ·cases h9
   ·cases h9
    rcases y9 hl with⟨rfl,rfl⟩|⟨k,rfl⟩
    ·exact QExec.bind (x:=m.toNat) (yv (by omega) h6) (QExec.bind (yv (by omega) (by omega)) (QExec.pure _))
    ·exact QExec.bind (x:=m.toNat) (yv (by omega) h6) (QExec.bind (yv (by omega) (by omega)) (QExec.bind (yv h3 (by omega)) (QExec.pure _)))
theorem Qj{lo hi mx:Option Value}{K:Value->Prop}
  (Z:∀el,(P.underlying t=some (.slice el)\/∃n,P.underlying t=some (.array n el))->∃i,P.info? el=some i) (H:zpv P t x lo hi mx g K):
  ∃v,K v/\(gok g->∀h:zb,QExec P (DI t x lo hi mx) h v):=by
 unfold zpv at H
 split at H
 ·rename_i hu
  split at H
  ·rename_i s
   split at H
   ·rename_i l r hl hr
    obtain⟨h1,h2⟩:=H
    refine⟨_,h2,λhg=>?_⟩
    obtain⟨h3,h4,h5⟩:=h1.out hg
    intro h B d
    have hq:=QExec.underlying (h:=h) hu B d
    have bb:=zhe (P:=P) (h:=h) hl hr h3 h4 h5 B d
    unfold DI
    rw[Sem.run_bind,hq]
    simp only[Result.andThen_ok]
    unfold Instr.slice
    rw[Sem.run_bind,hq]
    simp[bb]
   ·exact H.elim
  ·exact H.elim
 ·rename_i el hu
  split at H
  ·rename_i a len cap
   split at H
   ·rename_i l r m hl hr hm
    obtain⟨h0,h1,h2⟩:=H
    refine⟨_,h2,λhg=>?_⟩
    obtain⟨h3,h4,h5,h6⟩:=h1.out hg
    intro h B d
    have hq:=QExec.underlying (h:=h) hu B d
    have hs:=jy (h:=h) el B d (Z el (.inl hu))
    have bb:=zk0 (P:=P) (h:=h) hl hr hm h0 h3 h4 h5 h6 B d
    unfold DI
    rw[Sem.run_bind,hq]
    simp only[Result.andThen_ok]
    unfold Instr.slice
    rw[Sem.run_bind,hq]
    simp[bb,hs,zpu]
   ·exact H.elim
  ·exact H.elim
 ·rename_i n el hu
  split at H
  ·rename_i a
   split at H
   ·rename_i l r hl hr
    obtain⟨h1,h2⟩:=H
    refine⟨_,h2,λhg=>?_⟩
    obtain⟨h3,h4,h5⟩:=h1.out hg
    intro h B d
    have hq:=QExec.underlying (h:=h) hu B d
    have hs:=jy (h:=h) el B d (Z el (.inr ⟨n,hu⟩))
    have bb:=zhe (P:=P) (h:=h) hl hr h3 h4 h5 B d
    unfold DI
    rw[Sem.run_bind,hq]
    simp only[Result.andThen_ok,Dq,Sem.run_bind,Sem.run_pure,bb,hs]
    unfold zpu
    split <;> rfl
   ·exact H.elim
  ·exact H.elim
 ·exact H.elim
end
section
variable {P:Program} {f:FuncId} {h:zb} {K:Value -> zb -> Prop} {t ty t':TypeId} {g:Option Bool} {w w':World} {v:Value} {o:Oper} {ρ:Operand -> Value} {a:Act}
def XC(P:Program)(f:FuncId)(args:Array Value)(h:zb)(R:Value->zb->Prop):Prop:=
 ∀B d,Calls P f args (mk B d h) λe w'=>∃v d' h',e=.returned v/\w'=mk B d' h'/\R v h'
theorem XC.mono{args:Array Value}{R R':Value->zb->Prop}(H:XC P f args h R)(hR:∀v h',R v h'->R' v h'):XC P f args h R':=
 λB d=>(H B d).mono λ_ _ ⟨v,d',h',e1,e2,r⟩=>⟨v,d',h',e1,e2,hR _ _ r⟩
def XRun(P:Program)(s:Sem Value)(h:zb)(K:Value->zb->Prop):Prop:=∀B d,∃v d' h',s.run P (mk B d h)=.ok v (mk B d' h')/\K v h'
def XRunU(P:Program)(s:Sem Unit)(h:zb)(K:zb->Prop):Prop:=∀B d,∃d' h',s.run P (mk B d h)=.ok () (mk B d' h')/\K h'
theorem XRun.mono{s:Sem Value}{K K':Value->zb->Prop}(H:XRun P s h K)(hK:∀v h',K v h'->K' v h'):XRun P s h K':=
 λB d=>let ⟨v,d',h',e,k⟩:=H B d;⟨v,d',h',e,hK _ _ k⟩
theorem XRunU.mono{s:Sem Unit}{K K':zb->Prop}(H:XRunU P s h K)(hK:∀h',K h'->K' h'):XRunU P s h K':=
 λB d=>let ⟨d',h',e,k⟩:=H B d;⟨d',h',e,hK _ k⟩
def js(n:Nat):Prop:=n<=9223372036854775807
def zcr(P:Program)(s:Sem Next)(K:Value->Prop):Prop:=match Zl P s with
 |some (.value v)=>K v
 |_=>False
def zya(P:Program)(ty:TypeId)(s:Sem Value)(g:Option Bool)(h:zb)(K:Value->Prop):Prop:=match z4q P ty with
 |some rt=>zx9 rt λv=>req g (QExec P s h v)/\K v
 |none=>False
def zrq(P:Program)(t:TypeId):Bool:=match P.underlying t with
 |some (.slice _)=>true
 |_=>false
def zrr(P:Program)(t:TypeId):Bool:=match P.underlying t with
 |some (.pointer e)=>Nat.beq e (P.pointee t)
 |_=>false
theorem zpw(h:zrr P t=true):P.underlying t=some (.pointer (P.pointee t)):=by
 unfold zrr at h
 split at h
 ·rename_i e hu;rw[hu,Ah h]
 ·cases h
def z8c(P:Program)(t:TypeId)(s:Sem Next)(op:BinOp)(x y:Value)(g:Option Bool)(K:Value->Prop):Prop:=
 match op,x,y with
 |.eql,.slice a _ _,.slice none 0 0=>bif zrq P t then K (.bool a.isNone)else zcr P s K
 |.neq,.slice a _ _,.slice none 0 0=>bif zrq P t then K (.bool (!a.isNone))else zcr P s K
 |.eql,.pointer a,.pointer none=>bif zrr P t then K (.bool a.isNone)else zcr P s K
 |.neq,.pointer a,.pointer none=>bif zrr P t then K (.bool (!a.isNone))else zcr P s K
 |.quo,.int k a,.int k' b=>k=k'/\req g (b≠0)/\K (.int k (k.wrap (a.tdiv b)))
 |.rem,.int k a,.int k' b=>k=k'/\req g (b≠0)/\K (.int k (a.tmod b))
 |.add,.string a,.string b=>req g (js (a.size+b.size))/\K (.string (a++b))
 |_,_,_=>zcr P s K
def z08(op:BinOp)(y:Operand):Bool:=match y with
 |.const _=>false
 |_=>match op with
  |.shl | .shr=>true
  |_=>false
def shF(op:BinOp)(x y:Value)(g:Option Bool)(K:Value->Prop):Prop:=
 match x,y with
 |.int k a,.int _ b=>match op with
  |.shl=>req g (0<=b)/\K (.int k (k.wrap (a*2 ^ (min b.toNat k.bits))))
  |.shr=>req g (0<=b)/\K (.int k (a.fdiv (2 ^ (min b.toNat k.bits))))
  |_=>False
 |_,_=>False
def z5c(P:Program)(t:TypeId)(y:Operand):Bool:=match y with
 |.const .nilIface=>match P.underlying t with
  |some (.interface _)=>true
  |_=>false
 |_=>false
def ifc:Value->Bool
 |.nilIface=>true
 |.iface _ _=>true
 |_=>false
def z5d:Value->Bool
 |.nilIface=>true
 |_=>false
def nvF(op:BinOp)(x y:Value)(g:Option Bool)(K:Value->Prop):Prop:=match y with
 |.nilIface=>match op with
  |.eql=>req g (ifc x=true)/\K (.bool (z5d x))
  |.neq=>req g (ifc x=true)/\K (.bool (!z5d x))
  |_=>False
 |_=>False
def zhf(b:Builtin)(Z:Array TypeId)(aa:TypeId)(args:Array Value):Option (Sem Value):=
 match b with
 |.append=>some (AD Z aa args)
 |.copy=>some (Builtin.copy_ Z aa args)
 |.clear=>some (Builtin.clear_ Z aa args)
 |.delete=>some (Builtin.delete_ Z aa args)
 |.len=>some (Dz Z aa args)
 |_=>none
def z8y(P:Program)(s:Sem Next)(ty:TypeId)(Z:Array TypeId)(args:Array Value)(g:Option Bool)(h:zb)(K:Value->Prop):Prop:=
 match (args[0]?:Option Value)with
 |some (Value.map _)=>zya P ty (Dz Z ty args) g h K
 |_=>zcr P s K
def J7(P:Program)(t:TypeId):Bool:=match P.underlying t with
 |some (.slice el)=>ql P el
 |some (.array _ el)=>ql P el
 |_=>true
theorem j7(h:J7 P t=true):∀el,(P.underlying t=some (.slice el)\/∃n,P.underlying t=some (.array n el))->∃i,P.info? el=some i:=by
 intro el Z
 unfold J7 at h
 rcases Z with Z|⟨n,Z⟩ <;> rw[Z]at h <;> exact y8 h
def zk1(P:Program)(t:TypeId):Bool:=match P.underlying t with
 |some .string=>true
 |_=>false
theorem zk2(h:zk1 P t=true):P.underlying t=some .string:=by
 unfold zk1 at h
 split at h
 ·assumption
 ·cases h
def z8d(P:Program)(s:Sem Next)(x:Value)(g:Option Bool)(K:Value->Prop):Prop:=match x with
 |.pointer p=>∃a:Addr,req g (p=some a)/\K (.pointer (some a))
 |_=>zcr P s K
def w8(P:Program)(o:Oper)(ρ:Operand->Value)(g:Option Bool)(h:zb)(K:Value->Prop):Prop:=
 match o.op with
 |.load t a=>ziz P h t (ρ a) g K
 |.indexAddr t x i=>bif J7 P t then zkz P t (ρ x) (ρ i) g K else False
 |.index t x i=>bif zk1 P t then ze6 (ρ x) (ρ i) g K else zcr P (execOp ρ o) K
 |.slice t x lo hi mx=>bif J7 P t then zpv P t (ρ x) (lo.map ρ) (hi.map ρ) (mx.map ρ) g K else False
 |.binOp op t x y _=>bif z08 op y then shF op (ρ x) (ρ y) g K else bif z5c P t y then nvF op (ρ x) (ρ y) g K else z8c P t (execOp ρ o) op (ρ x) (ρ y) g K
 |.lookup t m k ok=>zya P o.type (Instr.lookup t (ρ m) (ρ k) ok) g h K
 |.nilCheck x=>z8d P (execOp ρ o) (ρ x) g K
 |.call c=>match c.callee with
  |.builtin .len=>z8y P (execOp ρ o) o.type c.argTypes (c.args.map ρ) g h K
  |_=>zcr P (execOp ρ o) K
 |_=>zcr P (execOp ρ o) K
theorem zn{s:Sem Next}{K:Value->Prop}(H:zcr P s K)(g:Option Bool):∃v,K v/\(gok g->∀h:zb,QExec P s h (.value v)):=by
 unfold zcr at H
 split at H
 ·rename_i v hv
  exact⟨v,H,λ_ h=>zgv hv h⟩
 ·exact H.elim
theorem ze7{s:Sem Value}{K:Value->Prop}(H:zya P ty s g h K):∃v,K v/\(gok g->QExec P s h v):=by
 unfold zya at H
 split at H
 ·obtain⟨v,h1,h2⟩:=ze4 H
  exact⟨v,h2,λhg=>h1.out hg⟩
 ·exact H.elim
theorem wq{op:BinOp}(t:TypeId)(x y:Operand)(a b:Value)(h1:(op matches .eql | .neq)=false):eqGuard op t x y a b=pure ():=by
 unfold eqGuard
 cases op <;> simp at h1 <;> rfl
theorem zpx{s:Sem Value}(h:s.run P w=.ok v w'):(s >>= λx=>(CZ (Dg x):Sem Next)).run P w=.ok (.value v) w':=by
 rw[Sem.run_bind,h];rfl
theorem zhg{s:Sem Next}{K:Value->Prop}(h:zb)(H:∃v,K v/\(gok g->∀h:zb,QExec P s h (.value v))):∃v,K v/\(gok g->QExec P s h (.value v)):=
 let ⟨v,h1,h2⟩:=H;⟨v,h1,λhg=>h2 hg h⟩
theorem zyb{op:BinOp}{x y:Operand}(ho:o.op=.binOp op t x y t'){K:Value->Prop}
  (H:z8c P t (execOp ρ o) op (ρ x) (ρ y) g K):∃v,K v/\(gok g->∀h:zb,QExec P (execOp ρ o) h (.value v)):=by
 have Z:∀(op:BinOp) (x y:Operand) (a b:Option Addr) (l c l' c':Nat) (w:World),(eqGuard op t x y (.slice a l c) (.slice b l' c')).run P w=.ok () w:=λop x y a b l c l' c' w=>by
  unfold eqGuard;cases op <;> rfl
 have aa:∀(op:BinOp) (x y:Operand) (a b:Option Addr) (w:World),(eqGuard op t x y (.pointer a) (.pointer b)).run P w=.ok () w:=λop x y a b w=>by
  unfold eqGuard;cases op <;> rfl
 unfold z8c at H
 split at H
 ·rename_i a l c hx hy
  cases hs:zrq P t with
  |false=>rw[hs]at H;exact zn H g
  |true=>
   rw[hs,cond_true]at H
   refine⟨_,H,λhg h B d=>?_⟩
   have hu:∃el,P.underlying t=some (.slice el):=by
    unfold zrq at hs
    split at hs
    ·rename_i el hu;exact⟨el,hu⟩
    ·cases hs
   obtain⟨el,hu⟩:=hu
   simp only[execOp,ho,hx,hy]
   refine zpx ?_
   rw[Sem.run_bind,Z]
   simp only[Result.andThen_ok,binOp,Sem.run_bind,run_equal_slice_nil _ t _ _ _ _ hu];rfl
 ·rename_i a l c hx hy
  cases hs:zrq P t with
  |false=>rw[hs]at H;exact zn H g
  |true=>
   rw[hs,cond_true]at H
   refine⟨_,H,λhg h B d=>?_⟩
   have hu:∃el,P.underlying t=some (.slice el):=by
    unfold zrq at hs
    split at hs
    ·rename_i el hu;exact⟨el,hu⟩
    ·cases hs
   obtain⟨el,hu⟩:=hu
   simp only[execOp,ho,hx,hy]
   refine zpx ?_
   rw[Sem.run_bind,Z]
   simp only[Result.andThen_ok,binOp,Sem.run_bind,run_equal_slice_nil _ t _ _ _ _ hu];rfl
 ·rename_i a hx hy
  cases hs:zrr P t with
  |false=>rw[hs]at H;exact zn H g
  |true=>
   rw[hs,cond_true]at H
   refine⟨_,H,λhg h B d=>?_⟩
   have hu:=zpw hs
   simp only[execOp,ho,hx,hy]
   refine zpx ?_
   rw[Sem.run_bind,aa]
   simp only[Result.andThen_ok,binOp,Sem.run_bind,run_equal_pointer_nil _ t _ hu];rfl
 ·rename_i a hx hy
  cases hs:zrr P t with
  |false=>rw[hs]at H;exact zn H g
  |true=>
   rw[hs,cond_true]at H
   refine⟨_,H,λhg h B d=>?_⟩
   have hu:=zpw hs
   simp only[execOp,ho,hx,hy]
   refine zpx ?_
   rw[Sem.run_bind,aa]
   simp only[Result.andThen_ok,binOp,Sem.run_bind,run_equal_pointer_nil _ t _ hu];rfl
 ·rename_i k a k' b hx hy
  obtain⟨rfl,h1,h2⟩:=H
  refine⟨_,h2,λhg=>?_⟩
  have hb:=h1.out hg
  intro h B d
  simp only[execOp,ho,hx,hy]
  rw[wq _ _ _ _ _ rfl]
  simp[binOp,Op.intDiv,hb]
 ·rename_i k a k' b hx hy
  obtain⟨rfl,h1,h2⟩:=H
  refine⟨_,h2,λhg=>?_⟩
  have hb:=h1.out hg
  intro h B d
  simp only[execOp,ho,hx,hy]
  rw[wq _ _ _ _ _ rfl]
  simp[binOp,Op.intDiv,hb]
 ·rename_i a b hx hy
  obtain⟨h1,h2⟩:=H
  refine⟨_,h2,λhg=>?_⟩
  have hb:=h1.out hg
  intro h B d
  simp only[execOp,ho,hx,hy]
  rw[wq _ _ _ _ _ rfl]
  have hm:¬((a.size+b.size:Nat):Int)>IntKind.i64.max:=by
   unfold js at hb
   have:IntKind.i64.max=9223372036854775807:=by decide
   omega
  simp only[binOp,Op.stringOp,if_neg hm]
  rfl
 ·exact zn H g
theorem z09{op:BinOp}{x y:Operand}(ho:o.op=.binOp op t x y t'){K:Value->Prop}
  (H:shF op (ρ x) (ρ y) g K):∃v,K v/\(gok g->∀h:zb,QExec P (execOp ρ o) h (.value v)):=by
 unfold shF at H
 split at H
 ·rename_i k a k' b hx hy
  split at H
  ·obtain⟨h1,h2⟩:=H
   refine⟨_,h2,λhg h B d=>?_⟩
   have hb:=h1.out hg
   simp only[execOp,ho,hx,hy]
   rw[wq _ _ _ _ _ rfl]
   simp only[binOp,Op.shift,if_neg (show¬b<0 by omega)];rfl
  ·obtain⟨h1,h2⟩:=H
   refine⟨_,h2,λhg h B d=>?_⟩
   have hb:=h1.out hg
   simp only[execOp,ho,hx,hy]
   rw[wq _ _ _ _ _ rfl]
   simp only[binOp,Op.shift,if_neg (show¬b<0 by omega)];rfl
  ·exact H.elim
 ·exact H.elim
theorem z1a{op:BinOp}{x y:Operand}(ho:o.op=.binOp op t x y t'){K:Value->Prop}
  (hb:z5c P t y=true) (H:nvF op (ρ x) (ρ y) g K):∃v,K v/\(gok g->∀h:zb,QExec P (execOp ρ o) h (.value v)):=by
 have hu:∃ms,P.underlying t=some (.interface ms)/\y=.const .nilIface:=by
  unfold z5c at hb
  split at hb
  ·split at hb
   ·rename_i ms hu;exact⟨ms,hu,rfl⟩
   ·cases hb
  ·cases hb
 obtain⟨ms,hu,rfl⟩:=hu
 have key:∀{u:Value} (h:zb),ifc u=true->QExec P (Ea t u .nilIface) h (z5d u):=by
  intro u h hi B d
  have hq:=QExec.underlying (h:=h) hu B d
  unfold Ea Op.maxDepth
  cases u <;> first|(cases hi;done)|(unfold Op.equalIn;rw[Sem.run_bind,hq];rfl)
 have hg:∀op u (h:zb),ifc u=true->QExec P (eqGuard op t x (.const .nilIface) u .nilIface) h ():=by
  intro op u h hi B d
  unfold eqGuard
  cases u <;> first|(cases hi;done)|(cases op <;> simp)
 have Z:∀op u,ifc u=true->(binOp op t u .nilIface=match op with | .eql=>(do pure (.bool (<-Ea t u .nilIface))) | .neq=>(do pure (.bool (!(<-Ea t u .nilIface))))|_=>binOp op t u .nilIface):=by
  intro op u hi
  cases u <;> first|(cases hi;done)|(cases op <;> rfl)
 unfold nvF at H
 split at H
 ·rename_i hy
  split at H
  ·refine⟨_,H.2,λaa h=>?_⟩
   have hi:=H.1.out aa
   simp only[execOp,ho,hy]
   refine QExec.val ((hg _ _ h hi).bind ?_)
   rw[Z _ _ hi]
   exact(key h hi).bind (QExec.pure _)
  ·refine⟨_,H.2,λaa h=>?_⟩
   have hi:=H.1.out aa
   simp only[execOp,ho,hy]
   refine QExec.val ((hg _ _ h hi).bind ?_)
   rw[Z _ _ hi]
   exact(key h hi).bind (QExec.pure _)
  ·exact H.elim
 ·exact H.elim
theorem zi0{op:BinOp}{x y:Operand}(ho:o.op=.binOp op t x y t'){K:Value->Prop}
  (H:bif z08 op y then shF op (ρ x) (ρ y) g K else bif z5c P t y then nvF op (ρ x) (ρ y) g K else z8c P t (execOp ρ o) op (ρ x) (ρ y) g K):∃v,K v/\(gok g->∀h:zb,QExec P (execOp ρ o) h (.value v)):=by
 cases hb:z08 op y with
 |true=>rw[hb]at H;exact z09 ho H
 |false=>
  rw[hb]at H
  cases hn:z5c P t y with
  |true=>rw[hn]at H;exact z1a ho hn H
  |false=>rw[hn]at H;exact zyb ho H
theorem zrs{c:Call}(ho:o.op=.call c)(hc:c.callee=.builtin .len){K:Value->Prop}
  (H:z8y P (execOp ρ o) o.type c.argTypes (c.args.map ρ) g h K):∃v,K v/\(gok g->QExec P (execOp ρ o) h (.value v)):=by
 unfold z8y at H
 split at H
 ·obtain⟨v,h1,h2⟩:=ze7 H
  refine⟨v,h1,λhg=>?_⟩
  have:=h2 hg
  intro B d
  simp only[execOp,ho,resolve,hc,Sem.run_bind,Sem.run_pure,Result.andThen_ok,invoke,builtin]
  rw[this B d]
  rfl
 ·exact zhg h (zn H g)
theorem X4{K:Value->Prop}(H:w8 P o ρ g h K):∃v,K v/\(gok g->QExec P (execOp ρ o) h (.value v)):=by
 unfold w8 at H
 split at H
 ·rename_i t a ho
  obtain⟨v,h1,h2⟩:=ze5 H
  refine⟨v,h1,λhg=>?_⟩
  simp only[execOp,ho]
  exact(h2 hg).val
 ·rename_i t x i ho
  cases he:J7 P t with
  |false=>rw[he]at H;exact H.elim
  |true=>
   rw[he]at H
   obtain⟨v,h1,h2⟩:=wa (j7 he) H
   refine⟨v,h1,λhg=>?_⟩
   simp only[execOp,ho]
   exact(h2 hg h).val
 ·rename_i t x i ho
  cases he:zk1 P t with
  |false=>rw[he]at H;exact zhg h (zn H g)
  |true=>
   rw[he]at H
   obtain⟨v,h1,h2⟩:=J6 (zk2 he) H
   refine⟨v,h1,λhg=>?_⟩
   simp only[execOp,ho]
   exact(h2 hg h).val
 ·rename_i t x lo hi mx ho
  cases he:J7 P t with
  |false=>rw[he]at H;exact H.elim
  |true=>
   rw[he]at H
   obtain⟨v,h1,h2⟩:=Qj (j7 he) H
   refine⟨v,h1,λhg=>?_⟩
   simp only[execOp,ho]
   exact(h2 hg h).val
 ·rename_i op t x y t' ho
  exact zhg h (zi0 ho H)
 ·rename_i t m k ok ho
  obtain⟨v,h1,h2⟩:=ze7 H
  refine⟨v,h1,λhg=>?_⟩
  simp only[execOp,ho]
  exact(h2 hg).val
 ·rename_i x ho
  unfold z8d at H
  split at H
  ·rename_i p hx
   obtain⟨a,h1,h2⟩:=H
   refine⟨_,h2,λhg=>?_⟩
   have hp:=h1.out hg
   subst hp
   intro B d
   simp only[execOp,ho,hx]
   rfl
  ·exact zhg h (zn H g)
 ·rename_i c ho
  split at H
  ·rename_i hc
   exact zrs ho hc H
  ·exact zhg h (zn H g)
 ·exact zhg h (zn H g)
def zea(o:Oper):Bool:=match o.op with
 |.lookup .. => false
 |.call c=>match c.callee with
  |.builtin .len=>false
  |_=>true
 |_=>true
theorem zyc{p:Addr}(H:zc h p=some v):p.block<h.size:=by
 unfold zc at H
 cases e:h[p.block]? with
 |none=>simp[e]at H
 |some o=>exact(Ac.1 e).1
theorem ze8{h h':zb}(k:Keep h.size h h'){p:Addr}(H:zc h p=some v):zc h' p=some v:=by
 have:=zyc H
 unfold zc at H ⊢
 rw[k.get _ this];exact H
theorem ze9{h h':zb}(k:Keep h.size h h'){p:Addr}:∀{vs:List Value} {i:Nat},zh h p i vs->zh h' p i vs
 |[],_,_=>trivial
 |_::_,_,⟨h1,h2⟩=>⟨ze8 k h1,ze9 k h2⟩
theorem Wz{K:Value->Prop}(hf:zea o=true)(H:w8 P o ρ g h K):∃v,K v/\(gok g->∀h',Keep h.size h h'->QExec P (execOp ρ o) h' (.value v)):=by
 unfold w8 at H
 split at H
 ·rename_i t a ho
  unfold ziz at H
  split at H
  ·rename_i q b hp hv
   obtain⟨x,h1,h2⟩:=H
   refine⟨_,h2,λhg h' hk=>?_⟩
   simp only[execOp,ho,hp]
   exact(zbh hv (ze8 hk (h1.out hg))).val
  ·rename_i q l hp hv
   obtain⟨vs,h0,⟨h1,h2⟩,_⟩:=Zu H (jf l)
   refine⟨_,h2,λhg h' hk=>?_⟩
   simp only[execOp,ho,hp]
   exact(zbi hv h0 (ze9 hk (h1.out hg))).val
  ·exact H.elim
 ·rename_i t x i ho
  cases he:J7 P t with
  |false=>rw[he]at H;exact H.elim
  |true=>
   rw[he]at H
   obtain⟨v,h1,h2⟩:=wa (j7 he) H
   refine⟨v,h1,λhg h' _=>?_⟩
   simp only[execOp,ho]
   exact(h2 hg h').val
 ·rename_i t x i ho
  cases he:zk1 P t with
  |false=>
   rw[he]at H
   obtain⟨v,h1,h2⟩:=zn H g
   exact⟨v,h1,λhg h' _=>h2 hg h'⟩
  |true=>
   rw[he]at H
   obtain⟨v,h1,h2⟩:=J6 (zk2 he) H
   refine⟨v,h1,λhg h' _=>?_⟩
   simp only[execOp,ho]
   exact(h2 hg h').val
 ·rename_i t x lo hi mx ho
  cases he:J7 P t with
  |false=>rw[he]at H;exact H.elim
  |true=>
   rw[he]at H
   obtain⟨v,h1,h2⟩:=Qj (j7 he) H
   refine⟨v,h1,λhg h' _=>?_⟩
   simp only[execOp,ho]
   exact(h2 hg h').val
 ·rename_i op t x y t' ho
  obtain⟨v,h1,h2⟩:=zi0 ho H
  exact⟨v,h1,λhg h' _=>h2 hg h'⟩
 ·rename_i t m k ok ho
  simp[zea,ho]at hf
 ·rename_i x ho
  unfold z8d at H
  split at H
  ·rename_i p hx
   obtain⟨a,h1,h2⟩:=H
   refine⟨_,h2,λhg h' _=>?_⟩
   have hp:=h1.out hg
   subst hp
   intro B d
   simp only[execOp,ho,hx]
   rfl
  ·obtain⟨v,h1,h2⟩:=zn H g
   exact⟨v,h1,λhg h' _=>h2 hg h'⟩
 ·rename_i c ho
  split at H
  ·rename_i hc
   simp[zea,ho,hc]at hf
  ·obtain⟨v,h1,h2⟩:=zn H g
   exact⟨v,h1,λhg h' _=>h2 hg h'⟩
 ·obtain⟨v,h1,h2⟩:=zn H g
  exact⟨v,h1,λhg h' _=>h2 hg h'⟩
def wpN(P:Program){α:Type}:Sem α->zb->(α->zb->Prop)->Prop
 |.pure a,h,K=>K a h
 |.program k,h,K=>wpN P (k P) h K
 |.mark _ k,h,K=>wpN P k h K
 |.new o k,h,K=>wpN P (k h.size) (h.push o) K
 |_,_,_=>False
theorem zfa{α:Type}{s:Sem α}{K:α->zb->Prop}(H:wpN P s h K)(B:World)(d:Nat):∃x h',s.run P (mk B d h)=.ok x (mk B d h')/\K x h':=by
 induction s generalizing h with
 |pure a=>exact⟨a,h,rfl,H⟩
 |program k ih=>exact ih P H
 |mark m k ih=>exact ih H
 |new o k ih=>
  obtain⟨x,h',h1,h2⟩:=ih h.size H
  exact⟨x,h',h1,h2⟩
 |_=>exact H.elim
def typed(P:Program)(ty:TypeId)(v:Value)(K:Value->Prop):Prop:=match z4q P ty with
 |some rt=>zx9 rt λv'=>v=v'/\K v'
 |none=>False
theorem wu{K:Value->Prop}(H:typed P ty v K):K v:=by
 unfold typed at H
 split at H
 ·obtain⟨v',h1,h2⟩:=ze4 H;rw[h1];exact h2
 ·exact H.elim
def qa(P:Program)(f:FuncId):Bool:=match P.funcs[f]? with
 |some fn=>(match fn.body with
  |some _=>true
  | none => false) && !(fn.name == "runtime.NumGoroutine")
 |none=>false
theorem J8(h:qa P f=true)(args:Array Value)(w:World):(callFunc f args).run P w=.ok (.enter f args) w:=by
 unfold qa at h
 split at h
 ·rename_i fn hf
  simp only[Bm,C3]at h
  obtain⟨h1,h2⟩:=h
  unfold callFunc
  simp only[program,Sem.run_bind,Sem.run,Result.andThen_ok,hf]
  split at h1
  ·rename_i b hb
   simp[h2,hb]
  ·cases h1
 ·cases h
def z8e(P:Program)(v:Value)(args:Array Value)(K:FuncId->Array Value->Prop):Prop:=match v with
 |.func (.func f) first cap=>qa P f=true/\K f (first++args++cap)
 |_=>False
theorem zhh{c:Call}{x:Operand}(ho:o.op=.call c)(hc:c.callee=.value x){K:FuncId->Array Value->Prop}(H:z8e P (ρ x) (c.args.map ρ) K):
  ∃f args,K f args/\∀w,(execOp ρ o).run P w=.ok (.enter f args) w:=by
 unfold z8e at H
 split at H
 ·rename_i f first cap hv
  obtain⟨h1,h2⟩:=H
  refine⟨_,_,h2,λw=>?_⟩
  simp only[execOp,ho,resolve,hc,hv,DC,Sem.run_bind,Sem.run_pure,Result.andThen_ok,invoke]
  exact J8 h1 _ w
 ·exact H.elim
def Ys:Operand->Bool
 |.func _=>true
 |_=>false
def z8z(P:Program)(f:FuncId):Bool:=match P.funcs[f]? with
 |some fn=>(match fn.body with
  |some _=>false
  |none=>true)
 |none=>false
def qbd(P:Program)(f:FuncId)(args:Array Value)(h:zb)(K:Value->zb->Prop):Prop:=∀B d,∃v d' h',(callFunc f args).run P (mk B d h)=.ok (.value v) (mk B d' h')/\K v h'
def z0g(P:Program):Operand->Bool
 |.func f=>z8z P f
 |_=>false
def z81(P:Program)(v:Value)(args:Array Value)(h:zb)(K:Value->zb->Prop):Prop:=match v with
 |.func (.func f) first cap=>qbd P f (first++args++cap) h K
 |_=>False
theorem zrt{c:Call}{x:Operand}(ho:o.op=.call c)(hc:c.callee=.value x)(H:z81 P (ρ x) (c.args.map ρ) h K)(B:World)(d:Nat):
  ∃v d' h',(execOp ρ o).run P (mk B d h)=.ok (.value v) (mk B d' h')/\K v h':=by
 unfold z81 at H
 split at H
 ·rename_i f first cap hv
  obtain⟨v,d',h',h1,h2⟩:=H B d
  refine⟨v,d',h',?_,h2⟩
  simp only[execOp,ho,resolve,hc,hv,DC,Sem.run_bind,Sem.run_pure,Result.andThen_ok,invoke]
  exact h1
 ·exact H.elim
def z5e(P:Program)(t:TypeId):Bool:=match P.underlying t with
 |some (.map _ _)=>true
 |_=>false
def zpy(P:Program)(o:Oper)(ρ:Operand->Value)(h:zb)(K:Value->zb->Prop):Prop:=
 match o.op with
 |.store t a x=>XRunU P (Aj t (ρ a) (ρ x)) h λh'=>K undef h'
 |.mapUpdate t m k x=>XRunU P (DN t (ρ m) (ρ k) (ρ x)) h λh'=>K undef h'
 |.insert t m k x=>XRunU P (DN t (ρ m) (ρ k) (ρ x)) h λh'=>K undef h'
 |.entryStore t m s x=>XRunU P (Instr.entryStore t (ρ m) (ρ s) (ρ x)) h λh'=>K undef h'
 |.mapEntry t m k=>XRun P (Instr.mapEntry t (ρ m) (ρ k)) h λv h'=>typed P o.type v λv'=>K v' h'
 |.makeSlice t l c=>XRun P (Instr.makeSlice t (ρ l) (ρ c)) h λv h'=>typed P o.type v λv'=>K v' h'
 |.convert s t x=>XRun P (convert s t (ρ x)) h λv h'=>typed P o.type v λv'=>K v' h'
 |.typeAssert x t t' ok=>XRun P (Instr.typeAssert (ρ x) t t' ok) h λv h'=>typed P o.type v λv'=>K v' h'
 |.range t x=>bif z5e P t then XRun P (Instr.range t (ρ x)) h λv h'=>∃q:Option Addr,v=.pointer q/\K (.pointer q) h' else wpN P (execOp ρ o) h λnx h'=>match nx with
   |.value v=>K v h'
   |.skip=>K undef h'
   |_=>False
 |.next x s=>bif s then XRun P (Instr.next (ρ x) s o.type) h λv h'=>(v=.tuple #[.bool false]/\K (.tuple #[.bool false]) h')\/∃k u:Int,v=.tuple #[.bool true,.int .i64 k,.int .i32 u]/\K (.tuple #[.bool true,.int .i64 k,.int .i32 u]) h'
  else XRun P (Instr.next (ρ x) s o.type) h λv h'=>(v=.tuple #[.bool false]/\K (.tuple #[.bool false]) h')\/∃k u:Value,v=.tuple #[.bool true,k,u]/\K (.tuple #[.bool true,k,u]) h'
 |.entry x=>XRun P (Instr.entry (ρ x)) h λv h'=>∃k u:Value,v=.tuple #[k,u]/\K (.tuple #[k,u]) h'
 |.call c=>match c.callee with
  |.builtin b=>match zhf b c.argTypes o.type (c.args.map ρ)with
   |some s=>XRun P s h λv h'=>typed P o.type v λv'=>K v' h'
   |none=>False
  |.value x=>bif z0g P x then z81 P (ρ x) (c.args.map ρ) h (λv h'=>typed P o.type v λv'=>K v' h')else bif Ys x then(wpN P (execOp ρ o) h λnx h'=>match nx with
   |.enter f args=>XC P f args h' λv Z=>typed P o.type v λv'=>K v' Z
   |.value v=>K v h'
   |_=>False)else z8e P (ρ x) (c.args.map ρ) λf args=>XC P f args h λv Z=>typed P o.type v λv'=>K v' Z
  |_=>False
 |_=>wpN P (execOp ρ o) h λnx h'=>match nx with
   |.value v=>K v h'
   |.skip=>K undef h'
   |_=>False
def z5f:Builtin->Bool
 |.append | .copy | .clear | .delete=>true
 |_=>false
def zt0(P:Program)(s t:TypeId):Bool:=match P.underlying s,P.underlying t with
 |some (.int _),some (.int _)=>true
 |some .string,some .string=>true
 |_,_=>false
def isQ(P:Program)(o:Oper):Bool:=
 match o.op with
 |.load _ _ | .indexAddr _ _ _ | .index _ _ _ | .slice _ _ _ _ _ | .binOp _ _ _ _ _ | .lookup _ _ _ _ | .nilCheck _=>true
 |.move _ | .assign _ | .unOp _ _ _ | .build _ _ | .makeFunc _ _ _ | .makeInterface _ _ | .extract _ _ | .field _ _ _ | .fieldAddr _ _ _=>true
 |.convert s t _=>zt0 P s t
 |.call c=>match c.callee with
  |.builtin b=>!z5f b
  |_=>false
 |_=>false
def zt1(P:Program)(o:Oper)(ρ:Operand->Value)(b:Bool)(h:zb)(K:Value->zb->Prop):Prop:=
 match z4q P o.type with
 |some rt=>∃J:Value->zb->Prop,(b=true->zpy P o ρ h J)/\(b=false->zx9 rt λv=>J v h)/\(b=true->∀v h',J v h'->zx9 rt λv'=>v=v')/\z4z rt λv=>∀h',J v h'->K v h'
 |none=>False
def stepW(P:Program)(o:Oper)(ρ:Operand->Value)(g:Option Bool)(h:zb)(K:Value->zb->Prop):Prop:=
 bif isQ P o then w8 P o ρ g h (λv=>K v h)else match g with
  |none=>zpy P o ρ h K
  |some b=>zt1 P o ρ b h K
theorem upon_value{next:Act->World->Prop}{Q:Exit->Act->World->Prop}{s:Sem Next}(h:s.run P w=.ok (.value v) w')(hn:next (a.put o.dst v) w'):
  o.upon P a next Q (s.run P w):=by rw[h];exact hn
theorem upon_skip{next:Act->World->Prop}{Q:Exit->Act->World->Prop}{s:Sem Next}(h:s.run P w=.ok .skip w')(hn:next (a.put o.dst undef) w'):
  o.upon P a next Q (s.run P w):=by rw[h];exact hn
theorem Qe{s:Sem Value}(h:s.run P w=.ok v w'):(s >>= λx=>(CZ (Dg x):Sem Next)).run P w=.ok (.value v) w':=by
 rw[Sem.run_bind,h];rfl
theorem zru{s:Sem Unit}(h:s.run P w=.ok () w'):(s >>= λ_=>(CZ Next.skip:Sem Next)).run P w=.ok .skip w':=by
 rw[Sem.run_bind,h];rfl
theorem zd0(H:zpy P o ρ h K)(B:World)(d:Nat){next:Act->World->Prop}{Q:Exit->Act->World->Prop}
  (hn:∀v d' h',K v h'->next (a.put o.dst v) (mk B d' h')):o.upon P a next Q ((execOp ρ o).run P (mk B d h)):=by
 unfold zpy at H
 split at H
 case h_1 t x y ho=>
  obtain⟨d',h',h1,h2⟩:=H B d
  exact upon_skip (by simp only[execOp,ho];exact zru h1) (hn _ _ _ h2)
 case h_2 t m k x ho=>
  obtain⟨d',h',h1,h2⟩:=H B d
  exact upon_skip (by simp only[execOp,ho];exact zru h1) (hn _ _ _ h2)
 case h_3 t m k x ho=>
  obtain⟨d',h',h1,h2⟩:=H B d
  exact upon_skip (by simp only[execOp,ho];exact zru h1) (hn _ _ _ h2)
 case h_4 t m s x ho=>
  obtain⟨d',h',h1,h2⟩:=H B d
  exact upon_skip (by simp only[execOp,ho];exact zru h1) (hn _ _ _ h2)
 case h_5 t m k ho=>
  obtain⟨v,d',h',h1,h2⟩:=H B d
  exact upon_value (by simp only[execOp,ho];exact Qe h1) (hn _ _ _ (wu h2))
 case h_6 t l c ho=>
  obtain⟨v,d',h',h1,h2⟩:=H B d
  exact upon_value (by simp only[execOp,ho];exact Qe h1) (hn _ _ _ (wu h2))
 case h_7 s t x ho=>
  obtain⟨v,d',h',h1,h2⟩:=H B d
  exact upon_value (by simp only[execOp,ho];exact Qe h1) (hn _ _ _ (wu h2))
 case h_8 x t t' ok ho=>
  obtain⟨v,d',h',h1,h2⟩:=H B d
  exact upon_value (by simp only[execOp,ho];exact Qe h1) (hn _ _ _ (wu h2))
 case h_9 t x ho=>
  cases hm:z5e P t with
  |true=>
   rw[hm]at H
   obtain⟨v,d',h',h1,q,rfl,h2⟩:=H B d
   exact upon_value (by simp only[execOp,ho];exact Qe h1) (hn _ _ _ h2)
  |false=>
   rw[hm]at H
   obtain⟨nx,h',h1,h2⟩:=zfa H B d
   cases nx with
   |value v=>exact upon_value h1 (hn _ _ _ h2)
   |skip=>exact upon_skip h1 (hn _ _ _ h2)
   |_=>exact h2.elim
 case h_10 x s ho=>
  cases s with
  |true=>
   simp only[cond_true]at H
   obtain⟨v,d',h',h1,h2⟩:=H B d
   refine upon_value (v:=v) (w':=mk B d' h') (by simp only[execOp,ho];exact Qe h1) (hn _ _ _ ?_)
   rcases h2 with⟨rfl,h2⟩|⟨k,u,rfl,h2⟩ <;> exact h2
  |false=>
   simp only[cond_false]at H
   obtain⟨v,d',h',h1,h2⟩:=H B d
   refine upon_value (v:=v) (w':=mk B d' h') (by simp only[execOp,ho];exact Qe h1) (hn _ _ _ ?_)
   rcases h2 with⟨rfl,h2⟩|⟨k,u,rfl,h2⟩ <;> exact h2
 case h_11 x ho=>
  obtain⟨v,d',h',h1,k,u,rfl,h2⟩:=H B d
  exact upon_value (by simp only[execOp,ho];exact Qe h1) (hn _ _ _ h2)
 case h_12 c ho=>
  split at H
  ·rename_i b hb
   split at H
   ·rename_i s hs
    obtain⟨v,d',h',h1,h2⟩:=H B d
    refine upon_value (w':=mk B d' h') ?_ (hn _ _ _ (wu h2))
    have key:execOp ρ o=s >>= λx=>(CZ (Dg x):Sem Next):=by
     simp only[execOp,ho,resolve,hb]
     unfold zhf at hs
     split at hs <;> first
      |(simp only[Ab]at hs;subst hs;rfl)
      |cases hs
    rw[key]
    exact Qe h1
   ·exact H.elim
  ·rename_i x hx
   cases hex:z0g P x with
   |true=>
    rw[hex]at H
    obtain⟨v,d',h',h1,h2⟩:=zrt ho hx H B d
    exact upon_value h1 (hn _ _ _ (wu h2))
   |false=>
   rw[hex]at H
   simp only[cond_false]at H
   cases hst:Ys x with
   |true=>
    rw[hst]at H
    obtain⟨nx,h',h1,h2⟩:=zfa H B d
    cases nx with
    |enter f args=>
     rw[h1]
     refine(h2 B d).mono ?_
     rintro e w' ⟨v,d',Z,rfl,rfl,h3⟩
     exact hn _ _ _ (wu h3)
    |value v=>exact upon_value h1 (hn _ _ _ h2)
    |_=>exact h2.elim
   |false=>
    rw[hst]at H
    simp only[cond_false]at H
    obtain⟨f,args,h1,h2⟩:=zhh ho hx H
    rw[h2]
    refine(h1 B d).mono ?_
    rintro e w' ⟨v,d',Z,rfl,rfl,h3⟩
    exact hn _ _ _ (wu h3)
  ·exact H.elim
 case h_13=>
  obtain⟨nx,h',h1,h2⟩:=zfa H B d
  cases nx with
  |value v=>exact upon_value h1 (hn _ _ _ h2)
  |skip=>exact upon_skip h1 (hn _ _ _ h2)
  |_=>exact h2.elim
theorem znp(H:stepW P o ρ g h K)(hg:gok g)(B:World)(d:Nat){next:Act->World->Prop}{Q:Exit->Act->World->Prop}
  (hn:∀v d' h',K v h'->next (a.put o.dst v) (mk B d' h')):o.upon P a next Q ((execOp ρ o).run P (mk B d h)):=by
 unfold stepW at H
 cases hq:isQ P o with
 |true=>
  rw[hq]at H
  obtain⟨v,h1,h2⟩:=X4 H
  exact upon_value (h2 hg B d) (hn _ _ _ h1)
 |false=>
  rw[hq]at H
  cases g with
  |none=>exact zd0 H B d hn
  |some b=>
   have hb:b=true:=hg
   subst hb
   simp only[cond_false]at H
   unfold zt1 at H
   split at H
   ·rename_i rt Z
    obtain⟨J,h1,_,h3,h4⟩:=H
    refine zd0 (h1 rfl) B d λv d' h' hJ=>?_
    obtain⟨v',e1,e2⟩:=ztz (h3 rfl v h' hJ) h4
    subst e1
    exact hn _ _ _ (e2 _ hJ)
   ·exact H.elim
theorem znq(H:stepW P o ρ (some false) h K):∃v,K v h:=by
 unfold stepW at H
 cases hq:isQ P o with
 |true=>
  rw[hq]at H
  obtain⟨v,h1,_⟩:=X4 H
  exact⟨v,h1⟩
 |false=>
  rw[hq]at H
  simp only[cond_false]at H
  unfold zt1 at H
  split at H
  ·obtain⟨J,_,h2,_,h4⟩:=H
   obtain⟨v,e1,e2⟩:=ztz (h2 rfl) h4
   exact⟨v,e2 _ e1⟩
  ·exact H.elim
end
section
variable {n:Nat} {e:Env} {a b:Act} {c:zx} {g:Option Bool} {P:Program} {o:Oper} {h:zb} {K:Value -> zb -> Prop} {ms:List Nat} {ρ:Operand -> Value}
def X5(e:Env):zx->Option (Option Bool)
 |[]=>some none
 |c=>match ztw e c with
  |some b=>some (some b)
  |none=>none
theorem Zy(hs:Sat n e a)(h:X5 e c=some g)(hv:valid (zm a) c):gok g:=by
 unfold X5 at h
 split at h
 ·simp only[Ab]at h;subst h;trivial
 ·split at h
  ·rename_i b hb
   simp only[Ab]at h
   subst h
   exact(X3 hs hb).2 hv
  ·cases h
theorem zrv(hs:Sat n e a)(h:X5 e c=some g)(hv:¬valid (zm a) c):g=some false:=by
 unfold X5 at h
 split at h
 ·exact absurd trivial hv
 ·split at h
  ·rename_i b hb
   simp only[Ab]at h
   subst h
   cases b with
   |false=>rfl
   |true=>exact absurd ((X3 hs hb).1 rfl) hv
  ·cases h
def zt2(b:Bool):Value->Value->Value
 |.bool x,.bool y=>.bool (bif b then x else y)
 |x,y=>bif b then x else y
theorem zpz(b:Bool)(x y:Value):zt2 b x y=if b=true then x else y:=by
 unfold zt2
 split <;> cases b <;> rfl
def orV:Option Value->Option Value->Option Value
 |some v,_=>some v
 |none,w=>w
def zt3(e:Env)(c:zx)(x a b:Operand)(K:Value->Prop):Prop:=
 match x with
 |.tmp s=>match look e s with
  |some (cs,.bool t)=>bif suf cs c then(match orV (Yr e c a) (Yr e ((s,true)::cs) a),orV (Yr e c b) (Yr e ((s,false)::cs) b)with
    |some va,some vb=>K (zt2 t va vb)
    |_,_=>False)else False
  |_=>False
 |_=>False
theorem Yt{Z:Act}(hs:Sat n e Z){x a b:Operand}{K:Value->Prop}(H:zt3 e c x a b K):
  ∃v,K v/\(valid (zm Z) c->∃t,Z.eval x=.bool t/\(if t=true then Z.eval a else Z.eval b)=v):=by
 unfold zt3 at H
 split at H
 ·rename_i s
  split at H
  ·rename_i cs t hl
   cases hsf:suf cs c with
   |false=>rw[hsf]at H;exact H.elim
   |true=>
    rw[hsf]at H
    simp only[cond_true]at H
    split at H
    ·rename_i va vb ha hb
     refine⟨_,H,λhv=>⟨t,?_,?_⟩⟩
     ·exact(hs.all _ (Wy hl)).1 (Q6 hsf hv)
     ·have aa:=Q6 hsf hv
      have hx:zm Z s=.bool t:=(hs.all _ (Wy hl)).1 aa
      rw[zpz]
      cases t with
      |true=>
       simp only[if_true]
       unfold orV at ha
       split at ha
       ·rename_i v _ h1
        simp only[Ab]at ha
        subst ha
        exact yc hs hv h1
       ·exact yc hs (c:=(s,true)::cs) ⟨hx,aa⟩ ha
      |false=>
       simp only[A9,if_false]
       unfold orV at hb
       split at hb
       ·rename_i v _ h1
        simp only[Ab]at hb
        subst hb
        exact yc hs hv h1
       ·exact yc hs (c:=(s,false)::cs) ⟨hx,aa⟩ hb
    ·exact H.elim
  ·exact H.elim
 ·exact H.elim
def opW(P:Program)(o:Oper)(e:Env)(c:zx)(h:zb)(K:Value->zb->Prop):Prop:=
 match o.op with
 |.pick x a b=>zt3 e c x a b λv=>K v h
 |_=>bif jc o.op then(bif known e c o.op.operands.toList then(match X5 e c with
   |some g=>stepW P o (rho e c) g h K
   |none=>False)else False)else False
def wR(P:Program)(n:Nat)(ops:Array Oper)(K:Env->zb->Prop):List Oper->Env->zb->Prop
 |[],e,h=>K (clean e) h
 |o::rest,e,h=>match Qv ops e o.guard with
  |some c=>bif qk n c o.dst then opW P o e c h λv h'=>wR P n ops K rest (putO e o.dst c v) h' else False
  |none=>False
theorem zfb(H:opW P o e c h K)(hs:Sat n e a)(hv:valid (zm a) c)(B:World)(d:Nat)
  {next:Act->World->Prop} {Q:Exit->Act->World->Prop} (hn:∀v d' h',K v h'->next (a.put o.dst v) (mk B d' h')):o.wp P a (mk B d h) next Q:=by
 unfold opW at H
 unfold Oper.wp
 split at H
 ·rename_i x y z ho
  obtain⟨v,h1,h2⟩:=Yt hs H
  obtain⟨t,h3,h4⟩:=h2 hv
  refine upon_value (w':=mk B d h) (v:=v) ?_ (hn _ _ _ h1)
  simp only[execOp,ho,h3,asBool,Sem.run_bind,Sem.run_pure,Result.andThen_ok]
  rw[h4]
 ·cases hns:jc o.op with
  |false=>rw[hns]at H;exact H.elim
  |true=>
   rw[hns]at H
   cases hk:known e c o.op.operands.toList with
   |false=>rw[hk]at H;exact H.elim
   |true=>
    rw[hk]at H
    simp only[cond_true]at H
    split at H
    ·rename_i g hg
     rw[Qi hs hv hns hk]
     exact znp H (Zy hs hg hv) B d hn
    ·exact H.elim
theorem z0h(H:opW P o e c h K)(hs:Sat n e a)(hv:¬valid (zm a) c):∃v,K v h:=by
 unfold opW at H
 split at H
 ·obtain⟨v,h1,_⟩:=Yt hs H
  exact⟨v,h1⟩
 ·cases hns:jc o.op with
  |false=>rw[hns]at H;exact H.elim
  |true=>
   rw[hns]at H
   cases hk:known e c o.op.operands.toList with
   |false=>rw[hk]at H;exact H.elim
   |true=>
    rw[hk]at H
    simp only[cond_true]at H
    split at H
    ·rename_i g hg
     rw[zrv hs hg hv]at H
     exact znq H
    ·exact H.elim
def yn:List Oper->List Nat
 |[]=>[]
 |o::l=>match o.dst with
  |some d=>d::yn l
  |none=>yn l
def Same(ms:List Nat)(a b:Act):Prop:=∀i,i∉ms->zm b i=zm a i
theorem Same.refl(ms:List Nat)(a:Act):Same ms a a:=λ_ _=>rfl
theorem Same.trans{a b c:Act}(h:Same ms a b)(k:Same ms b c):Same ms a c:=λi hi=>(k i hi).trans (h i hi)
theorem Same.mono{ms Z:List Nat}(h:Same ms a b)(hs:∀x∈ms,x∈Z):Same Z a b:=λi hi=>h i λhm=>hi (hs i hm)
theorem Same.put(a:Act)(d:Option Nat)(v:Value)(h:∀i,d=some i->i∈ms):Same ms a (a.put d v):=by
 intro i hi
 cases d with
 |none=>rfl
 |some j=>exact qe λe=>hi (e ▸ h j rfl)
theorem W0{P:Program}{n:Nat}{ops:Array Oper}{K:Env->zb->Prop}{Q:Exit->Act->World->Prop}(B:World):
  ∀(l:List Oper) (e:Env) (h:zb) (a:Act) (d:Nat),wR P n ops K l e h->Sat n e a->(∀e' a' d' h',Sat n e' a'->Same (yn l) a a'->K e' h'->Q .normal a' (mk B d' h'))->wpList P ops Q l a (mk B d h)
 |[],e,h,a,d,H,hs,hQ=>hQ _ _ _ _ hs.clean (Same.refl _ _) H
 |o::rest,e,h,a,d,H,hs,hQ=>by
  unfold wR at H
  split at H
  ·rename_i c hc
   cases hd:qk n c o.dst with
   |false=>rw[hd]at H;exact H.elim
   |true=>
    rw[hd]at H
    simp only[cond_true]at H
    have hw:=xq hs hc
    have ae:∀i,o.dst=some i->i∈yn (o::rest):=λi hi=>by simp[yn,hi]
    have aa:∀x∈yn rest,x∈yn (o::rest):=λx hx=>by
     unfold yn
     split
     ·exact Ag _ hx
     ·exact hx
    have Z:∀v u d' h',(valid (zm a) c->u=v)->(¬valid (zm a) c->u=undef)->wR P n ops K rest (putO e o.dst c v) h'->wpList P ops Q rest (a.put o.dst u) (mk B d' h'):=λv u d' h' h1 h2 h3=>
     W0 B rest _ _ _ _ h3 (hs.putO hd h1 h2) λe' a' ah af q1 q2 q3=>hQ e' a' ah af q1 ((Same.put a o.dst u ae).trans (q2.mono aa)) q3
    unfold wpList
    by_cases hv:valid (zm a) c
    ·rw[if_pos (hw.2 hv)]
     exact .inl (zfb H hs hv B d λv d' h' hK=>Z v v d' h' (λ_=>rfl) (λab=>absurd hv ab) hK)
    ·rw[if_neg (λhx=>hv (hw.1 hx))]
     obtain⟨v,hK⟩:=z0h H hs hv
     exact Z v undef d h (λab=>absurd ab hv) (λ_=>rfl) hK
  ·exact H.elim
def z1b(P:Program)(o:Oper)(ρ:Operand->Value)(g:Option Bool)(h:zb)(K:Value->Prop):Prop:=
 match o.op with
 |.call c=>match c.callee with
  |.value x=>bif Ys x then(match Zl P (execOp ρ o)with
    |some (.enter f args)=>match z4q P o.type with
     |some rt=>zx9 rt λv=>req g (XC P f args h λv' h'=>v'=v/\h'=h)/\K v
     |none=>False
    |_=>False)else(match z4q P o.type with
     |some rt=>zx9 rt λv=>req g (z8e P (ρ x) (c.args.map ρ) λf args=>XC P f args h λv' h'=>v'=v/\h'=h)/\K v
     |none=>False)
  |_=>False
 |_=>False
theorem znr{K:Value->Prop}(H:z1b P o ρ g h K):
  ∃v,K v/\(gok g->∃f args,(∀w,(execOp ρ o).run P w=.ok (.enter f args) w)/\XC P f args h λv' h'=>v'=v/\h'=h):=by
 unfold z1b at H
 split at H
 ·rename_i c ho
  split at H
  ·rename_i x hx
   cases hst:Ys x with
   |true=>
    rw[hst]at H
    simp only[cond_true]at H
    split at H
    ·rename_i f args he
     split at H
     ·obtain⟨v,h1,h2⟩:=ze4 H
      exact⟨v,h2,λhg=>⟨f,args,λw=>J4 he w,h1.out hg⟩⟩
     ·exact H.elim
    ·exact H.elim
   |false=>
    rw[hst]at H
    simp only[cond_false]at H
    split at H
    ·obtain⟨v,h1,h2⟩:=ze4 H
     refine⟨v,h2,λhg=>?_⟩
     obtain⟨f,args,h3,h4⟩:=zhh ho hx (h1.out hg)
     exact⟨f,args,h4,h3⟩
    ·exact H.elim
  ·exact H.elim
 ·exact H.elim
def zfc(o:Oper):Bool:=match o.op with
 |.call c=>match c.callee with
  |.builtin _=>false
  |_=>true
 |_=>false
def opQ(P:Program)(o:Oper)(e:Env)(c:zx)(h:zb)(Z:Bool)(K:Value->Prop):Prop:=
 match o.op with
 |.pick x a b=>zt3 e c x a b K
 |_=>bif jc o.op then(bif known e c o.op.operands.toList then(match X5 e c with
   |some g=>bif zfc o then(bif Z then z1b P o (rho e c) g h K else False)else w8 P o (rho e c) g h K
   |none=>False)else False)else False
def wQ(P:Program)(n:Nat)(ops:Array Oper)(h:zb)(Z:Bool)(K:Env->Prop):List Oper->Env->Prop
 |[],e=>K e
 |o::rest,e=>match Qv ops e o.guard with
  |some c=>bif qk n c o.dst then opQ P o e c h Z λv=>wQ P n ops h Z K rest (putO e o.dst c v)else False
  |none=>False
def YQ(P:Program)(o:Oper)(a:Act)(B:World)(h:zb)(Z:Bool)(v:Value):Prop:=
 (∀d,(execOp a.eval o).run P (mk B d h)=.ok (.value v) (mk B d h)) \/
 (Z=true/\∃f args,(∀d,(execOp a.eval o).run P (mk B d h)=.ok (.enter f args) (mk B d h))/\XC P f args h λv' h'=>v'=v/\h'=h)
theorem zk3{Z:Bool}{K:Value->Prop}(H:opQ P o e c h Z K)(hs:Sat n e a)(B:World):
  ∃v,K v/\(valid (zm a) c->YQ P o a B h Z v):=by
 unfold opQ at H
 split at H
 ·rename_i x y z ho
  obtain⟨v,h1,h2⟩:=Yt hs H
  refine⟨v,h1,λhv=>?_⟩
  obtain⟨t,h3,h4⟩:=h2 hv
  refine .inl λd=>?_
  simp only[execOp,ho,h3,asBool,Sem.run_bind,Sem.run_pure,Result.andThen_ok]
  rw[h4]
 ·cases hns:jc o.op with
  |false=>rw[hns]at H;exact H.elim
  |true=>
   rw[hns]at H
   cases hk:known e c o.op.operands.toList with
   |false=>rw[hk]at H;exact H.elim
   |true=>
    rw[hk]at H
    simp only[cond_true]at H
    split at H
    ·rename_i g hg
     cases hc:zfc o with
     |false=>
      rw[hc]at H
      obtain⟨v,h1,h2⟩:=X4 H
      refine⟨v,h1,λhv=>.inl λd=>?_⟩
      rw[Qi hs hv hns hk]
      exact h2 (Zy hs hg hv) B d
     |true=>
      rw[hc]at H
      cases Z with
      |false=>exact H.elim
      |true=>
       simp only[cond_true]at H
       obtain⟨v,h1,h2⟩:=znr H
       refine⟨v,h1,λhv=>?_⟩
       obtain⟨f,args,h3,h4⟩:=h2 (Zy hs hg hv)
       refine .inr ⟨rfl,f,args,λd=>?_,h4⟩
       rw[Qi hs hv hns hk]
       exact h3 _
    ·exact H.elim
theorem zp0{P:Program}{n:Nat}{ops:Array Oper}{h:zb}{ab:Bool}{K:Env->Prop}{Q:Act->Prop}(B:World):
  ∀(l:List Oper) (e:Env) (a:Act),wQ P n ops h ab K l e->Sat n e a->(∀e' a',Sat n e' a'->Same (yn l) a a'->K e'->Q a')->wpQuiet P ops (λw=>∃d,w=mk B d h) Q l a
 |[],e,a,H,hs,hQ=>hQ _ _ hs (Same.refl _ _) H
 |o::rest,e,a,H,hs,hQ=>by
  unfold wQ at H
  split at H
  ·rename_i c hc
   cases hd:qk n c o.dst with
   |false=>rw[hd]at H;exact H.elim
   |true=>
    rw[hd]at H
    simp only[cond_true]at H
    have hw:=xq hs hc
    have af:∀i,o.dst=some i->i∈yn (o::rest):=λi hi=>by simp[yn,hi]
    have aa:∀x∈yn rest,x∈yn (o::rest):=λx hx=>by
     unfold yn
     split
     ·exact Ag _ hx
     ·exact hx
    obtain⟨v,hK,hy⟩:=zk3 H hs B
    have Z:∀u,(valid (zm a) c->u=v)->(¬valid (zm a) c->u=undef)->wpQuiet P ops (λw=>∃d,w=mk B d h) Q rest (a.put o.dst u):=λu h1 h2=>
     zp0 B rest _ _ hK (hs.putO hd h1 h2) λe' a' q1 q2 q3=>hQ e' a' q1 ((Same.put a o.dst u af).trans (q2.mono aa)) q3
    unfold wpQuiet
    by_cases hv:valid (zm a) c
    ·rw[if_pos (hw.2 hv)]
     refine⟨v,?_,Z v (λ_=>rfl) (λae=>absurd hv ae)⟩
     rintro w ⟨d,rfl⟩
     unfold Oper.quietAt
     rcases hy hv with h1|⟨_,f,args,h1,h2⟩
     ·rw[h1 d];exact⟨rfl,rfl⟩
     ·rw[h1 d]
      refine⟨rfl,(h2 B d).mono ?_⟩
      rintro e' w'' ⟨v',d',h',rfl,rfl,rfl,rfl⟩
      exact⟨rfl,d',rfl⟩
    ·rw[if_neg (λhx=>hv (hw.1 hx))]
     exact Z undef (λae=>absurd ae hv) (λ_=>rfl)
  ·exact H.elim
def z1c(P:Program)(o:Oper)(ρ:Operand->Value)(g:Option Bool)(h:zb)(K:Value->Prop):Prop:=
 match o.op with
 |.call c=>match c.callee with
  |.value x=>bif Ys x then(match Zl P (execOp ρ o)with
    |some (.enter f args)=>match z4q P o.type with
     |some rt=>zx9 rt λv=>req g (∀h1,Keep h.size h h1->XC P f args h1 λv' h'=>v'=v/\Keep h1.size h1 h')/\K v
     |none=>False
    |_=>False)else False
  |_=>False
 |_=>False
theorem zns{K:Value->Prop}(H:z1c P o ρ g h K):
  ∃v,K v/\(gok g->∃f args,(∀w,(execOp ρ o).run P w=.ok (.enter f args) w)/\∀h1,Keep h.size h h1->XC P f args h1 λv' h'=>v'=v/\Keep h1.size h1 h'):=by
 unfold z1c at H
 split at H
 ·split at H
  ·rename_i x _
   cases hx:Ys x with
   |false=>rw[hx]at H;exact H.elim
   |true=>
    rw[hx]at H
    simp only[cond_true]at H
    split at H
    ·rename_i f args hv
     split at H
     ·obtain⟨v,h1,h2⟩:=ze4 H
      exact⟨v,h2,λhg=>⟨f,args,λw=>J4 hv w,h1.out hg⟩⟩
     ·exact H.elim
    ·exact H.elim
  ·exact H.elim
 ·exact H.elim
def opK(P:Program)(o:Oper)(e:Env)(c:zx)(h:zb)(K:Value->Prop):Prop:=
 match o.op with
 |.pick x a b=>zt3 e c x a b K
 |_=>bif jc o.op then(bif known e c o.op.operands.toList then(match X5 e c with
   |some g=>bif zfc o then z1c P o (rho e c) g h K else bif zea o then w8 P o (rho e c) g h K else False
   |none=>False)else False)else False
def wK(P:Program)(n:Nat)(ops:Array Oper)(h:zb)(K:Env->Prop):List Oper->Env->Prop
 |[],e=>K e
 |o::rest,e=>match Qv ops e o.guard with
  |some c=>bif qk n c o.dst then opK P o e c h λv=>wK P n ops h K rest (putO e o.dst c v)else False
  |none=>False
def YK(P:Program)(o:Oper)(a:Act)(B:World)(h:zb)(v:Value):Prop:=
 (∀d h',Keep h.size h h'->(execOp a.eval o).run P (mk B d h')=.ok (.value v) (mk B d h')) \/
 (∃f args,(∀d h',(execOp a.eval o).run P (mk B d h')=.ok (.enter f args) (mk B d h'))/\∀h1,Keep h.size h h1->XC P f args h1 λv' h'=>v'=v/\Keep h1.size h1 h')
theorem zt4{K:Value->Prop}(H:opK P o e c h K)(hs:Sat n e a)(B:World):
  ∃v,K v/\(valid (zm a) c->YK P o a B h v):=by
 unfold opK at H
 split at H
 ·rename_i x y z ho
  obtain⟨v,h1,h2⟩:=Yt hs H
  refine⟨v,h1,λhv=>?_⟩
  obtain⟨t,h3,h4⟩:=h2 hv
  refine .inl λd h' _=>?_
  simp only[execOp,ho,h3,asBool,Sem.run_bind,Sem.run_pure,Result.andThen_ok]
  rw[h4]
 ·cases hns:jc o.op with
  |false=>rw[hns]at H;exact H.elim
  |true=>
   rw[hns]at H
   cases hk:known e c o.op.operands.toList with
   |false=>rw[hk]at H;exact H.elim
   |true=>
    rw[hk]at H
    simp only[cond_true]at H
    split at H
    ·rename_i g hg
     cases hc:zfc o with
     |false=>
      rw[hc]at H
      cases hf:zea o with
      |false=>rw[hf]at H;exact H.elim
      |true=>
       rw[hf]at H
       obtain⟨v,h1,h2⟩:=Wz hf H
       refine⟨v,h1,λhv=>.inl λd h' Z=>?_⟩
       rw[Qi hs hv hns hk]
       exact h2 (Zy hs hg hv) h' Z B d
     |true=>
      rw[hc]at H
      obtain⟨v,h1,h2⟩:=zns H
      refine⟨v,h1,λhv=>?_⟩
      obtain⟨f,args,h3,h4⟩:=h2 (Zy hs hg hv)
      refine .inr ⟨f,args,λd h'=>?_,h4⟩
      rw[Qi hs hv hns hk]
      exact h3 _
    ·exact H.elim
theorem zp1{P:Program}{n:Nat}{ops:Array Oper}{h:zb}{K:Env->Prop}{Q:Act->Prop}(B:World):
  ∀(l:List Oper) (e:Env) (a:Act),wK P n ops h K l e->Sat n e a->(∀e' a',Sat n e' a'->Same (yn l) a a'->K e'->Q a')->wpQuiet P ops (λw=>∃d h',Keep h.size h h'/\w=mk B d h') Q l a
 |[],e,a,H,hs,hQ=>hQ _ _ hs (Same.refl _ _) H
 |o::rest,e,a,H,hs,hQ=>by
  unfold wK at H
  split at H
  ·rename_i c hc
   cases hd:qk n c o.dst with
   |false=>rw[hd]at H;exact H.elim
   |true=>
    rw[hd]at H
    simp only[cond_true]at H
    have hw:=xq hs hc
    have af:∀i,o.dst=some i->i∈yn (o::rest):=λi hi=>by simp[yn,hi]
    have ab:∀x∈yn rest,x∈yn (o::rest):=λx hx=>by
     unfold yn
     split
     ·exact Ag _ hx
     ·exact hx
    obtain⟨v,hK,hy⟩:=zt4 H hs B
    have aa:∀u,(valid (zm a) c->u=v)->(¬valid (zm a) c->u=undef)->wpQuiet P ops (λw=>∃d h',Keep h.size h h'/\w=mk B d h') Q rest (a.put o.dst u):=λu h1 h2=>
     zp1 B rest _ _ hK (hs.putO hd h1 h2) λe' a' q1 q2 q3=>hQ e' a' q1 ((Same.put a o.dst u af).trans (q2.mono ab)) q3
    unfold wpQuiet
    by_cases hv:valid (zm a) c
    ·rw[if_pos (hw.2 hv)]
     refine⟨v,?_,aa v (λ_=>rfl) (λae=>absurd hv ae)⟩
     rintro w ⟨d,h0,Z,rfl⟩
     unfold Oper.quietAt
     rcases hy hv with h1|⟨f,args,h1,h2⟩
     ·rw[h1 d h0 Z];exact⟨rfl,rfl⟩
     ·rw[h1 d h0]
      refine⟨rfl,(h2 h0 Z B d).mono ?_⟩
      rintro e' w'' ⟨v',d',h',rfl,rfl,rfl,ah⟩
      exact⟨rfl,d',h',Z.trans ah Z.size,rfl⟩
    ·rw[if_neg (λhx=>hv (hw.1 hx))]
     exact aa undef (λae=>absurd ae hv) (λ_=>rfl)
  ·exact H.elim
theorem zp2{P:Program}{n:Nat}{ops:Array Oper}{h:zb}{K:Env->Prop}{Q:Act->Prop}(B:World)(d:Nat):
  ∀(l:List Oper) (e:Env) (a:Act),wQ P n ops h false K l e->Sat n e a->(∀e' a',Sat n e' a'->Same (yn l) a a'->K e'->Q a')->wpStill P ops (mk B d h) Q l a
 |[],e,a,H,hs,hQ=>hQ _ _ hs (Same.refl _ _) H
 |o::rest,e,a,H,hs,hQ=>by
  unfold wQ at H
  split at H
  ·rename_i c hc
   cases hd:qk n c o.dst with
   |false=>rw[hd]at H;exact H.elim
   |true=>
    rw[hd]at H
    simp only[cond_true]at H
    have hw:=xq hs hc
    have ae:∀i,o.dst=some i->i∈yn (o::rest):=λi hi=>by simp[yn,hi]
    have aa:∀x∈yn rest,x∈yn (o::rest):=λx hx=>by
     unfold yn
     split
     ·exact Ag _ hx
     ·exact hx
    obtain⟨v,hK,hy⟩:=zk3 H hs B
    have Z:∀u,(valid (zm a) c->u=v)->(¬valid (zm a) c->u=undef)->wpStill P ops (mk B d h) Q rest (a.put o.dst u):=λu h1 h2=>
     zp2 B d rest _ _ hK (hs.putO hd h1 h2) λe' a' q1 q2 q3=>hQ e' a' q1 ((Same.put a o.dst u ae).trans (q2.mono aa)) q3
    unfold wpStill
    by_cases hv:valid (zm a) c
    ·rw[if_pos (hw.2 hv)]
     unfold Oper.still
     rcases hy hv with h1|⟨h0,_⟩
     ·rw[h1 d,Oper.stillUpon_value];exact Z v (λ_=>rfl) (λab=>absurd hv ab)
     ·cases h0
    ·rw[if_neg (λhx=>hv (hw.1 hx))]
     exact Z undef (λab=>absurd ab hv) (λ_=>rfl)
  ·exact H.elim
end
section
variable {i n:Nat} {a b a0:Act} {o:Oper} {h h' h0:zb} {P:Program} {ρ:Operand -> Value} {ops:Array Oper} {listed:Array Bool} {tr md:Bool} {e:Env}
def memN:List Nat->Nat->Bool
 |[],_=>false
 |j::l,i=>bif Nat.beq i j then true else memN l i
theorem wb{l:List Nat}(h:memN l i=false):i∉l:=by
 induction l with
 |nil=>simp
 |cons j l ih=>
  simp only[memN]at h
  by_cases hb:Nat.beq i j=true
  ·simp[hb]at h
  ·simp only[hb,cond_false]at h
   simp only[Ai,not_or]
   exact⟨λe=>hb (by rw[e];simp),ih h⟩
def tmpsOf:List Operand->List Nat
 |[]=>[]
 |.tmp t::l=>t::tmpsOf l
 |_::l=>tmpsOf l
def xe(ops:Array Oper)(o:Oper):List Nat:=(match o.guard with
 |some (j,_)=>match yh ops j with
  |some g=>[g]
  |none=>[]
 |none=>[])++tmpsOf o.op.operands.toList
def yw(ops:Array Oper)(k:Nat)(S:List Nat):Nat->Bool
 |0=>true
 |p+1=>bif (match yh ops p with
  |some t=>bif memN S t then Region.waitsFor .any ops k p else true
  |none=>true)then yw ops k S p else false
theorem zz{ops:Array Oper}{k:Nat}{S:List Nat}:∀{m:Nat},yw ops k S m=true->∀p t,p<m->yh ops p=some t->t∈S->Region.waitsFor .any ops k p=true
 |0,_,p,t,hp,_,_=>by omega
 |m+1,h,p,t,hp,hd,ht=>by
  simp only[yw]at h
  cases hb:(match yh ops m with
   |some t=>bif memN S t then Region.waitsFor .any ops k m else true
   |none=>true)with
  |false=>rw[hb]at h;cases h
  |true=>
   rw[hb]at h
   rcases AF p m with h1|h1
   ·exact zz h p t h1 hd ht
   ·have:p=m:=by omega
    subst this
    rw[hd]at hb
    simp only at hb
    cases hm:memN S t with
    |false=>exact absurd ht (wb hm)
    |true=>rw[hm]at hb;exact hb
def qd(ops:Array Oper):Nat->Bool
 |0=>true
 |j+1=>bif (match ops[j]? with
  |some o=>o.after.toList.all λe=>!(Region.binds .any e)||Nat.blt e.on j
  |none=>true)then qd ops j else false
theorem zu{ops:Array Oper}:∀{n:Nat},qd ops n=true->∀j o,j<n->ops[j]?=some o->∀e∈o.after,Region.binds .any e=true->e.on<j
 |0,_,j,_,hj,_,_,_,_=>by omega
 |n+1,h,j,o,hj,ho,e,he,hb=>by
  simp only[qd]at h
  cases hc:(match ops[n]? with
   |some o=>o.after.toList.all λe=>!(Region.binds .any e)||Nat.blt e.on n
   |none=>true)with
  |false=>rw[hc]at h;cases h
  |true=>
   rw[hc]at h
   rcases AF j n with h1|h1
   ·exact zu h j o h1 ho e he hb
   ·have:j=n:=by omega
    subst this
    rw[ho]at hc
    have:=A4.1 hc e (by simpa using he)
    rw[hb]at this
    simpa[Cj]using this
def zt5(ops:Array Oper)(d:Nat):Nat->Bool
 |0=>false
 |p+1=>bif (match yh ops p with
  |some t=>Nat.beq t d
  |none=>false)then true else zt5 ops d p
def jl(ops:Array Oper):Nat->Bool
 |0=>true
 |p+1=>bif (match yh ops p with
  |some t=>!(zt5 ops t p)
  |none=>true)then jl ops p else false
theorem zcs{ops:Array Oper}{d:Nat}:∀{m:Nat},zt5 ops d m=false->∀p,p<m->yh ops p≠some d
 |0,_,p,hp=>by omega
 |m+1,h,p,hp=>by
  simp only[zt5]at h
  cases hb:(match yh ops m with
   |some t=>Nat.beq t d
   |none=>false)with
  |true=>rw[hb]at h;cases h
  |false=>
   rw[hb]at h
   rcases AF p m with h1|h1
   ·exact zcs h p h1
   ·have:p=m:=by omega
    subst this
    intro e
    rw[e]at hb
    simp at hb
theorem qm{ops:Array Oper}:∀{m:Nat},jl ops m=true->∀p q t,p<m->q<m->yh ops p=some t->yh ops q=some t->p=q
 |0,_,p,q,t,hp,_,_,_=>by omega
 |m+1,h,p,q,t,hp,hq,e1,e2=>by
  simp only[jl]at h
  cases hb:(match yh ops m with
   |some t=>!(zt5 ops t m)
   |none=>true)with
  |false=>rw[hb]at h;cases h
  |true=>
   rw[hb]at h
   rcases AF p m with h1|h1 <;> rcases AF q m with h2|h2
   ·exact qm h p q t h1 h2 e1 e2
   ·have:q=m:=by omega
    subst this
    rw[e2]at hb
    simp only[C3]at hb
    exact absurd e1 (zcs hb p h1)
   ·have:p=m:=by omega
    subst this
    rw[e1]at hb
    simp only[C3]at hb
    exact absurd e2 (zcs hb q h2)
   ·omega
def Xt(o:Oper):Option Bool:=match o.op with
 |.fieldAddr _ _ _=>some true
 |.indexAddr _ _ _=>some true
 |.move _=>some true
 |.assign _=>match o.after.toList with
  |[]=>some true
  |_=>none
 |.nilCheck _=>some true
 |.slice _ _ _ _ _=>some true
 |.binOp _ _ _ _ _=>some true
 |.load _ _=>some false
 |_=>none
def ze(o:Oper):Bool:=match Xt o with
 |some _=>true
 |none=>false
def zj(o:Oper):Bool:=match Xt o with
 |some b=>!b
 |none=>false
def zl:Nat->List Oper->List Nat
 |_,[]=>[]
 |k,o::l=>bif ze o then zl (k+1) l else k::zl (k+1) l
def Q7(ops:Array Oper):List Nat->Bool
 |[]=>true
 |[_]=>true
 |i::j::l=>bif Region.waitsFor .any ops j i then Q7 ops (j::l)else false
def jh(ops:Array Oper)(i:Nat):List Nat->Bool
 |[]=>false
 |j::l=>bif Region.waitsFor .any ops j i then true else jh ops i l
def zfd(ops:Array Oper)(T:List Nat):Nat->Bool
 |0=>false
 |k+1=>bif (match ops[k]? with
  |some o=>bif zj o then !(jh ops k T)else false
  |none=>false)then true else zfd ops T k
def w9(ops:Array Oper)(T:List Nat):Nat->Nat->Bool
 |0,k=>memN T k
 |f+1,k=>bif memN T k then true else(BO ops.size).any λp=>bif Region.waitsFor .any ops p k then w9 ops T f p else false
def zyd(ops:Array Oper)(T:List Nat):Nat->Bool
 |0=>false
 |k+1=>bif (match ops[k]? with
  |some o=>bif zj o then !(w9 ops T ops.size k)else false
  |none=>false)then true else zyd ops T k
def zk4(tr:Bool)(ops:Array Oper)(T:List Nat)(m:Nat):Bool:=bif tr then zyd ops T m else zfd ops T m
def jz(l:List Oper):Bool:=l.all λo=>match o.guard with
 |none=>jc o.op
 |some _=>false
def Q8(ops:Array Oper):Nat->Bool
 |0=>true
 |k+1=>bif (match ops[k]? with
  |some o=>bif yw ops k (tmpsOf o.op.operands.toList) ops.size then(bif ze o then(zl 0 ops.toList).all λj=>!(Region.waitsFor .any ops k j)||(match yh ops j with
   |some t=>!(memN (tmpsOf o.op.operands.toList) t)
   |none=>true)else true)else false
  |none=>true)then Q8 ops k else false
def zrw(ops:Array Oper):Bool:=bif jz ops.toList then(bif qd ops ops.size then(bif jl ops ops.size then(bif Q7 ops (zl 0 ops.toList)then Q8 ops ops.size else false)else false)else false)else false
def wU(P:Program)(n:Nat)(h:zb)(K:Env->Prop):List Oper->Env->Prop
 |[],e=>K e
 |o::l,e=>bif ze o then(bif qk n [] o.dst then(bif jc o.op then(bif known e [] o.op.operands.toList then w8 P o (rho e []) none h λv=>wU P n h K l (putO e o.dst [] v)else False)else False)else False)else wU P n h K l e
def wT(P:Program)(n:Nat)(ops:Array Oper)(h0:zb)(K:Env->zb->Prop)(tr:Bool):List Nat->List Nat->Env->zb->Prop
 |_,[],e,h=>K (clean e) h
 |T,j::l,e,h=>match ops[j]? with
  |some o=>bif qk n [] o.dst then opW P o e [] h λv h'=>(bif zk4 tr ops (j::T) ops.size then Keep h0.size h0 h'/\wT P n ops h0 K tr (j::T) l (putO e o.dst [] v) h' else wT P n ops h0 K tr (j::T) l (putO e o.dst [] v) h')else False
  |none=>False
def qf:Nat->List Oper->(Nat->Value)->Act->Act
 |_,[],_,a=>a
 |k,o::l,f,a=>qf (k+1) l f (bif ze o then a.put o.dst (f k)else a)
theorem yi{a b:Act}:∀{l:List Operand},(∀t∈tmpsOf l,zm a t=zm b t)->∀x∈l,a.eval x=b.eval x
 |[],_,x,hx=>by cases hx
 |y::l,h,x,hx=>by
  rcases Ai.1 hx with rfl|hx
  ·cases x with
   |tmp t=>exact h t (by simp[tmpsOf])
   |const v=>rfl
   |global g=>rfl
   |func f=>rfl
  ·refine yi (l:=l) (λt ht=>h t ?_) x hx
   cases y <;> simp[tmpsOf,ht]
theorem yj(hs:jc o.op=true)(h:∀t∈tmpsOf o.op.operands.toList,zm a t=zm b t):execOp a.eval o=execOp b.eval o:=
 execOp_congr o (λcs b hb=>by rw[hb]at hs;cases hs) λx hx=>yi h x (by simpa using hx)
theorem znt{p:Addr}(e:h'[p.block]?=h[p.block]?)(i:Nat):zc h' (p.add i)=zc h (p.add i):=by
 have hb:(p.add i).block=p.block:=by unfold Af;split <;> rfl
 unfold zc;rw[hb,e]
theorem zbj{h h':zb}{p:Addr}(e:h'[p.block]?=h[p.block]?):∀{vs:List Value} {i:Nat},zh h p i vs->zh h' p i vs
 |[],_,_=>trivial
 |v::vs,i,⟨h1,h2⟩=>⟨(znt e i).trans h1,zbj e h2⟩
theorem znu{t:TypeId}{x:Value}{K:Value->Prop}(H:ziz P h t x none K):∃v p,x=.pointer (some p)/\K v/\∀h',h'[p.block]?=h[p.block]?->QExec P (Dx t x) h' v:=by
 unfold ziz at H
 split at H
 ·rename_i q a hv
  obtain⟨x,h1,h2⟩:=H
  refine⟨_,q,rfl,h2,λh' e=>zbh hv ?_⟩
  have h1:zc h q=some _:=h1
  unfold zc at h1 ⊢
  rw[e];exact h1
 ·rename_i q l hv
  obtain⟨vs,h0,⟨h1,h2⟩,_⟩:=Zu H (jf l)
  exact⟨_,q,rfl,h2,λh' e=>zbi hv h0 (zbj e h1)⟩
 ·exact H.elim
def LdOK(o:Oper)(ρ:Operand->Value)(h h':zb):Prop:=zj o=false\/Keep h.size h h'\/∀t a p,o.op=.load t a->ρ a=.pointer (some p)->h'[p.block]?=h[p.block]?
theorem LdOK.congr{ρ ρ':Operand->Value}(e:∀x∈o.op.operands.toList,ρ' x=ρ x)(H:LdOK o ρ h h'):LdOK o ρ' h h':=by
 rcases H with H|H|H
 ·exact .inl H
 ·exact .inr (.inl H)
 ·refine .inr (.inr λt a p ho hp=>H t a p ho ?_)
  rw[<-e a (by rw[ho];simp[Op.operands])];exact hp
theorem W4(hq:ze o=true){K:Value->Prop}(H:w8 P o ρ none h K):
  ∃v,K v/\∀h',LdOK o ρ h h'->QExec P (execOp ρ o) h' (.value v):=by
 cases ho:o.op with
 |load t x=>
  have Z:zea o=true:=by unfold zea;rw[ho]
  obtain⟨v1,k1,k2⟩:=Wz Z H
  unfold w8 at H;rw[ho]at H
  simp only at H
  obtain⟨v,p,hx,h1,h2⟩:=znu H
  have hv:v1=v:=by
   have a1:=k2 trivial h (Keep.refl _ _) default 0
   have a2:QExec P (execOp ρ o) h (.value v):=by simp only[execOp,ho];exact(h2 h rfl).val
   have a2:=a2 default 0
   rw[a1]at a2
   injection a2 with a2 _
   injection a2
  subst hv
  refine⟨v1,k1,λh' hk=>?_⟩
  rcases hk with hk|hk|hk
  ·unfold zj Xt at hk;rw[ho]at hk;cases hk
  ·exact k2 trivial h' hk
  ·have:=h2 h' (hk t x p ho hx)
   simp only[execOp,ho]
   exact this.val
 |fieldAddr t x i=>
  unfold w8 at H;rw[ho]at H
  obtain⟨v,h1,h2⟩:=zn H none
  exact⟨v,h1,λh' _=>h2 trivial h'⟩
 |indexAddr t x i=>
  unfold w8 at H;rw[ho]at H
  simp only at H
  cases he:J7 P t with
  |false=>rw[he]at H;exact H.elim
  |true=>
   rw[he]at H
   obtain⟨v,h1,h2⟩:=wa (j7 he) H
   refine⟨v,h1,λh' _=>?_⟩
   simp only[execOp,ho]
   exact(h2 trivial h').val
 |move x=>
  unfold w8 at H;rw[ho]at H
  obtain⟨v,h1,h2⟩:=zn H none
  exact⟨v,h1,λh' _=>h2 trivial h'⟩
 |assign x=>
  unfold w8 at H;rw[ho]at H
  obtain⟨v,h1,h2⟩:=zn H none
  exact⟨v,h1,λh' _=>h2 trivial h'⟩
 |slice t x lo hi mx=>
  unfold w8 at H;rw[ho]at H
  simp only at H
  cases he:J7 P t with
  |false=>rw[he]at H;exact H.elim
  |true=>
   rw[he]at H
   obtain⟨v,h1,h2⟩:=Qj (j7 he) H
   refine⟨v,h1,λh' _=>?_⟩
   simp only[execOp,ho]
   exact(h2 (show gok none from trivial) h').val
 |binOp op t x y t'=>
  unfold w8 at H;rw[ho]at H
  obtain⟨v,h1,h2⟩:=zi0 ho H
  exact⟨v,h1,λh' _=>h2 trivial h'⟩
 |nilCheck x=>
  unfold w8 at H;rw[ho]at H
  simp only at H
  unfold z8d at H
  split at H
  ·rename_i p hx
   obtain⟨a,h1,h2⟩:=H
   have hp:=h1.out (g:=none) trivial
   subst hp
   refine⟨_,h2,λh' _ B d=>?_⟩
   simp only[execOp,ho,hx]
   rfl
  ·obtain⟨v,h1,h2⟩:=zn H none
   exact⟨v,h1,λh' _=>h2 trivial h'⟩
 |_=>unfold ze Xt at hq;rw[ho]at hq;cases hq
theorem qg(σ:Nat->Value):valid σ []:=by unfold valid;trivial
theorem Zv:∀{l:List Oper} {k:Nat} {f:Nat->Value} {a:Act},(qf k l f a).tmps.size=a.tmps.size/\(qf k l f a).defers=a.defers
 |[],_,_,_=>⟨rfl,rfl⟩
 |o::l,k,f,a=>by
  unfold qf
  have:=Zv (l:=l) (k:=k+1) (f:=f) (a:=bif ze o then a.put o.dst (f k)else a)
  rw[this.1,this.2]
  cases ze o with
  |true=>exact⟨size_put _ _ _,zy _ _ _⟩
  |false=>exact⟨rfl,rfl⟩
theorem zk{d:Option Nat}{u:Value}{s:Nat}(h:d≠some s):zm (a.put d u) s=zm a s:=by
 cases d with
 |none=>rfl
 |some t=>exact qe λe=>h (by rw[e])
theorem yd{s:Nat}:∀{l:List Oper} {k:Nat} {f:Nat->Value} {a:Act},(∀o∈l,ze o=true->o.dst≠some s)->zm (qf k l f a) s=zm a s
 |[],_,_,_,_=>rfl
 |o::l,k,f,a,h=>by
  unfold qf
  rw[yd λo' Z=>h o' (Ag _ Z)]
  cases hq:ze o with
  |true=>exact zk (h o Am hq)
  |false=>rfl
theorem Qk{P:Program}{n:Nat}{h:zb}{K:Env->Prop}:∀{l:List Oper} {k:Nat} {e:Env} {a:Act},wU P n h K l e->Sat n e a->∃(f:Nat->Value) (e':Env),K e'/\Sat n e' (qf k l f a) /\
  ∀i o,l[i]?=some o->ze o=true->jc o.op=true/\qk n [] o.dst=true/\∀h',LdOK o (qf k (l.take i) f a).eval h h'->QExec P (execOp (qf k (l.take i) f a).eval o) h' (.value (f (k+i)))
 |[],k,e,a,H,hs=>⟨λ_=>undef,e,H,hs,λi o h=>by simp at h⟩
 |o::l,k,e,a,H,hs=>by
  unfold wU at H
  cases hq:ze o with
  |false=>
   rw[hq]at H
   obtain⟨f,e',h1,h2,h3⟩:=Qk (k:=k+1) H hs
   refine⟨f,e',h1,by unfold qf;rw[hq];exact h2,λi o' hi Z=>?_⟩
   cases i with
   |zero=>simp at hi;subst hi;rw[hq]at Z;cases Z
   |succ i=>
    have:=h3 i o' (by simpa using hi) Z
    rw[Cs]
    unfold qf
    rw[hq,show k+(i+1)=k+1+i by omega];exact this
  |true=>
   rw[hq]at H
   simp only[cond_true]at H
   cases hd:qk n [] o.dst with
   |false=>rw[hd]at H;exact H.elim
   |true=>
    rw[hd]at H
    simp only[cond_true]at H
    cases hns:jc o.op with
    |false=>rw[hns]at H;exact H.elim
    |true=>
     rw[hns]at H
     simp only[cond_true]at H
     cases hk:known e [] o.op.operands.toList with
     |false=>rw[hk]at H;exact H.elim
     |true=>
      rw[hk]at H
      simp only[cond_true]at H
      obtain⟨v,H1,H2⟩:=W4 hq H
      obtain⟨f,e',h1,h2,h3⟩:=Qk (k:=k+1) (a:=a.put o.dst v) H1 (hs.putO hd (λ_=>rfl) λhv=>absurd (qg _) hv)
      have hf:∀(m:List Oper) (j:Nat) (b:Act),qf (k+1+j) m (λx=>if x=k then v else f x) b=qf (k+1+j) m f b:=by
       intro m
       induction m with
       |nil=>intro j b;rfl
       |cons o' m ih=>
        intro j b
        unfold qf
        dsimp only
        rw[if_neg (show¬k+1+j=k by omega),show k+1+j+1=k+1+(j+1)by omega,ih]
      refine⟨λx=>if x=k then v else f x,e',h1,?_,λi o' hi Z=>?_⟩
      ·unfold qf
       rw[hq,cond_true]
       dsimp only
       rw[if_pos rfl]
       have:=hf l 0 (a.put o.dst v)
       rw[CQ]at this
       rw[this];exact h2
      ·cases i with
       |zero=>
        simp at hi;subst hi
        rw[DV,CQ]
        dsimp only
        rw[if_pos rfl]
        refine⟨hns,hd,λh' hh=>?_⟩
        show QExec P (execOp a.eval o) h' _
        rw[Qi hs (qg _) hns hk]
        exact H2 h' (LdOK.congr (λx hx=>(j6 hs (qg _) hk x hx).symm) hh)
       |succ i=>
        have:=h3 i o' (by simpa using hi) Z
        rw[Cs]
        unfold qf
        rw[hq,cond_true]
        dsimp only
        rw[if_pos rfl]
        have e2:=hf (l.take i) 0 (a.put o.dst v)
        rw[CQ]at e2
        rw[e2,if_neg (show¬k+(i+1)=k by omega),show k+(i+1)=k+1+i by omega]
        exact this
theorem Q9{next:Act->World->Prop}{Q:Exit->Act->World->Prop}{r:Result Next}(hb:b.defers=[])
  (H:o.upon P b (λc w=>c.defers=[]/\∀v,c=b.put o.dst v->next (a.put o.dst v) w) (λ_ _ _=>False) r):o.upon P a next Q r:=by
 have lo:¬LetsOut (λ(_:Exit) (_:Act) (_:World)=>False):=λh=>by
  obtain⟨_,_,h⟩:=h
  exact h
 cases r with
 |ok x w=>
  cases x with
  |value v=>exact H.2 v rfl
  |skip=>exact H.2 undef rfl
  |defer d=>
   have:=H.1
   rw[zy]at this;cases this
  |enter f args=>
   refine Calls.mono (show Calls P f args w _ from H) λe w' he=>?_
   cases e with
   |returned v=>exact he.2 v rfl
   |panicked c=>exact he.elim
   |outgrown=>exact absurd he lo
  |row row args=>exact Rows.mono (show Rows P row args w _ from H) λv w' he=>he.2 v rfl
  |_=>exact H
 |halt x w=>cases x <;> first|exact H.elim|exact H
theorem qp{j:Nat}:∀{l:List Oper} {k:Nat},j∈zl k l↔k<=j/\∃o,l[j-k]?=some o/\ze o=false
 |[],k=>by simp[zl]
 |o::l,k=>by
  unfold zl
  cases hq:ze o with
  |true=>
   rw[cond_true,qp (l:=l)]
   constructor
   ·rintro⟨h1,o',h2,h3⟩
    exact⟨by omega,o',by rw[show j-k=(j-(k+1))+1 by omega];simpa using h2,h3⟩
   ·rintro⟨h1,o',h2,h3⟩
    rcases Dh h1 with e|e
    ·subst e
     simp at h2;subst h2;rw[hq]at h3;cases h3
    ·exact⟨by omega,o',by rw[show j-k=(j-(k+1))+1 by omega]at h2;simpa using h2,h3⟩
  |false=>
   rw[cond_false,Ai,qp (l:=l)]
   constructor
   ·rintro(rfl|⟨h1,o',h2,h3⟩)
    ·exact⟨Ad _,o,by simp,hq⟩
    ·exact⟨by omega,o',by rw[show j-k=(j-(k+1))+1 by omega];simpa using h2,h3⟩
   ·rintro⟨h1,o',h2,h3⟩
    rcases Dh h1 with e|e
    ·exact .inl e.symm
    ·exact .inr ⟨by omega,o',by rw[show j-k=(j-(k+1))+1 by omega]at h2;simpa using h2,h3⟩
theorem yf:∀{l:List Oper} {k:Nat},(zl k l).Nodup
 |[],_=>List.nodup_nil
 |o::l,k=>by
  unfold zl
  cases ze o with
  |true=>exact yf
  |false=>exact DO.2 ⟨λh=>by have:=(qp.1 h).1;omega,yf⟩
theorem qn{ops:Array Oper}:∀{m:Nat},Q8 ops m=true->∀k o,k<m->ops[k]?=some o->yw ops k (tmpsOf o.op.operands.toList) ops.size=true/\(ze o=true->∀j∈zl 0 ops.toList,Region.waitsFor .any ops k j=true->∀t,yh ops j=some t->t∉tmpsOf o.op.operands.toList)
 |0,_,k,o,hk,_=>by omega
 |m+1,h,k,o,hk,ho=>by
  unfold Q8 at h
  split at h
  ·rename_i o' Z
   cases hs:yw ops m (tmpsOf o'.op.operands.toList) ops.size with
   |false=>rw[hs]at h;cases h
   |true=>
    rw[hs,cond_true]at h
    rcases AF k m with h1|h1
    ·refine qn (m:=m) ?_ k o h1 ho
     revert h
     cases(bif ze o' then(zl 0 ops.toList).all λj=>!(Region.waitsFor .any ops m j)||(match yh ops j with
      |some t=>!(memN (tmpsOf o'.op.operands.toList) t)
      |none=>true)else true) <;> intro h <;> first|exact h|cases h
    ·have:k=m:=by omega
     subst this
     have:o'=o:=Aq (Z.symm.trans ho)
     subst this
     refine⟨hs,λhq j hj hw t ht=>?_⟩
     rw[hq,cond_true]at h
     cases hall:(zl 0 ops.toList).all λj=>!(Region.waitsFor .any ops k j)||(match yh ops j with
      |some t=>!(memN (tmpsOf o'.op.operands.toList) t)
      |none=>true)with
     |false=>rw[hall]at h;cases h
     |true=>
      have:=A4.1 hall j hj
      rw[hw,ht]at this
      simp only[Bool.not_true,Dl,C3]at this
      exact wb this
  ·rename_i Z
   rw[cond_true]at h
   rcases AF k m with h1|h1
   ·exact qn h k o h1 ho
   ·have:k=m:=by omega
    subst this
    rw[Z]at ho;cases ho
theorem Zz{ops:Array Oper}:∀{l:List Nat},Q7 ops l=true->∀q i j,l[q]?=some i->l[q+1]?=some j->Region.waitsFor .any ops j i=true
 |[],_,q,i,j,h,_=>by simp at h
 |[_],_,q,i,j,_,h=>by simp at h
 |a::b::l,h,q,i,j,h1,h2=>by
  unfold Q7 at h
  cases hw:Region.waitsFor .any ops b a with
  |false=>rw[hw]at h;cases h
  |true=>
   rw[hw,cond_true]at h
   cases q with
   |zero=>simp at h1 h2;subst h1;subst h2;exact hw
   |succ q=>exact Zz h q i j (by simpa using h1) (by simpa using h2)
theorem we{ops:Array Oper}{i:Nat}:∀{l:List Nat},jh ops i l=true->∃j∈l,Region.waitsFor .any ops j i=true
 |[],h=>by cases h
 |j::l,h=>by
  unfold jh at h
  cases hw:Region.waitsFor .any ops j i with
  |true=>exact⟨j,Am,hw⟩
  |false=>
   rw[hw,cond_false]at h
   obtain⟨j',h1,h2⟩:=we h
   exact⟨j',Ag _ h1,h2⟩
theorem Ya{ops:Array Oper}{T:List Nat}:∀{m:Nat},zfd ops T m=false->∀k o,k<m->ops[k]?=some o->zj o=true->jh ops k T=true
 |0,_,k,o,hk,_,_=>by omega
 |m+1,h,k,o,hk,ho,hl=>by
  unfold zfd at h
  cases hb:(match ops[m]? with
   |some o=>bif zj o then !(jh ops m T)else false
   |none=>false)with
  |true=>rw[hb]at h;cases h
  |false=>
   rw[hb,cond_false]at h
   rcases AF k m with h1|h1
   ·exact Ya h k o h1 ho hl
   ·have:k=m:=by omega
    subst this
    rw[ho]at hb
    simp only[hl,cond_true,Bool.not_eq_false']at hb
    exact hb
theorem xf{ops:Array Oper}{T:List Nat}:∀{f k:Nat},w9 ops T f k=true->∀{listed:Array Bool},(∀i p,listed.getD i false=true->Region.waitsFor .any ops i p=true->listed.getD p false=true)->(∀j∈T,listed.getD j false=true)->listed.getD k false=true
 |0,k,h,_,_,hT=>by
  have hm:k∈T:=by
   unfold w9 at h
   exact CC λhc=>by
    have:memN T k=false:=by
     clear h hT
     induction T with
     |nil=>rfl
     |cons x T ih=>
      simp only[Ai,not_or]at hc
      simp only[memN]
      have:Nat.beq k x=false:=by
       cases hb:Nat.beq k x with
       |false=>rfl
       |true=>exact absurd (Ah hb) hc.1
      rw[this,cond_false];exact ih hc.2
    rw[this]at h;cases h
  exact hT k hm
 |f+1,k,h,listed,hc,hT=>by
  unfold w9 at h
  cases hm:memN T k with
  |true=>exact xf (f:=0) (k:=k) (by unfold w9;exact hm) hc hT
  |false=>
   rw[hm,cond_false,List.any_eq_true]at h
   obtain⟨p,_,hp⟩:=h
   cases hw:Region.waitsFor .any ops p k with
   |false=>rw[hw]at hp;cases hp
   |true=>rw[hw,cond_true]at hp;exact hc p k (xf hp hc hT) hw
theorem zct{ops:Array Oper}{T:List Nat}:∀{m:Nat},zyd ops T m=false->∀k o,k<m->ops[k]?=some o->zj o=true->w9 ops T ops.size k=true
 |0,_,k,o,hk,_,_=>by omega
 |m+1,h,k,o,hk,ho,hl=>by
  unfold zyd at h
  cases hb:(match ops[m]? with
   |some o=>bif zj o then !(w9 ops T ops.size m)else false
   |none=>false)with
  |true=>rw[hb]at h;cases h
  |false=>
   rw[hb,cond_false]at h
   rcases AF k m with h1|h1
   ·exact zct h k o h1 ho hl
   ·have:k=m:=by omega
    subst this
    rw[ho]at hb
    simp only[hl,cond_true]at hb
    simpa using hb
theorem jm{i p:Nat}(hi:i∈Region.ready .any ops listed)(hw:Region.waitsFor .any ops i p=true):listed.getD p false=true:=by
 obtain⟨oj,ab,e,he,hb,aa⟩:=Region.waitsFor_spec hw
 obtain⟨_,o,ho,Z⟩:=mem_ready.1 hi
 have:oj=o:=Aq (ab.symm.trans ho)
 subst this
 rw[<-aa];exact Z e he hb
theorem qq(inv:HeadInv .any ops n listed){i p:Nat}(hi:listed.getD i false=true)(hw:Region.waitsFor .any ops i p=true):listed.getD p false=true:=by
 obtain⟨oj,aa,e,he,hb,Z⟩:=Region.waitsFor_spec hw
 rw[<-Z];exact inv.closed i oj aa hi e he hb
theorem Z0{p:Nat->Bool}{N:Nat}(h:∃k,k<N/\p k=false):∃k,k<N/\p k=false/\∀j,j<k->p j=true:=by
 obtain⟨k,h1,h2⟩:=h
 induction k using Nat.strongRecOn with
 |_ k ih=>
  by_cases hm:∃j,j<k/\p j=false
  ·obtain⟨j,h3,h4⟩:=hm
   exact ih j h3 (by omega) h4
  ·exact⟨k,h1,h2,λj hj=>by
    cases hb:p j with
    |true=>rfl
    |false=>exact absurd ⟨j,hj,hb⟩ hm⟩
theorem J9(h:zrw ops=true):jz ops.toList=true/\qd ops ops.size=true/\jl ops ops.size=true/\Q7 ops (zl 0 ops.toList)=true/\Q8 ops ops.size=true:=by
 unfold zrw at h
 cases h1:jz ops.toList <;> cases h2:qd ops ops.size <;> cases h3:jl ops ops.size <;> cases h4:Q7 ops (zl 0 ops.toList) <;> simp[h1,h2,h3,h4]at h ⊢
 exact h
theorem Zm{l:List Oper}(h:jz l=true):∀o∈l,o.guard=none/\jc o.op=true:=by
 intro o ho
 have:=A4.1 h o ho
 cases hg:o.guard with
 |none=>rw[hg]at this;exact⟨rfl,this⟩
 |some g=>rw[hg]at this;cases this
theorem wh:∀{l m:List Oper} {k:Nat} {f:Nat->Value} {a:Act},qf k (l++m) f a=qf (k+l.length) m f (qf k l f a)
 |[],m,k,f,a=>rfl
 |o::l,m,k,f,a=>by
  have e:∀l',qf k (o::l') f a=qf (k+1) l' f (bif ze o then a.put o.dst (f k)else a):=λ_=>rfl
  rw[Bu,e,e,wh,show k+1+l.length=k+(o::l).length by simp;omega]
theorem toL(ho:ops[i]?=some o):ops.toList[i]?=some o:=by rw[BB];exact ho
theorem ofL(ho:ops.toList[i]?=some o):ops[i]?=some o:=by rw[BB]at ho;exact ho
structure StM (P:Program) (n:Nat) (ops:Array Oper) (h0:zb) (K:Env->zb->Prop) (tr:Bool) (f:Nat->Value) (a0:Act) (listed:Array Bool) (a b:Act) (e:Env) (h:zb) (done todo:List Nat):Prop where
 inv:HeadInv .any ops ops.size listed
 ag:∀s,(∀i o,ops[i]?=some o->ze o=true->listed.getD i false=false->o.dst≠some s)->zm a s=zm b s
 sz:a.tmps.size=n
 ad:a.defers=[]
 sb:Sat n e b
 qv:∀i o t,ops[i]?=some o->ze o=true->o.dst=some t->zm b t=f i/\t<n
 qx:∀i o,ops[i]?=some o->ze o=true->∀h',(zj o=false\/Keep h0.size h0 h')->QExec P (execOp b.eval o) h' (.value (f i))
 tt:zl 0 ops.toList=done.reverse++todo
 ch:∀j,j∈zl 0 ops.toList->(listed.getD j false=true↔j∈done)
 wt:wT P n ops h0 K tr done todo e h
 kp:∀i o,ops[i]?=some o->zj o=true->listed.getD i false=false->Keep h0.size h0 h
 sm:Same (yn ops.toList) a0 a
theorem xo{o:Oper}:∀{l:List Oper},o∈l->∀i,o.dst=some i->i∈yn l
 |[],h,_,_=>by cases h
 |x::l,h,i,hi=>by
  unfold yn
  rcases Ai.1 h with rfl|h
  ·rw[hi];exact Am
  ·have:=xo h i hi
   split
   ·exact Ag _ this
   ·exact this
theorem zf{k:Nat}(h:ops[k]?=some o):yh ops k=o.dst:=by simp[yh,h]
theorem znv{K:Env->zb->Prop}{Q:Exit->Act->World->Prop}(B:World)(bg:zrw ops=true){f:Nat->Value}
  (hQ:∀e' a' d' h',Sat n e' a'->Same (yn ops.toList) a0 a'->K e' h'->Q .normal a' (mk B d' h')):
  ∀(N:Nat) (U:List Nat) (listed:Array Bool) (a b:Act) (e:Env) (h:zb) (d:Nat) (done todo:List Nat),U.length=N->U.Nodup->(∀k,k∈U↔k<ops.size/\listed.getD k false=false) ->
   StM P n ops h0 K tr f a0 listed a b e h done todo->wpAny P .any ops Q N listed a (mk B d h):=by
 obtain⟨bz,aP,bE,aF,ap⟩:=J9 bg
 have ba:∀(i:Nat) (o:Oper),ops[i]?=some o->o.guard=none/\jc o.op=true:=λi o ho=>Zm bz o (by
  obtain⟨ab,e⟩:=Ac.1 ho
  rw[<-e];simp)
 have bu:∀{listed:Array Bool} {a b:Act} {e:Env} {h:zb} {d:Nat} {done todo:List Nat},(∀k,k<ops.size->listed.getD k false=true)->StM P n ops h0 K tr f a0 listed a b e h done todo->Q .normal a (mk B d h):=by
  intro listed a b e h d done todo ae S
  have aj:todo=[]:=by
   cases todo with
   |nil=>rfl
   |cons j l=>
    have hj:j∈zl 0 ops.toList:=by rw[S.tt];simp
    have ab:j<ops.size:=by
     obtain⟨_,o,ho,_⟩:=qp.1 hj
     have:=(Au.1 ho).1
     simpa using this
    have hd:=(S.ch j hj).1 (ae j ab)
    have hn:=yf (l:=ops.toList) (k:=0)
    rw[S.tt,BQ]at hn
    exact absurd rfl (hn.2.2 j (by simpa using hd) j (by simp))
  have hw:=S.wt
  rw[aj]at hw
  unfold wT at hw
  have hv:∀s,zm a s=zm b s:=λs=>S.ag s λi o ho hq hl=>by
   rw[ae i (Ac.1 ho).1]at hl;cases hl
  have hs:Sat n e a:=⟨S.ad,S.sz,λx hx=>by
   have:=S.sb.all x hx
   have e1:zm a=zm b:=funext hv
   rw[e1];exact this⟩
  exact hQ _ _ _ _ hs.clean S.sm hw
 intro N
 induction N with
 |zero=>
  intro U listed a b e h d done todo hU _ af S
  have bH:U=[]:=AW.1 hU
  subst bH
  have ae:∀k,k<ops.size->listed.getD k false=true:=λk hk=>by
   cases hb:listed.getD k false with
   |true=>rfl
   |false=>exact absurd ((af k).2 ⟨hk,hb⟩) (by simp)
  refine⟨?_,bu ae S⟩
  rw[CG]
  intro j hj
  obtain⟨h1,o,ho,_⟩:=mem_ready.1 hj
  have ab:=(Ac.1 ho).1
  have:=ae j ab
  have h2:=getD_both h1
  rw[this]at h2;cases h2
 |succ N ih=>
  intro U listed a b e h d done todo hU aL af S
  have bo:∃k,k<ops.size/\listed.getD k false=false:=by
   cases U with
   |nil=>cases hU
   |cons k U=>exact⟨k,(af k).1 Am⟩
  refine⟨λhr=>?_,λi hi=>?_⟩
  ·exfalso
   obtain⟨k,ax,aO,bI⟩:=Z0 bo
   have:k∈Region.ready .any ops listed:=mem_ready.2 ⟨by rw[<-aO];simp[S.inv.size,ax],ops[k],AJ ax,λx hx hb=>bI _ (zu aP k ops[k] ax (AJ ax) x hx hb)⟩
   rw[hr]at this;cases this
  ·obtain⟨bi,o,ho,ae⟩:=mem_ready.1 hi
   have aA:listed.getD i false=false:=getD_both bi
   have ab:i<ops.size:=(Ac.1 ho).1
   obtain⟨hg,bA⟩:=ba i o ho
   have aH:i<listed.size:=by rw[S.inv.size];exact ab
   have a1:(U.erase i).length=N:=by rw[CH ((af i).2 ⟨ab,aA⟩),hU];rfl
   have an:(U.erase i).Nodup:=aL.erase i
   have ar:∀k,k∈U.erase i↔k<ops.size/\(listed.setIfInBounds i true).getD k false=false:=λk=>by
    rw[aL.mem_erase_iff,af k]
    by_cases hk:i=k
    ·subst hk;simp[aH]
    ·rw[getD_set_ne false hk];exact⟨λhx=>hx.2,λhx=>⟨λe=>hk e.symm,hx⟩⟩
   have am:=S.inv.set hi ab
   have ai:∀k,k≠i->(listed.setIfInBounds i true).getD k false=listed.getD k false:=λk hk=>getD_set_ne false (Ne.symm hk)
   have ak:(listed.setIfInBounds i true).getD i false=true:=by simp[aH]
   obtain⟨aE,bL⟩:=qn ap i o ab ho
   have bn:∀t∈tmpsOf o.op.operands.toList,zm a t=zm b t:=λt ht=>S.ag t λk ok Z hq hl hd=>by
    have hw:=zz aE k t (Ac.1 Z).1 (by rw[zf Z,hd]) ht
    rw[jm hi hw]at hl;cases hl
   have aN:=yj bA bn
   unfold wpOp
   rw[ho]
   simp only
   have aM:Bl o (yielded ops a.tmps)=true:=by unfold Bl;rw[hg]
   rw[if_pos aM]
   left
   unfold Oper.wp
   rw[aN]
   cases hq:ze o with
   |true=>
    have hx:=S.qx i o ho hq h (by
     cases hl:zj o with
     |false=>exact .inl rfl
     |true=>exact .inr (S.kp i o ho hl aA)) B d
    rw[hx,Oper.upon_value]
    have a7:i∉zl 0 ops.toList:=λhm=>by
     obtain⟨_,o',bj,aZ⟩:=qp.1 hm
     rw[CU]at bj
     have:o'=o:=by
      have h2:ops[i]?=some o':=ofL bj
      exact Aq (h2.symm.trans ho)
     subst this;rw[hq]at aZ;cases aZ
    refine ih _ _ _ b e h d done todo a1 an ar { S with inv:=am,ag:=λs hs=>?_,sz:=by rw[size_put];exact S.sz,ad:=by rw[zy];exact S.ad,ch:=λj hj=>?_,kp:=λk ok Z hl hk=>?_,sm:=S.sm.trans (Same.put a o.dst _ λt ht=>xo (by
     obtain⟨bD,e2⟩:=Ac.1 ho
     rw[<-e2];simp) t ht) }
    ·by_cases hd:o.dst=some s
     ·obtain⟨hv,aB⟩:=S.qv i o s ho hq hd
      rw[hd,qi (by rw[S.sz];exact aB),hv]
     ·rw[zk hd]
      refine S.ag s λk ok Z aa aV=>?_
      by_cases ah:k=i
      ·subst ah
       have:ok=o:=Aq (Z.symm.trans ho)
       subst this;exact hd
      ·exact hs k ok Z aa (by rw[ai k ah];exact aV)
    ·have:j≠i:=λe=>a7 (e ▸ hj)
     rw[ai j this];exact S.ch j hj
    ·by_cases ah:k=i
     ·subst ah;rw[ak]at hk;cases hk
     ·rw[ai k ah]at hk;exact S.kp k ok Z hl hk
   |false=>
    have aU:i∈zl 0 ops.toList:=qp.2 ⟨CK _,o,by rw[CU];exact toL ho,hq⟩
    have aI:=yf (l:=ops.toList) (k:=0)
    have aC:i∉done:=λhd=>by rw[(S.ch i aU).2 hd]at aA;cases aA
    have aj:∃rest,todo=i::rest:=by
     have bm:i∈todo:=by
      have:=aU
      rw[S.tt,Aw]at this
      rcases this with h1|h1
      ·exact absurd (by simpa using h1) aC
      ·exact h1
     cases todo with
     |nil=>cases bm
     |cons j rest=>
      rcases Ai.1 bm with rfl|hr
      ·exact⟨rest,rfl⟩
      ·exfalso
       obtain⟨m,hm,em⟩:=AY hr
       have hp:∃pr,(j::rest)[m]?=some pr:=⟨_,Ak (by simp;omega)⟩
       obtain⟨pr,a6⟩:=hp
       have hw:=Zz aF (done.reverse.length+m) pr i (by rw[S.tt,A6 (by omega),C7];exact a6) (by
        rw[S.tt,A6 (by omega),show done.reverse.length+m+1-done.reverse.length=m+1 by omega,List.getElem?_cons_succ,Ak hm,em])
       have aJ:pr∈j::rest:=Ba a6
       have be:pr∈zl 0 ops.toList:=by rw[S.tt];exact Av _ aJ
       have hd:=(S.ch pr be).1 (jm hi hw)
       rw[S.tt,BQ]at aI
       exact aI.2.2 pr (by simpa using hd) pr aJ rfl
    obtain⟨rest,rfl⟩:=aj
    have hW:=S.wt
    unfold wT at hW
    rw[ho]at hW
    simp only at hW
    cases hd:qk n [] o.dst with
    |false=>rw[hd]at hW;exact hW.elim
    |true=>
     rw[hd,cond_true]at hW
     refine Q9 (b:=b) S.sb.defers ?_
     refine zfb hW S.sb (qg _) B d λv d' h' hK=>⟨by rw[zy];exact S.sb.defers,λv2 bC=>?_⟩
     have bJ:b.put o.dst v2=b.put o.dst v:=bC.symm
     have aG:∀j,j∈zl 0 ops.toList->((listed.setIfInBounds i true).getD j false=true↔j∈i::done):=λj hj=>by
      by_cases aY:j=i
      ·subst aY;rw[ak];simp
      ·rw[ai j aY,S.ch j hj];simp[aY]
     have aS:zk4 tr ops (i::done) ops.size=false->∀k ok,ops[k]?=some ok->zj ok=true->(listed.setIfInBounds i true).getD k false=true:=λhl k ok Z az=>by
      have bh:∀j∈i::done,(listed.setIfInBounds i true).getD j false=true:=λj hj=>by
       rcases Ai.1 hj with rfl|hj
       ·exact ak
       ·exact getD_set_true ((S.ch j (by rw[S.tt];simp[hj])).2 hj)
      cases tr with
      |false=>
       obtain⟨j,hj,hw⟩:=we (Ya hl k ok (Ac.1 Z).1 Z az)
       exact qq am (bh j hj) hw
      |true=>exact xf (zct hl k ok (Ac.1 Z).1 Z az) (λi p h1 h2=>qq am h1 h2) bh
     have a8:wT P n ops h0 K tr (i::done) rest (putO e o.dst [] v) h'/\(∀k ok,ops[k]?=some ok->zj ok=true->(listed.setIfInBounds i true).getD k false=false->Keep h0.size h0 h'):=by
      cases hl:zk4 tr ops (i::done) ops.size with
      |true=>rw[hl,cond_true]at hK;exact⟨hK.2,λ_ _ _ _ _=>hK.1⟩
      |false=>rw[hl,cond_false]at hK;exact⟨hK,λk ok Z az hf=>by rw[aS hl k ok Z az]at hf;cases hf⟩
     have aT:∀k ok t,ops[k]?=some ok->ze ok=true->ok.dst=some t->o.dst≠some t:=λk ok t Z aa ay au=>by
      have:=qm bE k i t (Ac.1 Z).1 ab (by rw[zf Z,ay]) (by rw[zf ho,au])
      subst this
      have:ok=o:=Aq (Z.symm.trans ho)
      subst this;rw[hq]at aa;cases aa
     refine ih _ _ _ (b.put o.dst v) (putO e o.dst [] v) h' d' (i::done) rest a1 an ar ⟨am,λs hs=>?_,by rw[size_put];exact S.sz,by rw[zy];exact S.ad,S.sb.putO hd (λ_=>rfl) λhv=>absurd (qg _) hv,λk ok t Z aa ay=>?_,λk ok Z aa bF hh=>?_,by rw[S.tt];simp,aG,a8.1,a8.2,S.sm.trans (Same.put a o.dst _ λt ht=>xo (by
      obtain⟨bD,e2⟩:=Ac.1 ho
      rw[<-e2];simp) t ht)⟩
     ·have bB:∀u,(∀k ok,ops[k]?=some ok->ze ok=true->listed.getD k false=false->ok.dst≠some s)->o.dst≠some s->zm (a.put o.dst u) s=zm (b.put o.dst v) s:=λu h1 h2=>by
       rw[zk h2,zk h2];exact S.ag s h1
      have br:∀k ok,ops[k]?=some ok->ze ok=true->listed.getD k false=false->ok.dst≠some s:=λk ok Z aa aV=>by
       by_cases ah:k=i
       ·subst ah
        have:ok=o:=Aq (Z.symm.trans ho)
        subst this;rw[hq]at aa;cases aa
       ·exact hs k ok Z aa (by rw[ai k ah];exact aV)
      by_cases aQ:o.dst=some s
      ·rw[<-bJ,aQ]
       have aB:s<n:=by
        rw[aQ]at hd
        unfold qk at hd
        simp at hd;exact hd.2
       rw[qi (by rw[S.sz];exact aB),qi (by rw[S.sb.size];exact aB)]
      ·exact bB v2 br aQ
     ·have:=S.qv k ok t Z aa ay
      rw[zk (aT k ok t Z aa ay)];exact this
     ·have aO:=ba k ok Z
      rw[yj (b:=b) aO.2 λt ht=>?_]
      ·exact S.qx k ok Z aa bF hh
      ·refine zk λau=>?_
       obtain⟨bq,bG⟩:=qn ap k ok (Ac.1 Z).1 Z
       have hw:=zz bq i t ab (by rw[zf ho,au]) ht
       exact bG aa i aU hw t (by rw[zf ho,au]) ht
theorem zfe{K:Env->zb->Prop}{Q:Exit->Act->World->Prop}(B:World)(ae:zrw ops=true)
  (H:wU P n h (λe'=>wT P n ops h K tr [] (zl 0 ops.toList) e' h) ops.toList e) (hs:Sat n e a)
  (hQ:∀e' a' d' h',Sat n e' a'->Same (yn ops.toList) a a'->K e' h'->Q .normal a' (mk B d' h')) (d:Nat):wpAny P .any ops Q ops.size (Be ops.size false) a (mk B d h):=by
 obtain⟨aC,ah,ax,ap,ai⟩:=J9 ae
 obtain⟨f,e1,HT,an,hf⟩:=Qk (k:=0) H hs
 have hl:∀(i:Nat) (o:Oper),ops[i]?=some o->ops.toList[i]?=some o:=λi o ho=>toL ho
 have Z:∀i,qf 0 ops.toList f a=qf (0+(ops.toList.take i).length) (ops.toList.drop i) f (qf 0 (ops.toList.take i) f a):=λi=>by
  rw[<-wh,Ce]
 refine znv B ae (f:=f) hQ ops.size (BO ops.size) _ a (qf 0 ops.toList f a) e1 h d [] (zl 0 ops.toList) Dn C8 (λk=>by rw[BK,getD_replicate_false];simp) ⟨⟨by simp,λj oj _ hl=>(by rw[getD_replicate_false]at hl;cases hl),λt ht aB=>by omega⟩,λs az=>?_,hs.size,hs.defers,an,λi o t ho hq hd=>?_,λi o ho hq h' hh=>?_,by simp,λj hj=>by rw[getD_replicate_false];simp,HT,λ_ _ _ _ _=>Keep.refl _ _,Same.refl _ _⟩
 ·refine(yd λo ho hq=>?_).symm
  obtain⟨i,hi,e⟩:=AY ho
  exact az i o (ofL (by rw[Ak hi,e])) hq (getD_replicate_false _ _)
 ·obtain⟨h1,h2,h3⟩:=hf i o (hl i o ho) hq
  have ak:t<n:=by
   rw[hd]at h2
   unfold qk at h2
   simp at h2;exact h2.2
  refine⟨?_,ak⟩
  have ab:=(Ac.1 ho).1
  have am:(ops.toList.take i).length=i:=by simp;omega
  rw[Z i,am,AB]
  have ay:ops.toList.drop i=o::ops.toList.drop (i+1):=by
   have:=(Au.1 (hl i o ho))
   rw[Ay this.1,this.2]
  rw[ay]
  unfold qf
  rw[hq,cond_true,yd λo' af au aj=>?_]
  ·rw[hd,qi (by rw[Zv.1,hs.size];exact ak)]
  ·obtain⟨m,hm,em⟩:=AY af
   have aa:ops[i+1+m]?=some o':=by
    have:ops.toList[i+1+m]?=some o':=by rw[<-AE,Ak hm,em]
    exact ofL this
   have:=qm ax i (i+1+m) t ab (Ac.1 aa).1 (by rw[zf ho,hd]) (by rw[zf aa,aj])
   omega
 ·obtain⟨h1,h2,h3⟩:=hf i o (hl i o ho) hq
  have:=h3 h' (hh.imp id Or.inl)
  rw[AB]at this
  rw[yj h1 λt ht=>?_]
  ·exact this
  ·have ab:=(Ac.1 ho).1
   rw[Z i]
   refine yd λo' af au aj=>?_
   obtain⟨m,hm,em⟩:=AY af
   have aa:ops[i+m]?=some o':=by
    have:ops.toList[i+m]?=some o':=by rw[<-AE,Ak hm,em]
    exact ofL this
   obtain⟨ar,_⟩:=qn ai i o ab ho
   have hw:=zz ar (i+m) t (Ac.1 aa).1 (by rw[zf aa,aj]) ht
   obtain⟨oj,aA,x,hx,hb,aE⟩:=Region.waitsFor_spec hw
   have:=zu ah i oj ab aA x hx hb
   omega
def zcu(j:Nat):List Nat->List Nat
 |[]=>[]
 |k::l=>bif Nat.beq k j then zcu j l else k::zcu j l
theorem Yu{j x:Nat}:∀{l:List Nat},x∈zcu j l↔x∈l/\x≠j
 |[]=>by simp[zcu]
 |k::l=>by
  simp only[zcu]
  cases hb:Nat.beq k j with
  |true=>
   have:=Ah hb
   subst this
   rw[cond_true,Yu,Ai]
   exact⟨λh=>⟨.inr h.1,h.2⟩,λh=>⟨h.1.resolve_left h.2,h.2⟩⟩
  |false=>
   have Z:k≠j:=λe=>by rw[e]at hb;simp at hb
   rw[cond_false,Ai,Ai,Yu]
   constructor
   ·rintro(rfl|h)
    ·exact⟨.inl rfl,Z⟩
    ·exact⟨.inr h.1,h.2⟩
   ·rintro⟨rfl|h,h2⟩
    ·exact .inl rfl
    ·exact .inr ⟨h,h2⟩
theorem W5{j:Nat}:∀{l:List Nat},l.Nodup->(zcu j l).Nodup
 |[],h=>h
 |k::l,h=>by
  simp only[zcu]
  rw[DO]at h
  cases Nat.beq k j with
  |true=>exact W5 h.2
  |false=>
   rw[cond_false,DO]
   exact⟨λhm=>h.1 (Yu.1 hm).1,W5 h.2⟩
theorem zt6{j:Nat}:∀{l:List Nat},(zcu j l).length<=l.length
 |[]=>Ad _
 |k::l=>by
  simp only[zcu]
  have:=zt6 (j:=j) (l:=l)
  cases Nat.beq k j with
  |true=>rw[cond_true,AI];omega
  |false=>rw[cond_false,AI,AI];omega
theorem zi1{j:Nat}:∀{l:List Nat},j∈l->(zcu j l).length+1<=l.length
 |[],h=>by cases h
 |k::l,h=>by
  simp only[zcu]
  cases hb:Nat.beq k j with
  |true=>
   have:=zt6 (j:=j) (l:=l)
   rw[cond_true,AI];omega
  |false=>
   have Z:k≠j:=λe=>by rw[e]at hb;simp at hb
   have:=zi1 (j:=j) (l:=l) (by
    rcases Ai.1 h with rfl|h
    ·exact absurd rfl Z
    ·exact h)
   rw[cond_false,AI,AI];omega
def zye(ops:Array Oper)(todo:List Nat)(j:Nat):Bool:=todo.all λk=>bif Nat.beq k j then true else !(w9 ops [j] ops.size k)
def z8f(p:Nat->Prop):List Nat->Prop
 |[]=>True
 |[j]=>p j
 |j::k::l=>p j/\z8f p (k::l)
theorem zi2{p:Nat->Prop}:∀{l:List Nat},z8f p l->∀j∈l,p j
 |[],_,j,h=>by cases h
 |[k],H,j,h=>by simp at h;subst h;exact H
 |k::k2::l,H,j,h=>by
  rcases Ai.1 h with rfl|h
  ·exact H.1
  ·exact zi2 H.2 j h
def zrx(p:Nat->Bool):List Nat->List Nat
 |[]=>[]
 |j::l=>bif p j then j::zrx p l else zrx p l
theorem zbk{p:Nat->Bool}{j:Nat}:∀{l:List Nat},j∈l->p j=true->j∈zrx p l
 |[],h,_=>by cases h
 |k::l,h,hp=>by
  simp only[zrx]
  rcases Ai.1 h with rfl|h
  ·rw[hp];exact Am
  ·cases p k with
   |true=>exact Ag _ (zbk h hp)
   |false=>exact zbk h hp
def zk5(ops:Array Oper)(T:List Nat)(e:Env)(h0 h':zb)(K:Prop):Nat->Prop
 |0=>K
 |k+1=>match ops[k]? with
  |some o=>bif zj o then(bif w9 ops T ops.size k then zk5 ops T e h0 h' K k else match o.op with
   |.load _ a=>bif known e [] [a]then(match rho e [] a with
    |.pointer (some p)=>h'[p.block]?=h0[p.block]?/\zk5 ops T e h0 h' K k
    |_=>False)else False
   |_=>False)else zk5 ops T e h0 h' K k
  |none=>zk5 ops T e h0 h' K k
theorem zhi{ops:Array Oper}{T:List Nat}{e:Env}{h0 h':zb}{K:Prop}:∀{m:Nat},zk5 ops T e h0 h' K m->K/\∀k o,k<m->ops[k]?=some o->zj o=true->w9 ops T ops.size k=false ->
  ∃t a p,o.op=.load t a/\known e [] [a]=true/\rho e [] a=.pointer (some p)/\h'[p.block]?=h0[p.block]?
 |0,H=>⟨H,λk o hk=>by omega⟩
 |m+1,H=>by
  unfold zk5 at H
  have step:zk5 ops T e h0 h' K m->(∀o,ops[m]?=some o->zj o=true->w9 ops T ops.size m=false->∃t a p,o.op=.load t a/\known e [] [a]=true/\rho e [] a=.pointer (some p)/\h'[p.block]?=h0[p.block]?) ->
    K/\∀k o,k<m+1->ops[k]?=some o->zj o=true->w9 ops T ops.size k=false->∃t a p,o.op=.load t a/\known e [] [a]=true/\rho e [] a=.pointer (some p)/\h'[p.block]?=h0[p.block]?:=λH1 H2=>by
   obtain⟨h1,h2⟩:=zhi H1
   refine⟨h1,λk o hk ho hl hr=>?_⟩
   rcases AF k m with h3|h3
   ·exact h2 k o h3 ho hl hr
   ·have:k=m:=by omega
    subst this
    exact H2 o ho hl hr
  cases ho:ops[m]? with
  |none=>rw[ho]at H;exact step H λo h1=>by rw[ho]at h1;cases h1
  |some o=>
   rw[ho]at H
   simp only at H
   have same:∀o',ops[m]?=some o'->o'=o:=λo' h1=>Aq (h1.symm.trans ho)
   cases hl:zj o with
   |false=>rw[hl]at H;exact step H λo' h1 h2=>by rw[same o' h1,hl]at h2;cases h2
   |true=>
    rw[hl,cond_true]at H
    cases hr:w9 ops T ops.size m with
    |true=>rw[hr]at H;exact step H λo' h1 h2 h3=>by rw[hr]at h3;cases h3
    |false=>
     rw[hr,cond_false]at H
     split at H
     ·rename_i t a Z
      cases hk:known e [] [a]with
      |false=>rw[hk]at H;exact H.elim
      |true=>
       rw[hk,cond_true]at H
       split at H
       ·rename_i p hp
        exact step H.2 λo' h1 h2 h3=>⟨t,a,p,by rw[same o' h1];exact Z,hk,hp,H.1⟩
       ·exact H.elim
     ·exact H.elim
def zyf(md:Bool)(ops:Array Oper)(T:List Nat)(e:Env)(h0 h':zb)(K:Prop):Prop:=bif md then zk5 ops T e h0 h' K ops.size else Keep h0.size h0 h'/\K
def wB(P:Program)(n:Nat)(ops:Array Oper)(h0:zb)(K:Env->zb->Prop)(md:Bool):Nat->List Nat->List Nat->Env->zb->Prop
 |_,_,[],e,h=>K (clean e) h
 |0,_,_::_,_,_=>False
 |f+1,T,j0::l0,e,h=>z8f (λj=>match ops[j]? with
  |some o=>bif qk n [] o.dst then opW P o e [] h λv h'=>(bif zk4 true ops (j::T) ops.size then zyf md ops (j::T) e h0 h' (wB P n ops h0 K md f (j::T) (zcu j (j0::l0)) (putO e o.dst [] v) h')else wB P n ops h0 K md f (j::T) (zcu j (j0::l0)) (putO e o.dst [] v) h')else False
  |none=>False) (zrx (zye ops (j0::l0)) (j0::l0))
theorem zt7{K:Env->zb->Prop}{f:Nat}{T todo:List Nat}(H:wB P n ops h0 K md (f+1) T todo e h){j:Nat}(hj:j∈todo)(hc:zye ops todo j=true):match ops[j]? with
  |some o=>bif qk n [] o.dst then opW P o e [] h λv h'=>(bif zk4 true ops (j::T) ops.size then zyf md ops (j::T) e h0 h' (wB P n ops h0 K md f (j::T) (zcu j todo) (putO e o.dst [] v) h')else wB P n ops h0 K md f (j::T) (zcu j todo) (putO e o.dst [] v) h')else False
  |none=>False:=by
 cases todo with
 |nil=>cases hj
 |cons j0 l0=>exact zi2 H j (zbk hj hc)
def zk6(ops:Array Oper):Bool:=bif jz ops.toList then(bif qd ops ops.size then(bif jl ops ops.size then Q8 ops ops.size else false)else false)else false
theorem zhj(h:zk6 ops=true):jz ops.toList=true/\qd ops ops.size=true/\jl ops ops.size=true/\Q8 ops ops.size=true:=by
 unfold zk6 at h
 cases h1:jz ops.toList <;> cases h2:qd ops ops.size <;> cases h3:jl ops ops.size <;> simp[h1,h2,h3]at h ⊢
 exact h
structure StB (P:Program) (n:Nat) (ops:Array Oper) (h0:zb) (K:Env->zb->Prop) (md:Bool) (f:Nat->Value) (a0:Act) (listed:Array Bool) (a b:Act) (e:Env) (h:zb) (done todo:List Nat):Prop where
 inv:HeadInv .any ops ops.size listed
 ag:∀s,(∀i o,ops[i]?=some o->ze o=true->listed.getD i false=false->o.dst≠some s)->zm a s=zm b s
 sz:a.tmps.size=n
 ad:a.defers=[]
 sb:Sat n e b
 qv:∀i o t,ops[i]?=some o->ze o=true->o.dst=some t->zm b t=f i/\t<n
 qx:∀i o,ops[i]?=some o->ze o=true->∀h',LdOK o b.eval h0 h'->QExec P (execOp b.eval o) h' (.value (f i))
 tt:∀j,j∈zl 0 ops.toList->(j∈todo↔listed.getD j false=false)
 ch:∀j,j∈zl 0 ops.toList->(listed.getD j false=true↔j∈done)
 dn:∀j∈done,j∈zl 0 ops.toList
 th:∀j∈todo,j∈zl 0 ops.toList
 nd:todo.Nodup
 wt:∃fu,todo.length<=fu/\wB P n ops h0 K md fu done todo e h
 kp:∀i o,ops[i]?=some o->zj o=true->listed.getD i false=false->LdOK o b.eval h0 h
 sm:Same (yn ops.toList) a0 a
theorem zyg{K:Env->zb->Prop}{Q:Exit->Act->World->Prop}(B:World)(bg:zk6 ops=true){f:Nat->Value}
  (hQ:∀e' a' d' h',Sat n e' a'->Same (yn ops.toList) a0 a'->K e' h'->Q .normal a' (mk B d' h')):
  ∀(N:Nat) (U:List Nat) (listed:Array Bool) (a b:Act) (e:Env) (h:zb) (d:Nat) (done todo:List Nat),U.length=N->U.Nodup->(∀k,k∈U↔k<ops.size/\listed.getD k false=false) ->
   StB P n ops h0 K md f a0 listed a b e h done todo->wpAny P .any ops Q N listed a (mk B d h):=by
 obtain⟨br,aQ,bC,au⟩:=zhj bg
 have be:∀(i:Nat) (o:Oper),ops[i]?=some o->o.guard=none/\jc o.op=true:=λi o ho=>Zm br o (by
  obtain⟨ah,e⟩:=Ac.1 ho
  rw[<-e];simp)
 have bq:∀{listed:Array Bool} {a b:Act} {e:Env} {h:zb} {d:Nat} {done todo:List Nat},(∀k,k<ops.size->listed.getD k false=true)->StB P n ops h0 K md f a0 listed a b e h done todo->Q .normal a (mk B d h):=by
  intro listed a b e h d done todo aj S
  have aZ:todo=[]:=by
   cases htd:todo with
   |nil=>rfl
   |cons j l=>
    have hm:j∈todo:=by rw[htd];simp
    have hj:j∈zl 0 ops.toList:=S.th j hm
    have ah:j<ops.size:=by
     obtain⟨_,o,ho,_⟩:=qp.1 hj
     have:=(Au.1 ho).1
     simpa using this
    have:=(S.tt j hj).1 hm
    rw[aj j ah]at this;cases this
  obtain⟨fu,_,hw⟩:=S.wt
  rw[aZ]at hw
  have hw:K (clean e) h:=by cases fu <;> exact hw
  have hv:∀s,zm a s=zm b s:=λs=>S.ag s λi o ho hq hl=>by
   rw[aj i (Ac.1 ho).1]at hl;cases hl
  have hs:Sat n e a:=⟨S.ad,S.sz,λx hx=>by
   have:=S.sb.all x hx
   have e1:zm a=zm b:=funext hv
   rw[e1];exact this⟩
  exact hQ _ _ _ _ hs.clean S.sm hw
 intro N
 induction N with
 |zero=>
  intro U listed a b e h d done todo hU _ af S
  have bG:U=[]:=AW.1 hU
  subst bG
  have aj:∀k,k<ops.size->listed.getD k false=true:=λk hk=>by
   cases hb:listed.getD k false with
   |true=>rfl
   |false=>exact absurd ((af k).2 ⟨hk,hb⟩) (by simp)
  refine⟨?_,bq aj S⟩
  rw[CG]
  intro j hj
  obtain⟨h1,o,ho,_⟩:=mem_ready.1 hj
  have ah:=(Ac.1 ho).1
  have:=aj j ah
  have h2:=getD_both h1
  rw[this]at h2;cases h2
 |succ N ih=>
  intro U listed a b e h d done todo hU aJ af S
  have bm:∃k,k<ops.size/\listed.getD k false=false:=by
   cases U with
   |nil=>cases hU
   |cons k U=>exact⟨k,(af k).1 Am⟩
  refine⟨λhr=>?_,λi hi=>?_⟩
  ·exfalso
   obtain⟨k,az,aP,bI⟩:=Z0 bm
   have:k∈Region.ready .any ops listed:=mem_ready.2 ⟨by rw[<-aP];simp[S.inv.size,az],ops[k],AJ az,λx hx hb=>bI _ (zu aQ k ops[k] az (AJ az) x hx hb)⟩
   rw[hr]at this;cases this
  ·obtain⟨bh,o,ho,aj⟩:=mem_ready.1 hi
   have aN:listed.getD i false=false:=getD_both bh
   have ah:i<ops.size:=(Ac.1 ho).1
   obtain⟨hg,bu⟩:=be i o ho
   have aH:i<listed.size:=by rw[S.inv.size];exact ah
   have a7:(U.erase i).length=N:=by rw[CH ((af i).2 ⟨ah,aN⟩),hU];rfl
   have ar:(U.erase i).Nodup:=aJ.erase i
   have ax:∀k,k∈U.erase i↔k<ops.size/\(listed.setIfInBounds i true).getD k false=false:=λk=>by
    rw[aJ.mem_erase_iff,af k]
    by_cases hk:i=k
    ·subst hk;simp[aH]
    ·rw[getD_set_ne false hk];exact⟨λhx=>hx.2,λhx=>⟨λe=>hk e.symm,hx⟩⟩
   have am:=S.inv.set hi ah
   have ae:∀k,k≠i->(listed.setIfInBounds i true).getD k false=listed.getD k false:=λk hk=>getD_set_ne false (Ne.symm hk)
   have ab:(listed.setIfInBounds i true).getD i false=true:=by simp[aH]
   obtain⟨aC,bL⟩:=qn au i o ah ho
   have bj:∀t∈tmpsOf o.op.operands.toList,zm a t=zm b t:=λt ht=>S.ag t λk ok Z hq hl hd=>by
    have hw:=zz aC k t (Ac.1 Z).1 (by rw[zf Z,hd]) ht
    rw[jm hi hw]at hl;cases hl
   have aM:=yj bu bj
   unfold wpOp
   rw[ho]
   simp only
   have aL:Bl o (yielded ops a.tmps)=true:=by unfold Bl;rw[hg]
   rw[if_pos aL]
   left
   unfold Oper.wp
   rw[aM]
   cases hq:ze o with
   |true=>
    have hx:=S.qx i o ho hq h (by
     cases hl:zj o with
     |false=>exact .inl hl
     |true=>exact S.kp i o ho hl aN) B d
    rw[hx,Oper.upon_value]
    have aI:i∉zl 0 ops.toList:=λhm=>by
     obtain⟨_,o',bi,a6⟩:=qp.1 hm
     rw[CU]at bi
     have:o'=o:=by
      have h2:ops[i]?=some o':=ofL bi
      exact Aq (h2.symm.trans ho)
     subst this;rw[hq]at a6;cases a6
    refine ih _ _ _ b e h d done todo a7 ar ax { S with inv:=am,ag:=λs hs=>?_,sz:=by rw[size_put];exact S.sz,ad:=by rw[zy];exact S.ad,tt:=λj hj=>(by have:j≠i:=λe=>aI (e ▸ hj);rw[ae j this];exact S.tt j hj),ch:=λj hj=>?_,kp:=λk ok Z hl hk=>?_,sm:=S.sm.trans (Same.put a o.dst _ λt ht=>xo (by
     obtain⟨bB,e2⟩:=Ac.1 ho
     rw[<-e2];simp) t ht) }
    ·by_cases hd:o.dst=some s
     ·obtain⟨hv,aB⟩:=S.qv i o s ho hq hd
      rw[hd,qi (by rw[S.sz];exact aB),hv]
     ·rw[zk hd]
      refine S.ag s λk ok Z aa a1=>?_
      by_cases ai:k=i
      ·subst ai
       have:ok=o:=Aq (Z.symm.trans ho)
       subst this;exact hd
      ·exact hs k ok Z aa (by rw[ae k ai];exact a1)
    ·have:j≠i:=λe=>aI (e ▸ hj)
     rw[ae j this];exact S.ch j hj
    ·by_cases ai:k=i
     ·subst ai;rw[ab]at hk;cases hk
     ·rw[ae k ai]at hk;exact S.kp k ok Z hl hk
   |false=>
    have aV:i∈zl 0 ops.toList:=qp.2 ⟨CK _,o,by rw[CU];exact toL ho,hq⟩
    have aF:i∈todo:=(S.tt i aV).2 aN
    obtain⟨fu,bM,bz⟩:=S.wt
    have aO:zye ops todo i=true:=by
     unfold zye
     rw[A4]
     intro k hk
     cases ai:Nat.beq k i with
     |true=>rfl
     |false=>
      have aY:k≠i:=λe=>by rw[e]at ai;simp at ai
      cases hr:w9 ops [i] ops.size k with
      |false=>rfl
      |true=>
       exfalso
       have:=xf hr (listed:=listed.setIfInBounds i true) (λp q h1 h2=>qq am h1 h2) (λj hj=>by simp at hj;subst hj;exact ab)
       rw[ae k aY]at this
       have h2:=(S.tt k (S.th k hk)).1 hk
       rw[this]at h2;cases h2
    have hW:match ops[i]? with
      |some o=>bif qk n [] o.dst then opW P o e [] h λv h'=>(bif zk4 true ops (i::done) ops.size then zyf md ops (i::done) e h0 h' (wB P n ops h0 K md (fu-1) (i::done) (zcu i todo) (putO e o.dst [] v) h')else wB P n ops h0 K md (fu-1) (i::done) (zcu i todo) (putO e o.dst [] v) h')else False
      |none=>False:=by
     cases fu with
     |zero=>(have:todo.length=0:=by omega);rw[AW.1 this]at aF;cases aF
     |succ fu=>
      have:=zt7 (show wB P n ops h0 K md (fu+1) done todo e h from bz) aF aO
      exact this
    rw[ho]at hW
    simp only at hW
    cases hd:qk n [] o.dst with
    |false=>rw[hd]at hW;exact hW.elim
    |true=>
     rw[hd,cond_true]at hW
     refine Q9 (b:=b) S.sb.defers ?_
     refine zfb hW S.sb (qg _) B d λv d' h' hK=>⟨by rw[zy];exact S.sb.defers,λv2 bA=>?_⟩
     have bJ:b.put o.dst v2=b.put o.dst v:=bA.symm
     have aG:∀j,j∈zl 0 ops.toList->((listed.setIfInBounds i true).getD j false=true↔j∈i::done):=λj hj=>by
      by_cases ap:j=i
      ·subst ap;rw[ab];simp
      ·rw[ae j ap,S.ch j hj];simp[ap]
     have aT:zk4 true ops (i::done) ops.size=false->∀k ok,ops[k]?=some ok->zj ok=true->(listed.setIfInBounds i true).getD k false=true:=λhl k ok Z ak=>by
      have bD:∀j∈i::done,(listed.setIfInBounds i true).getD j false=true:=λj hj=>by
       rcases Ai.1 hj with rfl|hj
       ·exact ab
       ·exact getD_set_true ((S.ch j (S.dn j hj)).2 hj)
      exact xf (zct hl k ok (Ac.1 Z).1 Z ak) (λi p h1 h2=>qq am h1 h2) bD
     have an:∀k ok,ops[k]?=some ok->ze ok=true->∀t∈tmpsOf ok.op.operands.toList,zm (b.put o.dst v) t=zm b t:=λk ok Z aa t ht=>zk λay=>by
      obtain⟨bn,bF⟩:=qn au k ok (Ac.1 Z).1 Z
      have hw:=zz bn i t ah (by rw[zf ho,ay]) ht
      exact bF aa i aV hw t (by rw[zf ho,ay]) ht
     have aE:∀k,w9 ops (i::done) ops.size k=true->(listed.setIfInBounds i true).getD k false=true:=λk hr=>xf hr (λi p h1 h2=>qq am h1 h2) λj hj=>by
      rcases Ai.1 hj with rfl|hj
      ·exact ab
      ·exact getD_set_true ((S.ch j (S.dn j hj)).2 hj)
     have ba:wB P n ops h0 K md (fu-1) (i::done) (zcu i todo) (putO e o.dst [] v) h'/\(∀k ok,ops[k]?=some ok->zj ok=true->(listed.setIfInBounds i true).getD k false=false->LdOK ok (b.put o.dst v).eval h0 h'):=by
      cases hl:zk4 true ops (i::done) ops.size with
      |false=>rw[hl,cond_false]at hK;exact⟨hK,λk ok Z ak hf=>by rw[aT hl k ok Z ak]at hf;cases hf⟩
      |true=>
       rw[hl,cond_true]at hK
       unfold zyf at hK
       cases md with
       |false=>exact⟨hK.2,λ_ _ _ _ _=>.inr (.inl hK.1)⟩
       |true=>
        rw[cond_true]at hK
        obtain⟨g1,g2⟩:=zhi hK
        refine⟨g1,λk ok Z ak hf=>.inr (.inr λt a p a8 hp=>?_)⟩
        have hr:w9 ops (i::done) ops.size k=false:=by
         cases hr:w9 ops (i::done) ops.size k with
         |false=>rfl
         |true=>rw[aE k hr]at hf;cases hf
        obtain⟨t',a',p',e1,e2,e3,e4⟩:=g2 k ok (Ac.1 Z).1 Z ak hr
        rw[a8]at e1
        injection e1 with _ e1
        subst e1
        have aa:ze ok=true:=by
         unfold zj at ak
         unfold ze
         split at ak
         ·rfl
         ·cases ak
        have af:a∈ok.op.operands.toList:=by rw[a8];simp[Op.operands]
        have ea:=yi (an k ok Z aa) a af
        have eb:b.eval a=rho e [] a:=j6 S.sb (qg _) e2 a (by simp)
        rw[ea,eb,e3]at hp
        injection hp with hp
        injection hp with hp
        rw[<-hp];exact e4
     have bH:∀j,j∈zl 0 ops.toList->(j∈zcu i todo↔(listed.setIfInBounds i true).getD j false=false):=λj hj=>by
      rw[Yu]
      by_cases ap:j=i
      ·subst ap;rw[ab];simp
      ·rw[ae j ap,<-S.tt j hj];exact⟨λhx=>hx.1,λhx=>⟨hx,ap⟩⟩
     have aU:∀k ok t,ops[k]?=some ok->ze ok=true->ok.dst=some t->o.dst≠some t:=λk ok t Z aa aA ay=>by
      have:=qm bC k i t (Ac.1 Z).1 ah (by rw[zf Z,aA]) (by rw[zf ho,ay])
      subst this
      have:ok=o:=Aq (Z.symm.trans ho)
      subst this;rw[hq]at aa;cases aa
     refine ih _ _ _ (b.put o.dst v) (putO e o.dst [] v) h' d' (i::done) (zcu i todo) a7 ar ax ⟨am,λs hs=>?_,by rw[size_put];exact S.sz,by rw[zy];exact S.ad,S.sb.putO hd (λ_=>rfl) λhv=>absurd (qg _) hv,λk ok t Z aa aA=>?_,λk ok Z aa bE hh=>?_,bH,aG,(λj hj=>by
      rcases Ai.1 hj with rfl|hj
      ·exact aV
      ·exact S.dn j hj),(λj hj=>S.th j (Yu.1 hj).1),W5 S.nd,⟨fu-1,by have:=zi1 aF;omega,ba.1⟩,ba.2,S.sm.trans (Same.put a o.dst _ λt ht=>xo (by
      obtain⟨bB,e2⟩:=Ac.1 ho
      rw[<-e2];simp) t ht)⟩
     ·have aY:∀u,(∀k ok,ops[k]?=some ok->ze ok=true->listed.getD k false=false->ok.dst≠some s)->o.dst≠some s->zm (a.put o.dst u) s=zm (b.put o.dst v) s:=λu h1 h2=>by
       rw[zk h2,zk h2];exact S.ag s h1
      have bo:∀k ok,ops[k]?=some ok->ze ok=true->listed.getD k false=false->ok.dst≠some s:=λk ok Z aa a1=>by
       by_cases ai:k=i
       ·subst ai
        have:ok=o:=Aq (Z.symm.trans ho)
        subst this;rw[hq]at aa;cases aa
       ·exact hs k ok Z aa (by rw[ae k ai];exact a1)
      by_cases aS:o.dst=some s
      ·rw[<-bJ,aS]
       have aB:s<n:=by
        rw[aS]at hd
        unfold qk at hd
        simp at hd;exact hd.2
       rw[qi (by rw[S.sz];exact aB),qi (by rw[S.sb.size];exact aB)]
      ·exact aY v2 bo aS
     ·have:=S.qv k ok t Z aa aA
      rw[zk (aU k ok t Z aa aA)];exact this
     ·have aP:=be k ok Z
      rw[yj (b:=b) aP.2 (an k ok Z aa)]
      exact S.qx k ok Z aa bE (LdOK.congr (λx hx=>(yi (an k ok Z aa) x hx).symm) hh)
theorem zhk{K:Env->zb->Prop}{Q:Exit->Act->World->Prop}(B:World)(ae:zk6 ops=true)
  (H:wU P n h (λe'=>wB P n ops h K md (zl 0 ops.toList).length [] (zl 0 ops.toList) e' h) ops.toList e) (hs:Sat n e a)
  (hQ:∀e' a' d' h',Sat n e' a'->Same (yn ops.toList) a a'->K e' h'->Q .normal a' (mk B d' h')) (d:Nat):wpAny P .any ops Q ops.size (Be ops.size false) a (mk B d h):=by
 obtain⟨aC,ah,ax,ai⟩:=zhj ae
 obtain⟨f,e1,HT,ap,hf⟩:=Qk (k:=0) H hs
 have hl:∀(i:Nat) (o:Oper),ops[i]?=some o->ops.toList[i]?=some o:=λi o ho=>toL ho
 have Z:∀i,qf 0 ops.toList f a=qf (0+(ops.toList.take i).length) (ops.toList.drop i) f (qf 0 (ops.toList.take i) f a):=λi=>by
  rw[<-wh,Ce]
 refine zyg B ae (f:=f) hQ ops.size (BO ops.size) _ a (qf 0 ops.toList f a) e1 h d [] (zl 0 ops.toList) Dn C8 (λk=>by rw[BK,getD_replicate_false];simp) ⟨⟨by simp,λj oj _ hl=>(by rw[getD_replicate_false]at hl;cases hl),λt ht aB=>by omega⟩,λs az=>?_,hs.size,hs.defers,ap,λi o t ho hq hd=>?_,λi o ho hq h' hh=>?_,(λj hj=>by rw[getD_replicate_false];simp[hj]),(λj hj=>by rw[getD_replicate_false];simp),(λj hj=>by cases hj),(λj hj=>hj),yf,⟨_,Ad _,HT⟩,λ_ _ _ _ _=>.inr (.inl (Keep.refl _ _)),Same.refl _ _⟩
 ·refine(yd λo ho hq=>?_).symm
  obtain⟨i,hi,e⟩:=AY ho
  exact az i o (ofL (by rw[Ak hi,e])) hq (getD_replicate_false _ _)
 ·obtain⟨h1,h2,h3⟩:=hf i o (hl i o ho) hq
  have am:t<n:=by
   rw[hd]at h2
   unfold qk at h2
   simp at h2;exact h2.2
  refine⟨?_,am⟩
  have ab:=(Ac.1 ho).1
  have an:(ops.toList.take i).length=i:=by simp;omega
  rw[Z i,an,AB]
  have ay:ops.toList.drop i=o::ops.toList.drop (i+1):=by
   have:=(Au.1 (hl i o ho))
   rw[Ay this.1,this.2]
  rw[ay]
  unfold qf
  rw[hq,cond_true,yd λo' af au aj=>?_]
  ·rw[hd,qi (by rw[Zv.1,hs.size];exact am)]
  ·obtain⟨m,hm,em⟩:=AY af
   have aa:ops[i+1+m]?=some o':=by
    have:ops.toList[i+1+m]?=some o':=by rw[<-AE,Ak hm,em]
    exact ofL this
   have:=qm ax i (i+1+m) t ab (Ac.1 aa).1 (by rw[zf ho,hd]) (by rw[zf aa,aj])
   omega
 ·obtain⟨h1,h2,h3⟩:=hf i o (hl i o ho) hq
  have ak:∀t∈tmpsOf o.op.operands.toList,zm (qf 0 ops.toList f a) t=zm (qf 0 (ops.toList.take i) f a) t:=λt ht=>by
   have ab:=(Ac.1 ho).1
   rw[Z i]
   refine yd λo' af au aj=>?_
   obtain⟨m,hm,em⟩:=AY af
   have aa:ops[i+m]?=some o':=by
    have:ops.toList[i+m]?=some o':=by rw[<-AE,Ak hm,em]
    exact ofL this
   obtain⟨ar,_⟩:=qn ai i o ab ho
   have hw:=zz ar (i+m) t (Ac.1 aa).1 (by rw[zf aa,aj]) ht
   obtain⟨oj,aA,x,hx,hb,aE⟩:=Region.waitsFor_spec hw
   have:=zu ah i oj ab aA x hx hb
   omega
  have:=h3 h' (LdOK.congr (λx hx=>(yi ak x hx).symm) hh)
  rw[AB]at this
  rw[yj h1 ak]
  exact this
end
section
variable {l done:List Nat} {i m n:Nat} {ops:Array Oper} {P:Program} {o:Oper} {h h0:zb} {md:Bool} {e:Env} {a b:Act}
def z0i(o:Oper):Bool:=match o.op with
 |.extract _ _=>true
 |_=>false
def zk7(o:Oper):Bool:=bif ze o then true else z0i o
def upL(ops:Array Oper):Nat->List Nat->List Nat
 |0,S=>S
 |k+1,S=>upL ops k (bif S.any λp=>Region.waitsFor .any ops p k then k::S else S)
theorem zi3{ops:Array Oper}{listed:Array Bool}(hc:∀i p,listed.getD i false=true->Region.waitsFor .any ops i p=true->listed.getD p false=true):∀{m:Nat} {S:List Nat},(∀j∈S,listed.getD j false=true)->∀k∈upL ops m S,listed.getD k false=true
 |0,S,h,k,hk=>h k hk
 |m+1,S,h,k,hk=>by
  unfold upL at hk
  refine zi3 hc (m:=m) (λj hj=>?_) k hk
  cases ha:(S.any λp=>Region.waitsFor .any ops p m)with
  |false=>rw[ha]at hj;exact h j hj
  |true=>
   rw[ha,cond_true]at hj
   rcases Ai.1 hj with rfl|hj
   ·obtain⟨p,hp,hw⟩:=List.any_eq_true.1 ha
    exact hc p _ (h p hp) hw
   ·exact h j hj
theorem Yv(h:memN l i=true):i∈l:=by
 induction l with
 |nil=>cases h
 |cons j l ih=>
  simp only[memN]at h
  cases hb:Nat.beq i j with
  |true=>rw[Ah hb];exact Am
  |false=>rw[hb]at h;exact Ag _ (ih h)
theorem zi4(h:i∈l):memN l i=true:=by
 cases hm:memN l i with
 |true=>rfl
 |false=>exact absurd h (wb hm)
def z9a(ops:Array Oper)(k:Nat):Bool:=match ops[k]? with
 |some o=>!(zk7 o)
 |none=>false
def qbe(ops:Array Oper)(i:Nat):Bool:=(upL ops ops.size [i]).any (z9a ops)
def gdd(o:Oper):Bool:=match o.guard with
 |none=>false
 |some _=>true
def J0(ops:Array Oper)(i:Nat):Bool:=match ops[i]? with
 |some o=>bif gdd o then true else bif zk7 o then(bif zj o then qbe ops i else false)else true
 |none=>true
def hvL(ops:Array Oper):List Nat:=(BO ops.size).filter (J0 ops)
theorem zff{j:Nat}:j∈hvL ops↔j<ops.size/\J0 ops j=true:=by
 unfold hvL;rw[List.mem_filter,BK]
theorem zt8(ops:Array Oper):(hvL ops).Nodup:=C8.filter _
def okW(ops:Array Oper)(done S:List Nat)(k:Nat):Nat->Bool
 |0=>true
 |p+1=>bif Region.waitsFor .any ops k p then(bif (bif J0 ops p then memN done p else memN S p)then okW ops done S k p else false)else okW ops done S k p
theorem zer{ops:Array Oper}{done S:List Nat}{k:Nat}:∀{m:Nat},okW ops done S k m=true↔∀p,p<m->Region.waitsFor .any ops k p=true->(J0 ops p=true->p∈done)/\(J0 ops p=false->p∈S)
 |0=>⟨λ_ p hp=>by omega,λ_=>rfl⟩
 |m+1=>by
  unfold okW
  have ih:=zer (ops:=ops) (done:=done) (S:=S) (k:=k) (m:=m)
  constructor
  ·intro h p hp hw
   rcases AF p m with h1|h1
   ·refine ih.1 ?_ p h1 hw
    revert h
    cases Region.waitsFor .any ops k m with
    |false=>exact id
    |true=>
     cases(bif J0 ops m then memN done m else memN S m)with
     |false=>intro h;cases h
     |true=>exact id
   ·have:p=m:=by omega
    subst this
    rw[hw,cond_true]at h
    cases hi:J0 ops p with
    |true=>
     rw[hi,cond_true]at h
     cases hm:memN done p with
     |false=>rw[hm]at h;cases h
     |true=>exact⟨λ_=>Yv hm,(λhc=>by cases hc)⟩
    |false=>
     rw[hi,cond_false]at h
     cases hm:memN S p with
     |false=>rw[hm]at h;cases h
     |true=>exact⟨(λhc=>by cases hc),λ_=>Yv hm⟩
  ·intro h
   have h1:=ih.2 λp hp hw=>h p (by omega) hw
   cases hw:Region.waitsFor .any ops k m with
   |false=>exact h1
   |true=>
    obtain⟨a,b⟩:=h m (by omega) hw
    rw[cond_true]
    cases hi:J0 ops m with
    |true=>rw[cond_true,zi4 (a hi)];exact h1
    |false=>rw[cond_false,zi4 (b hi)];exact h1
def z8g(ops:Array Oper)(done S:List Nat)(k:Nat):List Nat:=bif J0 ops k then S else(bif okW ops done S k k then k::S else S)
def Qw(ops:Array Oper)(done:List Nat):Nat->List Nat
 |0=>[]
 |k+1=>z8g ops done (Qw ops done k) k
theorem Zb{ops:Array Oper}{done:List Nat}:∀{m i:Nat},i∈Qw ops done m->i<m/\J0 ops i=false/\okW ops done (Qw ops done i) i i=true
 |0,i,h=>by cases h
 |m+1,i,h=>by
  unfold Qw z8g at h
  cases hi:J0 ops m with
  |true=>rw[hi,cond_true]at h;have:=Zb h;exact⟨by omega,this.2⟩
  |false=>
   rw[hi,cond_false]at h
   cases ho:okW ops done (Qw ops done m) m m with
   |false=>rw[ho,cond_false]at h;have:=Zb h;exact⟨by omega,this.2⟩
   |true=>
    rw[ho,cond_true]at h
    rcases Ai.1 h with rfl|h
    ·exact⟨by omega,hi,ho⟩
    ·have:=Zb h;exact⟨by omega,this.2⟩
theorem zfg{ops:Array Oper}{done:List Nat}{m:Nat}:∀{m' i:Nat},m<=m'->i∈Qw ops done m->i∈Qw ops done m'
 |0,i,h,hi=>by(have:m=0:=by omega);subst this;exact hi
 |m'+1,i,h,hi=>by
  rcases Dh h with e|e
  ·rw[<-e];exact hi
  ·have:=zfg (m':=m') (by omega) hi
   unfold Qw z8g
   cases J0 ops m' with
   |true=>exact this
   |false=>
    rw[cond_false]
    cases okW ops done (Qw ops done m') m' m' with
    |true=>exact Ag _ this
    |false=>exact this
theorem zi5(hm:i<m)(h1:J0 ops i=false)(h2:okW ops done (Qw ops done i) i i=true):i∈Qw ops done m:=by
 refine zfg (m:=i+1) hm ?_
 unfold Qw z8g
 rw[h1,h2];exact Am
theorem zp3{m i p:Nat}(h:i∈Qw ops done m)(hp:p<i)(hw:Region.waitsFor .any ops i p=true):(J0 ops p=true->p∈done)/\(J0 ops p=false->p∈Qw ops done m):=by
 obtain⟨h1,h2,h3⟩:=Zb h
 obtain⟨a,b⟩:=zer.1 h3 p hp hw
 exact⟨a,λhi=>zfg (by omega) (b hi)⟩
def Ql(Z aa:List Nat)(n:Nat):List Nat:=(BO n).filter λi=>bif memN aa i then !(memN Z i)else false
theorem zhl{aa Z:List Nat}:i∈Ql aa Z n↔i<n/\i∈Z/\i∉aa:=by
 unfold Ql
 rw[List.mem_filter,BK]
 constructor
 ·rintro⟨h1,h2⟩
  cases hn:memN Z i with
  |false=>rw[hn]at h2;cases h2
  |true=>
   rw[hn,cond_true]at h2
   exact⟨h1,Yv hn,λhm=>by rw[zi4 hm]at h2;cases h2⟩
 ·rintro⟨h1,h2,h3⟩
  refine⟨h1,?_⟩
  rw[zi4 h2,cond_true]
  cases hw:memN aa i with
  |false=>rfl
  |true=>exact absurd (Yv hw) h3
theorem zbl(Z aa:List Nat)(n:Nat):(Ql Z aa n).Pairwise (· < ·):=List.pairwise_lt_range.filter _
def wI(P:Program)(n:Nat)(h:zb)(ld:Bool)(ops:Array Oper)(K:Env->Prop):List Nat->Env->Prop
 |[],e=>K e
 |i::l,e=>match ops[i]? with
  |some o=>bif zk7 o then(bif (bif ld then true else !(zj o))then(bif qk n [] o.dst then(bif jc o.op then(bif known e [] o.op.operands.toList then w8 P o (rho e []) none h λv=>wI P n h ld ops K l (putO e o.dst [] v)else False)else False)else False)else False)else False
  |none=>False
def yx(ops:Array Oper)(f:Nat->Value):List Nat->Act->Act
 |[],a=>a
 |i::l,a=>yx ops f l (a.put (yh ops i) (f i))
theorem zt9(hq:zk7 o=true){ρ:Operand->Value}{K:Value->Prop}(H:w8 P o ρ none h K):
  ∃v,K v/\∀h',LdOK o ρ h h'->QExec P (execOp ρ o) h' (.value v):=by
 unfold zk7 at hq
 cases hb:ze o with
 |true=>exact W4 hb H
 |false=>
  rw[hb,cond_false]at hq
  unfold z0i at hq
  split at hq
  ·rename_i x i ho
   unfold w8 at H;rw[ho]at H
   obtain⟨v,h1,h2⟩:=zn H none
   exact⟨v,h1,λh' _=>h2 trivial h'⟩
  ·cases hq
theorem zhm{ops:Array Oper}{f:Nat->Value}:∀{l:List Nat} {a:Act},(yx ops f l a).tmps.size=a.tmps.size/\(yx ops f l a).defers=a.defers
 |[],_=>⟨rfl,rfl⟩
 |i::l,a=>by
  unfold yx
  have:=zhm (ops:=ops) (f:=f) (l:=l) (a:=a.put (yh ops i) (f i))
  rw[this.1,this.2]
  exact⟨size_put _ _ _,zy _ _ _⟩
theorem j8{ops:Array Oper}{f:Nat->Value}{s:Nat}:∀{l:List Nat} {a:Act},(∀i∈l,yh ops i≠some s)->zm (yx ops f l a) s=zm a s
 |[],_,_=>rfl
 |i::l,a,h=>by
  unfold yx
  rw[j8 λj hj=>h j (Ag _ hj)]
  exact zk (h i Am)
theorem X6{ops:Array Oper}{f:Nat->Value}:∀{l m:List Nat} {a:Act},yx ops f (l++m) a=yx ops f m (yx ops f l a)
 |[],_,_=>rfl
 |i::l,m,a=>by
  rw[Bu]
  show yx ops f (l++m) _=yx ops f m (yx ops f l _)
  exact X6
theorem zi6{P:Program}{n:Nat}{h:zb}{ld:Bool}{ops:Array Oper}{K:Env->Prop}(f0:Nat->Value):∀{l:List Nat} {e:Env} {a:Act},l.Nodup->wI P n h ld ops K l e->Sat n e a->∃(f:Nat->Value) (e':Env),K e'/\Sat n e' (yx ops f l a)/\(∀i,i∉l->f i=f0 i) /\
  ∀l1 i l2,l=l1++i::l2->∃o,ops[i]?=some o/\zk7 o=true/\(ld=false->zj o=false)/\jc o.op=true/\qk n [] o.dst=true/\∀h',LdOK o (yx ops f l1 a).eval h h'->QExec P (execOp (yx ops f l1 a).eval o) h' (.value (f i))
 |[],e,a,_,H,hs=>⟨f0,e,H,hs,λ_ _=>rfl,λl1 i l2 h=>by simp at h⟩
 |i::l,e,a,hnd,H,hs=>by
  unfold wI at H
  cases ho:ops[i]? with
  |none=>rw[ho]at H;exact H.elim
  |some o=>
   rw[ho]at H
   simp only at H
   cases hq:zk7 o with
   |false=>rw[hq]at H;exact H.elim
   |true=>
    rw[hq,cond_true]at H
    cases hld:(bif ld then true else !(zj o))with
    |false=>rw[hld]at H;exact H.elim
    |true=>
     rw[hld,cond_true]at H
     cases hd:qk n [] o.dst with
     |false=>rw[hd]at H;exact H.elim
     |true=>
      rw[hd,cond_true]at H
      cases hns:jc o.op with
      |false=>rw[hns]at H;exact H.elim
      |true=>
       rw[hns,cond_true]at H
       cases hk:known e [] o.op.operands.toList with
       |false=>rw[hk]at H;exact H.elim
       |true=>
        rw[hk,cond_true]at H
        rw[DO]at hnd
        obtain⟨v,H1,H2⟩:=zt9 hq H
        have Z:yh ops i=o.dst:=zf ho
        obtain⟨f,e',g1,g2,g3,g4⟩:=zi6 (λx=>if x=i then v else f0 x) (a:=a.put o.dst v) hnd.2 H1 (hs.putO hd (λ_=>rfl) λhv=>absurd (qg _) hv)
        have aa:f i=v:=by rw[g3 i hnd.1,if_pos rfl]
        have ae:yx ops f (i::l) a=yx ops f l (a.put o.dst v):=by
         show yx ops f l (a.put (yh ops i) (f i))=_
         rw[Z,aa]
        refine⟨f,e',g1,by rw[ae];exact g2,λj hj=>?_,λl1 j l2 hl=>?_⟩
        ·simp only[Ai,not_or]at hj
         rw[g3 j hj.2,if_neg hj.1]
        ·cases l1 with
         |nil=>
          simp only[Cu,BR]at hl
          obtain⟨rfl,rfl⟩:=hl
          refine⟨o,ho,hq,λhl=>by rw[hl]at hld;simpa using hld,hns,hd,λh' hh=>?_⟩
          show QExec P (execOp a.eval o) h' _
          rw[Qi hs (qg _) hns hk,aa]
          exact H2 h' (LdOK.congr (λx hx=>(j6 hs (qg _) hk x hx).symm) hh)
         |cons i' l1=>
          simp only[Bu,BR]at hl
          obtain⟨rfl,rfl⟩:=hl
          obtain⟨o',q1,q2,q3,q4,q5,q6⟩:=g4 l1 j l2 rfl
          have ab:yx ops f (i::l1) a=yx ops f l1 (a.put o.dst v):=by
           show yx ops f l1 (a.put (yh ops i) (f i))=_
           rw[Z,aa]
          refine⟨o',q1,q2,q3,q4,q5,λh' hh=>?_⟩
          rw[ab]at hh ⊢
          exact q6 h' hh
def zua(ops:Array Oper)(U:List Nat):Nat->Bool
 |0=>false
 |k+1=>bif (match ops[k]? with
  |some o=>bif zj o then(bif J0 ops k then false else !(memN U k))else false
  |none=>false)then true else zua ops U k
theorem zhn{ops:Array Oper}{U:List Nat}:∀{m:Nat},zua ops U m=false->∀k o,k<m->ops[k]?=some o->zj o=true->J0 ops k=false->k∈U
 |0,_,k,o,hk,_,_,_=>by omega
 |m+1,h,k,o,hk,ho,hl,hi=>by
  unfold zua at h
  cases hb:(match ops[m]? with
   |some o=>bif zj o then(bif J0 ops m then false else !(memN U m))else false
   |none=>false)with
  |true=>rw[hb]at h;cases h
  |false=>
   rw[hb,cond_false]at h
   rcases AF k m with h1|h1
   ·exact zhn h k o h1 ho hl hi
   ·have:k=m:=by omega
    subst this
    rw[ho]at hb
    simp only[hl,hi,cond_true,cond_false]at hb
    exact Yv (by simpa using hb)
def zfh(ops:Array Oper)(U:List Nat)(e:Env)(h0 h':zb)(K:Prop):Nat->Prop
 |0=>K
 |k+1=>match ops[k]? with
  |some o=>bif (bif zj o then(bif J0 ops k then false else !(memN U k))else false)then(match o.op with
   |.load _ a=>bif known e [] [a]then(match rho e [] a with
    |.pointer (some p)=>h'[p.block]?=h0[p.block]?/\zfh ops U e h0 h' K k
    |_=>False)else False
   |_=>False)else zfh ops U e h0 h' K k
  |none=>zfh ops U e h0 h' K k
theorem zfi{ops:Array Oper}{U:List Nat}{e:Env}{h0 h':zb}{K:Prop}:∀{m:Nat},zfh ops U e h0 h' K m->K/\∀k o,k<m->ops[k]?=some o->zj o=true->J0 ops k=false->k∉U ->
  ∃t a p,o.op=.load t a/\known e [] [a]=true/\rho e [] a=.pointer (some p)/\h'[p.block]?=h0[p.block]?
 |0,H=>⟨H,λk o hk=>by omega⟩
 |m+1,H=>by
  unfold zfh at H
  have step:zfh ops U e h0 h' K m->(∀o,ops[m]?=some o->zj o=true->J0 ops m=false->m∉U->∃t a p,o.op=.load t a/\known e [] [a]=true/\rho e [] a=.pointer (some p)/\h'[p.block]?=h0[p.block]?) ->
    K/\∀k o,k<m+1->ops[k]?=some o->zj o=true->J0 ops k=false->k∉U->∃t a p,o.op=.load t a/\known e [] [a]=true/\rho e [] a=.pointer (some p)/\h'[p.block]?=h0[p.block]?:=λH1 H2=>by
   obtain⟨h1,h2⟩:=zfi H1
   refine⟨h1,λk o hk ho hl hi hr=>?_⟩
   rcases AF k m with h3|h3
   ·exact h2 k o h3 ho hl hi hr
   ·have:k=m:=by omega
    subst this
    exact H2 o ho hl hi hr
  cases ho:ops[m]? with
  |none=>rw[ho]at H;exact step H λo h1=>by rw[ho]at h1;cases h1
  |some o=>
   rw[ho]at H
   simp only at H
   have same:∀o',ops[m]?=some o'->o'=o:=λo' h1=>Aq (h1.symm.trans ho)
   cases hc:(bif zj o then(bif J0 ops m then false else !(memN U m))else false)with
   |false=>
    rw[hc]at H
    refine step H λo' h1 h2 h3 h4=>?_
    rw[same o' h1]at h2
    rw[h2,h3,cond_true,cond_false]at hc
    exact absurd (Yv (by simpa using hc)) h4
   |true=>
    rw[hc,cond_true]at H
    split at H
    ·rename_i t a Z
     cases hk:known e [] [a]with
     |false=>rw[hk]at H;exact H.elim
     |true=>
      rw[hk,cond_true]at H
      split at H
      ·rename_i p hp
       exact step H.2 λo' h1 h2 h3 h4=>⟨t,a,p,by rw[same o' h1];exact Z,hk,hp,H.1⟩
      ·exact H.elim
    ·exact H.elim
def zk8(md:Bool)(ops:Array Oper)(T:List Nat)(e:Env)(h0 h':zb)(K:Prop):Prop:=bif zua ops (upL ops ops.size T) ops.size then(bif md then zfh ops (upL ops ops.size T) e h0 h' K ops.size else Keep h0.size h0 h'/\K)else K
def zyh(ops:Array Oper)(todo:List Nat)(j:Nat):Bool:=todo.all λk=>bif Nat.beq k j then true else !(memN (upL ops ops.size [j]) k)
def wB7(P:Program)(n:Nat)(ops:Array Oper)(h0:zb)(K:Env->zb->Prop)(md:Bool):Nat->List Nat->List Nat->Env->zb->Prop
 |_,_,[],e,h=>K (clean e) h
 |0,_,_::_,_,_=>False
 |f+1,T,j0::l0,e,h=>z8f (λj=>match ops[j]? with
  |some o=>(match Qv ops e o.guard with|some c=>bif qk n c o.dst then opW P o e c h λv h'=>wI P n h' false ops (λe'=>zk8 md ops (j::T) e' h0 h' (wB7 P n ops h0 K md f (j::T) (zcu j (j0::l0)) e' h')) (Ql (Qw ops T ops.size) (Qw ops (j::T) ops.size) ops.size) (putO e o.dst c v)else False|none=>False)
  |none=>False) (zrx (zyh ops (j0::l0)) (j0::l0))
theorem zry{K:Env->zb->Prop}{f:Nat}{T todo:List Nat}(H:wB7 P n ops h0 K md (f+1) T todo e h){j:Nat}(hj:j∈todo)(hc:zyh ops todo j=true):match ops[j]? with
  |some o=>(match Qv ops e o.guard with|some c=>bif qk n c o.dst then opW P o e c h λv h'=>wI P n h' false ops (λe'=>zk8 md ops (j::T) e' h0 h' (wB7 P n ops h0 K md f (j::T) (zcu j todo) e' h')) (Ql (Qw ops T ops.size) (Qw ops (j::T) ops.size) ops.size) (putO e o.dst c v)else False|none=>False)
  |none=>False:=by
 cases todo with
 |nil=>cases hj
 |cons j0 l0=>exact zi2 H j (zbk hj hc)
def W6(ops:Array Oper):Nat->Bool
 |0=>true
 |k+1=>bif (match ops[k]? with
  |some o=>yw ops k (tmpsOf o.op.operands.toList) ops.size
  |none=>true)then W6 ops k else false
theorem Yw{ops:Array Oper}:∀{m:Nat},W6 ops m=true->∀k o,k<m->ops[k]?=some o->yw ops k (tmpsOf o.op.operands.toList) ops.size=true
 |0,_,k,o,hk,_=>by omega
 |m+1,h,k,o,hk,ho=>by
  unfold W6 at h
  cases hb:(match ops[m]? with
   |some o=>yw ops m (tmpsOf o.op.operands.toList) ops.size
   |none=>true)with
  |false=>rw[hb]at h;cases h
  |true=>
   rw[hb,cond_true]at h
   rcases AF k m with h1|h1
   ·exact Yw h k o h1 ho
   ·have:k=m:=by omega
    subst this
    rw[ho]at hb;exact hb
def zrz(ops:Array Oper)(o:Oper):List Nat:=match o.guard with
 |none=>[]
 |some (j,_)=>match yh ops j with
  |some t=>[t]
  |none=>[]
def zho(ops:Array Oper):Nat->Bool
 |0=>true
 |k+1=>bif (match ops[k]? with
  |some o=>bif jc o.op then yw ops k (zrz ops o) ops.size else false
  |none=>true)then zho ops k else false
theorem zfj{ops:Array Oper}:∀{m:Nat},zho ops m=true->∀k o,k<m->ops[k]?=some o->jc o.op=true/\yw ops k (zrz ops o) ops.size=true
 |0,_,k,o,hk,_=>by omega
 |m+1,h,k,o,hk,ho=>by
  unfold zho at h
  cases hb:(match ops[m]? with
   |some o=>bif jc o.op then yw ops m (zrz ops o) ops.size else false
   |none=>true)with
  |false=>rw[hb]at h;cases h
  |true=>
   rw[hb,cond_true]at h
   rcases AF k m with h1|h1
   ·exact zfj h k o h1 ho
   ·have:k=m:=by omega
    subst this
    rw[ho]at hb
    simp only at hb
    cases h2:jc o.op with
    |false=>rw[h2]at hb;cases hb
    |true=>rw[h2,cond_true]at hb;exact⟨rfl,hb⟩
theorem zk9(h:∀t∈zrz ops o,zm a t=zm b t):Bl o (yielded ops a.tmps)=Bl o (yielded ops b.tmps):=by
 unfold Bl
 cases hg:o.guard with
 |none=>rfl
 |some jp=>
  obtain⟨j,p⟩:=jp
  have:yielded ops a.tmps j=yielded ops b.tmps j:=by
   unfold yielded
   cases hd:(ops[j]?).bind (·.dst)with
   |none=>rfl
   |some t=>
    have Z:yh ops j=some t:=by
     unfold yh
     cases hoj:ops[j]? with
     |none=>rw[hoj]at hd;simp at hd
     |some oj=>rw[hoj]at hd;simpa using hd
    have ht:=h t (by unfold zrz;rw[hg];simp only;rw[Z];simp)
    unfold zm at ht
    simp only[BE]at ht
    simp only[CF]
    cases h1:a.tmps[t]? <;> cases h2:b.tmps[t]? <;> rw[h1,h2]at ht <;> simp at ht <;> first|rfl|(subst ht;rfl)|(rw[<-ht];rfl)|(rw[ht];rfl)
  simp only[this]
theorem zub(h:gdd o=false):o.guard=none:=by
 unfold gdd at h
 cases hg:o.guard with
 |none=>rfl
 |some g=>rw[hg]at h;cases h
theorem z1d(ho:ops[i]?=some o)(h:J0 ops i=false):o.guard=none:=by
 unfold J0 at h
 rw[ho]at h
 simp only at h
 cases hg:gdd o with
 |true=>rw[hg]at h;cases h
 |false=>exact zub hg
def zgw(ops:Array Oper):Bool:=bif zho ops ops.size then(bif qd ops ops.size then(bif jl ops ops.size then W6 ops ops.size else false)else false)else false
theorem zhp(h:zgw ops=true):zho ops ops.size=true/\qd ops ops.size=true/\jl ops ops.size=true/\W6 ops ops.size=true:=by
 unfold zgw at h
 cases h1:zho ops ops.size <;> cases h2:qd ops ops.size <;> cases h3:jl ops ops.size <;> simp[h1,h2,h3]at h ⊢
 exact h
structure St7 (P:Program) (n:Nat) (ops:Array Oper) (h0:zb) (K:Env->zb->Prop) (md:Bool) (f:Nat->Value) (a0:Act) (listed:Array Bool) (a b:Act) (e:Env) (h:zb) (done todo:List Nat):Prop where
 inv:HeadInv .any ops ops.size listed
 ag:∀s,(∀i o,ops[i]?=some o->J0 ops i=false->listed.getD i false=false->o.dst≠some s)->zm a s=zm b s
 sz:a.tmps.size=n
 ad:a.defers=[]
 sb:Sat n e b
 qv:∀i o t,ops[i]?=some o->i∈Qw ops done ops.size->o.dst=some t->zm b t=f i/\t<n
 qx:∀i o,ops[i]?=some o->i∈Qw ops done ops.size->∀h',LdOK o b.eval h0 h'->QExec P (execOp b.eval o) h' (.value (f i))
 tt:∀j,j∈hvL ops->(j∈todo↔listed.getD j false=false)
 ch:∀j,j∈hvL ops->(listed.getD j false=true↔j∈done)
 dn:∀j∈done,j∈hvL ops
 th:∀j∈todo,j∈hvL ops
 nd:todo.Nodup
 wt:∃fu,todo.length<=fu/\wB7 P n ops h0 K md fu done todo e h
 kp:∀i o,ops[i]?=some o->zj o=true->J0 ops i=false->listed.getD i false=false->LdOK o b.eval h0 h
 sm:Same (yn ops.toList) a0 a
theorem zfk{ld:Bool}(ae:qd ops ops.size=true)(ar:jl ops ops.size=true)(ak:W6 ops ops.size=true){f:Nat->Value}(an:b.tmps.size=n)(ah:∀i∈l,i<ops.size)(Z:l.Pairwise (· < ·))
  (H:∀l1 i l2,l=l1++i::l2->∃o,ops[i]?=some o/\zk7 o=true/\(ld=false->zj o=false)/\jc o.op=true/\qk n [] o.dst=true/\∀h',LdOK o (yx ops f l1 b).eval h h'->QExec P (execOp (yx ops f l1 b).eval o) h' (.value (f i))):
  ∀i o,ops[i]?=some o->i∈l->(∀t,o.dst=some t->zm (yx ops f l b) t=f i/\t<n)/\(ld=false->zj o=false)/\∀h',LdOK o (yx ops f l b).eval h h'->QExec P (execOp (yx ops f l b).eval o) h' (.value (f i)):=by
 intro i o ho hi
 obtain⟨l1,l2,rfl⟩:=List.append_of_mem hi
 obtain⟨o',q1,q2,q3,q4,q5,q6⟩:=H l1 i l2 rfl
 have:o'=o:=Aq (q1.symm.trans ho)
 subst this
 have af:i<ops.size:=ah i (by simp)
 have hs:∀j∈l2,i<j:=λj hj=>by
  rw[Ck]at Z
  exact(BI.1 Z.2.1).1 j hj
 have aa:yx ops f (l1++i::l2) b=yx ops f l2 ((yx ops f l1 b).put (yh ops i) (f i)):=by rw[X6];rfl
 have ab:yh ops i=o'.dst:=zf ho
 refine⟨λt ht=>?_,q3,λh' hh=>?_⟩
 ·have aj:t<n:=by
   rw[ht]at q5
   unfold qk at q5
   simp at q5;exact q5.2
  refine⟨?_,aj⟩
  rw[aa,j8 λj hj hd=>?_,ab,ht,qi (by rw[zhm.1,an];exact aj)]
  have:=qm ar i j t af (ah j (by simp[hj])) (by rw[ab,ht]) hd
  have:=hs j hj
  omega
 ·have ai:∀t∈tmpsOf o'.op.operands.toList,zm (yx ops f (l1++i::l2) b) t=zm (yx ops f l1 b) t:=λt ht=>by
   have e1:yx ops f (l1++i::l2) b=yx ops f (i::l2) (yx ops f l1 b):=X6
   rw[e1]
   refine j8 λj hj hd=>?_
   have ap:j<ops.size:=ah j (by simp[hj])
   have hw:=zz (Yw ak i o' af ho) j t ap hd ht
   obtain⟨oj,am,x,hx,hb,au⟩:=Region.waitsFor_spec hw
   have h1:=zu ae i oj af am x hx hb
   rcases Ai.1 hj with rfl|hj
   ·omega
   ·have:=hs j hj;omega
  rw[yj q4 ai]
  exact q6 h' (LdOK.congr (λx hx=>(yi ai x hx).symm) hh)
theorem zyi{K:Env->zb->Prop}{Q:Exit->Act->World->Prop}(B:World)(hmix:zgw ops=true){a0:Act}
    (hQ:∀e' a' d' h',Sat n e' a'->Same (yn ops.toList) a0 a'->K e' h'->Q .normal a' (mk B d' h')):
    ∀(N:Nat) (U:List Nat) (listed:Array Bool) (f:Nat->Value) (a b:Act) (e:Env) (h:zb) (d:Nat) (done todo:List Nat),U.length=N->U.Nodup->(∀k,k∈U↔k<ops.size/\listed.getD k false=false) ->
      St7 P n ops h0 K md f a0 listed a b e h done todo->wpAny P .any ops Q N listed a (mk B d h):=by
  obtain⟨hng,hback,hnd,hsl⟩:=zhp hmix
  have hgd:∀(i:Nat) (o:Oper),ops[i]?=some o->jc o.op=true/\yw ops i (zrz ops o) ops.size=true:=λi o ho=>zfj hng i o (Ac.1 ho).1 ho
  have hslot0:∀k o,ops[k]?=some o->∀p t,p<ops.size->yh ops p=some t->t∈tmpsOf o.op.operands.toList->Region.waitsFor .any ops k p=true:=λk o ho p t hp hd ht=>
    zz (Yw hsl k o (Ac.1 ho).1 ho) p t hp hd ht
  have hbk:∀k p,Region.waitsFor .any ops k p=true->p<k:=λk p hw=>by
    obtain⟨oj,hoj,x,hx,hb,hon⟩:=Region.waitsFor_spec hw
    have:=zu hback k oj (Ac.1 hoj).1 hoj x hx hb
    omega
  have fin:∀{listed:Array Bool} {f:Nat->Value} {a b:Act} {e:Env} {h:zb} {d:Nat} {done todo:List Nat},(∀k,k<ops.size->listed.getD k false=true)->St7 P n ops h0 K md f a0 listed a b e h done todo->Q .normal a (mk B d h):=by
    intro listed f a b e h d done todo hall S
    have htodo:todo=[]:=by
      cases htd:todo with
      |nil=>rfl
      |cons j l=>
        have hm:j∈todo:=by rw[htd];simp
        have hj:=S.th j hm
        have:=(S.tt j hj).1 hm
        rw[hall j (zff.1 hj).1]at this;cases this
    obtain⟨fu,_,hw⟩:=S.wt
    rw[htodo]at hw
    have hw:K (clean e) h:=by cases fu <;> exact hw
    have hv:∀s,zm a s=zm b s:=λs=>S.ag s λi o ho hq hl=>by
      rw[hall i (Ac.1 ho).1]at hl;cases hl
    have hs:Sat n e a:=⟨S.ad,S.sz,λx hx=>by
      have:=S.sb.all x hx
      have e1:zm a=zm b:=funext hv
      rw[e1];exact this⟩
    exact hQ _ _ _ _ hs.clean S.sm hw
  intro N
  induction N with
  |zero=>
    intro U listed f a b e h d done todo hU _ hmem S
    have hUn:U=[]:=AW.1 hU
    subst hUn
    have hall:∀k,k<ops.size->listed.getD k false=true:=λk hk=>by
      cases hb:listed.getD k false with
      |true=>rfl
      |false=>exact absurd ((hmem k).2 ⟨hk,hb⟩) (by simp)
    refine⟨?_,fin hall S⟩
    rw[CG]
    intro j hj
    obtain⟨h1,o,ho,_⟩:=mem_ready.1 hj
    have hlt:=(Ac.1 ho).1
    have:=hall j hlt
    have h2:=getD_both h1
    rw[this]at h2;cases h2
  |succ N ih=>
    intro U listed f a b e h d done todo hU hdup hmem S
    have hex:∃k,k<ops.size/\listed.getD k false=false:=by
      cases U with
      |nil=>cases hU
      |cons k U=>exact⟨k,(hmem k).1 Am⟩
    refine⟨λhr=>?_,λi hi=>?_⟩
    · exfalso
      obtain⟨k,hk1,hk2,hk3⟩:=Z0 hex
      have:k∈Region.ready .any ops listed:=mem_ready.2 ⟨by rw[<-hk2];simp[S.inv.size,hk1],ops[k],AJ hk1,λx hx hb=>hk3 _ (zu hback k ops[k] hk1 (AJ hk1) x hx hb)⟩
      rw[hr]at this;cases this
    · obtain⟨hun1,o,ho,hall⟩:=mem_ready.1 hi
      have hun:listed.getD i false=false:=getD_both hun1
      have hlt:i<ops.size:=(Ac.1 ho).1
      obtain⟨hns,hgs⟩:=hgd i o ho
      have hils:i<listed.size:=by rw[S.inv.size];exact hlt
      have hU':(U.erase i).length=N:=by rw[CH ((hmem i).2 ⟨hlt,hun⟩),hU];rfl
      have hdup':(U.erase i).Nodup:=hdup.erase i
      have hmem':∀k,k∈U.erase i↔k<ops.size/\(listed.setIfInBounds i true).getD k false=false:=λk=>by
        rw[hdup.mem_erase_iff,hmem k]
        by_cases hk:i=k
        · subst hk;simp[hils]
        · rw[getD_set_ne false hk];exact⟨λhx=>hx.2,λhx=>⟨λe=>hk e.symm,hx⟩⟩
      have inv':=S.inv.set hi hlt
      have hset:∀k,k≠i->(listed.setIfInBounds i true).getD k false=listed.getD k false:=λk hk=>getD_set_ne false (Ne.symm hk)
      have hsetI:(listed.setIfInBounds i true).getD i false=true:=by simp[hils]
      have hops:∀t∈tmpsOf o.op.operands.toList,zm a t=zm b t:=λt ht=>S.ag t λk ok hok hq hl hd=>by
        have hw:=hslot0 i o ho k t (Ac.1 hok).1 (by rw[zf hok,hd]) ht
        rw[jm hi hw]at hl;cases hl
      have hexec:=yj hns hops
      have hsame:∀v,Same (yn ops.toList) a0 (a.put o.dst v):=λv=>S.sm.trans (Same.put a o.dst _ λt ht=>xo (by
          obtain⟨hl2,e2⟩:=Ac.1 ho
          rw[<-e2];simp) t ht)
      unfold wpOp
      rw[ho]
      simp only
      have hwab:Bl o (yielded ops a.tmps)=Bl o (yielded ops b.tmps):=zk9 λt ht=>S.ag t λk ok hok hq hl hd=>by
        have hw:=zz hgs k t (Ac.1 hok).1 (by rw[zf hok,hd]) ht
        rw[jm hi hw]at hl;cases hl
      cases hq:J0 ops i with
      |false=>
        have hwant:Bl o (yielded ops a.tmps)=true:=by unfold Bl;rw[z1d ho hq]
        rw[if_pos hwant]
        left
        unfold Oper.wp
        rw[hexec]
        have hrdyG:∀m k ok,k<m->ops[k]?=some ok->J0 ops k=false->(∀p,Region.waitsFor .any ops k p=true->listed.getD p false=true)->k∈Qw ops done ops.size:=by
          intro m
          induction m with
          |zero=>intro k ok hk;omega
          |succ m ihm=>
            intro k ok hk hok hkh hkw
            refine zi5 (Ac.1 hok).1 hkh (zer.2 λp hp hw=>⟨λhph=>?_,λhph=>?_⟩)
            · have hpl:=hkw p hw
              exact(S.ch p (zff.2 ⟨by have:=(Ac.1 hok).1;omega,hph⟩)).1 hpl
            · have hps:p<ops.size:=by have:=(Ac.1 hok).1;omega
              have hin:=ihm p ops[p] (by omega) (AJ hps) hph λq hq2=>qq S.inv (hkw p hw) hq2
              obtain⟨_,g2,g3⟩:=Zb hin
              exact zi5 hp g2 g3
        have hrdy:=hrdyG (i+1) i o (by omega) ho hq λp hw=>jm hi hw
        have hx:=S.qx i o ho hrdy h (by
          cases hl:zj o with
          |false=>exact .inl hl
          |true=>exact S.kp i o ho hl hq hun) B d
        rw[hx,Oper.upon_value]
        have hnot:i∉hvL ops:=λhm=>by rw[(zff.1 hm).2]at hq;cases hq
        refine ih _ _ f _ b e h d done todo hU' hdup' hmem' { S with inv:=inv',ag:=λs hs=>?_,sz:=by rw[size_put];exact S.sz,ad:=by rw[zy];exact S.ad,tt:=λj hj=>(by have:j≠i:=λe=>hnot (e ▸ hj);rw[hset j this];exact S.tt j hj),ch:=λj hj=>?_,kp:=λk ok hok hl hkh hk=>?_,sm:=hsame _ }
        · by_cases hd:o.dst=some s
          · obtain⟨hv,hsn⟩:=S.qv i o s ho hrdy hd
            rw[hd,qi (by rw[S.sz];exact hsn),hv]
          · rw[zk hd]
            refine S.ag s λk ok hok hqk hlk=>?_
            by_cases hki:k=i
            · subst hki
              have:ok=o:=Aq (hok.symm.trans ho)
              subst this;exact hd
            · exact hs k ok hok hqk (by rw[hset k hki];exact hlk)
        · have:j≠i:=λe=>hnot (e ▸ hj)
          rw[hset j this];exact S.ch j hj
        · by_cases hki:k=i
          · subst hki;rw[hsetI]at hk;cases hk
          · rw[hset k hki]at hk;exact S.kp k ok hok hl hkh hk
      |true=>
        have hin:i∈hvL ops:=zff.2 ⟨hlt,hq⟩
        have hit:i∈todo:=(S.tt i hin).2 hun
        obtain⟨fu,hfu,hW0⟩:=S.wt
        have hcl:∀p q,(listed.setIfInBounds i true).getD p false=true->Region.waitsFor .any ops p q=true->(listed.setIfInBounds i true).getD q false=true:=λp q h1 h2=>qq inv' h1 h2
        have hcand:zyh ops todo i=true:=by
          unfold zyh
          rw[A4]
          intro k hk
          cases hki:Nat.beq k i with
          |true=>rfl
          |false=>
            have hne:k≠i:=λe=>by rw[e]at hki;simp at hki
            cases hr:memN (upL ops ops.size [i]) k with
            |false=>rfl
            |true=>
              exfalso
              have:=zi3 hcl (m:=ops.size) (S:=[i]) (λj hj=>by simp at hj;subst hj;exact hsetI) k (Yv hr)
              rw[hset k hne]at this
              have h2:=(S.tt k (S.th k hk)).1 hk
              rw[this]at h2;cases h2
        have hW:match ops[i]? with
            |some o=>(match Qv ops e o.guard with|some c=>bif qk n c o.dst then opW P o e c h λv h'=>wI P n h' false ops (λe'=>zk8 md ops (i::done) e' h0 h' (wB7 P n ops h0 K md (fu-1) (i::done) (zcu i todo) e' h')) (Ql (Qw ops done ops.size) (Qw ops (i::done) ops.size) ops.size) (putO e o.dst c v)else False|none=>False)
            |none=>False:=by
          cases fu with
          |zero=>(have:todo.length=0:=by omega);rw[AW.1 this]at hit;cases hit
          |succ fu=>
            have:=zry (show wB7 P n ops h0 K md (fu+1) done todo e h from hW0) hit hcand
            exact this
        rw[ho]at hW
        simp only at hW
        cases hch:Qv ops e o.guard with
        |none=>rw[hch]at hW;exact hW.elim
        |some c=>
        rw[hch]at hW
        simp only at hW
        cases hd:qk n c o.dst with
        |false=>rw[hd]at hW;exact hW.elim
        |true=>
          rw[hd,cond_true]at hW
          have hwv:=xq S.sb hch
          have key:∀(v u:Value) (d':Nat) (h':zb),(valid (zm b) c->u=v)->(¬valid (zm b) c->u=undef)->wI P n h' false ops (λe'=>zk8 md ops (i::done) e' h0 h' (wB7 P n ops h0 K md (fu-1) (i::done) (zcu i todo) e' h')) (Ql (Qw ops done ops.size) (Qw ops (i::done) ops.size) ops.size) (putO e o.dst c v)->wpAny P .any ops Q N (listed.setIfInBounds i true) (a.put o.dst u) (mk B d' h'):=by
           intro v v2 d' h' hv1 hv0 hK
           have sb1:Sat n (putO e o.dst c v) (b.put o.dst v2):=S.sb.putO hd hv1 hv0
           generalize hbl:Ql (Qw ops done ops.size) (Qw ops (i::done) ops.size) ops.size=bl at hK
           have hbm:∀k,k∈bl↔k<ops.size/\k∈Qw ops (i::done) ops.size/\k∉Qw ops done ops.size:=λk=>by rw[<-hbl];exact zhl
           have hbsort:bl.Pairwise (· < ·):=by rw[<-hbl];exact zbl _ _ _
           have hbnd:bl.Nodup:=hbsort.imp λh=>by omega
           obtain⟨f',e2,HK,sb2,hf0,hfx⟩:=zi6 f hbnd hK sb1
           have hbf:=zfk hback hnd hsl (f:=f') (l:=bl) (b:=b.put o.dst v2) sb1.size (λk hk=>((hbm k).1 hk).1) hbsort hfx
           have hbnh:∀k∈bl,J0 ops k=false:=λk hk=>(Zb ((hbm k).1 hk).2.1).2.1
           have hlist':∀j,j∈hvL ops->((listed.setIfInBounds i true).getD j false=true↔j∈i::done):=λj hj=>by
             by_cases hji:j=i
             · subst hji;rw[hsetI];simp
             · rw[hset j hji,S.ch j hj];simp[hji]
           have hjl:∀j∈i::done,(listed.setIfInBounds i true).getD j false=true:=λj hj=>by
             rcases Ai.1 hj with rfl|hj
             · exact hsetI
             · exact getD_set_true ((S.ch j (S.dn j hj)).2 hj)
           have hup:∀k,k∈upL ops ops.size (i::done)->(listed.setIfInBounds i true).getD k false=true:=λk hk=>zi3 hcl hjl k hk
           have hundone:i∉done:=λhm=>by rw[(S.ch i hin).2 hm]at hun;cases hun
           have hslot1:∀k ok,ops[k]?=some ok->k∈Qw ops done ops.size->∀t∈tmpsOf ok.op.operands.toList,zm (b.put o.dst v2) t=zm b t:=λk ok hok hk t ht=>zk λhdo=>by
             have hw:=hslot0 k ok hok i t hlt (by rw[zf ho,hdo]) ht
             exact hundone ((zp3 hk (hbk k i hw) hw).1 hq)
           have hslot2:∀k ok,ops[k]?=some ok->k∈Qw ops done ops.size->∀t∈tmpsOf ok.op.operands.toList,zm (yx ops f' bl (b.put o.dst v2)) t=zm b t:=λk ok hok hk t ht=>by
             rw[j8 λp hp hdp=>?_]
             · exact hslot1 k ok hok hk t ht
             · have hw:=hslot0 k ok hok p t ((hbm p).1 hp).1 hdp ht
               exact((hbm p).1 hp).2.2 ((zp3 hk (hbk k p hw) hw).2 (hbnh p hp))
           have hdist:∀k ok t,ops[k]?=some ok->k≠i->ok.dst=some t->o.dst≠some t:=λk ok t hok hki hdk hdo=>by
             have:=qm hnd k i t (Ac.1 hok).1 hlt (by rw[zf hok,hdk]) (by rw[zf ho,hdo])
             exact hki this
           have hne_i:∀k,J0 ops k=false->k≠i:=λk hk e=>by rw[e,hq]at hk;cases hk
           have hkp':∀k ok,ops[k]?=some ok->zj ok=true->J0 ops k=false->k∈Qw ops done ops.size->LdOK ok b.eval h0 h'->LdOK ok (yx ops f' bl (b.put o.dst v2)).eval h0 h':=λk ok hok _ _ hk hh=>
             LdOK.congr (λx hx=>(yi (hslot2 k ok hok hk) x hx)) hh
           have hQK:wB7 P n ops h0 K md (fu-1) (i::done) (zcu i todo) e2 h'/\(∀k ok,ops[k]?=some ok->zj ok=true->J0 ops k=false->(listed.setIfInBounds i true).getD k false=false->LdOK ok (yx ops f' bl (b.put o.dst v2)).eval h0 h'):=by
             unfold zk8 at HK
             cases hl:zua ops (upL ops ops.size (i::done)) ops.size with
             |false=>
               rw[hl,cond_false]at HK
               exact⟨HK,λk ok hok hlo hkh hf=>by rw[hup k (zhn hl k ok (Ac.1 hok).1 hok hlo hkh)]at hf;cases hf⟩
             |true=>
               rw[hl,cond_true]at HK
               cases md with
               |false=>exact⟨HK.2,λ_ _ _ _ _ _=>.inr (.inl HK.1)⟩
               |true=>
                 rw[cond_true]at HK
                 obtain⟨g1,g2⟩:=zfi HK
                 refine⟨g1,λk ok hok hlo hkh hf=>.inr (.inr λt a p hop hp=>?_)⟩
                 obtain⟨t',a',p',e1,e2',e3,e4⟩:=g2 k ok (Ac.1 hok).1 hok hlo hkh (λhm=>by rw[hup k hm]at hf;cases hf)
                 rw[hop]at e1
                 injection e1 with _ e1
                 subst e1
                 have eb:(yx ops f' bl (b.put o.dst v2)).eval a=rho e2 [] a:=j6 sb2 (qg _) e2' a (by simp)
                 rw[eb,e3]at hp
                 injection hp with hp
                 injection hp with hp
                 rw[<-hp];exact e4
           have htt:∀j,j∈hvL ops->(j∈zcu i todo↔(listed.setIfInBounds i true).getD j false=false):=λj hj=>by
             rw[Yu]
             by_cases hji:j=i
             · subst hji;rw[hsetI];simp
             · rw[hset j hji,<-S.tt j hj];exact⟨λhx=>hx.1,λhx=>⟨hx,hji⟩⟩
           refine ih _ _ f' _ (yx ops f' bl (b.put o.dst v2)) e2 h' d' (i::done) (zcu i todo) hU' hdup' hmem' ⟨inv',λs hs=>?_,by rw[size_put];exact S.sz,by rw[zy];exact S.ad,sb2,λk ok t hok hk hdk=>?_,λk ok hok hk h'' hh=>?_,htt,hlist',(λj hj=>by
             rcases Ai.1 hj with rfl|hj
             · exact hin
             · exact S.dn j hj),(λj hj=>S.th j (Yu.1 hj).1),W5 S.nd,⟨fu-1,by have:=zi1 hit;omega,hQK.1⟩,hQK.2,hsame _⟩
           · -- slots
             have hs':∀k ok,ops[k]?=some ok->J0 ops k=false->listed.getD k false=false->ok.dst≠some s:=λk ok hok hqk hlk=>hs k ok hok hqk (by rw[hset k (hne_i k hqk)];exact hlk)
             have hbl:∀p∈bl,yh ops p≠some s:=λp hp hdp=>by
               have hps:=((hbm p).1 hp).1
               have hok:ops[p]?=some ops[p]:=AJ hps
               have hph:=hbnh p hp
               refine hs p _ hok hph ?_ (by rw[<-zf hok];exact hdp)
               cases hlp:(listed.setIfInBounds i true).getD p false with
               |false=>rfl
               |true=>
                 exfalso
                 rw[hset p (hne_i p hph)]at hlp
                 have:∀m q,q<m->q<ops.size->J0 ops q=false->listed.getD q false=true->q∈Qw ops done ops.size:=by
                   intro m
                   induction m with
                   |zero=>intro q hq;omega
                   |succ m ihm=>
                     intro q hqm hqs hqh hql
                     refine zi5 hqs hqh (zer.2 λp2 hp2 hw2=>⟨λhph2=>?_,λhph2=>?_⟩)
                     · exact(S.ch p2 (zff.2 ⟨by omega,hph2⟩)).1 (qq S.inv hql hw2)
                     · have hin2:=ihm p2 (by omega) (by omega) hph2 (qq S.inv hql hw2)
                       obtain⟨_,g2,g3⟩:=Zb hin2
                       exact zi5 hp2 g2 g3
                 exact((hbm p).1 hp).2.2 (this (p+1) p (by omega) hps hph hlp)
             rw[j8 hbl]
             by_cases hds:o.dst=some s
             · rw[hds]
               have hsn:s<n:=by
                 rw[hds]at hd
                 unfold qk at hd
                 simp at hd;exact hd.2
               rw[qi (by rw[S.sz];exact hsn),qi (by rw[S.sb.size];exact hsn)]
             · rw[zk hds,zk hds];exact S.ag s hs'
           · by_cases hkb:k∈bl
             · exact(hbf k ok hok hkb).1 t hdk
             · have hk0:k∈Qw ops done ops.size:=CC λhc=>hkb ((hbm k).2 ⟨(Ac.1 hok).1,hk,hc⟩)
               have hkh:=(Zb hk0).2.1
               obtain⟨q1,q2⟩:=S.qv k ok t hok hk0 hdk
               refine⟨?_,q2⟩
               rw[j8 λp hp hdp=>?_,zk (hdist k ok t hok (hne_i k hkh) hdk),q1,hf0 k hkb]
               have:=qm hnd p k t ((hbm p).1 hp).1 (Ac.1 hok).1 hdp (by rw[zf hok,hdk])
               subst this;exact hkb hp
           · by_cases hkb:k∈bl
             · obtain⟨_,q2,q3⟩:=hbf k ok hok hkb
               exact q3 h'' (.inl (q2 rfl))
             · have hk0:k∈Qw ops done ops.size:=CC λhc=>hkb ((hbm k).2 ⟨(Ac.1 hok).1,hk,hc⟩)
               rw[yj (b:=b) (hgd k ok hok).1 (hslot2 k ok hok hk0),hf0 k hkb]
               exact S.qx k ok hok hk0 h'' (LdOK.congr (λx hx=>(yi (hslot2 k ok hok hk0) x hx).symm) hh)
          by_cases hv:valid (zm b) c
          · rw[if_pos (by rw[hwab];exact hwv.2 hv)]
            left
            unfold Oper.wp
            rw[hexec]
            refine Q9 (b:=b) S.sb.defers ?_
            refine zfb hW S.sb hv B d λv d' h' hK=>⟨by rw[zy];exact S.sb.defers,λv2 hv2=>?_⟩
            have hbv:b.put o.dst v2=b.put o.dst v:=hv2.symm
            by_cases hds:∃t,o.dst=some t
            · obtain⟨t,ht⟩:=hds
              have htn:t<n:=by
                have hd2:=hd
                rw[ht]at hd2
                unfold qk at hd2
                simp at hd2;exact hd2.2
              have:v2=v:=by
                have e1:zm (b.put o.dst v2) t=zm (b.put o.dst v) t:=by rw[hbv]
                rw[ht,qi (by rw[S.sb.size];exact htn),qi (by rw[S.sb.size];exact htn)]at e1
                exact e1
              subst this
              exact key v2 v2 d' h' (λ_=>rfl) (λhx=>absurd hv hx) hK
            · have hdn:o.dst=none:=by
                cases hdx:o.dst with
                |none=>rfl
                |some t=>exact absurd ⟨t,hdx⟩ hds
              have e1:a.put o.dst v2=a.put o.dst v:=by rw[hdn];rfl
              rw[e1]
              exact key v v d' h' (λ_=>rfl) (λhx=>absurd hv hx) hK
          · rw[if_neg (by rw[hwab];exact λhx=>hv (hwv.1 hx))]
            obtain⟨v,hK⟩:=z0h hW S.sb hv
            exact key v undef d h (λhx=>absurd hx hv) (λ_=>rfl) hK
theorem zcv{K:Env->zb->Prop}{Q:Exit->Act->World->Prop}(B:World)(ab:zgw ops=true)
  (H:wI P n h true ops (λe'=>wB7 P n ops h K md (hvL ops).length [] (hvL ops) e' h) (Ql [] (Qw ops [] ops.size) ops.size) e) (hs:Sat n e a)
  (hQ:∀e' a' d' h',Sat n e' a'->Same (yn ops.toList) a a'->K e' h'->Q .normal a' (mk B d' h')) (d:Nat):wpAny P .any ops Q ops.size (Be ops.size false) a (mk B d h):=by
 obtain⟨ay,ae,au,ap⟩:=zhp ab
 have aa:∀k,k∈Ql [] (Qw ops [] ops.size) ops.size↔k∈Qw ops [] ops.size:=λk=>by
  rw[zhl]
  exact⟨λh=>h.2.1,λh=>⟨(Zb h).1,h,by simp⟩⟩
 have Z:=zbl [] (Qw ops [] ops.size) ops.size
 generalize Ql [] (Qw ops [] ops.size) ops.size=bl at H aa Z
 have af:bl.Nodup:=Z.imp λh=>by omega
 obtain⟨f,e2,HK,ak,_,ar⟩:=zi6 (λ_=>undef) af H hs
 have aj:=zfk ae au ap (f:=f) (l:=bl) (b:=a) hs.size (λk hk=>(Zb ((aa k).1 hk)).1) Z ar
 have ah:∀s,(∀i o,ops[i]?=some o->J0 ops i=false->(Be ops.size false).getD i false=false->o.dst≠some s)->zm a s=zm (yx ops f bl a) s:=λs an=>(j8 λp hp am=>by
  have ax:=(Zb ((aa p).1 hp)).1
  have ai:ops[p]?=some ops[p]:=AJ ax
  exact an p _ ai (Zb ((aa p).1 hp)).2.1 (getD_replicate_false _ _) (by rw[<-zf ai];exact am)).symm
 refine zyi B ab hQ ops.size (BO ops.size) _ f a (yx ops f bl a) e2 h d [] (hvL ops) Dn C8 (λk=>by rw[BK,getD_replicate_false];simp) ⟨⟨by simp,λj oj _ hl=>(by rw[getD_replicate_false]at hl;cases hl),λt ht az=>by omega⟩,ah,hs.size,hs.defers,ak,λi o t ho hi hd=>(aj i o ho ((aa i).2 hi)).1 t hd,λi o ho hi=>(aj i o ho ((aa i).2 hi)).2.2,(λj hj=>by rw[getD_replicate_false];simp[hj]),(λj hj=>by rw[getD_replicate_false];simp),(λj hj=>by cases hj),(λj hj=>hj),zt8 ops,⟨_,Ad _,HK⟩,λ_ _ _ _ _ _=>.inr (.inl (Keep.refl _ _)),Same.refl _ _⟩
def zuc:List (Nat×Nat)->Nat->Option Nat
 |[],_=>none
 |(j,m)::l,i=>bif Nat.beq i j then some m else zuc l i
def regionF(P:Program)(n:Nat)(tl:List (Nat×Nat))(id:Nat)(ops:Array Oper)(Z:Bool)(K:Env->zb->Prop)(e:Env)(h:zb):Prop:=
 bif Z then(match zuc tl id with
  |none=>bif Region.lexB .any ops then wQ P n ops h true (λe'=>K (clean e') h) ops.toList e else False
  |some m=>bif Nat.beq m 2000 then(bif zrw ops then wU P n h (λe'=>wT P n ops h K false [] (zl 0 ops.toList) e' h) ops.toList e else False)else bif Nat.beq m 3000 then(bif zrw ops then wU P n h (λe'=>wT P n ops h K true [] (zl 0 ops.toList) e' h) ops.toList e else False)else bif Nat.beq m 5000 then(bif zk6 ops then wU P n h (λe'=>wB P n ops h K false (zl 0 ops.toList).length [] (zl 0 ops.toList) e' h) ops.toList e else False)else bif Nat.beq m 6000 then(bif zk6 ops then wU P n h (λe'=>wB P n ops h K true (zl 0 ops.toList).length [] (zl 0 ops.toList) e' h) ops.toList e else False)else bif Nat.beq m 7000 then(bif zgw ops then wI P n h true ops (λe'=>wB7 P n ops h K false (hvL ops).length [] (hvL ops) e' h) (Ql [] (Qw ops [] ops.size) ops.size) e else False)else bif Nat.beq m 8000 then(bif zgw ops then wI P n h true ops (λe'=>wB7 P n ops h K true (hvL ops).length [] (hvL ops) e' h) (Ql [] (Qw ops [] ops.size) ops.size) e else False)else bif Nat.beq m 1000 then(bif Region.lexB .any ops then wK P n ops h (λe'=>∀h',Keep h.size h h'->K (clean e') h') ops.toList e else False)
   else bif Region.lexTailB .any ops m then wQ P n ops h false (λe'=>wR P n ops K (ops.toList.drop m) e' h) (ops.toList.take m) e else False)
 else wR P n ops K ops.toList e h
theorem xg(l m:List Oper):yn (l++m)=yn l++yn m:=by
 induction l with
 |nil=>rfl
 |cons o l ih=>simp only[Bu,yn];split <;> simp[ih]
theorem zbm(hm:P.follows .mixedOrders=true){tl:List (Nat×Nat)}{id:Nat}{Z:Bool}{K:Env->zb->Prop}
  (H:regionF P n tl id ops Z K e h) (B:World) (d:Nat) (hs:Sat n e a) {Q:Exit->Act->World->Prop}
  (hQ:∀e' a' d' h',Sat n e' a'->Same (yn ops.toList) a a'->K e' h'->Q .normal a' (mk B d' h')):(D4 id ops Z).wp P Q a (mk B d h):=by
 unfold regionF at H
 cases Z with
 |false=>exact wp_region_list (W0 B _ _ _ _ _ H hs hQ)
 |true=>
  simp only[cond_true]at H
  split at H
  ·cases hB:Region.lexB .any ops with
   |false=>rw[hB]at H;exact H.elim
   |true=>
    rw[hB]at H
    refine wp_region_quiet (C:=λw=>∃d,w=mk B d h) hm hB ⟨d+1,rfl⟩ ?_
    refine zp0 B _ _ _ H hs λe' a' q1 q2 q3=>?_
    rintro w' ⟨d',rfl⟩
    exact hQ _ _ _ _ q1.clean q2 q3
  ·rename_i m _
   cases hX:Nat.beq m 2000 with
   |true=>
    rw[hX]at H
    simp only[cond_true]at H
    cases hB:zrw ops with
    |false=>rw[hB]at H;exact H.elim
    |true=>
     rw[hB]at H
     exact wp_region_any hm (zfe B hB H hs hQ (d+1))
   |false=>
   rw[hX]at H
   simp only[cond_false]at H
   cases hY:Nat.beq m 3000 with
   |true=>
    rw[hY]at H
    simp only[cond_true]at H
    cases hB:zrw ops with
    |false=>rw[hB]at H;exact H.elim
    |true=>
     rw[hB]at H
     exact wp_region_any hm (zfe B hB H hs hQ (d+1))
   |false=>
   rw[hY]at H
   simp only[cond_false]at H
   cases hZ:Nat.beq m 5000 with
   |true=>
    rw[hZ]at H
    simp only[cond_true]at H
    cases hB:zk6 ops with
    |false=>rw[hB]at H;exact H.elim
    |true=>
     rw[hB]at H
     exact wp_region_any hm (zhk B hB H hs hQ (d+1))
   |false=>
   rw[hZ]at H
   simp only[cond_false]at H
   cases hY6:Nat.beq m 6000 with
   |true=>
    rw[hY6]at H
    simp only[cond_true]at H
    cases hB:zk6 ops with
    |false=>rw[hB]at H;exact H.elim
    |true=>
     rw[hB]at H
     exact wp_region_any hm (zhk B hB H hs hQ (d+1))
   |false=>
   rw[hY6]at H
   simp only[cond_false]at H
   cases hY7:Nat.beq m 7000 with
   |true=>
    rw[hY7]at H
    simp only[cond_true]at H
    cases hB:zgw ops with
    |false=>rw[hB]at H;exact H.elim
    |true=>
     rw[hB]at H
     exact wp_region_any hm (zcv B hB H hs hQ (d+1))
   |false=>
   rw[hY7]at H
   simp only[cond_false]at H
   cases hY8:Nat.beq m 8000 with
   |true=>
    rw[hY8]at H
    simp only[cond_true]at H
    cases hB:zgw ops with
    |false=>rw[hB]at H;exact H.elim
    |true=>
     rw[hB]at H
     exact wp_region_any hm (zcv B hB H hs hQ (d+1))
   |false=>
   rw[hY8]at H
   simp only[cond_false]at H
   cases hM:Nat.beq m 1000 with
   |true=>
    rw[hM]at H
    simp only[cond_true]at H
    cases hB:Region.lexB .any ops with
    |false=>rw[hB]at H;exact H.elim
    |true=>
     rw[hB]at H
     refine wp_region_quiet (C:=λw=>∃d h',Keep h.size h h'/\w=mk B d h') hm hB ⟨d+1,h,Keep.refl _ _,rfl⟩ ?_
     refine zp1 B _ _ _ H hs λe' a' q1 q2 q3=>?_
     rintro w' ⟨d',h',hk,rfl⟩
     exact hQ _ _ _ _ q1.clean q2 (q3 h' hk)
   |false=>
   rw[hM]at H
   simp only[cond_false]at H
   cases hB:Region.lexTailB .any ops m with
   |false=>rw[hB]at H;exact H.elim
   |true=>
    rw[hB]at H
    have:=wp_region_still_tail (id:=id) (Q:=Q) (a:=a) (w:=mk B d h) (l:=ops.toList) m hm (by simpa using hB) (by
     simp only[Array.toArray_toList]
     refine zp2 B (d+1) _ _ _ H hs λe' a' q1 q2 q3=>?_
     refine W0 B _ _ _ _ (d+1) q3 q1 λab ae af ah q4 q5 q6=>hQ ab ae af ah q4 ?_ q6
     have aa:yn ops.toList=yn (ops.toList.take m)++yn (ops.toList.drop m):=by rw[<-xg,Ce]
     rw[aa]
     exact(q2.mono λx hx=>Ao _ hx).trans (q5.mono λx hx=>Av _ hx))
    simpa using this
end
section
variable {n:Nat} {e:Env} {a:Act} {ms:List Nat} {P:Program} {h:zb} {R:Value -> zb -> Prop} {f:FuncId}
@[reducible] def zr0:List Atom->Type->Type
 |[],X=>X
 |t::l,X=>t.den->zr0 l X
def z5g{X:Type}:(l:List Atom)->zr0 l X->(List Value->X->Prop)->Prop
 |[],f,k=>k [] f
 |t::l,f,k=>∀x:t.den,z5g l (f x) λvs y=>k (t.enc x::vs) y
def zla{X:Type}:(l:List Atom)->List Value->zr0 l X->Option X
 |[],[],f=>some f
 |t::l,v::vs,f=>match t.dec v with
  |some x=>zla l vs (f x)
  |none=>none
 |_,_,_=>none
def mkC{X:Type}:(l:List Atom)->(List Value->X)->zr0 l X
 |[],f=>f []
 |t::l,f=>λx=>mkC l λvs=>f (t.enc x::vs)
def zr1{X Y:Type}:(l:List Atom)->zr0 l X->zr0 l Y->zr0 l (X×Y)
 |[],f,g=>(f,g)
 |_::l,f,g=>λx=>zr1 l (f x) (g x)
theorem zfl{X:Type}:∀{l:List Atom} {vs:List Value} {f:zr0 l X} {x:X} {k:List Value->X->Prop},zla l vs f=some x->z5g l f k->k vs x
 |[],[],f,x,k,h,g=>by simp only[zla,Ab]at h;subst h;exact g
 |[],_::_,f,x,k,h,g=>by simp[zla]at h
 |_::_,[],f,x,k,h,g=>by simp[zla]at h
 |t::l,v::vs,f,x,k,h,g=>by
  simp only[zla]at h
  split at h
  ·rename_i y hy
   have:=zfl h (g y)
   rw[Atom.enc_of_dec hy]at this
   exact this
  ·cases h
theorem zi7{X:Type}:∀{l:List Atom} {vs:List Value} {f:List Value->X} {x:X},zla l vs (mkC l f)=some x->x=f vs
 |[],[],f,x,h=>by simp only[zla,mkC,Ab]at h;exact h.symm
 |[],_::_,f,x,h=>by simp[zla]at h
 |_::_,[],f,x,h=>by simp[zla]at h
 |t::l,v::vs,f,x,h=>by
  simp only[zla,mkC]at h
  split at h
  ·rename_i y hy
   have:=zi7 h
   rw[Atom.enc_of_dec hy]at this
   exact this
  ·cases h
theorem zi8{X:Type}:∀{l:List Atom} {f:List Value->X} {k:List Value->X->Prop},(∀vs,k vs (f vs))->z5g l (mkC l f) k
 |[],_,_,h=>h []
 |_::_,_,_,h=>λ_=>zi8 λ_=>h _
abbrev Ann:=List (Nat×VT)
def jr:Ann->List Atom
 |[]=>[]
 |(_,.one t)::J=>t::jr J
 |(_,.agg l)::J=>l++jr J
def Xh(σ:Nat->Option Value):Ann->Option (List Value)
 |[]=>some []
 |(i,.one _)::J=>match σ i,Xh σ J with
  |some v,some vs=>some (v::vs)
  |_,_=>none
 |(i,.agg l)::J=>match σ i,Xh σ J with
  |some (.agg cs),some vs=>bif Nat.beq cs.toList.length l.length then some (cs.toList++vs)else none
  |_,_=>none
def Qm:Ann->List Value->Env
 |[],_=>[]
 |(i,.one _)::J,v::vs=>(i,[],v)::Qm J vs
 |(_,.one _)::_,[]=>[]
 |(i,.agg l)::J,vs=>(i,[],.agg (vs.take l.length).toArray)::Qm J (vs.drop l.length)
def znw(e:Env)(i:Nat):Option Value:=match look e i with
 |some ([],v)=>some v
 |_=>none
theorem Yx(h:Sat n e a){i:Nat}{v:Value}(hv:znw e i=some v):zm a i=v:=by
 unfold znw at hv
 split at hv
 ·rename_i u hl
  simp only[Ab]at hv
  subst hv
  exact(h.all _ (Wy hl)).1 trivial
 ·cases hv
theorem jg{n:Nat}{e:Env}{a:Act}(h:Sat n e a):∀{J:Ann} {vs:List Value},Xh (znw e) J=some vs->Xh (λi=>some (zm a i)) J=some vs
 |[],vs,hv=>hv
 |(i,.one t)::J,vs,hv=>by
  simp only[Xh]at hv ⊢
  split at hv
  ·rename_i v us h1 h2
   simp only[jg h h2,Yx h h1]
   exact hv
  ·cases hv
 |(i,.agg l)::J,vs,hv=>by
  simp only[Xh]at hv ⊢
  split at hv
  ·rename_i cs us h1 h2
   simp only[jg h h2,Yx h h1]
   exact hv
  ·cases hv
theorem Wa{σ:Nat->Value}:∀{J:Ann} {vs:List Value},Xh (λi=>some (σ i)) J=some vs->∀x∈Qm J vs,fact σ x
 |[],vs,_,x,hx=>by cases hx
 |(i,.one t)::J,vs,hv,x,hx=>by
  simp only[Xh]at hv
  split at hv
  ·rename_i v us h1 h2
   simp only[Ab]at h1 hv
   subst hv
   simp only[Qm,Ai]at hx
   rcases hx with rfl|hx
   ·exact⟨λ_=>h1,λhn=>absurd trivial hn⟩
   ·exact Wa h2 x hx
  ·cases hv
 |(i,.agg l)::J,vs,hv,x,hx=>by
  simp only[Xh]at hv
  split at hv
  ·rename_i cs us h1 h2
   simp only[Ab]at h1
   cases hb:Nat.beq cs.toList.length l.length with
   |false=>rw[hb]at hv;cases hv
   |true=>
    rw[hb]at hv
    simp only[cond_true,Ab]at hv
    subst hv
    have Z:cs.toList.length=l.length:=Ah hb
    simp only[Qm,Ai]at hx
    rcases hx with rfl|hx
    ·refine⟨λ_=>?_,λhn=>absurd trivial hn⟩
     simp only
     rw[h1,<-Z,Dr]
    ·rw[<-Z,List.drop_left]at hx
     exact Wa h2 x hx
  ·cases hv
def Wb(ms:List Nat):Env->Env
 |[]=>[]
 |(i,[],v)::e=>bif memN ms i then Wb ms e else(i,[],v)::Wb ms e
 |(_,_::_,_)::e=>Wb ms e
theorem zud{x:Nat×zx×Value}(h:x∈Wb ms e):x∈e/\x.2.1=[]/\x.1∉ms:=by
 induction e with
 |nil=>cases h
 |cons y e ih=>
  obtain⟨i,c,v⟩:=y
  cases c with
  |nil=>
   simp only[Wb]at h
   cases hm:memN ms i with
   |true=>rw[hm]at h;exact⟨Ag _ (ih h).1,(ih h).2⟩
   |false=>
    rw[hm]at h
    simp only[cond_false]at h
    rcases Ai.1 h with rfl|h
    ·exact⟨Am,rfl,wb hm⟩
    ·exact⟨Ag _ (ih h).1,(ih h).2⟩
  |cons g c=>
   simp only[Wb]at h
   exact⟨Ag _ (ih h).1,(ih h).2⟩
theorem zbn{a a1:Act}(hs:Sat n e a)(hd:a1.defers=[])(hz:a1.tmps.size=n)(Z:Same ms a a1){J:Ann}{vs:List Value}
  (hv:Xh (λi=>some (zm a1 i)) J=some vs):Sat n (Qm J vs++Wb ms e) a1:=by
 refine⟨hd,hz,λx hx=>?_⟩
 rcases Aw.1 hx with hx|hx
 ·exact Wa hv x hx
 ·obtain⟨h1,h2,h3⟩:=zud hx
  have hf:=hs.all x h1
  refine⟨λ_=>?_,λhn=>absurd (by rw[h2];trivial) hn⟩
  rw[Z _ h3]
  exact hf.1 (by rw[h2];trivial)
def ji:Code->Option Nat
 |.region id _ _=>some id
 |.seq a b=>match ji a with
  |some i=>some i
  |none=>ji b
 |.cond _ a b=>match ji a with
  |some i=>some i
  |none=>ji b
 |.block _ b=>ji b
 |.loop b=>ji b
 |_=>none
def Zg:Code->List Nat
 |.region _ ops _=>yn ops.toList
 |.seq a b=>Zg a++Zg b
 |.cond _ a b=>Zg a++Zg b
 |.block _ b=>Zg b
 |.loop b=>Zg b
 |_=>[]
structure Plan where
 tails:List (Nat×Nat)
 loops:List (Nat×Ann)
 joins:List (Nat×Ann)
def z5h:List (Nat×Ann)->Nat->Option Ann
 |[],_=>none
 |(j,m)::l,i=>bif Nat.beq i j then some m else z5h l i
def zyj(l:List (Nat×Ann)):Option Nat->Option Ann
 |some i=>z5h l i
 |none=>none
abbrev X7:=Exit->Env->zb->Prop
def znx(K:Env->zb->Prop)(Q:X7):X7
 |.normal,e,h=>K e h
 |x,e,h=>Q x e h
def zfm(id:Nat)(Q:X7):X7
 |.exit i,e,h=>bif Nat.beq i id then Q .normal e h else Q (.exit i) e h
 |x,e,h=>Q x e h
def atC{X:Type}(J:Ann)(F:zr0 (jr J) X)(e:Env)(k:X->Prop):Prop:=
 match Xh (znw e) J with
 |some vs=>match zla (jr J) vs F with
  |some q=>k q
  |none=>False
 |none=>False
def z5i(J:Ann)(rest:Env->zb->Prop)(F:(Env->zb->Prop)->Prop)(e0:Env):Prop:=
 ∀K:zr0 (jr J) (zb->Prop),z5g (jr J) K (λvs q=>∀h,rest (Qm J vs++e0) h->q h)->F λe h=>atC J K e λq=>q h
def z5j(J:Ann)(body:(Env->zb->Prop)->Env->zb->Prop)(e0 e:Env)(h:zb):Prop:=
 ∃(I:zr0 (jr J) (zb->Prop)) (μ:zr0 (jr J) (zb->Nat)),(atC J (zr1 (jr J) I μ) e λp=>p.1 h) /\
  z5g (jr J) (zr1 (jr J) I μ) λvs p=>∀h,p.1 h->body (λe' h'=>atC J (zr1 (jr J) I μ) e' λq=>q.1 h'/\q.2 h'<p.2 h) (Qm J vs++e0) h
def W(P:Program)(n:Nat)(pl:Plan):Code->X7->Env->zb->Prop
 |.skip,Q,e,h=>Q .normal e h
 |.ret,Q,e,h=>Q .ret e h
 |.exit id,Q,e,h=>Q (.exit id) e h
 |.label _,Q,e,h=>Q .normal e h
 |.goto l,Q,e,h=>Q (.goto l) e h
 |.region id ops draw,Q,e,h=>regionF P n pl.tails id ops draw (λe h=>Q .normal e h) e h
 |.seq x y,Q,e,h=>match zyj pl.joins (ji y)with
  |none=>W P n pl x (znx (λe h=>W P n pl y Q e h) Q) e h
  |some J=>z5i J (λe h=>W P n pl y Q e h) (λK=>W P n pl x (znx K Q) e h) (Wb (Zg x) e)
 |.cond c x y,Q,e,h=>match Yr e [] c with
  |some (.bool b)=>(b=true->W P n pl x Q e h)/\(b=false->W P n pl y Q e h)
  |_=>False
 |.block id x,Q,e,h=>W P n pl x (zfm id Q) e h
 |.loop x,Q,e,h=>match zyj pl.loops (ji x)with
  |some J=>z5j J (λQn e h=>W P n pl x (znx Qn Q) e h) (Wb (Zg x) e) e h
  |none=>False
 |_,_,_,_=>False
def z5k(n:Nat)(B:World)(ms:List Nat)(a0:Act)(Q:X7):Exit->Act->World->Prop:=
 λx a w=>∃e d h,w=mk B d h/\Sat n e a/\Same ms a0 a/\Q x e h
theorem zcw{X:Type}{J:Ann}{F:zr0 (jr J) X}{k:X->Prop}(h:atC J F e k):∃vs q,Xh (znw e) J=some vs/\zla (jr J) vs F=some q/\k q:=by
 unfold atC at h
 split at h
 ·rename_i vs hv
  split at h
  ·rename_i q hq
   exact⟨vs,q,hv,hq,h⟩
  ·exact h.elim
 ·exact h.elim
theorem z1e(hm:P.follows .mixedOrders=true){pl:Plan}:∀(c:Code) (Q:X7) (e:Env) (h:zb),W P n pl c Q e h ->
  ∀(B:World) (d:Nat) (a:Act),Sat n e a->c.wp P (z5k n B (Zg c) a Q) a (mk B d h):=by
 intro c
 induction c with
 |skip=>exact λQ e h H B d a hs=>wp_skip ⟨e,d,h,rfl,hs,Same.refl _ _,H⟩
 |ret=>exact λQ e h H B d a hs=>wp_ret ⟨e,d,h,rfl,hs,Same.refl _ _,H⟩
 |exit id=>exact λQ e h H B d a hs=>wp_exit ⟨e,d,h,rfl,hs,Same.refl _ _,H⟩
 |label l=>exact λQ e h H B d a hs=>wp_label ⟨e,d,h,rfl,hs,Same.refl _ _,H⟩
 |goto l=>exact λQ e h H B d a hs=>wp_goto ⟨e,d,h,rfl,hs,Same.refl _ _,H⟩
 |region id ops aB=>
  exact λQ e h H B d a hs=>zbm hm H B d hs λe' a' d' h' q1 q2 q3=>⟨e',d',h',rfl,q1,q2,q3⟩
 |seq x y aa ab=>
  intro Q e h H B d a hs
  simp only[W]at H
  have hl:∀i∈Zg x,i∈Zg (x.seq y):=λi hi=>Ao _ hi
  have hr:∀i∈Zg y,i∈Zg (x.seq y):=λi hi=>Av _ hi
  split at H
  ·refine wp_seq (wp_mono (aa _ _ _ H B d a hs) ?_)
   rintro ex a1 w1 ⟨e1,d1,h1,rfl,s1,m1,q1⟩
   cases ex with
   |normal=>
    refine wp_mono (ab _ _ _ q1 B d1 a1 s1) ?_
    rintro ex a2 w2 ⟨e2,d2,h2,rfl,s2,m2,q2⟩
    exact⟨e2,d2,h2,rfl,s2,(m1.mono hl).trans (m2.mono hr),q2⟩
   |_=>exact⟨e1,d1,h1,rfl,s1,m1.mono hl,q1⟩
  ·rename_i J hJ
   have H':=H (mkC (jr J) λvs=>λh=>W P n pl y Q (Qm J vs++Wb (Zg x) e) h) (zi8 λvs h hq=>hq)
   refine wp_seq (wp_mono (aa _ _ _ H' B d a hs) ?_)
   rintro ex a1 w1 ⟨e1,d1,h1,rfl,s1,m1,q1⟩
   cases ex with
   |normal=>
    obtain⟨vs,q,hv,hq,hk⟩:=zcw q1
    have am:=zi7 hq
    subst am
    have aj:Sat n (Qm J vs++Wb (Zg x) e) a1:=zbn hs s1.defers s1.size m1 (jg s1 hv)
    refine wp_mono (ab _ _ _ hk B d1 a1 aj) ?_
    rintro ex a2 w2 ⟨e2,d2,h2,rfl,s2,m2,q2⟩
    exact⟨e2,d2,h2,rfl,s2,(m1.mono hl).trans (m2.mono hr),q2⟩
   |_=>exact⟨e1,d1,h1,rfl,s1,m1.mono hl,q1⟩
 |cond c x y aa ab=>
  intro Q e h H B d a hs
  simp only[W]at H
  have hl:∀i∈Zg x,i∈Zg (DZ c x y):=λi hi=>Ao _ hi
  have hr:∀i∈Zg y,i∈Zg (DZ c x y):=λi hi=>Av _ hi
  split at H
  ·rename_i b hb
   refine wp_cond_split (yc hs (c:=[]) trivial hb) (λax=>?_) (λaz=>?_)
   ·refine wp_mono (aa _ _ _ (H.1 ax) B d a hs) ?_
    rintro ex a2 w2 ⟨e2,d2,h2,rfl,s2,m2,q2⟩
    exact⟨e2,d2,h2,rfl,s2,m2.mono hl,q2⟩
   ·refine wp_mono (ab _ _ _ (H.2 az) B d a hs) ?_
    rintro ex a2 w2 ⟨e2,d2,h2,rfl,s2,m2,q2⟩
    exact⟨e2,d2,h2,rfl,s2,m2.mono hr,q2⟩
  ·exact H.elim
 |block id x ih=>
  intro Q e h H B d a hs
  refine wp_block (wp_mono (ih _ _ _ H B d a hs) ?_)
  rintro ex a1 w1 ⟨e1,d1,h1,rfl,s1,m1,q1⟩
  cases ex with
  |exit i=>
   simp only[zfm]at q1
   simp only[Exit.inBlock]
   by_cases hb:Nat.beq i id=true
   ·rw[if_pos (Ah hb)]
    simp only[hb,cond_true]at q1
    exact⟨e1,d1,h1,rfl,s1,m1,q1⟩
   ·rw[if_neg (λhe=>hb (by rw[he];simp))]
    simp only[hb,cond_false]at q1
    exact⟨e1,d1,h1,rfl,s1,m1,q1⟩
  |_=>exact⟨e1,d1,h1,rfl,s1,m1,q1⟩
 |loop x ih=>
  intro Q e h H B d a hs
  simp only[W]at H
  split at H
  ·rename_i J hJ
   obtain⟨I,μ,h0,ae⟩:=H
   obtain⟨ah,p0,au,ay,ak⟩:=zcw h0
   let F:=zr1 (jr J) I μ
   let at_:Act->Option ((zb->Prop)×(zb->Nat)):=λa1=>(Xh (λi=>some (zm a1 i)) J).bind λvs=>zla (jr J) vs F
   refine wp_loop (λa1 w1=>∃d1 h1 vs p,w1=mk B d1 h1/\a1.defers=[]/\a1.tmps.size=n/\Same (Zg x) a a1/\Xh (λi=>some (zm a1 i)) J=some vs/\zla (jr J) vs F=some p/\p.1 h1)
    (λa1 w1=>match at_ a1 with|some p=>p.2 w1.heap|none=>0) ⟨d,h,ah,p0,rfl,hs.defers,hs.size,Same.refl _ _,jg hs au,ay,ak⟩ ?_
   rintro a1 w1 ⟨d1,h1,vs,p,rfl,an,ap,Z,hv,hp,hI⟩
   have s1:Sat n (Qm J vs++Wb (Zg x) e) a1:=zbn hs an ap Z hv
   have hb:=zfl hp ae h1 hI
   refine wp_mono (ih _ _ _ hb B d1 a1 s1) ?_
   rintro ex a2 w2 ⟨e2,d2,h2,rfl,s2,m2,q2⟩
   cases ex with
   |normal=>
    obtain⟨ar,q,af,hq,ai,aA⟩:=zcw q2
    refine⟨⟨d2,h2,ar,q,rfl,s2.defers,s2.size,Z.trans m2,jg s2 af,hq,ai⟩,?_⟩
    have e1:at_ a1=some p:=by simp only[at_,hv,CF];exact hp
    have e2:at_ a2=some q:=by simp only[at_,jg s2 af,CF];exact hq
    rw[e1,e2]
    exact aA
   |_=>exact⟨e2,d2,h2,rfl,s2,Z.trans m2,q2⟩
  ·exact H.elim
 |_=>exact λQ e h H=>H.elim
def zue:Nat->List Value->Env
 |_,[]=>[]
 |i,v::vs=>(i,[],v)::zue (i+1) vs
def zuf(P:Program)(h:zb)(e:Env):List ResultVar->(List Value->Prop)->Prop
 |[],K=>K []
 |.tmp t::l,K=>match znw e t with
  |some v=>zuf P h e l λvs=>K (v::vs)
  |none=>False
 |.cell a t::l,K=>match znw e a with
  |some p=>ziz P h t p none λv=>zuf P h e l λvs=>K (v::vs)
  |none=>False
def zfn:List Value->Value
 |[v]=>v
 |vs=>.tuple vs.toArray
def z8h(P:Program)(rs:List ResultVar)(R:Value->zb->Prop):X7
 |.normal,e,h=>zuf P h e rs λvs=>R (zfn vs) h
 |.ret,e,h=>zuf P h e rs λvs=>R (zfn vs) h
 |_,_,_=>False
def zfo(tmps:Array Value):ResultVar->Sem Value
 |.tmp t=>pure (tmps.getD t undef)
 |.cell a t=>do loadVar t (<-asAddr (tmps.getD a undef))
theorem zcx{P:Program}{n:Nat}{h:zb}{e:Env}{a:Act}(hs:Sat n e a):∀{l:List ResultVar} {K:List Value->Prop},zuf P h e l K->∃vs,K vs/\vs.length=l.length/\QExec P (l.mapM (zfo a.tmps)) h vs
 |[],K,H=>⟨[],H,rfl,λ_ _=>by simp⟩
 |.tmp t::l,K,H=>by
  simp only[zuf]at H
  split at H
  ·rename_i v hv
   obtain⟨vs,h1,h2,h3⟩:=zcx hs H
   refine⟨v::vs,h1,by simp[h2],?_⟩
   rw[DW]
   refine QExec.bind (x:=v) ?_ (h3.bind (QExec.pure _))
   rw[<-Yx hs hv]
   exact QExec.pure _
  ·exact H.elim
 |.cell x t::l,K,H=>by
  simp only[zuf]at H
  split at H
  ·rename_i p hp
   obtain⟨v,hK,hq⟩:=ze5 H
   obtain⟨vs,h1,h2,h3⟩:=zcx hs hK
   refine⟨v::vs,h1,by simp[h2],?_⟩
   rw[DW]
   refine QExec.bind (x:=v) ?_ (h3.bind (QExec.pure _))
   have hx:a.tmps.getD x undef=p:=Yx hs hp
   simp only[zfo,hx]
   have Z:=hq trivial
   unfold Dx at Z
   unfold ziz at H
   split at H
   ·exact Z
   ·exact Z
   ·exact H.elim
  ·exact H.elim
theorem Z1{fn:Func}(hs:Sat n e a){rs:List ResultVar}(hr:fn.results.toList=rs)(H:zuf P h e rs λvs=>R (zfn vs) h):
  ∃v,R v h/\QExec P (results fn a.tmps) h v:=by
 obtain⟨vs,h1,h2,h3⟩:=zcx hs H
 refine⟨_,h1,?_⟩
 intro B d
 have e0:results fn a.tmps=(fn.results.mapM (zfo a.tmps) >>= λvs=>CZ (if h:vs.size=1 then vs[0]else .tuple vs)):=by
  unfold results
  congr 1
 rw[e0,Array.mapM_eq_mapM_toList,hr,Sem.run_bind,Sem.run_map,h3 B d]
 simp only[Result.andThen_ok,Sem.run_pure]
 match vs,h2 with
 |[],_=>rfl
 |[v],_=>rfl
 |v::u::vs,_=>simp[zfn]
theorem W7(args:Array Value)(k:Nat):∀(vs:List Value) (i:Nat),(∀j v,vs[j]?=some v->(args++Be k undef).getD (i+j) undef=v) ->
  ∀x∈zue i vs,fact (λi=>(args++Be k undef).getD i undef) x
 |[],_,_,x,hx=>by cases hx
 |v::vs,i,h,x,hx=>by
  simp only[zue,Ai]at hx
  rcases hx with rfl|hx
  ·exact⟨λ_=>h 0 v rfl,λhn=>absurd trivial hn⟩
  ·exact W7 args k vs (i+1) (λj u hj=>by have:=h (j+1) u (by simpa using hj);rwa[show i+(j+1)=i+1+j by omega]at this) x hx
theorem z1f(hm:P.follows .mixedOrders=true){fn:Func}{c:Code}(pl:Plan)(vs:List Value){rs:List ResultVar}(hf:P.funcs[f]?=some fn)(hb:fn.body=some c)(hr:fn.results.toList=rs)(hn:fn.ntmps=n)
  (hz:Nat.ble vs.length n=true) (H:W P n pl c (z8h P rs R) (zue 0 vs) h):XC P f vs.toArray h R:=by
 intro B d
 subst hn
 refine calls_of_wp hf hb ?_
 have aa:vs.length<=fn.ntmps:=BM hz
 have hs:Sat fn.ntmps (zue 0 vs) { tmps:=vs.toArray++Be (fn.ntmps-vs.toArray.size) undef,defers:=[] }:=by
  refine⟨rfl,by simp;omega,?_⟩
  refine W7 vs.toArray _ vs 0 λj v hj=>?_
  have Z:j<vs.length:=by
   rcases AF j vs.length with h|h
   ·exact h
   ·rw[BN h]at hj;cases hj
  simp only[AB,BE]
  rw[Cn (by simpa using Z)]
  simp[hj]
 refine wp_mono (z1e hm c _ _ _ H B d _ hs) ?_
 rintro ex a w ⟨e1,d1,h1,rfl,s1,m1,q1⟩
 cases ex with
 |normal=>
  obtain⟨v,hv,hq⟩:=Z1 s1 hr q1
  exact⟨s1.defers,v,hq B d1,v,d1,h1,rfl,rfl,hv⟩
 |ret=>
  obtain⟨v,hv,hq⟩:=Z1 s1 hr q1
  exact⟨s1.defers,v,hq B d1,v,d1,h1,rfl,rfl,hv⟩
 |_=>exact q1.elim
def codeOf(fn:Func):Code:=match fn.body with
 |some c=>c
 |none=>.skip
def Z2(fn:Func):Bool:=match fn.body with
 |some _=>true
 |none=>false
theorem zr2(hm:P.follows .mixedOrders=true)(pl:Plan)(vs:List Value){fn:Func}{rs:List ResultVar}(hf:P.funcs[f]?=some fn)(hb:Z2 fn=true)(hr:fn.results.toList=rs)(hn:fn.ntmps=n)
  (hz:Nat.ble vs.length n=true) (H:W P n pl (codeOf fn) (z8h P rs R) (zue 0 vs) h):XC P f vs.toArray h R:=by
 have Z:fn.body=some (codeOf fn):=by
  unfold Z2 at hb
  unfold codeOf
  split at hb
  ·rename_i c hc;rw[hc]
  ·cases hb
 exact z1f hm pl vs hf Z hr hn hz H
end
section
variable {n m k:Nat} {h h':zb} {a:Option Addr} {cs xs:List Value} {s:Sl} {e:TypeId}
theorem Zn(h:zb)(o:Obj):(h.push o)[h.size]?=some o:=by simp
theorem zr3(k:Keep n h h'){a:Addr}(ha:a.block<n):zc h' a=zc h a:=by
 unfold zc;rw[k.get _ ha]
def Arr(n:Nat)(h:zb)(a:Option Addr)(cs:List Value):Prop:=
 cs=[]\/∃b o,a=some ⟨b,o,none⟩/\b<n/\∀i v,cs[i]?=some v->zc h ⟨b,o+i,none⟩=some v
theorem Arr.mono(H:Arr n h a cs)(hm:n<=m):Arr m h a cs:=by
 rcases H with e|⟨b,o,e,hb,hc⟩
 ·exact .inl e
 ·exact .inr ⟨b,o,e,by omega,hc⟩
theorem Arr.keep(H:Arr n h a cs)(k:Keep n h h'):Arr n h' a cs:=by
 rcases H with e|⟨b,o,e,hb,hc⟩
 ·exact .inl e
 ·exact .inr ⟨b,o,e,hb,λi v hi=>(zr3 k (a:=⟨b,o+i,none⟩) hb).trans (hc i v hi)⟩
theorem qj(b o i:Nat):(⟨b,o,none⟩:Addr).add i=⟨b,o+i,none⟩:=by
 unfold Af
 split
 ·rename_i h;rw[h];rfl
 ·rfl
theorem Arr.cell(H:Arr n h a cs){v:Value}(hv:cs[k]?=some v):∃p:Addr,a=some p/\zc h (p.add k)=some v:=by
 rcases H with e|⟨b,o,e,hb,hc⟩
 ·rw[e]at hv;simp at hv
 ·exact⟨⟨b,o,none⟩,e,by rw[qj];exact hc k v hv⟩
def Strs(n:Nat)(h:zb)(s:Sl)(xs:List Bt):Prop:=s.len=xs.length/\Arr n h s.a (xs.map Di)
theorem Strs.mono{xs:List Bt}(H:Strs n h s xs)(hm:n<=m):Strs m h s xs:=⟨H.1,H.2.mono hm⟩
theorem Strs.keep{xs:List Bt}(H:Strs n h s xs)(k:Keep n h h'):Strs n h' s xs:=⟨H.1,H.2.keep k⟩
theorem Strs.nil(n:Nat)(h:zb)(a:Option Addr)(c:Nat):Strs n h ⟨a,0,c⟩ []:=⟨rfl,.inl rfl⟩
theorem wrap64{n:Int}(h1:-9223372036854775808<=n)(h2:n<=9223372036854775807):Aa .i64 n=n:=by
 unfold Aa
 have e:(2:Int) ^ An .i64=18446744073709551616:=by decide
 have e':(2:Int) ^ (An .i64-1)=9223372036854775808:=by decide
 simp only[e,e']
 have hs:C9 .i64=true:=rfl
 simp only[hs,Cf,decide_eq_true_eq]
 split <;> omega
theorem zug(h:k<9223372036854775807):Aa .i64 ((k:Int)+1)=((k+1:Nat):Int):=by
 rw[wrap64 (by omega) (by omega)];omega
def Owns(h:zb)(base:Nat)(e:TypeId)(sz:Nat)(s:Sl)(xs:List Value):Prop:=
 (mk default 0 h).ownsRow base e sz (.slice s.a s.len s.cap) s.len xs
theorem Owns.nil(h:zb)(base:Nat)(e:TypeId)(sz:Nat):Owns h base e sz ⟨none,0,0⟩ []:=World.ownsRow_nil _ _ _ _
theorem Owns.length{base:Nat}{sz:Nat}(H:Owns h base e sz s xs):xs.length=s.len*sz:=H.1
theorem Owns.arr{base:Nat}{sz:Nat}(H:Owns h base e sz s xs):Arr h.size h s.a xs:=by
 rcases H.2 with⟨hv,h0⟩|⟨g,cap,ab,hv,hb,hg,ae,hm,af,ht⟩
 ·have hl:=H.1
  rw[h0]at hl
  exact .inl (by simpa using hl)
 ·simp only[Bb]at hv
  have Z:g<h.size:=(Ac.1 hg).1
  refine .inr ⟨g,0,hv.1,Z,λi v hi=>?_⟩
  have aa:h[g]?=some (.cells ab e (0,0)):=hg
  unfold zc
  simp only[aa,AB,Option.isSome_none,A9,if_false]
  rw[<-ht,AC]at hi
  split at hi
  ·simpa using hi
  ·cases hi
theorem Owns.base_le{base:Nat}{sz:Nat}(H:Owns h base e sz s xs):∀p,s.a=some p->base<=p.block/\p.block<h.size:=by
 intro p hp
 exact World.ownsRow.lt H p.block (by simp[Value.ownBlock,hp])
theorem Owns.keep{base:Nat}{sz:Nat}(H:Owns h base e sz s xs)(k:∀p,s.a=some p->h'[p.block]?=h[p.block]?):Owns h' base e sz s xs:=by
 refine⟨H.1,?_⟩
 rcases H.2 with hn|⟨g,cap,Z,hv,hb,hg,rest⟩
 ·exact .inl hn
 ·simp only[Bb]at hv
  refine .inr ⟨g,cap,Z,by simp[hv],hb,?_,rest⟩
  have:=k _ hv.1
  exact this.trans hg
theorem Owns.keepN{base:Nat}{sz:Nat}(H:Owns h base e sz s xs)(k:Keep h.size h h'):Owns h' base e sz s xs:=
 H.keep λp hp=>k.get _ (H.base_le p hp).2
structure ElemT (P:Program) (t e:TypeId) (z:Value) (sz bytes:Nat):Prop where
 slice:P.underlying t=some (.slice e)
 info:∃i,P.info? e=some i/\i.zero=some z/\i.size=sz/\i.bytes=bytes
 zero:z.cells.size=sz
 pos:0<sz
end
section
variable {h:zb} {m:Nat} {P:Program} {kt t et:TypeId} {z:Value}
def znl(l:List (Bt×Value))(k:Bt):Option Value:=match l with
 |[]=>none
 |p::l=>if p.1=k then some p.2 else znl l k
def zx5(l:List (Bt×Value))(k:Bt)(v:Value):List (Bt×Value):=match l with
 |[]=>[(k,v)]
 |p::l=>if p.1=k then(k,v)::l else p::zx5 l k v
theorem zuh(l:List (Bt×Value))(k k':Bt)(v:Value):znl (zx5 l k v) k'=if k=k' then some v else znl l k':=by
 induction l with
 |nil=>simp[zx5,znl]
 |cons p l ih=>
  simp only[zx5]
  split
  ·rename_i h
   simp only[znl]
   split <;> rename_i h2
   ·rfl
   ·rw[h];simp[h2]
  ·rename_i h
   simp only[znl,ih]
   split <;> rename_i h2
   ·rw[if_neg (λe=>h (h2.trans e.symm))]
   ·rfl
def MapAt(h:zb)(m:Nat)(l:List (Bt×Value)):Prop:=∃es Z,h[m]?=some (.map es Z)/\es.toList.map (λe=>(e.key,e.val))=l.map λp=>(Di p.1,p.2)
theorem MapAt.keep{h h':zb}{l:List (Bt×Value)}(H:MapAt h m l)(k:h'[m]?=h[m]?):MapAt h' m l:=by
 obtain⟨es,c,h1,h2⟩:=H;exact⟨es,c,k.trans h1,h2⟩
theorem MapAt.lt{l:List (Bt×Value)}(H:MapAt h m l):m<h.size:=by
 obtain⟨es,c,h1,h2⟩:=H;exact(Ac.1 h1).1
theorem MapAt.new(h:zb):MapAt (h.push (.map #[] 0)) h.size []:=⟨#[],0,Zn _ _,rfl⟩
structure MapT (P:Program) (t kt et:TypeId) (z:Value):Prop where
 map:P.underlying t=some (.map kt et)
 key:P.underlying kt=some .string
 zero:∃i,P.info? et=some i/\i.zero=some z
theorem zlb(a b:Bt):(a==b)=decide (a=b):=by
 show ByteArray.beq a b=_
 cases a;cases b
 rw[Az]
 simp[ByteArray.beq]
instance lawfulBA:LawfulBEq Bt where
 eq_of_beq:=λ {a b} h=>by rw[zlb]at h;simpa using h
 rfl:=λ {a}=>by rw[zlb];simp
theorem X8(k:Bt):∀(es:List MapEntry) (l:List (Bt×Value)) (i:Nat),es.map (λe=>(e.key,e.val))=l.map (λp=>(Di p.1,p.2)) ->
  (znl l k=none/\DJ .string (.string k) es i=some none)\/(∃j v e,znl l k=some v/\es[j]?=some e/\e.key=.string k/\e.val=v/\DJ .string (.string k) es i=some (some (i+j,v)) /\
   ∀w,(es.modify j λe=>{ e with key:=.string k,val:=w }).map (λe=>(e.key,e.val))=(zx5 l k w).map λp=>(Di p.1,p.2))
 |[],l,i,h=>by
  have:l=[]:=by cases l <;> simp_all
  subst this
  exact .inl ⟨rfl,rfl⟩
 |e::es,l,i,h=>by
  cases l with
  |nil=>simp at h
  |cons p l=>
   simp only[BZ,BR,Br]at h
   obtain⟨⟨h1,h2⟩,h3⟩:=h
   by_cases hk:p.1=k
   ·refine .inr ⟨0,p.2,e,by simp[znl,hk],rfl,by rw[h1,hk],h2,?_,λw=>?_⟩
    ·have Z:(k==p.1)=true:=by rw[zlb];simpa using hk.symm
     simp[DJ,Instr.sameNow,h1,h2,Z]
    ·simp[zx5,hk,h3]
   ·have Z:(k==p.1)=false:=by rw[zlb];simpa using λe=>hk e.symm
    rcases X8 k es l (i+1) h3 with⟨g1,g2⟩|⟨j,v,e',g1,g2,g3,g4,g5,g6⟩
    ·refine .inl ⟨by simp[znl,hk,g1],?_⟩
     simp[DJ,Instr.sameNow,h1,Z,g2]
    ·refine .inr ⟨j+1,v,e',by simp[znl,hk,g1],by simpa using g2,g3,g4,?_,λw=>?_⟩
     ·simp[DJ,Instr.sameNow,h1,Z,g5];omega
     ·simp[zx5,hk,h1,h2,g6 w]
theorem zd1(hk:P.underlying kt=some .string)(b:Bool)(k:Bt)(h:zb):QExec P (Instr.checkKey b 10000 kt (.string k)) h ():=by
 intro B d
 have hq:=QExec.underlying (h:=h) hk B d
 unfold Instr.checkKey
 rw[Sem.run_bind,hq]
 rfl
theorem Yy(hk:P.underlying kt=some .string)(k:Bt)(es:List MapEntry)(r:Option (Nat×Value))(h:zb)(hf:DJ .string (.string k) es 0=some r):
  QExec P (Instr.findKey kt (.string k) es) h r:=by
 intro B d
 have hq:=QExec.underlying (h:=h) hk B d
 unfold Instr.findKey
 rw[Sem.run_bind,hq]
 simp only[Result.andThen_ok,hf]
 rfl
theorem zhq{es:Array MapEntry}{c:Nat}(hm:h[m]?=some (.map es c)):QExec P (getObj m) h (.map es c):=by
 intro B d
 have:(mk B d h).heap[m]?=some (.map es c):=hm
 simp[getObj,Sem.run,this]
theorem zyk(hz:∃i,P.info? t=some i/\i.zero=some z):QExec P (zeroValue t) h z:=by
 obtain⟨i,h1,h2⟩:=hz
 intro B d
 simp[zeroValue,typeInfo,program,h1,h2,Sem.run]
def z4r(l:List (Bt×Value))(k:Bt)(z:Value):Value:=(znl l k).getD z
theorem zny(T:MapT P t kt et z){l:List (Bt×Value)}(H:MapAt h m l)(k:Bt)(ok:Bool):
  QExec P (Instr.lookup t (.map (some m)) (.string k) ok) h (if ok then .tuple #[z4r l k z,.bool (znl l k).isSome]else z4r l k z):=by
 obtain⟨es,c,h1,h2⟩:=H
 intro B d
 have hu:=QExec.underlying (h:=h) T.map B d
 have hg:=zhq (P:=P) h1 B d
 have hc:=zd1 T.key es.isEmpty k h B d
 unfold Instr.lookup
 rw[Sem.run_bind,hu]
 simp only[Result.andThen_ok,Sem.run_bind,hg,Sem.run_pure,hc]
 rcases X8 k es.toList l 0 h2 with⟨g1,g2⟩|⟨j,v,e,g1,g2,g3,g4,g5,_⟩
 ·rw[Yy T.key k es.toList none h g2 B d]
  have hz:=zyk (h:=h) T.zero B d
  simp only[Result.andThen_ok,Sem.run_bind,hz,Sem.run_pure,z4r,g1]
  cases ok <;> rfl
 ·rw[Yy T.key k es.toList _ h g5 B d]
  simp only[Result.andThen_ok,z4r,g1]
  cases ok <;> rfl
theorem znz{l:List (Bt×Value)}{k:Bt}{v:Value}(g:znl l k=none):zx5 l k v=l++[(k,v)]:=by
 induction l with
 |nil=>rfl
 |cons p l ih=>
  simp only[znl]at g
  split at g
  ·cases g
  ·rename_i hp
   simp[zx5,hp,ih g]
theorem zui(T:MapT P t kt et z){l:List (Bt×Value)}(H:MapAt h m l)(k:Bt)(v:Value){K:zb->Prop}
  (hK:∀h':zb,MapAt h' m (zx5 l k v)->h'.size=h.size->(∀i,i≠m->h'[i]?=h[i]?)->K h'):XRunU P (DN t (.map (some m)) (.string k) v) h K:=by
 have aa:=H.lt
 obtain⟨es,c,h1,h2⟩:=H
 intro B d
 have hu:=QExec.underlying (h:=h) T.map B d
 have hg:=zhq (P:=P) h1 B d
 have hc:=zd1 T.key false k h B d
 have Z:∀o:Obj,(setObj m o).run P (mk B d h)=.ok () (mk B d (h.setIfInBounds m o)):=by
  intro o
  have:(mk B d h).heap[m]?=some (.map es c):=h1
  simp[setObj,Sem.run,this]
  rfl
 unfold DN
 rcases X8 k es.toList l 0 h2 with⟨g1,g2⟩|⟨j,v0,e,g1,g2,g3,g4,g5,g6⟩
 ·refine⟨d,h.setIfInBounds m (.map (es.push { key:=.string k,val:=v,born:=c }) (c+1)),?_,hK _ ⟨es.push { key:=.string k,val:=v,born:=c },c+1,by simp[aa],?_⟩ (by simp) (λi hi=>by rw[AO (Ne.symm hi)])⟩
  ·rw[Sem.run_bind,hu]
   simp only[Result.andThen_ok,Sem.run_bind,hg,hc]
   rw[Yy T.key k es.toList none h g2 B d]
   simp only[Result.andThen_ok]
   exact Z _
  ·rw[znz g1]
   simp[h2]
 ·have ae:j<es.size:=by
   have:=(Au.1 g2).1
   simpa using this
  refine⟨d,_,?_,hK (h.setIfInBounds m (.map (es.modify j λe=>{ e with key:=.string k,val:=v }) c)) ⟨es.modify j λe=>{ e with key:=.string k,val:=v },c,by simp[aa],?_⟩ (by simp) (λi hi=>by rw[AO (Ne.symm hi)])⟩
  ·rw[Sem.run_bind,hu]
   simp only[Result.andThen_ok,Sem.run_bind,hg,hc]
   rw[Yy T.key k es.toList _ h g5 B d]
   simp only[Result.andThen_ok,AB]
   have ab:((es[j]?).map (·.key)).getD (.string k)=.string k:=by
    have:es[j]?=some e:=by simpa using g2
    rw[this];exact g3
   rw[ab]
   have hs:Instr.keyThatStays (.string k) (.string k)=pure (.string k):=by
    unfold Instr.keyThatStays
    rw[if_pos (by show(k==k)=true;rw[zlb];simp)]
   rw[hs]
   exact Z _
  ·have:=g6 v
   simpa using this
end
section
variable {h h':zb} {b n o:Nat} {cs:Array Value} {v:Value} {P:Program}
def Blk(h:zb)(b:Nat)(cs:Array Value):Prop:=∃T,h[b]?=some (.cells cs T (0,0))
theorem Blk.keep(H:Blk h b cs)(k:h'[b]?=h[b]?):Blk h' b cs:=by
 obtain⟨T,e⟩:=H;exact⟨T,k.trans e⟩
theorem Blk.keepN(H:Blk h b cs)(k:Keep n h h')(hb:b<n):Blk h' b cs:=H.keep (k.get b hb)
theorem Blk.new(h:zb)(cs:Array Value)(T:TypeId):Blk (h.push (.cells cs T)) h.size cs:=⟨T,Zn _ _⟩
theorem Blk.lt(H:Blk h b cs):b<h.size:=by
 obtain⟨T,e⟩:=H;exact(Ac.1 e).1
theorem Blk.cell(H:Blk h b cs)(hv:cs[o]?=some v):zc h ⟨b,o,none⟩=some v:=by
 obtain⟨T,e⟩:=H
 unfold zc
 simp[e,hv]
theorem Blk.cellAdd{b o k:Nat}(H:Blk h b cs)(hv:cs[o+k]?=some v):zc h ((⟨b,o,none⟩:Addr).add k)=some v:=by
 rw[qj];exact H.cell hv
theorem Blk.ld{cs:List Value}(H:Blk h b cs.toArray):zh h ⟨b,0,none⟩ 0 cs:=by
 have key:∀(l:List Value) (i:Nat),(∀j v,l[j]?=some v->cs[i+j]?=some v)->zh h ⟨b,0,none⟩ i l:=by
  intro l
  induction l with
  |nil=>intro i _;trivial
  |cons v l ih=>
   intro i hi
   refine⟨?_,ih (i+1) λj u hu=>?_⟩
   ·rw[qj,AB]
    exact H.cell (by have:=hi 0 v rfl;simpa using this)
   ·have:=hi (j+1) u (by simpa using hu)
    rwa[show i+(j+1)=i+1+j by omega]at this
 exact key cs 0 λj v hv=>by simpa using hv
theorem Keep.setBlk(o:Obj)(hb:n<=b):Keep n h (h.setIfInBounds b o):=
 ⟨by simp,λi hi=>by rw[AO (by omega)]⟩
theorem zhr(H:Blk h b cs)(B:World)(d:Nat):(mk B d h).frozen? ⟨b,o,none⟩=false:=by
 obtain⟨T,e⟩:=H
 have:(mk B d h).heap[b]?=some (.cells cs T (0,0)):=e
 simp[World.frozen?,this]
theorem zbo{T:TypeId}(e:h[b]?=some (.cells cs T (0,0)))(ho:o<cs.size)(hv:v.oneCell'=true)(B:World)(d:Nat):
  (store ⟨b,o,none⟩ v).run P (mk B d h)=.ok () (mk B d (h.setIfInBounds b (.cells (cs.setIfInBounds o v) T (0,0)))):=by
 have hc:(mk B d h).cell? ⟨b,o,none⟩=some cs[o]:=Blk.cell (h:=h) ⟨T,e⟩ (by simp[ho])
 have hf:=zhr (o:=o) (⟨T,e⟩:Blk h b cs) B d
 have Z:(mk B d h).setCell ⟨b,o,none⟩ v=mk B d (h.setIfInBounds b (.cells (cs.setIfInBounds o v) T (0,0))):=by
  unfold World.setCell mk
  simp only
  congr 1
  have hb:b<h.size:=(Ac.1 e).1
  apply Array.ext_getElem?
  intro i
  rw[Array.getElem?_modify]
  by_cases hi:i=b
  ·subst hi
   have e':h[i]=.cells cs T (0,0):=by
    have:=AJ hb
    rw[e]at this
    exact(Aq this).symm
   simp[hb,e']
  ·rw[if_neg (Ne.symm hi),AO (Ne.symm hi)]
 cases v with
 |agg x=>simp[Value.oneCell']at hv
 |tuple x=>simp[Value.oneCell']at hv
 |_=>simp only[store,Sem.run,hc,hf,A9,if_false,Z]
theorem cells_one(hv:v.oneCell'=true):v.cells=#[v]:=by
 cases v <;> first|rfl|simp[Value.oneCell']at hv
theorem yy{t:TypeId}(hi:ql P t=true)(hs:qy P t=1)(H:Blk h b cs)(ho:o<cs.size)(hv:v.oneCell'=true){K:zb->Prop}
  (hK:∀h':zb,Blk h' b (cs.setIfInBounds o v)->h'.size=h.size->(∀i,i≠b->h'[i]?=h[i]?)->K h'):XRunU P (Aj t (.pointer (some ⟨b,o,none⟩)) v) h K:=by
 obtain⟨T,e⟩:=H
 have hb:b<h.size:=(Ac.1 e).1
 intro B d
 refine⟨d,_,?_,hK (h.setIfInBounds b (.cells (cs.setIfInBounds o v) T (0,0))) ⟨T,by simp[hb]⟩ (by simp) λi hi=>by rw[AO (Ne.symm hi)]⟩
 have hz:=QExec.sizeOf (P:=P) (h:=h) (y8 hi).choose_spec B d
 unfold Aj Dq
 simp only[Sem.run_bind,Sem.run_pure,Result.andThen_ok]
 unfold storeVar
 rw[Sem.run_bind,hz]
 simp only[Result.andThen_ok]
 rw[hs,cells_one hv]
 simp only[List.size_toArray,AI,Cv,AB,ne_eq,not_true_eq_false,if_false]
 show Sem.run P (storeCells ⟨b,o,none⟩ [v]) _=_
 unfold storeCells
 rw[Sem.run_bind]
 have ha:(⟨b,o,none⟩:Addr).add 0=⟨b,o,none⟩:=by rw[qj];rfl
 rw[ha,zbo e ho hv B d]
 rfl
theorem Qx{P:Program}{b:Nat}{T:TypeId}(B:World)(d:Nat):∀(vs:List Value) (i:Nat) (h:zb) (cs:Array Value),h[b]?=some (.cells cs T (0,0))->i+vs.length<=cs.size->(∀v∈vs,v.oneCell'=true) ->
  ∃h',(storeCells ⟨b,0,none⟩ vs i).run P (mk B d h)=.ok () (mk B d h')/\h'[b]?=some (.cells (cs.toList.take i++vs++cs.toList.drop (i+vs.length)).toArray T (0,0))/\h'.size=h.size/\∀j,j≠b->h'[j]?=h[j]?
 |[],i,h,cs,e,_,_=>⟨h,rfl,by simpa using e,rfl,λ_ _=>rfl⟩
 |v::vs,i,h,cs,e,hl,hv=>by
  have hb:b<h.size:=(Ac.1 e).1
  simp only[AI]at hl
  have h1:=zbo (P:=P) e (o:=i) (by omega) (hv v Am) B d
  have e':(h.setIfInBounds b (.cells (cs.setIfInBounds i v) T (0,0)))[b]?=some (.cells (cs.setIfInBounds i v) T (0,0)):=by simp[hb]
  have Z:i+1+vs.length<=(cs.setIfInBounds i v).size:=by rw[A7];omega
  obtain⟨h',r1,r2,r3,r4⟩:=Qx (P:=P) B d vs (i+1) (h.setIfInBounds b (.cells (cs.setIfInBounds i v) T (0,0))) (cs.setIfInBounds i v) e' Z λu hu=>hv u (Ag _ hu)
  refine⟨h',?_,?_,by rw[r3];simp,λj hj=>by rw[r4 j hj,AO (Ne.symm hj)]⟩
  ·unfold storeCells
   rw[Sem.run_bind,qj,AB,h1]
   simp only[Result.andThen_ok]
   exact r1
  ·rw[r2]
   congr 3
   have hi:i<cs.toList.length:=by simp;omega
   simp only[Array.toList_setIfInBounds,AI]
   rw[List.take_set,List.drop_set_of_lt (by omega)]
   have e2:(cs.toList.take (i+1)).set i v=cs.toList.take i++[v]:=by
    rw[AH hi,List.set_append_right _ _ (by simp;omega)]
    have:i-(cs.toList.take i).length=0:=by simp;omega
    rw[this];rfl
   rw[e2,show i+(vs.length+1)=i+1+vs.length by omega]
   simp
theorem Owns.base{h:zb}{base Z:Nat}{e:TypeId}{sz:Nat}{s:Sl}{xs:List Value}(H:Owns h base e sz s xs)(hb:Z<=base):Owns h Z e sz s xs:=by
 refine⟨H.1,?_⟩
 rcases H.2 with hn|⟨g,cap,aa,hv,ab,rest⟩
 ·exact .inl hn
 ·exact .inr ⟨g,cap,aa,hv,by omega,rest⟩
end
end Go.X
end
section
namespace Go.X
variable {cs:List Value}
inductive Tr where
 |mk (kind:Int) (text:Bt) (keys:List Bt) (items:List Tr)
namespace Tr
@[reducible] def kind:Tr->Int|mk k _ _ _=>k
@[reducible] def text:Tr->Bt|mk _ s _ _=>s
@[reducible] def keys:Tr->List Bt|mk _ _ ks _=>ks
@[reducible] def items:Tr->List Tr|mk _ _ _ xs=>xs
@[simp] theorem eta(t:Tr):mk t.kind t.text t.keys t.items=t:=by cases t;rfl
instance:Inhabited Tr:=⟨mk 0 ⟨#[]⟩ [] []⟩
end Tr
inductive Ty where
 |int (k:IntKind)|bool|str|row (t:Ty)|tree|unit|pair (a b:Ty)|ptr (t:Ty)|iter|err
 deriving DecidableEq
@[reducible] def El:Ty->Type
 |.int _=>Int
 |.bool=>Bool
 |.str=>Bt
 |.row t=>List (El t)
 |.tree=>Tr
 |.unit=>Unit
 |.pair a b=>El a×El b
 |.ptr t=>El t
 |.iter=>Bt×Nat
 |.err=>Bool
def z5l:(t:Ty)->El t
 |.int _=>(0:Int)
 |.bool=>false
 |.str=>(⟨#[]⟩:Bt)
 |.row _=>[]
 |.tree=>default
 |.unit=>()
 |.pair a b=>(z5l a,z5l b)
 |.ptr t=>z5l t
 |.iter=>(⟨#[]⟩,0)
 |.err=>true
def sz:Ty->Nat
 |.tree=>4
 |.unit=>0
 |.pair a b=>sz a+sz b
 |_=>1
abbrev Fr:=Nat->Option (Array Value)
def Fr.le(M M':Fr):Prop:=∀b cs,M b=some cs->M' b=some cs
theorem Fr.le.refl(M:Fr):Fr.le M M:=λ_ _ h=>h
theorem Fr.le.trans{a b c:Fr}(h:Fr.le a b)(k:Fr.le b c):Fr.le a c:=λ_ _ e=>k _ _ (h _ _ e)
def cut(cs:Array Value)(o n:Nat):List Value:=(cs.toList.drop o).take n
def RowAt(M:Fr){α:Type}(R:α->List Value->Prop)(z:Nat)(xs:List α)(v:Value):Prop:=
 ∃a c,v=.slice a xs.length c/\(xs.length<=140737488355328/\xs.length<=c)/\(xs=[]\/∃b o cs,a=some ⟨b,o,none⟩/\M b=some cs/\∀i (h:i<xs.length),R xs[i] (cut cs (o+i*z) z))
inductive TrRd (M:Fr):Tr->List Value->Prop where
 |mk {k:Int} {s:Bt} {ks:List Bt} {xs:List Tr} {vk:Value} {a:Option Addr} {c b o:Nat} {cs:Array Value}
  (hk:RowAt M (λs cs=>cs=[.string s]) 1 ks vk) (hn:xs.length<=140737488355328/\xs.length<=c) (hz:xs=[]\/(a=some ⟨b,o,none⟩/\M b=some cs))
  (hi:∀i (h:i<xs.length),TrRd M xs[i] (cut cs (o+i*4) 4)):TrRd M (.mk k s ks xs) [.int .i64 k,.string s,vk,.slice a xs.length c]
def xh(s:Bt)(p:Nat):Value:=.iface 0 (.agg #[.string s,.int .i64 p])
def Rd(M:Fr):(t:Ty)->El t->List Value->Prop
 |.int k,i,cs=>cs=[.int k i]
 |.bool,b,cs=>cs=[.bool b]
 |.str,s,cs=>cs=[.string s]
 |.row t,xs,cs=>∃v,cs=[v]/\RowAt M (Rd M t) (sz t) xs v
 |.tree,t,cs=>TrRd M t cs
 |.unit,_,cs=>cs=[]
 |.pair a b,x,cs=>∃c1 c2,cs=c1++c2/\Rd M a x.1 c1/\Rd M b x.2 c2
 |.ptr t,x,cs=>∃b o cc,cs=[.pointer (some ⟨b,o,none⟩)]/\M b=some cc/\Rd M t x (cut cc o (sz t))
 |.iter,x,cs=>cs=[xh x.1 x.2]
 |.err,b,cs=>∃v,cs=[v]/\((b=true/\v=.nilIface)\/(b=false/\∃t u,v=.iface t u))
theorem RowAt.mono{M M':Fr}(hM:Fr.le M M'){α:Type}{R R':α->List Value->Prop}{z:Nat}{xs:List α}{v:Value}(H:RowAt M R z xs v)(hR:∀x∈xs,∀cs,R x cs->R' x cs):RowAt M' R' z xs v:=by
 obtain⟨a,c,e,hn,h⟩:=H
 refine⟨a,c,e,hn,h.imp id ?_⟩
 rintro⟨b,o,cs,e1,e2,h3⟩
 exact⟨b,o,cs,e1,hM _ _ e2,λi h=>hR _ (AM _) _ (h3 i h)⟩
theorem TrRd.mono{M M':Fr}(hM:Fr.le M M'){t:Tr}(H:TrRd M t cs):TrRd M' t cs:=by
 induction H with
 |mk hk hn hz _ ih=>exact .mk (hk.mono hM λ_ _ _ h=>h) hn (hz.imp id λh=>⟨h.1,hM _ _ h.2⟩) ih
theorem Rd.mono{M M':Fr}(hM:Fr.le M M'):∀{t:Ty} {x:El t} {cs:List Value},Rd M t x cs->Rd M' t x cs
 |.int _,_,_,h=>h
 |.bool,_,_,h=>h
 |.str,_,_,h=>h
 |.row _,_,_,⟨v,e,h⟩=>⟨v,e,h.mono hM λ_ _ _ h=>Rd.mono hM h⟩
 |.tree,_,_,h=>TrRd.mono hM h
 |.unit,_,_,h=>h
 |.pair _ _,_,_,⟨c1,c2,e,h1,h2⟩=>⟨c1,c2,e,Rd.mono hM h1,Rd.mono hM h2⟩
 |.ptr _,_,_,⟨b,o,cc,e,h1,h2⟩=>⟨b,o,cc,e,hM _ _ h1,Rd.mono hM h2⟩
 |.iter,_,_,h=>h
 |.err,_,_,h=>h
theorem Rd.len{M:Fr}:∀{t:Ty} {x:El t} {cs:List Value},Rd M t x cs->cs.length=sz t
 |.int _,_,_,h=>by rw[h];rfl
 |.bool,_,_,h=>by rw[h];rfl
 |.str,_,_,h=>by rw[h];rfl
 |.row t,_,_,⟨v,e,_⟩=>by rw[e];rfl
 |.tree,_,_,h=>by cases h;rfl
 |.unit,_,_,h=>by rw[h];rfl
 |.pair _ _,_,_,⟨c1,c2,e,h1,h2⟩=>by rw[e,Ar,Rd.len h1,Rd.len h2];rfl
 |.ptr _,_,_,⟨b,o,cc,e,_⟩=>by rw[e];rfl
 |.iter,_,_,h=>by rw[h];rfl
 |.err,_,_,⟨v,e,_⟩=>by rw[e];rfl
theorem Rd.one{M:Fr}:∀{t:Ty} {x:El t} {cs:List Value},Rd M t x cs->∀v∈cs,v.oneCell'=true
 |.int _,_,_,h=>by rw[h];simp[Value.oneCell']
 |.bool,_,_,h=>by rw[h];simp[Value.oneCell']
 |.str,_,_,h=>by rw[h];simp[Value.oneCell']
 |.row t,_,_,⟨v,e,a,c,e2,_⟩=>by rw[e,e2];simp[Value.oneCell']
 |.tree,_,_,h=>by
  cases h with
  |mk hk _ _ _=>obtain⟨a,c,e,_⟩:=hk;rw[e];simp[Value.oneCell']
 |.unit,_,_,h=>by rw[h];simp
 |.pair _ _,_,_,⟨c1,c2,e,h1,h2⟩=>by
  intro v hv
  rw[e]at hv
  rcases Aw.1 hv with hv|hv
  ·exact Rd.one h1 v hv
  ·exact Rd.one h2 v hv
 |.ptr _,_,_,⟨b,o,cc,e,_⟩=>by rw[e];simp[Value.oneCell']
 |.iter,_,_,h=>by rw[h];simp[Value.oneCell',xh]
 |.err,_,_,⟨v,e,h⟩=>by
  rw[e]
  rcases h with⟨_,rfl⟩|⟨_,t,u,rfl⟩ <;> simp[Value.oneCell']
theorem TrRd.keys{M:Fr}{t:Tr}(H:TrRd M t cs):∃vk vi,cs=[.int .i64 t.kind,.string t.text,vk,vi]/\Rd M (.row .str) t.keys [vk]/\Rd M (.row .tree) t.items [vi]:=by
 cases H with
 | @mk k s ks xs vk a c b o cs hk hn hz hi=>
  exact⟨vk,_,rfl,⟨vk,rfl,hk⟩,⟨_,rfl,a,c,rfl,hn,hz.imp id λh=>⟨b,o,cs,h.1,h.2,hi⟩⟩⟩
theorem TrRd.of{M:Fr}{k:Int}{s:Bt}{ks:List Bt}{xs:List Tr}{vk vi:Value}(h1:Rd M (.row .str) ks [vk])(h2:Rd M (.row .tree) xs [vi]):TrRd M (.mk k s ks xs) [.int .i64 k,.string s,vk,vi]:=by
 obtain⟨v,e,h1⟩:=h1
 obtain⟨v',e',a,c,e2,hn,h2⟩:=h2
 cases e;cases e';subst e2
 rcases h2 with rfl|⟨b,o,cs,e1,e2,h3⟩
 ·exact .mk (b:=0) (o:=0) (cs:=#[]) h1 hn (.inl rfl) λi h=>absurd h (by simp)
 ·exact .mk h1 hn (.inr ⟨e1,e2⟩) h3
def Bd:(t:Ty)->El t->Prop
 |.row _,xs=>xs.length<=140737488355328
 |.tree,t=>t.keys.length<=140737488355328/\t.items.length<=140737488355328
 |.pair a b,x=>Bd a x.1/\Bd b x.2
 |_,_=>True
theorem Rd.bd{M:Fr}:∀{t:Ty} {x:El t} {cs:List Value},Rd M t x cs->Bd t x
 |.int _,_,_,_=>trivial
 |.bool,_,_,_=>trivial
 |.str,_,_,_=>trivial
 |.row t,_,_,⟨v,_,a,c,_,h,_⟩=>h.1
 |.tree,_,_,h=>by
  cases h with
  |mk hk hn _ _=>obtain⟨a,c,e,h,_⟩:=hk;exact⟨h.1,hn.1⟩
 |.unit,_,_,_=>trivial
 |.pair _ _,_,_,⟨_,_,_,h1,h2⟩=>⟨Rd.bd h1,Rd.bd h2⟩
 |.ptr _,_,_,_=>trivial
 |.iter,_,_,_=>trivial
 |.err,_,_,_=>trivial
inductive AA where
 |v (x:Value)
 |d (t:Ty) (x:El t)
 |box (c o:Nat)
 |own (c:Nat)
 |oelt (c z:Nat) (i:Nat) (o:Nat)
 |elt (t:Ty) (x:El t) (o:Nat)
 |dc (t:Ty) (xs:List (El t))
inductive AG where
 |a (x:AA)
 |agg (l:List AA)
inductive AV where
 |g (x:AG)
 |tup (l:List AG)
 |nx (b:Bool) (p:Int) (c:Int)
structure Gh where
 M:Fr
 β:Nat->Nat
 σ:Nat->Sl
def All2{α β:Type}(R:α->β->Prop):List α->List β->Prop
 |[],[]=>True
 |x::xs,y::ys=>R x y/\All2 R xs ys
 |_,_=>False
def slV(s:Sl):Value:=.slice s.a s.len s.cap
def DenA(γ:Gh):AA->Value->Prop
 |.v x,u=>u=x
 |.d t x,u=>Rd γ.M t x [u]
 |.box c o,u=>u=.pointer (some ⟨γ.β c,o,none⟩)
 |.own c,u=>u=slV (γ.σ c)
 |.oelt c z i o,u=>∃g,(γ.σ c).a=some ⟨g,0,none⟩/\u=.pointer (some ⟨g,i*z+o,none⟩)
 |.elt t x o,u=>∃b f cs,u=.pointer (some ⟨b,f+o,none⟩)/\γ.M b=some cs/\Rd γ.M t x (cut cs f (sz t))
 |.dc t xs,u=>∃s:Sl,u=slV s/\s.cap=s.len/\Rd γ.M (.row t) xs [u]
def DenG(γ:Gh):AG->Value->Prop
 |.a x,u=>DenA γ x u
 |.agg l,u=>∃us,u=.agg us.toArray/\All2 (DenA γ) l us
def DenV(γ:Gh):AV->Value->Prop
 |.g x,u=>DenG γ x u
 |.tup l,u=>∃us,u=.tuple us.toArray/\All2 (DenG γ) l us
 |.nx b p c,u=>(b=true->u=.tuple #[.bool true,.int .i64 p,.int .i32 c])/\(b=false->u=.tuple #[.bool false])
theorem All2.length{α β:Type}{R:α->β->Prop}:∀{l:List α} {m:List β},All2 R l m->l.length=m.length
 |[],[],_=>rfl
 |[],_::_,h=>h.elim
 |_::_,[],h=>h.elim
 |_::_,_::_,h=>by simp[All2.length h.2]
theorem All2.imp{α β:Type}{R R':α->β->Prop}:∀{l:List α} {m:List β},All2 R l m->(∀x∈l,∀y,R x y->R' x y)->All2 R' l m
 |[],[],_,_=>trivial
 |[],_::_,h,_=>h.elim
 |_::_,[],h,_=>h.elim
 |_::_,_::_,h,k=>⟨k _ Am _ h.1,All2.imp h.2 λx hx y hy=>k x (Ag _ hx) y hy⟩
theorem All2.append{α β:Type}{R:α->β->Prop}:∀{l l':List α} {m m':List β},All2 R l m->All2 R l' m'->All2 R (l++l') (m++m')
 |[],_,[],_,_,h=>h
 |[],_,_::_,_,h,_=>h.elim
 |_::_,_,[],_,h,_=>h.elim
 |_::_,_,_::_,_,h,k=>⟨h.1,All2.append h.2 k⟩
theorem All2.take{α β:Type}{R:α->β->Prop}:∀(n:Nat) {l:List α} {m:List β},All2 R l m->All2 R (l.take n) (m.take n)
 |0,_,_,_=>by simp[All2]
 |_+1,[],[],_=>trivial
 |_+1,[],_::_,h=>h.elim
 |_+1,_::_,[],h=>h.elim
 |n+1,_::_,_::_,h=>⟨h.1,All2.take n h.2⟩
theorem All2.drop{α β:Type}{R:α->β->Prop}:∀(n:Nat) {l:List α} {m:List β},All2 R l m->All2 R (l.drop n) (m.drop n)
 |0,_,_,h=>by simpa using h
 |_+1,[],[],_=>trivial
 |_+1,[],_::_,h=>h.elim
 |_+1,_::_,[],h=>h.elim
 |n+1,_::_,_::_,h=>by simpa using All2.drop n h.2
theorem All2.get{α β:Type}{R:α->β->Prop}:∀{l:List α} {m:List β} {i:Nat} {x:α},All2 R l m->l[i]?=some x->∃y,m[i]?=some y/\R x y
 |[],[],_,_,_,h=>by simp at h
 |[],_::_,_,_,h,_=>h.elim
 |_::_,[],_,_,h,_=>h.elim
 |_::_,y::_,0,_,h,e=>by simp at e;subst e;exact⟨y,rfl,h.1⟩
 |_::_,_::_,i+1,_,h,e=>by simpa using All2.get h.2 (by simpa using e)
def Yb:(t:Ty)->El t->List AA
 |.int k,i=>[.v (.int k i)]
 |.bool,b=>[.v (.bool b)]
 |.str,s=>[.v (.string s)]
 |.row t,xs=>[.d (.row t) xs]
 |.tree,t=>[.v (.int .i64 t.kind),.v (.string t.text),.d (.row .str) t.keys,.d (.row .tree) t.items]
 |.unit,_=>[]
 |.pair a b,x=>Yb a x.1++Yb b x.2
 |.ptr t,x=>[.elt t x 0]
 |.iter,x=>[.d .iter x]
 |.err,x=>[.d .err x]
theorem wj{γ:Gh}:∀{t:Ty} {x:El t} {cs:List Value},Rd γ.M t x cs->All2 (DenA γ) (Yb t x) cs
 |.int _,_,_,h=>by rw[h];exact⟨rfl,trivial⟩
 |.bool,_,_,h=>by rw[h];exact⟨rfl,trivial⟩
 |.str,_,_,h=>by rw[h];exact⟨rfl,trivial⟩
 |.row t,_,_,⟨v,e,h⟩=>by rw[e];exact⟨⟨v,rfl,h⟩,trivial⟩
 |.tree,_,_,h=>by
  obtain⟨vk,vi,e,h1,h2⟩:=TrRd.keys h
  rw[e];exact⟨rfl,rfl,h1,h2,trivial⟩
 |.unit,_,_,h=>by rw[h];trivial
 |.pair _ _,_,_,⟨c1,c2,e,h1,h2⟩=>by rw[e];exact(wj h1).append (wj h2)
 |.ptr t,x,_,⟨b,o,cc,e,h1,h2⟩=>by rw[e];exact⟨⟨b,o,cc,rfl,h1,h2⟩,trivial⟩
 |.iter,x,_,h=>by rw[h];exact⟨rfl,trivial⟩
 |.err,x,_,⟨v,e,h⟩=>by rw[e];exact⟨⟨v,rfl,h⟩,trivial⟩
def zn0:Ty->Bool
 |.iter=>true
 |.err=>true
 |.pair a b=>bif zn0 a then true else zn0 b
 |_=>false
theorem Rd.noIt{M:Fr}:∀{t:Ty} {x:El t} {cs:List Value},zn0 t=false->Rd M t x cs->∀s p,xh s p∉cs
 |.int _,_,_,_,h,s,p=>by rw[h];simp[xh]
 |.bool,_,_,_,h,s,p=>by rw[h];simp[xh]
 |.str,_,_,_,h,s,p=>by rw[h];simp[xh]
 |.row t,_,_,_,⟨v,e,a,c,e2,_⟩,s,p=>by rw[e,e2];simp[xh]
 |.tree,_,_,_,h,s,p=>by
  cases h with
  |mk hk _ _ _=>obtain⟨a,c,e,_⟩:=hk;rw[e];simp[xh]
 |.unit,_,_,_,h,s,p=>by rw[h];simp
 |.pair a b,_,_,hi,⟨c1,c2,e,h1,h2⟩,s,p=>by
  simp only[zn0]at hi
  cases ha:zn0 a with
  |true=>rw[ha]at hi;cases hi
  |false=>
   rw[ha]at hi
   rw[e]
   intro hm
   rcases Aw.1 hm with hm|hm
   ·exact Rd.noIt ha h1 s p hm
   ·exact Rd.noIt hi h2 s p hm
 |.ptr _,_,_,_,⟨b,o,cc,e,_⟩,s,p=>by rw[e];simp[xh]
 |.iter,_,_,hi,_,_,_=>by cases hi
 |.err,_,_,hi,_,_,_=>by cases hi
def itB:List AA->Bool
 |[.d t _]=>zn0 t
 |[.v (.iface _ _)]=>true
 |_=>false
theorem zp4{γ:Gh}{l:List AA}{us:List Value}(h:itB l=false)(hd:All2 (DenA γ) l us)(s:Bt)(p:Nat):us≠[xh s p]:=by
 intro e
 subst e
 match l,hd with
 |[x],hd=>
  cases x with
  |v y=>rw[<-show xh s p=y from hd.1]at h;simp[itB,xh]at h
  |d t y=>exact Rd.noIt (show zn0 t=false from h) (show Rd γ.M t y [xh s p]from hd.1) s p (by simp)
  |box c o=>have:xh s p=_:=hd.1;simp[xh]at this
  |own c=>have:xh s p=_:=hd.1;simp[xh,slV]at this
  |oelt c z i o=>obtain⟨g,_,e⟩:=hd.1;simp[xh]at e
  |elt t y o=>obtain⟨b,f,cs,e,_⟩:=hd.1;simp[xh]at e
  |dc t xs=>obtain⟨s',e,_⟩:=hd.1;simp[xh,slV]at e
 |[],hd=>exact hd.elim
 |_::_::_,hd=>exact hd.2.elim
inductive Ch where
 |box (l:List AA)
 |row (e:TypeId) (t:Ty) (xs:List (El t))
 |fz (t:Ty) (xs:List (El t))
abbrev CS:=List (Nat×Ch)
def Z3:CS->Nat->Option Ch
 |[],_=>none
 |(j,k)::l,i=>bif Nat.beq i j then some k else Z3 l i
theorem qb{l:CS}{i:Nat}{k:Ch}(h:Z3 l i=some k):(i,k)∈l:=by
 induction l with
 |nil=>cases h
 |cons x l ih=>
  obtain⟨j,k'⟩:=x
  simp only[Z3]at h
  by_cases hb:Nat.beq i j=true
  ·simp only[hb,cond_true,Ab]at h
   subst h
   rw[Ah hb];exact Am
  ·simp only[hb,cond_false]at h
   exact Ag _ (ih h)
def Zc(t t':Ty)(x:El t):Option (El t'):=if h:t=t' then some (h ▸ x)else none
theorem Yz{M:Fr}{t t':Ty}{x:El t}{y:El t'}(h:Zc t t' x=some y)(r:Rd M t x cs):Rd M t' y cs:=by
 unfold Zc at h
 split at h
 ·rename_i e
  subst e
  simp only[Ab]at h
  subst h;exact r
 ·cases h
def zgx(cs:CS):(t:Ty)->AA->Option (El t)
 |.int k,.v (.int k' i)=>if k=k' then some i else none
 |.bool,.v (.bool b)=>some b
 |.str,.v (.string s)=>some s
 |.row t,.v (.slice none 0 0)=>some ([]:List (El t))
 |.row t,.d t' x=>Zc t' (.row t) x
 |.row t,.dc t' x=>Zc (.row t') (.row t) x
 |.row t,.own c=>match Z3 cs c with
  |some (.fz t' xs)=>Zc (.row t') (.row t) xs
  |_=>none
 |.ptr t,.elt t' x 0=>Zc t' t x
 |.ptr t,.d t' x=>Zc t' (.ptr t) x
 |.iter,.d t' x=>Zc t' .iter x
 |.err,.d t' x=>Zc t' .err x
 |.err,.v .nilIface=>some true
 |.err,.v (.iface _ _)=>some false
 |_,_=>none
def collect(cs:CS):(t:Ty)->List AA->Option (El t×List AA)
 |.unit,l=>some ((),l)
 |.pair a b,l=>match collect cs a l with
  |some (x,l')=>match collect cs b l' with
   |some (y,l'')=>some ((x,y),l'')
   |none=>none
  |none=>none
 |.tree,k::s::ks::xs::l=>match zgx cs (.int .i64) k,zgx cs .str s,zgx cs (.row .str) ks,zgx cs (.row .tree) xs with
  |some k,some s,some ks,some xs=>some (Tr.mk k s ks xs,l)
  |_,_,_,_=>none
 |.tree,_=>none
 |t,x::l=>match zgx cs t x with
  |some y=>some (y,l)
  |none=>none
 |_,[]=>none
def zx6(γ:Gh)(cs:CS):Prop:=∀c t xs,(c,Ch.fz t xs)∈cs->Rd γ.M (.row t) xs [slV (γ.σ c)]
theorem jj{γ:Gh}{cs:CS}(hf:zx6 γ cs){t:Ty}{x:AA}{y:El t}(h:zgx cs t x=some y){u:Value}(hd:DenA γ x u):Rd γ.M t y [u]:=by
 unfold zgx at h
 split at h
 ·split at h
  ·rename_i hk;simp only[Ab]at h;subst h;subst hk;exact congrArg (λu=>[u]) hd
  ·cases h
 ·simp only[Ab]at h;subst h;exact congrArg (λu=>[u]) hd
 ·simp only[Ab]at h;subst h;exact congrArg (λu=>[u]) hd
 ·simp only[Ab]at h;subst h
  exact⟨u,rfl,none,0,hd,by simp,.inl rfl⟩
 ·exact Yz h hd
 ·obtain⟨s,_,_,hd⟩:=hd
  exact Yz h hd
 ·split at h
  ·rename_i t' xs Z
   rw[show u=_ from hd]
   exact Yz h (hf _ _ _ (qb Z))
  ·cases h
 ·rename_i t t' x
  obtain⟨b,f,cs',e,h1,h2⟩:=hd
  exact⟨b,f,cs',by rw[e];rfl,h1,by
   unfold Zc at h
   split at h
   ·rename_i e;subst e;simp only[Ab]at h;subst h;exact h2
   ·cases h⟩
 ·exact Yz h hd
 ·exact Yz h hd
 ·exact Yz h hd
 ·simp only[Ab]at h;subst h;exact⟨u,rfl,.inl ⟨rfl,hd⟩⟩
 ·rename_i t' x';simp only[Ab]at h;subst h;exact⟨u,rfl,.inr ⟨rfl,_,_,hd⟩⟩
 ·cases h
theorem Yc{γ:Gh}{cs:CS}(hf:zx6 γ cs):∀{t:Ty} {l l':List AA} {y:El t},collect cs t l=some (y,l')->∀{us:List Value},All2 (DenA γ) l us->∃c1 c2,us=c1++c2/\Rd γ.M t y c1/\All2 (DenA γ) l' c2
 |.unit,l,l',y,h,us,hu=>by
  simp only[collect,Ab,Br]at h
  obtain⟨_,rfl⟩:=h
  exact⟨[],us,rfl,rfl,hu⟩
 |.pair a b,l,l',y,h,us,hu=>by
  simp only[collect]at h
  split at h
  ·rename_i x l1 h1
   split at h
   ·rename_i z l2 h2
    simp only[Ab,Br]at h
    obtain⟨rfl,rfl⟩:=h
    obtain⟨c1,c2,rfl,r1,r2⟩:=Yc hf h1 hu
    obtain⟨c3,c4,rfl,r3,r4⟩:=Yc hf h2 r2
    exact⟨c1++c3,c4,by simp,⟨c1,c3,rfl,r1,r3⟩,r4⟩
   ·cases h
  ·cases h
 |.tree,l,l',y,h,us,hu=>by
  match l,us,hu,h with
  |k::s::ks::xs::l,u1::u2::u3::u4::us,hu,h=>
   simp only[collect]at h
   split at h
   ·rename_i k' s' ks' Z h1 h2 h3 h4
    simp only[Ab,Br]at h
    obtain⟨rfl,rfl⟩:=h
    obtain⟨d1,d2,d3,d4,d5⟩:=hu
    have r1:=jj hf h1 d1
    have r2:=jj hf h2 d2
    have r3:=jj hf h3 d3
    have r4:=jj hf h4 d4
    refine⟨[u1,u2,u3,u4],us,rfl,?_,d5⟩
    have e1:[u1]=[D7 .i64 k']:=r1
    have e2:[u2]=[Di s']:=r2
    cases e1;cases e2
    exact TrRd.of r3 r4
   ·cases h
  |[],_,_,h=>simp[collect]at h
  |[_],_,_,h=>simp[collect]at h
  |[_,_],_,_,h=>simp[collect]at h
  |[_,_,_],_,_,h=>simp[collect]at h
  |_::_::_::_::_,[],hu,_=>exact hu.elim
  |_::_::_::_::_,[_],hu,_=>exact hu.2.elim
  |_::_::_::_::_,[_,_],hu,_=>exact hu.2.2.elim
  |_::_::_::_::_,[_,_,_],hu,_=>exact hu.2.2.2.elim
 |.int k,x::l,l',y,h,u::us,hu=>by
  simp only[collect]at h
  split at h
  ·rename_i z hz;simp only[Ab,Br]at h;obtain⟨rfl,rfl⟩:=h
   exact⟨[u],us,rfl,jj hf hz hu.1,hu.2⟩
  ·cases h
 |.bool,x::l,l',y,h,u::us,hu=>by
  simp only[collect]at h
  split at h
  ·rename_i z hz;simp only[Ab,Br]at h;obtain⟨rfl,rfl⟩:=h
   exact⟨[u],us,rfl,jj hf hz hu.1,hu.2⟩
  ·cases h
 |.str,x::l,l',y,h,u::us,hu=>by
  simp only[collect]at h
  split at h
  ·rename_i z hz;simp only[Ab,Br]at h;obtain⟨rfl,rfl⟩:=h
   exact⟨[u],us,rfl,jj hf hz hu.1,hu.2⟩
  ·cases h
 |.row _,x::l,l',y,h,u::us,hu=>by
  simp only[collect]at h
  split at h
  ·rename_i z hz;simp only[Ab,Br]at h;obtain⟨rfl,rfl⟩:=h
   exact⟨[u],us,rfl,jj hf hz hu.1,hu.2⟩
  ·cases h
 |.ptr _,x::l,l',y,h,u::us,hu=>by
  simp only[collect]at h
  split at h
  ·rename_i z hz;simp only[Ab,Br]at h;obtain⟨rfl,rfl⟩:=h
   exact⟨[u],us,rfl,jj hf hz hu.1,hu.2⟩
  ·cases h
 |.iter,x::l,l',y,h,u::us,hu=>by
  simp only[collect]at h
  split at h
  ·rename_i z hz;simp only[Ab,Br]at h;obtain⟨rfl,rfl⟩:=h
   exact⟨[u],us,rfl,jj hf hz hu.1,hu.2⟩
  ·cases h
 |.iter,_::_,_,_,_,[],hu=>hu.elim
 |.iter,[],_,_,h,_,_=>by simp[collect]at h
 |.err,x::l,l',y,h,u::us,hu=>by
  simp only[collect]at h
  split at h
  ·rename_i z hz;simp only[Ab,Br]at h;obtain⟨rfl,rfl⟩:=h
   exact⟨[u],us,rfl,jj hf hz hu.1,hu.2⟩
  ·cases h
 |.err,_::_,_,_,_,[],hu=>hu.elim
 |.err,[],_,_,h,_,_=>by simp[collect]at h
 |.int _,_::_,_,_,_,[],hu=>hu.elim
 |.bool,_::_,_,_,_,[],hu=>hu.elim
 |.str,_::_,_,_,_,[],hu=>hu.elim
 |.row _,_::_,_,_,_,[],hu=>hu.elim
 |.ptr _,_::_,_,_,_,[],hu=>hu.elim
 |.int _,[],_,_,h,_,_=>by simp[collect]at h
 |.bool,[],_,_,h,_,_=>by simp[collect]at h
 |.str,[],_,_,h,_,_=>by simp[collect]at h
 |.row _,[],_,_,h,_,_=>by simp[collect]at h
 |.ptr _,[],_,_,h,_,_=>by simp[collect]at h
end Go.X
end
