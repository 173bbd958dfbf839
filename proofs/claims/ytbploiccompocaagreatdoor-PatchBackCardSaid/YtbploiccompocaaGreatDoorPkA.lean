/- A part of the proof: nothing is stated here for its own sake. -/
import Derived.Deep.Quiet
import Derived.StillTail
import Derived.Laws.Strings
import Derived.Laws.Cover3
import Derived.Laws.Pointers
import Derived.Laws.OwnMore
open _root_.Go.Addr renaming add->Aj
open _root_.Array renaming getD_eq_getD_getElem?->Bi,getElem?_append_left->CB,getElem?_eq_getElem->AK,getElem?_eq_some_iff->Ac,getElem?_push->BH,getElem?_setIfInBounds_ne->AH,getElem?_toList->AU,replicate->Bc,size_setIfInBounds->B4
open _root_.Bool renaming and_eq_true->AI,eq_iff_iff->AJ,false_eq_true->A0,false_or->Ec,not_eq_true'->Cb,true_and->B0
open _root_.Go.Builtin renaming append_->Ax,clear_->D3,copy_->Di,firstCells->Cr,len_->CK,zeroCells->Bl
open _root_.Go.Code renaming cond->EC,region->CX
open _root_.Go.Deferred renaming ofValue->D7
open _root_.Go.Instr renaming findNow->Ed,indexAt->EE,keyThatStays->Eg,loadAt->D5,lookup->D6,mapUpdate->CO,next->EZ,range->EU,sliceAt->EF,storeAt->Al,sureAddr->Ej
open _root_.Go.IntKind renaming bits->Ap,signed->Eo,wrap->Ab
open _root_.List renaming all_eq_true->AP,any_eq_true->D8,cons_append->A3,drop_eq_getElem_cons->AL,eq_nil_iff_forall_not_mem->CJ,eq_nil_of_length_eq_zero->Aw,getElem?_append_right->Bb,getElem?_cons_zero->Dn,getElem?_drop->AE,getElem?_eq_getElem->Ai,getElem?_eq_none->Bj,getElem?_eq_some_iff->Az,getElem?_take->AC,getElem?_toArray->DK,getElem_mem->Ay,getElem_of_mem->Bf,length_append->Ar,length_cons->Av,length_eq_zero_iff->Cd,length_erase_of_mem->CL,length_nil->Ef,length_range->DN,mapM_cons->En,map_cons->CY,mem_append->An,mem_append_left->Ao,mem_append_right->AB,mem_cons->Ad,mem_cons_of_mem->Af,mem_cons_self->Aq,mem_of_getElem?->Ct,mem_range->BX,nil_append->BJ,nodup_append->A6,nodup_cons->CF,nodup_nil->Ek,nodup_range->Dm,pairwise_append->Cu,pairwise_cons->BL,range->BE,replicate->Ei,size_toArray->DO,take_append_drop->BD,take_left->Em,take_succ_cons->B5,take_succ_eq_append_getElem->Am,take_zero->CM
open _root_.List.cons renaming injEq->Ci
open _root_.Nat renaming add_mul->BB,add_zero->Db,blt_eq->Cz,eq_of_beq_eq_true->Ag,eq_or_lt_of_le->Dr,eq_zero_or_pos->Dt,le_of_ble_eq_true->BM,le_refl->Ae,lt_of_lt_of_le->Dq,lt_or_ge->AR,mul_le_mul_right->AM,sub_zero->Cm,zero_add->AD,zero_le->CW
open _root_.Go.Next renaming value->D2
open _root_.Option renaming bind_some->Ck
open _root_.Option.some renaming inj->Au,injEq->Aa
open _root_.Prod.mk renaming injEq->BA
open _root_.Pure renaming pure->Dl
open _root_.Go.Region renaming wanted->BN
open _root_.Go.Result.ok renaming injEq->EQ
open _root_.Go.Value renaming int->EX,string->AW
open _root_.Go.Value.slice renaming injEq->AO
set_option linter.unusedVariables false
set_option maxRecDepth 100000
namespace Go.X
end Go.X
namespace Go.Proofs
end Go.Proofs
open Go Go.X Go.Proofs
section
namespace Go.X
section
abbrev Bt:= ByteArray
variable {i n m:Nat} {v u:Value} {a:Act} {o:Oper}
abbrev zb:=Array Obj
abbrev qb:=List (Nat×Bool)
abbrev Env:=List (Nat×qb×Value)
def mk(B:World)(d:Nat)(h:zb):World:={ B with heap:=h,drawn:=d }
def look:Env->Nat->Option (qb×Value)
 |[],_=>none
 |(j,c,v)::e,i=>bif Nat.beq i j then some (c,v)else look e i
def valid(σ:Nat->Value):qb->Prop
 |[]=>True
 |(g,p)::c=>σ g=.bool p/\valid σ c
def zu(a:Act)(i:Nat):Value:=a.tmps.getD i undef
def fact(σ:Nat->Value)(x:Nat×qb×Value):Prop:=(valid σ x.2.1->σ x.1=x.2.2)/\(¬valid σ x.2.1->σ x.1=undef)
structure Sat (n:Nat) (e:Env) (a:Act):Prop where
 defers:a.defers=[]
 size:a.tmps.size=n
 all:∀x∈e,fact (zu a) x
def mentions:qb->Nat->Bool
 |[],_=>false
 |(g,_)::c,i=>bif Nat.beq i g then true else mentions c i
def del:Env->Nat->Env
 |[],_=>[]
 |(j,c,v)::e,i=>bif (bif Nat.beq i j then true else mentions c i)then del e i else(j,c,v)::del e i
def put(e:Env)(i:Nat)(c:qb)(v:Value):Env:=(i,c,v)::del e i
def putO(e:Env):Option Nat->qb->Value->Env
 |none,_,_=>e
 |some d,c,v=>put e d c v
def clean:Env->Env
 |[]=>[]
 |(j,[],v)::e=>(j,[],v)::clean e
 |(_,_::_,_)::e=>clean e
theorem Xp{e:Env}{c:qb}(h:look e i=some (c,v)):(i,c,v)∈e:=by
 induction e with
 |nil=>cases h
 |cons x e ih=>
  obtain⟨j,cj,vj⟩:=x
  simp only[look]at h
  by_cases hb:Nat.beq i j=true
  ·simp only[hb,cond_true,Aa,BA]at h
   obtain⟨rfl,rfl⟩:=h
   rw[Ag hb]
   exact Aq
  ·simp only[hb,cond_false]at h
   exact Af _ (ih h)
theorem z5f{e:Env}{x:Nat×qb×Value}(h:x∈del e i):x∈e/\x.1≠i/\mentions x.2.1 i=false:=by
 induction e with
 |nil=>cases h
 |cons y e ih=>
  obtain⟨j,cj,vj⟩:=y
  simp only[del]at h
  by_cases hb:Nat.beq i j=true
  ·simp only[hb,cond_true]at h
   exact⟨Af _ (ih h).1,(ih h).2⟩
  ·have aa:Nat.beq i j=false:=Bool.eq_false_iff.2 hb
   simp only[aa,cond_false]at h
   by_cases hm:mentions cj i=true
   ·simp only[hm,cond_true]at h
    exact⟨Af _ (ih h).1,(ih h).2⟩
   ·have Z:mentions cj i=false:=by simpa using hm
    simp only[Z,cond_false]at h
    rcases Ad.1 h with rfl|h
    ·refine⟨Aq,λO=>?_,Z⟩
     simp only at O
     rw[O]at hb
     exact hb (by simp)
    ·exact⟨Af _ (ih h).1,(ih h).2⟩
theorem zv5{e:Env}{x:Nat×qb×Value}(h:x∈clean e):x∈e/\x.2.1=[]:=by
 induction e with
 |nil=>cases h
 |cons y e ih=>
  obtain⟨j,cj,vj⟩:=y
  cases cj with
  |nil=>
   simp only[clean]at h
   rcases Ad.1 h with rfl|h
   ·exact⟨Aq,rfl⟩
   ·exact⟨Af _ (ih h).1,(ih h).2⟩
  |cons c cs=>
   simp only[clean]at h
   exact⟨Af _ (ih h).1,(ih h).2⟩
theorem Sat.sub{e e':Env}(h:Sat n e a)(hs:∀x∈e',x∈e):Sat n e' a:=⟨h.defers,h.size,λx hx=>h.all x (hs x hx)⟩
theorem Sat.clean{n:Nat}{e:Env}{a:Act}(h:Sat n e a):Sat n (clean e) a:=h.sub λ_ hx=>(zv5 hx).1
theorem Zk{σ τ:Nat->Value}{c:qb}(hm:mentions c i=false)(h:∀j,j≠i->σ j=τ j):valid σ c↔valid τ c:=by
 induction c with
 |nil=>exact Iff.rfl
 |cons x c ih=>
  obtain⟨g,p⟩:=x
  simp only[mentions]at hm
  by_cases hb:Nat.beq i g=true
  ·simp[hb]at hm
  ·simp only[hb,cond_false]at hm
   have hg:g≠i:=λe=>hb (by rw[e];simp)
   simp only[valid,h g hg,ih hm]
theorem qt(hi:i<a.tmps.size):zu (a.put (some i) u) i=u:=by
 simp[zu,Act.put,hi]
theorem qm{i j:Nat}(h:j≠i):zu (a.put (some i) u) j=zu a j:=by
 simp[zu,Act.put,AH (Ne.symm h)]
theorem size_put(a:Act)(d:Option Nat)(u:Value):(a.put d u).tmps.size=a.tmps.size:=by
 cases d <;> simp[Act.put]
theorem qc(a:Act)(d:Option Nat)(u:Value):(a.put d u).defers=a.defers:=by
 cases d <;> simp[Act.put]
theorem Sat.put{n:Nat}{e:Env}{a:Act}(h:Sat n e a){i:Nat}{c:qb}{v u:Value}(hi:i<n)(hm:mentions c i=false)
  (hy:valid (zu a) c->u=v) (hn:¬valid (zu a) c->u=undef):Sat n (put e i c v) (a.put (some i) u):=by
 refine⟨by rw[qc];exact h.defers,by rw[size_put];exact h.size,λx hx=>?_⟩
 have Z:i<a.tmps.size:=by rw[h.size];exact hi
 rcases Ad.1 hx with rfl|hx
 ·have hv:=Zk (σ:=zu (a.put (some i) u)) (τ:=zu a) hm (λj hj=>qm hj)
  refine⟨λhc=>?_,λhc=>?_⟩
  ·exact(qt Z).trans (hy (hv.1 hc))
  ·exact(qt Z).trans (hn (λO=>hc (hv.2 O)))
 ·obtain⟨h1,h2,h3⟩:=z5f hx
  have hv:=Zk (σ:=zu (a.put (some i) u)) (τ:=zu a) h3 (λj hj=>qm hj)
  have hf:=h.all x h1
  refine⟨λhc=>?_,λhc=>?_⟩
  ·exact(qm h2).trans (hf.1 (hv.1 hc))
  ·exact(qm h2).trans (hf.2 (λO=>hc (hv.2 O)))
def yc(n:Nat)(c:qb):Option Nat->Bool
 |none=>true
 |some d=>bif mentions c d then false else Nat.blt d n
theorem Sat.putO{n:Nat}{e:Env}{a:Act}(h:Sat n e a){d:Option Nat}{c:qb}{v u:Value}(hd:yc n c d=true)
  (hy:valid (zu a) c->u=v) (hn:¬valid (zu a) c->u=undef):Sat n (putO e d c v) (a.put d u):=by
 cases d with
 |none=>exact h
 |some i=>
  simp only[yc]at hd
  by_cases hm:mentions c i=true
  ·simp[hm]at hd
  ·have O:mentions c i=false:=by simpa using hm
   simp only[O,cond_false]at hd
   exact h.put (by simpa[Cz]using hd) O hy hn
def Zl:qb->qb->Bool
 |[],[]=>true
 |(g,p)::c,(g',p')::c'=>bif Nat.beq g g' then(bif p then(bif p' then Zl c c' else false)else(bif p' then false else Zl c c'))else false
 |_,_=>false
theorem Yo:∀{c c':qb},Zl c c'=true->c=c'
 |[],[],_=>rfl
 |[],_::_,h=>by simp[Zl]at h
 |_::_,[],h=>by simp[Zl]at h
 |(g,p)::c,(g',p')::c',h=>by
  simp only[Zl]at h
  by_cases hb:Nat.beq g g'=true
  ·simp only[hb,cond_true]at h
   have e1:=Ag hb
   cases p <;> cases p' <;> simp at h <;> rw[e1,Yo h]
  ·simp[hb]at h
def suf(cs:qb):qb->Bool
 |[]=>Zl cs []
 |x::c=>bif Zl cs (x::c)then true else suf cs c
theorem Yp{σ:Nat->Value}{cs:qb}:∀{c:qb},suf cs c=true->valid σ c->valid σ cs
 |[],h,_=>by rw[Yo h];trivial
 |x::c,h,hv=>by
  simp only[suf]at h
  by_cases hb:Zl cs (x::c)=true
  ·rw[Yo hb];exact hv
  ·simp only[hb,cond_false]at h
   exact Yp h hv.2
def zac(e:Env)(c:qb):Operand->Option Value
 |.tmp t=>match look e t with
  |some (cs,v)=>bif suf cs c then some v else none
  |none=>none
 |.const v=>some v
 |.global g=>some (.pointer (some ⟨g,0,none⟩))
 |.func f=>some (.func (.func f) #[] #[])
theorem ji{e:Env}(h:Sat n e a){c:qb}(hc:valid (zu a) c){x:Operand}(hx:zac e c x=some v):a.eval x=v:=by
 cases x with
 |tmp t=>
  simp only[zac]at hx
  split at hx
  ·rename_i cs u hl
   by_cases hs:suf cs c=true
   ·simp only[hs,cond_true,Aa]at hx
    subst hx
    exact(h.all _ (Xp hl)).1 (Yp hs hc)
   ·simp[hs]at hx
  ·cases hx
 |const u=>simp only[zac,Aa]at hx;exact hx
 |global g=>simp only[zac,Aa]at hx;exact hx
 |func f=>simp only[zac,Aa]at hx;exact hx
def rho(e:Env)(c:qb)(x:Operand):Value:=match zac e c x with
 |some v=>v
 |none=>undef
def known(e:Env)(c:qb):List Operand->Bool
 |[]=>true
 |x::l=>match zac e c x with
  |some _=>known e c l
  |none=>false
theorem xf{e:Env}(h:Sat n e a){c:qb}(hc:valid (zu a) c){l:List Operand}(hk:known e c l=true):∀x∈l,a.eval x=rho e c x:=by
 induction l with
 |nil=>intro x hx;cases hx
 |cons y l ih=>
  intro x hx
  simp only[known]at hk
  split at hk
  ·rename_i v hv
   rcases Ad.1 hx with rfl|hx
   ·rw[ji h hc hv];simp[rho,hv]
   ·exact ih hk x hx
  ·cases hk
def wj:Op->Bool
 |.select _ _=>false
 |_=>true
theorem Q8{e:Env}(h:Sat n e a){c:qb}(hc:valid (zu a) c)(hs:wj o.op=true)(hk:known e c o.op.operands.toList=true):
  execOp a.eval o=execOp (rho e c) o:=
 execOp_congr o (λcs b hb=>by rw[hb]at hs;cases hs) λx hx=>xf h hc hk x (by simpa using hx)
def yw(ops:Array Oper)(j:Nat):Option Nat:=match ops[j]? with
 |some o=>o.dst
 |none=>none
def zde(ops:Array Oper)(e:Env):Option (Nat×Bool)->Option qb
 |none=>some []
 |some (j,p)=>match yw ops j with
  |some g=>match look e g with
   |some (cg,.bool _)=>some ((g,p)::cg)
   |_=>none
  |none=>none
def zv6(e:Env):qb->Option Bool
 |[]=>some true
 |(g,p)::c=>match look e g with
  |some (cg,.bool b)=>bif Zl cg c then(match zv6 e c with
    |some cb=>some (cb&&(bif p then b else !b))
    |none=>none)else none
  |_=>none
theorem zbu{b:Bool}:undef≠.bool b:=by simp[undef]
theorem zas{n:Nat}{e:Env}{a:Act}(h:Sat n e a):∀{c:qb} {b:Bool},zv6 e c=some b->(b=true↔valid (zu a) c)
 |[],b,hb=>by simp only[zv6,Aa]at hb;simp[<-hb,valid]
 |(g,p)::c,b,hb=>by
  simp only[zv6]at hb
  split at hb
  ·rename_i cg bg hl
   by_cases hq:Zl cg c=true
   ·simp only[hq,cond_true]at hb
    split at hb
    ·rename_i cb O
     simp only[Aa]at hb
     have ih:=zas h O
     have hf:=h.all _ (Xp hl)
     rw[Yo hq]at hf
     by_cases hv:valid (zu a) c
     ·have h1:zu a g=.bool bg:=hf.1 hv
      have h2:=ih.2 hv
      subst hb
      simp only[valid,h1,hv,h2,B0,and_true,Value.bool.injEq]
      cases p <;> cases bg <;> simp
     ·have h1:cb=false:=by cases cb with|false=>rfl|true=>exact absurd (ih.1 rfl) hv
      subst hb
      simp[valid,hv,h1]
    ·cases hb
   ·simp[hq]at hb
  ·cases hb
theorem Q9{ops:Array Oper}{e:Env}(h:Sat n e a){c:qb}(hc:zde ops e o.guard=some c):
  BN o (yielded ops a.tmps)=true↔valid (zu a) c:=by
 unfold BN
 cases hg:o.guard with
 |none=>rw[hg]at hc;simp only[zde,Aa]at hc;simp[<-hc,valid]
 |some jp=>
  obtain⟨j,p⟩:=jp
  rw[hg]at hc
  simp only[zde]at hc
  split at hc
  ·rename_i g hd
   split at hc
   ·rename_i cg b hl
    simp only[Aa]at hc
    subst hc
    have Z:((ops[j]?).bind (·.dst))=some g:=by
     simp only[yw]at hd
     split at hd
     ·rename_i o' O;simp[O,hd]
     ·cases hd
    have hf:=h.all _ (Xp hl)
    have hy:yielded ops a.tmps j=some p↔zu a g=.bool p:=by
     unfold yielded zu
     rw[Z]
     simp only[Ck]
     cases ht:a.tmps[g]? with
     |none=>simp[Bi,ht,undef]
     |some v=>cases v <;> simp[Bi,ht]
    simp only[beq_iff_eq,hy,valid]
    constructor
    ·intro h1
     refine⟨h1,?_⟩
     by_cases hv:valid (zu a) cg
     ·exact hv
     ·have:=hf.2 hv
      simp only at this
      rw[h1]at this
      exact absurd this.symm zbu
    ·exact λh1=>h1.1
   ·cases hc
  ·cases hc
structure Keep (n:Nat) (h h':zb):Prop where
 size:h.size<=h'.size
 get:∀i,i<n->h'[i]?=h[i]?
theorem Keep.refl(n:Nat)(h:zb):Keep n h h:=⟨Ae _,λ_ _=>rfl⟩
theorem Keep.trans{a b c:zb}(h:Keep n a b)(k:Keep m b c)(hm:n<=m):Keep n a c:=
 ⟨Nat.le_trans h.size k.size,λi hi=>(k.get i (Dq hi hm)).trans (h.get i hi)⟩
theorem Keep.mono{a b:zb}(h:Keep n a b)(hm:m<=n):Keep m a b:=⟨h.size,λi hi=>h.get i (Dq hi hm)⟩
theorem Keep.push(h:zb)(o:Obj)(hn:n<=h.size):Keep n h (h.push o):=
 ⟨by simp,λi hi=>by rw[BH,if_neg (by omega)]⟩
end
section
variable {P:Program} {α:Type} {h:zb} {v i:Value} {t:TypeId} {g:Option Bool} {n l r:Int}
def zj(h:zb)(a:Addr):Option Value:=
 match h[a.block]? with
 |some (.cells c _ _)=>if a.spot.isSome then none else c[a.off]?
 |_=>none
theorem zv7(B:World)(d:Nat)(h:zb)(a:Addr):(mk B d h).cell? a=zj h a:=rfl
def Qe(P:Program){α:Type}:Sem α->Option α
 |.pure a=>some a
 |.program k=>Qe P (k P)
 |.mark _ k=>Qe P k
 |_=>none
def QExec(P:Program){α:Type}(s:Sem α)(h:zb)(x:α):Prop:=∀B d,s.run P (mk B d h)=.ok x (mk B d h)
theorem Wm{s:Sem α}{x:α}(h:Qe P s=some x)(w:World):s.run P w=.ok x w:=by
 induction s with
 |pure a=>simp only[Qe,Aa]at h;subst h;rfl
 |program k ih=>exact ih P h
 |mark m k ih=>exact ih h
 |_=>simp[Qe]at h
theorem zih{s:Sem α}{x:α}(h:Qe P s=some x)(hp:zb):QExec P s hp x:=λ_ _=>Wm h _
theorem QExec.bind{α β:Type}{s:Sem α}{f:α->Sem β}{x:α}{y:β}(h1:QExec P s h x)(h2:QExec P (f x) h y):QExec P (s >>= f) h y:=by
 intro B d
 rw[Sem.run_bind,h1 B d]
 exact h2 B d
theorem QExec.pure(x:α):QExec P (Dl x) h x:=λ_ _=>rfl
theorem QExec.val{s:Sem Value}(h1:QExec P s h v):QExec P (s >>= λx=>Dl (D2 x)) h (D2 v):=h1.bind (QExec.pure _)
theorem QExec.underlying{d:TypeDesc}(hd:P.underlying t=some d):QExec P (Go.underlying t) h d:=by
 intro B e
 simp[Go.underlying,program,hd,Sem.run]
def yr(P:Program)(t:TypeId):Nat:=match P.info? t with
 |some i=>i.size
 |none=>0
theorem QExec.sizeOf{i:TypeInfo}(hi:P.info? t=some i):QExec P (Go.sizeOf t) h (yr P t):=by
 intro B d
 simp[Go.sizeOf,typeInfo,program,hi,Sem.run,yr]
theorem info_of_underlying{d:TypeDesc}(hd:P.underlying t=some d):∃i,P.info? t=some i:=by
 unfold Program.underlying at hd
 cases h:P.info? t with
 |none=>rw[h]at hd;cases hd
 |some i=>exact⟨i,rfl⟩
inductive Atom where
 |int (k:IntKind)|bool|str|sl|mp|ptr|raw|ad
structure Sl where
 a:Option Addr
 len:Nat
 cap:Nat
@[reducible] def Atom.den:Atom->Type
 |.int _=>Int | .bool=>Bool | .str=>Bt | .sl=>Sl | .mp=>Option Nat | .ptr=>Option Addr | .raw=>Value | .ad=>Addr
def Atom.enc:(t:Atom)->t.den->Value
 |.int k,n=>.int k n
 |.bool,b=>.bool b
 |.str,s=>.string s
 |.sl,s=>.slice s.a s.len s.cap
 |.mp,m=>.map m
 |.ptr,p=>.pointer p
 |.raw,v=>v
 |.ad,p=>.pointer (some p)
def Atom.dec:(t:Atom)->Value->Option t.den
 |.int k,.int k' n=>if k=k' then some n else none
 |.bool,.bool b=>some b
 |.str,.string s=>some s
 |.sl,.slice a l c=>some ⟨a,l,c⟩
 |.mp,.map m=>some m
 |.ptr,.pointer p=>some p
 |.raw,v=>some v
 |.ad,.pointer (some p)=>some p
 |_,_=>none
theorem Atom.enc_of_dec{t:Atom}{x:t.den}(h:t.dec v=some x):t.enc x=v:=by
 cases t with
 |ad=>
  cases v with
  |pointer p=>
   cases p with
   |none=>simp[Atom.dec]at h
   |some a=>simp[Atom.dec]at h;rw[h];rfl
  |_=>simp[Atom.dec]at h
 |_=>cases v <;> simp_all[Atom.dec,Atom.enc] <;> (subst h;first|rfl|exact⟨rfl,rfl,rfl⟩)
inductive VT where
 |one (t:Atom)
 |agg (l:List Atom)
inductive RT where
 |one (v:VT)
 |tup (l:List VT)
def zkz:List Atom->(List Value->Prop)->Prop
 |[],F=>F []
 |t::l,F=>∃x:t.den,zkz l λvs=>F (t.enc x::vs)
def qbw:VT->(Value->Prop)->Prop
 |.one t,F=>∃x:t.den,F (t.enc x)
 |.agg l,F=>zkz l λvs=>F (.agg vs.toArray)
def z5g:List VT->(List Value->Prop)->Prop
 |[],F=>F []
 |t::l,F=>qbw t λv=>z5g l λvs=>F (v::vs)
def z03:RT->(Value->Prop)->Prop
 |.one v,F=>qbw v F
 |.tup l,F=>z5g l λvs=>F (.tuple vs.toArray)
def zbv:List Atom->(List Value->Prop)->Prop
 |[],F=>F []
 |t::l,F=>∀x:t.den,zbv l λvs=>F (t.enc x::vs)
def zv8:VT->(Value->Prop)->Prop
 |.one t,F=>∀x:t.den,F (t.enc x)
 |.agg l,F=>zbv l λvs=>F (.agg vs.toArray)
def zjh:List VT->(List Value->Prop)->Prop
 |[],F=>F []
 |t::l,F=>zv8 t λv=>zjh l λvs=>F (v::vs)
def z9n:RT->(Value->Prop)->Prop
 |.one v,F=>zv8 v F
 |.tup l,F=>zjh l λvs=>F (.tuple vs.toArray)
theorem Qi:∀{l:List Atom} {F G:List Value->Prop},zkz l F->zbv l G->∃vs,vs.length=l.length/\F vs/\G vs
 |[],_,_,h,g=>⟨[],rfl,h,g⟩
 |_::_,_,_,⟨x,h⟩,g=>let ⟨vs,h0,h1,h2⟩:=Qi h (g x);⟨_,by simp[h0],h1,h2⟩
theorem jw:∀(l:List Atom),zbv l λ_=>True
 |[]=>trivial
 |_::l=>λ_=>jw l
theorem zpq{v:VT}{F G:Value->Prop}(h:qbw v F)(g:zv8 v G):∃u,F u/\G u:=by
 cases v with
 |one t=>obtain⟨x,h⟩:=h;exact⟨_,h,g x⟩
 |agg l=>obtain⟨vs,_,h1,h2⟩:=Qi h g;exact⟨_,h1,h2⟩
theorem zpr(v:VT):zv8 v λ_=>True:=by
 cases v with
 |one t=>exact λ_=>trivial
 |agg l=>exact jw l
theorem zk0:∀{l:List VT} {F G:List Value->Prop},z5g l F->zjh l G->∃vs,F vs/\G vs
 |[],_,_,h,g=>⟨[],h,g⟩
 |_::_,_,_,h,g=>let ⟨_,h1,h2⟩:=zpq h g;let ⟨_,h3,h4⟩:=zk0 h1 h2;⟨_,h3,h4⟩
theorem zej:∀(l:List VT),zjh l λ_=>True
 |[]=>trivial
 |v::l=>by
  have h:=zej l
  simp only[zjh]
  cases v with
  |one t=>exact λ_=>h
  |agg l'=>
   simp only[zv8]
   have key:∀(l':List Atom) (f:List Value->List Value),zbv l' λ_=>zjh l λ_=>True:=λl' _=>by
    induction l' with
    |nil=>exact h
    |cons t l' ih=>exact λ_=>ih
   exact key l' id
theorem zv9{r:RT}{F G:Value->Prop}(h:z03 r F)(g:z9n r G):∃v,F v/\G v:=by
 cases r with
 |one v=>exact zpq h g
 |tup l=>obtain⟨vs,h1,h2⟩:=zk0 h g;exact⟨_,h1,h2⟩
theorem zf1{r:RT}{F:Value->Prop}(h:z03 r F):∃v,F v:=by
 cases r with
 |one v=>obtain⟨u,h1,_⟩:=zpq h (zpr v);exact⟨u,h1⟩
 |tup l=>obtain⟨vs,h1,_⟩:=zk0 h (zej l);exact⟨_,h1⟩
def z3z:TypeDesc->Atom
 |.int k=>.int k
 |.bool=>.bool
 |.string=>.str
 |.slice _=>.sl
 |.map _ _=>.mp
 |.pointer _=>.ptr
 |_=>.raw
def zk1(P:Program):Nat->TypeId->Option (List Atom)
 |0,_=>none
 |n+1,t=>match P.underlying t with
  |some (.struct fs)=>fs.toList.foldr (λf l=>match zk1 P n f.type,l with
    |some x,some y=>some (x++y)
    |_,_=>none) (some [])
  |some (.array m e)=>match zk1 P n e with
    |some x=>some (Ei m x).flatten
    |none=>none
  |some d=>some [z3z d]
  |none=>none
def zv2(P:Program)(t:TypeId):Option VT:=match P.underlying t with
 |some (.struct _)|some (.array _ _)=>match zk1 P 8 t with
  |some l=>bif Nat.beq l.length (yr P t)then some (.agg l)else none
  |none=>none
 |some d=>some (.one (z3z d))
 |none=>none
def z9o(P:Program):List TypeId->Option (List VT)
 |[]=>some []
 |t::l=>match zv2 P t,z9o P l with
  |some x,some y=>some (x::y)
  |_,_=>none
def z9g(P:Program)(t:TypeId):Option RT:=match P.underlying t with
 |some (.tuple ts)=>match z9o P ts.toList with
  |some l=>some (.tup l)
  |none=>none
 |_=>match zv2 P t with
  |some v=>some (.one v)
  |none=>none
def req:Option Bool->Prop->Prop
 |none,p=>p
 |some b,p=>b=true->p
def gok:Option Bool->Prop
 |none=>True
 |some b=>b=true
theorem req.out{p:Prop}(h:req g p)(hg:gok g):p:=by
 cases g with
 |none=>exact h
 |some b=>exact h hg
def zd(h:zb)(p:Addr):Nat->List Value->Prop
 |_,[]=>True
 |i,v::vs=>zj h (p.add i)=some v/\zd h p (i+1) vs
def ld(h:zb)(p:Addr):Value->Prop
 |.agg vs=>zd h p 0 vs.toList
 |v=>zj h p=some v
def zk2(P:Program)(h:zb)(t:TypeId)(p:Value)(g:Option Bool)(K:Value->Prop):Prop:=
 match p,zv2 P t with
 |.pointer (some p),some (.one a)=>∃x:a.den,req g (zj h p=some (a.enc x))/\K (a.enc x)
 |.pointer (some p),some (.agg l)=>zkz l λvs=>req g (zd h p 0 vs)/\K (.agg vs.toArray)
 |_,_=>False
theorem Wn{P:Program}{h:zb}{p:Addr}:∀(vs:List Value) (i:Nat) (acc:Array Value),zd h p i vs->QExec P (loadCellsFrom p i vs.length acc) h (acc++vs.toArray)
 |[],i,acc,_=>by intro B d;simp[loadCellsFrom]
 |v::vs,i,acc,⟨h1,h2⟩=>by
  have ih:=Wn (P:=P) vs (i+1) (acc.push v) h2
  intro B d
  simp only[Av,loadCellsFrom,Sem.run_bind,run_load]
  rw[zv7,h1]
  simp only[Result.andThen_ok]
  rw[ih B d]
  simp
theorem zbw{a:Atom}{p:Addr}(ht:zv2 P t=some (.one a))(hc:zj h p=some v):QExec P (loadVar t p) h v:=by
 unfold zv2 at ht
 cases hu:P.underlying t with
 |none=>rw[hu]at ht;cases ht
 |some d=>
  rw[hu]at ht
  intro B e
  have hq:=QExec.underlying (h:=h) hu B e
  have O:(isAgg t).run P (mk B e h)=.ok false (mk B e h):=by
   unfold isAgg
   rw[Sem.run_bind,hq]
   cases d <;> first|rfl|(exfalso;revert ht;dsimp only;split <;> first|(intro h;cases h;done)|(cases hb:Nat.beq _ _ <;> intro h <;> cases h))
  unfold loadVar
  rw[Sem.run_bind,O]
  simp only[Result.andThen_ok,A0,if_false,run_load]
  rw[zv7,hc]
theorem zbx{l:List Atom}{p:Addr}{vs:List Value}(ht:zv2 P t=some (.agg l))(hl:vs.length=l.length)(hc:zd h p 0 vs):QExec P (loadVar t p) h (.agg vs.toArray):=by
 unfold zv2 at ht
 cases hu:P.underlying t with
 |none=>rw[hu]at ht;cases ht
 |some d=>
  rw[hu]at ht
  obtain⟨i,hi⟩:=info_of_underlying hu
  have O:(∃fs,d=.struct fs)\/(∃n e,d=.array n e):=by
   cases d <;> first|exact Or.inl ⟨_,rfl⟩|exact Or.inr ⟨_,_,rfl⟩|(simp at ht)
  have Z:yr P t=l.length:=by
   have hm:(match zk1 P 8 t with
     |some l=>bif Nat.beq l.length (yr P t)then some (VT.agg l)else none
     |none=>none)=some (.agg l):=by
    rcases O with⟨fs,rfl⟩|⟨n,e,rfl⟩ <;> exact ht
   split at hm
   ·rename_i l' _
    cases hb:Nat.beq l'.length (yr P t)with
    |false=>rw[hb]at hm;cases hm
    |true=>
     rw[hb]at hm
     simp only[cond_true,Aa,VT.agg.injEq]at hm
     rw[<-hm];exact(Ag hb).symm
   ·cases hm
  intro B e
  have hq:=QExec.underlying (h:=h) hu B e
  have hA:(isAgg t).run P (mk B e h)=.ok true (mk B e h):=by
   unfold isAgg
   rw[Sem.run_bind,hq]
   rcases O with⟨fs,rfl⟩|⟨n,e',rfl⟩ <;> rfl
  have hS:=QExec.sizeOf (h:=h) hi B e
  unfold loadVar
  rw[Sem.run_bind,hA]
  simp only[Result.andThen_ok,if_true]
  rw[Sem.run_bind,hS]
  simp only[Result.andThen_ok]
  have hL:=Wn (P:=P) vs 0 #[] hc B e
  unfold loadCells
  rw[Sem.run_bind,Z,<-hl,hL]
  simp
theorem zf2{p:Value}{K:Value->Prop}(H:zk2 P h t p g K):
  ∃v,K v/\(gok g->QExec P (D5 t p) h v):=by
 unfold zk2 at H
 split at H
 ·rename_i q a hv
  obtain⟨x,h1,h2⟩:=H
  exact⟨_,h2,λhg=>zbw hv (h1.out hg)⟩
 ·rename_i q l hv
  obtain⟨vs,h0,⟨h1,h2⟩,_⟩:=Qi H (jw l)
  exact⟨_,h2,λhg=>zbx hv h0 (h1.out hg)⟩
 ·exact H.elim
def znj(P:Program)(t:TypeId)(x i:Value)(g:Option Bool)(K:Value->Prop):Prop:=
 match P.underlying t with
 |some (.slice el)=>match x,i with
  |.slice base len _,.int _ n=>∃a:Addr,req g (base=some a/\0<=n/\n<(len:Int))/\K (.pointer (some (a.add (n.toNat*yr P el))))
  |_,_=>False
 |some (.array len el)=>match x,i with
  |.pointer base,.int _ n=>∃a:Addr,req g (base=some a/\0<=n/\n<(len:Int))/\K (.pointer (some (a.add (n.toNat*yr P el))))
  |_,_=>False
 |_=>False
def yu(P:Program)(t:TypeId):Bool:=match P.info? t with
 |some _=>true
 |none=>false
theorem jj(h:yu P t=true):∃i,P.info? t=some i:=by
 unfold yu at h
 split at h
 ·exact⟨_,by assumption⟩
 ·cases h
theorem Z3(t:TypeId)(B:World)(d:Nat):(∃i,P.info? t=some i)->(Go.sizeOf t).run P (mk B d h)=.ok (yr P t) (mk B d h):=λ⟨_,hi⟩=>QExec.sizeOf hi B d
theorem xm{x i:Value}{K:Value->Prop}
  (O:∀el,(P.underlying t=some (.slice el)\/∃n,P.underlying t=some (.array n el))->∃i,P.info? el=some i) (H:znj P t x i g K):
  ∃v,K v/\(gok g->∀h:zb,QExec P (EE t x i) h v):=by
 unfold znj at H
 split at H
 ·rename_i el hu
  split at H
  ·rename_i base len cap k n
   obtain⟨a,h1,h2⟩:=H
   refine⟨_,h2,λhg=>?_⟩
   obtain⟨rfl,h3,h4⟩:=h1.out hg
   intro h B d
   have hq:=QExec.underlying (h:=h) hu B d
   have hs:=Z3 (h:=h) el B d (O el (Or.inl hu))
   unfold EE
   simp[asIntOf,Sem.run_bind,hq,hs,h3,h4]
  ·exact H.elim
 ·rename_i len el hu
  split at H
  ·rename_i base k n
   obtain⟨a,h1,h2⟩:=H
   refine⟨_,h2,λhg=>?_⟩
   obtain⟨rfl,h3,h4⟩:=h1.out hg
   intro h B d
   have hq:=QExec.underlying (h:=h) hu B d
   have hs:=Z3 (h:=h) el B d (O el (Or.inr ⟨_,hu⟩))
   unfold EE
   simp[asIntOf,Sem.run_bind,hq,hs,h3,h4,Ej]
  ·exact H.elim
 ·exact H.elim
def zf(s:Bt)(i:Nat):Int:=((s.data[i]?.getD 0).toNat:Int)
def zf3(x i:Value)(g:Option Bool)(K:Value->Prop):Prop:=
 match x,i with
 |.string s,.int _ n=>req g (0<=n/\n<(s.size:Int))/\K (.int .u8 (zf s n.toNat))
 |_,_=>False
theorem z9p(s:Bt)(i:Nat)(h:i<s.size):s[i]?=some (s.data[i]?.getD 0):=by
 have h':i<s.data.size:=h
 rw[getElem?_pos s i h]
 simp[AK h']
 rfl
theorem Wo{x i:Value}{K:Value->Prop}(hu:P.underlying t=some .string)(H:zf3 x i g K):
  ∃v,K v/\(gok g->∀h:zb,QExec P (Instr.index t x i) h v):=by
 unfold zf3 at H
 split at H
 ·rename_i s k n
  obtain⟨h1,h2⟩:=H
  refine⟨_,h2,λhg=>?_⟩
  obtain⟨h3,h4⟩:=h1.out hg
  intro h B d
  have hq:=QExec.underlying (h:=h) hu B d
  unfold Instr.index
  have hb:=z9p s n.toNat (by omega)
  simp only[asIntOf,Sem.run_bind,hq,Sem.run_pure,Result.andThen_ok,h3,if_true,hb,zf]
 ·exact H.elim
def Q4(a:Option Addr)(sz l m:Nat):Option Addr:=if m=l then a else a.map (·.add (l*sz))
def jk:Option Value->Int->Option Int
 |none,d=>some d
 |some (.int _ n),_=>some n
 |some _,_=>none
def zrr(P:Program)(t:TypeId)(x:Value)(lo hi mx:Option Value)(g:Option Bool)(K:Value->Prop):Prop:=
 match P.underlying t with
 |some .string=>match x,mx with
  |.string s,none=>match jk lo 0,jk hi (s.size:Int)with
   |some l,some r=>req g (0<=l/\l<=r/\r<=(s.size:Int))/\K (.string (s.extract l.toNat r.toNat))
   |_,_=>False
  |_,_=>False
 |some (.slice el)=>match x with
  |.slice a len cap=>match jk lo 0,jk hi (len:Int),jk mx (cap:Int)with
   |some l,some r,some m=>(mx=none\/∃v,hi=some v)/\req g (0<=l/\l<=r/\r<=m/\m<=(cap:Int))/\K (.slice (Q4 a (yr P el) l.toNat m.toNat) (r.toNat-l.toNat) (m.toNat-l.toNat))
   |_,_,_=>False
  |_=>False
 |_=>False
theorem jl{v:Option Value}{d n:Int}(h:jk v d=some n):(v=none/\n=d)\/∃k,v=some (.int k n):=by
 unfold jk at h
 split at h
 ·exact Or.inl ⟨rfl,by simpa using h.symm⟩
 ·simp only[Aa]at h
  exact Or.inr ⟨_,by rw[h]⟩
 ·cases h
theorem jd{k:IntKind}{y:Nat}{c:BoundsCode}(h0:0<=n)(h1:n<=(y:Int)):QExec P (Instr.sliceBound (.int k n) y c) h n.toNat:=by
 intro B d
 simp[Instr.sliceBound,asIntOf,h0,h1]
theorem zt1{n:Nat}{lo hi:Option Value}(hl:jk lo 0=some l)(hr:jk hi (n:Int)=some r)(h3:0<=l)(h4:l<=r)(h5:r<=(n:Int)):
  QExec P (Instr.sliceBounds false n n lo hi none) h (l.toNat,r.toNat,n):=by
 have e:(r.toNat:Int)=r:=Int.toNat_of_nonneg (by omega)
 rcases jl hl with⟨rfl,rfl⟩|⟨k,rfl⟩ <;> rcases jl hr with⟨rfl,rfl⟩|⟨k',rfl⟩
 ·exact QExec.pure _
 ·exact QExec.bind (QExec.pure n) (QExec.bind (jd (by omega) h5) (QExec.pure _))
 ·exact QExec.bind (QExec.pure n) (QExec.bind (QExec.pure n) (QExec.bind (jd h3 h4) (QExec.pure _)))
 ·exact QExec.bind (QExec.pure n) (QExec.bind (jd (by omega) h5) (QExec.bind (jd h3 (by omega)) (QExec.pure _)))
theorem znk{len cap:Nat}{lo hi mx:Option Value}{l r m:Int}(hl:jk lo 0=some l)(hr:jk hi (len:Int)=some r)(hm:jk mx (cap:Int)=some m)
  (h0:mx=none\/∃v,hi=some v) (h3:0<=l) (h4:l<=r) (h5:r<=m) (h6:m<=(cap:Int)):
  QExec P (Instr.sliceBounds true len cap lo hi mx) h (l.toNat,r.toNat,m.toNat):=by
 have e:(r.toNat:Int)=r:=Int.toNat_of_nonneg (by omega)
 have e2:(m.toNat:Int)=m:=Int.toNat_of_nonneg (by omega)
 rcases jl hm with⟨rfl,rfl⟩|⟨km,rfl⟩
 ·rcases jl hl with⟨rfl,rfl⟩|⟨k,rfl⟩ <;> rcases jl hr with⟨rfl,rfl⟩|⟨k',rfl⟩
  ·exact QExec.pure _
  ·exact QExec.bind (QExec.pure cap) (QExec.bind (jd (by omega) h5) (QExec.pure _))
  ·exact QExec.bind (QExec.pure cap) (QExec.bind (QExec.pure len) (QExec.bind (jd h3 h4) (QExec.pure _)))
  ·exact QExec.bind (QExec.pure cap) (QExec.bind (jd (by omega) h5) (QExec.bind (jd h3 (by omega)) (QExec.pure _)))
 ·rcases h0 with h0|⟨v,rfl⟩
  ·cases h0
  ·rcases jl hr with⟨h9,_⟩|⟨k',h9⟩
   ·cases h9
   ·cases h9
    rcases jl hl with⟨rfl,rfl⟩|⟨k,rfl⟩
    ·exact QExec.bind (x:=m.toNat) (jd (by omega) h6) (QExec.bind (jd (by omega) (by omega)) (QExec.pure _))
    ·exact QExec.bind (x:=m.toNat) (jd (by omega) h6) (QExec.bind (jd (by omega) (by omega)) (QExec.bind (jd h3 (by omega)) (QExec.pure _)))
theorem Ya{x:Value}{lo hi mx:Option Value}{K:Value->Prop}
  (O:∀el,P.underlying t=some (.slice el)->∃i,P.info? el=some i) (H:zrr P t x lo hi mx g K):
  ∃v,K v/\(gok g->∀h:zb,QExec P (EF t x lo hi mx) h v):=by
 unfold zrr at H
 split at H
 ·rename_i hu
  split at H
  ·rename_i s
   split at H
   ·rename_i l r hl hr
    obtain⟨h1,h2⟩:=H
    refine⟨_,h2,λhg=>?_⟩
    obtain⟨h3,h4,h5⟩:=h1.out hg
    intro h B d
    have hq:=QExec.underlying (h:=h) hu B d
    have bb:=zt1 (P:=P) (h:=h) hl hr h3 h4 h5 B d
    unfold EF
    rw[Sem.run_bind,hq]
    simp only[Result.andThen_ok]
    unfold Instr.slice
    rw[Sem.run_bind,hq]
    simp[bb]
   ·exact H.elim
  ·exact H.elim
 ·rename_i el hu
  split at H
  ·rename_i a len cap
   split at H
   ·rename_i l r m hl hr hm
    obtain⟨h0,h1,h2⟩:=H
    refine⟨_,h2,λhg=>?_⟩
    obtain⟨h3,h4,h5,h6⟩:=h1.out hg
    intro h B d
    have hq:=QExec.underlying (h:=h) hu B d
    have hs:=Z3 (h:=h) el B d (O el hu)
    have bb:=znk (P:=P) (h:=h) hl hr hm h0 h3 h4 h5 h6 B d
    unfold EF
    rw[Sem.run_bind,hq]
    simp only[Result.andThen_ok]
    unfold Instr.slice
    rw[Sem.run_bind,hq]
    simp[bb,hs,Q4]
   ·exact H.elim
  ·exact H.elim
 ·exact H.elim
end
section
variable {P:Program} {f:FuncId} {h:zb} {K:Value -> zb -> Prop} {t ty:TypeId} {g:Option Bool} {w w':World} {v:Value} {o:Oper} {ρ:Operand -> Value} {a:Act}
def XC(P:Program)(f:FuncId)(args:Array Value)(h:zb)(R:Value->zb->Prop):Prop:=
 ∀B d,Calls P f args (mk B d h) λe w'=>∃v d' h',e=.returned v/\w'=mk B d' h'/\R v h'
theorem XC.mono{args:Array Value}{R R':Value->zb->Prop}(H:XC P f args h R)(hR:∀v h',R v h'->R' v h'):XC P f args h R':=
 λB d=>(H B d).mono λ_ _ ⟨v,d',h',e1,e2,r⟩=>⟨v,d',h',e1,e2,hR _ _ r⟩
def XRun(P:Program)(s:Sem Value)(h:zb)(K:Value->zb->Prop):Prop:=∀B d,∃v d' h',s.run P (mk B d h)=.ok v (mk B d' h')/\K v h'
def XRunU(P:Program)(s:Sem Unit)(h:zb)(K:zb->Prop):Prop:=∀B d,∃d' h',s.run P (mk B d h)=.ok () (mk B d' h')/\K h'
theorem XRun.mono{s:Sem Value}{K K':Value->zb->Prop}(H:XRun P s h K)(hK:∀v h',K v h'->K' v h'):XRun P s h K':=
 λB d=>let ⟨v,d',h',e,k⟩:=H B d;⟨v,d',h',e,hK _ _ k⟩
theorem XRunU.mono{s:Sem Unit}{K K':zb->Prop}(H:XRunU P s h K)(hK:∀h',K h'->K' h'):XRunU P s h K':=
 λB d=>let ⟨d',h',e,k⟩:=H B d;⟨d',h',e,hK _ k⟩
def Wp(n:Nat):Prop:=n<=9223372036854775807
def zdf(P:Program)(s:Sem Next)(K:Value->Prop):Prop:=match Qe P s with
 |some (.value v)=>K v
 |_=>False
def z04(P:Program)(ty:TypeId)(s:Sem Value)(g:Option Bool)(h:zb)(K:Value->Prop):Prop:=match z9g P ty with
 |some rt=>z03 rt λv=>req g (QExec P s h v)/\K v
 |none=>False
def zt2(P:Program)(t:TypeId):Bool:=match P.underlying t with
 |some (.slice _)=>true
 |_=>false
def zt3(P:Program)(t:TypeId):Bool:=match P.underlying t with
 |some (.pointer e)=>Nat.beq e (P.pointee t)
 |_=>false
theorem zrs(h:zt3 P t=true):P.underlying t=some (.pointer (P.pointee t)):=by
 unfold zt3 at h
 split at h
 ·rename_i e hu;rw[hu,Ag h]
 ·cases h
def qbx(P:Program)(t:TypeId)(s:Sem Next)(op:BinOp)(x y:Value)(g:Option Bool)(K:Value->Prop):Prop:=
 match op,x,y with
 |.eql,.slice a _ _,.slice none 0 0=>bif zt2 P t then K (.bool a.isNone)else zdf P s K
 |.neq,.slice a _ _,.slice none 0 0=>bif zt2 P t then K (.bool (!a.isNone))else zdf P s K
 |.eql,.pointer a,.pointer none=>bif zt3 P t then K (.bool a.isNone)else zdf P s K
 |.neq,.pointer a,.pointer none=>bif zt3 P t then K (.bool (!a.isNone))else zdf P s K
 |.quo,.int k a,.int k' b=>k=k'/\req g (b≠0)/\K (.int k (k.wrap (a.tdiv b)))
 |.rem,.int k a,.int k' b=>k=k'/\req g (b≠0)/\K (.int k (a.tmod b))
 |.add,.string a,.string b=>req g (Wp (a.size+b.size))/\K (.string (a++b))
 |_,_,_=>zdf P s K
def zji(b:Builtin)(O:Array TypeId)(Z:TypeId)(args:Array Value):Option (Sem Value):=
 match b with
 |.append=>some (Ax O Z args)
 |.copy=>some (Di O Z args)
 |.clear=>some (D3 O Z args)
 |.delete=>some (Builtin.delete_ O Z args)
 |.len=>some (CK O Z args)
 |_=>none
def qby(P:Program)(s:Sem Next)(ty:TypeId)(O:Array TypeId)(args:Array Value)(g:Option Bool)(h:zb)(K:Value->Prop):Prop:=
 match (args[0]?:Option Value)with
 |some (Value.map _)=>z04 P ty (CK O ty args) g h K
 |_=>zdf P s K
def Wq(P:Program)(t:TypeId):Bool:=match P.underlying t with
 |some (.slice el)=>yu P el
 |some (.array _ el)=>yu P el
 |_=>true
theorem xg(h:Wq P t=true):∀el,(P.underlying t=some (.slice el)\/∃n,P.underlying t=some (.array n el))->∃i,P.info? el=some i:=by
 intro el O
 unfold Wq at h
 rcases O with O|⟨n,O⟩ <;> rw[O]at h <;> exact jj h
def znl(P:Program)(t:TypeId):Bool:=match P.underlying t with
 |some .string=>true
 |_=>false
theorem znm(h:znl P t=true):P.underlying t=some .string:=by
 unfold znl at h
 split at h
 ·assumption
 ·cases h
def qbh(P:Program)(s:Sem Next)(x:Value)(g:Option Bool)(K:Value->Prop):Prop:=match x with
 |.pointer p=>∃a:Addr,req g (p=some a)/\K (.pointer (some a))
 |_=>zdf P s K
def Zh(P:Program)(o:Oper)(ρ:Operand->Value)(g:Option Bool)(h:zb)(K:Value->Prop):Prop:=
 match o.op with
 |.load t a=>zk2 P h t (ρ a) g K
 |.indexAddr t x i=>bif Wq P t then znj P t (ρ x) (ρ i) g K else False
 |.index t x i=>bif znl P t then zf3 (ρ x) (ρ i) g K else zdf P (execOp ρ o) K
 |.slice t x lo hi mx=>bif Wq P t then zrr P t (ρ x) (lo.map ρ) (hi.map ρ) (mx.map ρ) g K else False
 |.binOp op t x y _=>qbx P t (execOp ρ o) op (ρ x) (ρ y) g K
 |.lookup t m k ok=>z04 P o.type (D6 t (ρ m) (ρ k) ok) g h K
 |.nilCheck x=>qbh P (execOp ρ o) (ρ x) g K
 |.call c=>match c.callee with
  |.builtin .len=>qby P (execOp ρ o) o.type c.argTypes (c.args.map ρ) g h K
  |_=>zdf P (execOp ρ o) K
 |_=>zdf P (execOp ρ o) K
theorem zv{s:Sem Next}{K:Value->Prop}(H:zdf P s K)(g:Option Bool):∃v,K v/\(gok g->∀h:zb,QExec P s h (.value v)):=by
 unfold zdf at H
 split at H
 ·rename_i v hv
  exact⟨v,H,λ_ h=>zih hv h⟩
 ·exact H.elim
theorem zf4{s:Sem Value}{K:Value->Prop}(H:z04 P ty s g h K):∃v,K v/\(gok g->QExec P s h v):=by
 unfold z04 at H
 split at H
 ·obtain⟨v,h1,h2⟩:=zf1 H
  exact⟨v,h2,λhg=>h1.out hg⟩
 ·exact H.elim
theorem Jh{op:BinOp}(t:TypeId)(x y:Operand)(a b:Value)(h1:(op matches .eql | .neq)=false):eqGuard op t x y a b=pure ():=by
 unfold eqGuard
 cases op <;> simp at h1 <;> rfl
theorem zrt{s:Sem Value}(h:s.run P w=.ok v w'):(s >>= λx=>(Dl (D2 x):Sem Next)).run P w=.ok (.value v) w':=by
 rw[Sem.run_bind,h];rfl
theorem zjj{s:Sem Next}{K:Value->Prop}(h:zb)(H:∃v,K v/\(gok g->∀h:zb,QExec P s h (.value v))):∃v,K v/\(gok g->QExec P s h (.value v)):=
 let ⟨v,h1,h2⟩:=H;⟨v,h1,λhg=>h2 hg h⟩
theorem zfj{op:BinOp}{t t':TypeId}{x y:Operand}(ho:o.op=.binOp op t x y t'){K:Value->Prop}
  (H:qbx P t (execOp ρ o) op (ρ x) (ρ y) g K):∃v,K v/\(gok g->∀h:zb,QExec P (execOp ρ o) h (.value v)):=by
 have O:∀(op:BinOp) (x y:Operand) (a b:Option Addr) (l c l' c':Nat) (w:World),(eqGuard op t x y (.slice a l c) (.slice b l' c')).run P w=.ok () w:=λop x y a b l c l' c' w=>by
  unfold eqGuard;cases op <;> rfl
 have Z:∀(op:BinOp) (x y:Operand) (a b:Option Addr) (w:World),(eqGuard op t x y (.pointer a) (.pointer b)).run P w=.ok () w:=λop x y a b w=>by
  unfold eqGuard;cases op <;> rfl
 unfold qbx at H
 split at H
 ·rename_i a l c hx hy
  cases hs:zt2 P t with
  |false=>rw[hs]at H;exact zv H g
  |true=>
   rw[hs,cond_true]at H
   refine⟨_,H,λhg h B d=>?_⟩
   have hu:∃el,P.underlying t=some (.slice el):=by
    unfold zt2 at hs
    split at hs
    ·rename_i el hu;exact⟨el,hu⟩
    ·cases hs
   obtain⟨el,hu⟩:=hu
   simp only[execOp,ho,hx,hy]
   refine zrt ?_
   rw[Sem.run_bind,O]
   simp only[Result.andThen_ok,binOp,Sem.run_bind,run_equal_slice_nil _ t _ _ _ _ hu];rfl
 ·rename_i a l c hx hy
  cases hs:zt2 P t with
  |false=>rw[hs]at H;exact zv H g
  |true=>
   rw[hs,cond_true]at H
   refine⟨_,H,λhg h B d=>?_⟩
   have hu:∃el,P.underlying t=some (.slice el):=by
    unfold zt2 at hs
    split at hs
    ·rename_i el hu;exact⟨el,hu⟩
    ·cases hs
   obtain⟨el,hu⟩:=hu
   simp only[execOp,ho,hx,hy]
   refine zrt ?_
   rw[Sem.run_bind,O]
   simp only[Result.andThen_ok,binOp,Sem.run_bind,run_equal_slice_nil _ t _ _ _ _ hu];rfl
 ·rename_i a hx hy
  cases hs:zt3 P t with
  |false=>rw[hs]at H;exact zv H g
  |true=>
   rw[hs,cond_true]at H
   refine⟨_,H,λhg h B d=>?_⟩
   have hu:=zrs hs
   simp only[execOp,ho,hx,hy]
   refine zrt ?_
   rw[Sem.run_bind,Z]
   simp only[Result.andThen_ok,binOp,Sem.run_bind,run_equal_pointer_nil _ t _ hu];rfl
 ·rename_i a hx hy
  cases hs:zt3 P t with
  |false=>rw[hs]at H;exact zv H g
  |true=>
   rw[hs,cond_true]at H
   refine⟨_,H,λhg h B d=>?_⟩
   have hu:=zrs hs
   simp only[execOp,ho,hx,hy]
   refine zrt ?_
   rw[Sem.run_bind,Z]
   simp only[Result.andThen_ok,binOp,Sem.run_bind,run_equal_pointer_nil _ t _ hu];rfl
 ·rename_i k a k' b hx hy
  obtain⟨rfl,h1,h2⟩:=H
  refine⟨_,h2,λhg=>?_⟩
  have hb:=h1.out hg
  intro h B d
  simp only[execOp,ho,hx,hy]
  rw[Jh _ _ _ _ _ rfl]
  simp[binOp,Op.intDiv,hb]
 ·rename_i k a k' b hx hy
  obtain⟨rfl,h1,h2⟩:=H
  refine⟨_,h2,λhg=>?_⟩
  have hb:=h1.out hg
  intro h B d
  simp only[execOp,ho,hx,hy]
  rw[Jh _ _ _ _ _ rfl]
  simp[binOp,Op.intDiv,hb]
 ·rename_i a b hx hy
  obtain⟨h1,h2⟩:=H
  refine⟨_,h2,λhg=>?_⟩
  have hb:=h1.out hg
  intro h B d
  simp only[execOp,ho,hx,hy]
  rw[Jh _ _ _ _ _ rfl]
  have hm:¬((a.size+b.size:Nat):Int)>IntKind.i64.max:=by
   unfold Wp at hb
   have:IntKind.i64.max=9223372036854775807:=by decide
   omega
  simp only[binOp,Op.stringOp,if_neg hm]
  rfl
 ·exact zv H g
theorem zt4{c:Call}(ho:o.op=.call c)(hc:c.callee=.builtin .len){K:Value->Prop}
  (H:qby P (execOp ρ o) o.type c.argTypes (c.args.map ρ) g h K):∃v,K v/\(gok g->QExec P (execOp ρ o) h (.value v)):=by
 unfold qby at H
 split at H
 ·obtain⟨v,h1,h2⟩:=zf4 H
  refine⟨v,h1,λhg=>?_⟩
  have:=h2 hg
  intro B d
  simp only[execOp,ho,resolve,hc,Sem.run_bind,Sem.run_pure,Result.andThen_ok,invoke,builtin]
  rw[this B d]
  rfl
 ·exact zjj h (zv H g)
theorem zat{K:Value->Prop}(H:Zh P o ρ g h K):∃v,K v/\(gok g->QExec P (execOp ρ o) h (.value v)):=by
 unfold Zh at H
 split at H
 ·rename_i t a ho
  obtain⟨v,h1,h2⟩:=zf2 H
  refine⟨v,h1,λhg=>?_⟩
  simp only[execOp,ho]
  exact(h2 hg).val
 ·rename_i t x i ho
  cases he:Wq P t with
  |false=>rw[he]at H;exact H.elim
  |true=>
   rw[he]at H
   obtain⟨v,h1,h2⟩:=xm (xg he) H
   refine⟨v,h1,λhg=>?_⟩
   simp only[execOp,ho]
   exact(h2 hg h).val
 ·rename_i t x i ho
  cases he:znl P t with
  |false=>rw[he]at H;exact zjj h (zv H g)
  |true=>
   rw[he]at H
   obtain⟨v,h1,h2⟩:=Wo (znm he) H
   refine⟨v,h1,λhg=>?_⟩
   simp only[execOp,ho]
   exact(h2 hg h).val
 ·rename_i t x lo hi mx ho
  cases he:Wq P t with
  |false=>rw[he]at H;exact H.elim
  |true=>
   rw[he]at H
   obtain⟨v,h1,h2⟩:=Ya (λel O=>xg he el (Or.inl O)) H
   refine⟨v,h1,λhg=>?_⟩
   simp only[execOp,ho]
   exact(h2 hg h).val
 ·rename_i op t x y t' ho
  exact zjj h (zfj ho H)
 ·rename_i t m k ok ho
  obtain⟨v,h1,h2⟩:=zf4 H
  refine⟨v,h1,λhg=>?_⟩
  simp only[execOp,ho]
  exact(h2 hg).val
 ·rename_i x ho
  unfold qbh at H
  split at H
  ·rename_i p hx
   obtain⟨a,h1,h2⟩:=H
   refine⟨_,h2,λhg=>?_⟩
   have hp:=h1.out hg
   subst hp
   intro B d
   simp only[execOp,ho,hx]
   rfl
  ·exact zjj h (zv H g)
 ·rename_i c ho
  split at H
  ·rename_i hc
   exact zt4 ho hc H
  ·exact zjj h (zv H g)
 ·exact zjj h (zv H g)
def zey(o:Oper):Bool:=match o.op with
 |.lookup .. => false
 |.call c=>match c.callee with
  |.builtin .len=>false
  |_=>true
 |_=>true
theorem z05{p:Addr}(H:zj h p=some v):p.block<h.size:=by
 unfold zj at H
 cases e:h[p.block]? with
 |none=>simp[e]at H
 |some o=>exact(Ac.1 e).1
theorem zf5{h h':zb}(k:Keep h.size h h'){p:Addr}(H:zj h p=some v):zj h' p=some v:=by
 have:=z05 H
 unfold zj at H ⊢
 rw[k.get _ this];exact H
theorem zf6{h h':zb}(k:Keep h.size h h'){p:Addr}:∀{vs:List Value} {i:Nat},zd h p i vs->zd h' p i vs
 |[],_,_=>trivial
 |_::_,_,⟨h1,h2⟩=>⟨zf5 k h1,zf6 k h2⟩
theorem Xq{K:Value->Prop}(hf:zey o=true)(H:Zh P o ρ g h K):∃v,K v/\(gok g->∀h',Keep h.size h h'->QExec P (execOp ρ o) h' (.value v)):=by
 unfold Zh at H
 split at H
 ·rename_i t a ho
  unfold zk2 at H
  split at H
  ·rename_i q b hp hv
   obtain⟨x,h1,h2⟩:=H
   refine⟨_,h2,λhg h' hk=>?_⟩
   simp only[execOp,ho,hp]
   exact(zbw hv (zf5 hk (h1.out hg))).val
  ·rename_i q l hp hv
   obtain⟨vs,h0,⟨h1,h2⟩,_⟩:=Qi H (jw l)
   refine⟨_,h2,λhg h' hk=>?_⟩
   simp only[execOp,ho,hp]
   exact(zbx hv h0 (zf6 hk (h1.out hg))).val
  ·exact H.elim
 ·rename_i t x i ho
  cases he:Wq P t with
  |false=>rw[he]at H;exact H.elim
  |true=>
   rw[he]at H
   obtain⟨v,h1,h2⟩:=xm (xg he) H
   refine⟨v,h1,λhg h' _=>?_⟩
   simp only[execOp,ho]
   exact(h2 hg h').val
 ·rename_i t x i ho
  cases he:znl P t with
  |false=>
   rw[he]at H
   obtain⟨v,h1,h2⟩:=zv H g
   exact⟨v,h1,λhg h' _=>h2 hg h'⟩
  |true=>
   rw[he]at H
   obtain⟨v,h1,h2⟩:=Wo (znm he) H
   refine⟨v,h1,λhg h' _=>?_⟩
   simp only[execOp,ho]
   exact(h2 hg h').val
 ·rename_i t x lo hi mx ho
  cases he:Wq P t with
  |false=>rw[he]at H;exact H.elim
  |true=>
   rw[he]at H
   obtain⟨v,h1,h2⟩:=Ya (λel O=>xg he el (Or.inl O)) H
   refine⟨v,h1,λhg h' _=>?_⟩
   simp only[execOp,ho]
   exact(h2 hg h').val
 ·rename_i op t x y t' ho
  obtain⟨v,h1,h2⟩:=zfj ho H
  exact⟨v,h1,λhg h' _=>h2 hg h'⟩
 ·rename_i t m k ok ho
  simp[zey,ho]at hf
 ·rename_i x ho
  unfold qbh at H
  split at H
  ·rename_i p hx
   obtain⟨a,h1,h2⟩:=H
   refine⟨_,h2,λhg h' _=>?_⟩
   have hp:=h1.out hg
   subst hp
   intro B d
   simp only[execOp,ho,hx]
   rfl
  ·obtain⟨v,h1,h2⟩:=zv H g
   exact⟨v,h1,λhg h' _=>h2 hg h'⟩
 ·rename_i c ho
  split at H
  ·rename_i hc
   simp[zey,ho,hc]at hf
  ·obtain⟨v,h1,h2⟩:=zv H g
   exact⟨v,h1,λhg h' _=>h2 hg h'⟩
 ·obtain⟨v,h1,h2⟩:=zv H g
  exact⟨v,h1,λhg h' _=>h2 hg h'⟩
def wpN(P:Program){α:Type}:Sem α->zb->(α->zb->Prop)->Prop
 |.pure a,h,K=>K a h
 |.program k,h,K=>wpN P (k P) h K
 |.mark _ k,h,K=>wpN P k h K
 |.new o k,h,K=>wpN P (k h.size) (h.push o) K
 |_,_,_=>False
theorem zby{α:Type}{s:Sem α}{K:α->zb->Prop}(H:wpN P s h K)(B:World)(d:Nat):∃x h',s.run P (mk B d h)=.ok x (mk B d h')/\K x h':=by
 induction s generalizing h with
 |pure a=>exact⟨a,h,rfl,H⟩
 |program k ih=>exact ih P H
 |mark m k ih=>exact ih H
 |new o k ih=>
  obtain⟨x,h',h1,h2⟩:=ih h.size H
  exact⟨x,h',h1,h2⟩
 |_=>exact H.elim
def typed(P:Program)(ty:TypeId)(v:Value)(K:Value->Prop):Prop:=match z9g P ty with
 |some rt=>z03 rt λv'=>v=v'/\K v'
 |none=>False
theorem xy{K:Value->Prop}(H:typed P ty v K):K v:=by
 unfold typed at H
 split at H
 ·obtain⟨v',h1,h2⟩:=zf1 H;rw[h1];exact h2
 ·exact H.elim
def qk(P:Program)(f:FuncId):Bool:=match P.funcs[f]? with
 |some fn=>(match fn.body with
  |some _=>true
  | none => false) && !(fn.name == "runtime.NumGoroutine")
 |none=>false
theorem Wr(h:qk P f=true)(args:Array Value)(w:World):(callFunc f args).run P w=.ok (.enter f args) w:=by
 unfold qk at h
 split at h
 ·rename_i fn hf
  simp only[AI,Cb]at h
  obtain⟨h1,h2⟩:=h
  unfold callFunc
  simp only[program,Sem.run_bind,Sem.run,Result.andThen_ok,hf]
  split at h1
  ·rename_i b hb
   simp[h2,hb]
  ·cases h1
 ·cases h
def z9h(P:Program)(v:Value)(args:Array Value)(K:FuncId->Array Value->Prop):Prop:=match v with
 |.func (.func f) first cap=>qk P f=true/\K f (first++args++cap)
 |_=>False
theorem zjk{c:Call}{x:Operand}(ho:o.op=.call c)(hc:c.callee=.value x){K:FuncId->Array Value->Prop}(H:z9h P (ρ x) (c.args.map ρ) K):
  ∃f args,K f args/\∀w,(execOp ρ o).run P w=.ok (.enter f args) w:=by
 unfold z9h at H
 split at H
 ·rename_i f first cap hv
  obtain⟨h1,h2⟩:=H
  refine⟨_,_,h2,λw=>?_⟩
  simp only[execOp,ho,resolve,hc,hv,D7,Sem.run_bind,Sem.run_pure,Result.andThen_ok,invoke]
  exact Wr h1 _ w
 ·exact H.elim
def Ji:Operand->Bool
 |.func _=>true
 |_=>false
def qbz(P:Program)(f:FuncId):Bool:=match P.funcs[f]? with
 |some fn=>(match fn.body with
  |some _=>false
  |none=>true)
 |none=>false
def qb0(P:Program)(f:FuncId)(args:Array Value)(h:zb)(K:Value->zb->Prop):Prop:=∀B d,∃v d' h',(callFunc f args).run P (mk B d h)=.ok (.value v) (mk B d' h')/\K v h'
def z4a(P:Program):Operand->Bool
 |.func f=>qbz P f
 |_=>false
def qb1(P:Program)(v:Value)(args:Array Value)(h:zb)(K:Value->zb->Prop):Prop:=match v with
 |.func (.func f) first cap=>qb0 P f (first++args++cap) h K
 |_=>False
theorem zt5{c:Call}{x:Operand}(ho:o.op=.call c)(hc:c.callee=.value x)(H:qb1 P (ρ x) (c.args.map ρ) h K)(B:World)(d:Nat):
  ∃v d' h',(execOp ρ o).run P (mk B d h)=.ok (.value v) (mk B d' h')/\K v h':=by
 unfold qb1 at H
 split at H
 ·rename_i f first cap hv
  obtain⟨v,d',h',h1,h2⟩:=H B d
  refine⟨v,d',h',?_,h2⟩
  simp only[execOp,ho,resolve,hc,hv,D7,Sem.run_bind,Sem.run_pure,Result.andThen_ok,invoke]
  exact h1
 ·exact H.elim
def z9q(P:Program)(t:TypeId):Bool:=match P.underlying t with
 |some (.map _ _)=>true
 |_=>false
def zru(P:Program)(o:Oper)(ρ:Operand->Value)(h:zb)(K:Value->zb->Prop):Prop:=
 match o.op with
 |.store t a x=>XRunU P (Al t (ρ a) (ρ x)) h λh'=>K undef h'
 |.mapUpdate t m k x=>XRunU P (CO t (ρ m) (ρ k) (ρ x)) h λh'=>K undef h'
 |.insert t m k x=>XRunU P (CO t (ρ m) (ρ k) (ρ x)) h λh'=>K undef h'
 |.entryStore t m s x=>XRunU P (Instr.entryStore t (ρ m) (ρ s) (ρ x)) h λh'=>K undef h'
 |.mapEntry t m k=>XRun P (Instr.mapEntry t (ρ m) (ρ k)) h λv h'=>typed P o.type v λv'=>K v' h'
 |.makeSlice t l c=>XRun P (Instr.makeSlice t (ρ l) (ρ c)) h λv h'=>typed P o.type v λv'=>K v' h'
 |.convert s t x=>XRun P (convert s t (ρ x)) h λv h'=>typed P o.type v λv'=>K v' h'
 |.typeAssert x t t' ok=>XRun P (Instr.typeAssert (ρ x) t t' ok) h λv h'=>typed P o.type v λv'=>K v' h'
 |.range t x=>bif z9q P t then XRun P (EU t (ρ x)) h λv h'=>∃q:Option Addr,v=.pointer q/\K (.pointer q) h' else wpN P (execOp ρ o) h λnx h'=>match nx with
   |.value v=>K v h'
   |.skip=>K undef h'
   |_=>False
 |.next x s=>bif s then wpN P (execOp ρ o) h λnx h'=>match nx with
   |.value v=>K v h'
   |.skip=>K undef h'
   |_=>False
  else XRun P (EZ (ρ x) s o.type) h λv h'=>(v=.tuple #[.bool false]/\K (.tuple #[.bool false]) h')\/∃k u:Value,v=.tuple #[.bool true,k,u]/\K (.tuple #[.bool true,k,u]) h'
 |.entry x=>XRun P (Instr.entry (ρ x)) h λv h'=>∃k u:Value,v=.tuple #[k,u]/\K (.tuple #[k,u]) h'
 |.call c=>match c.callee with
  |.builtin b=>match zji b c.argTypes o.type (c.args.map ρ)with
   |some s=>XRun P s h λv h'=>typed P o.type v λv'=>K v' h'
   |none=>False
  |.value x=>bif z4a P x then qb1 P (ρ x) (c.args.map ρ) h (λv h'=>typed P o.type v λv'=>K v' h')else bif Ji x then(wpN P (execOp ρ o) h λnx h'=>match nx with
   |.enter f args=>XC P f args h' λv O=>typed P o.type v λv'=>K v' O
   |.value v=>K v h'
   |_=>False)else z9h P (ρ x) (c.args.map ρ) λf args=>XC P f args h λv O=>typed P o.type v λv'=>K v' O
  |_=>False
 |_=>wpN P (execOp ρ o) h λnx h'=>match nx with
   |.value v=>K v h'
   |.skip=>K undef h'
   |_=>False
def z9r:Builtin->Bool
 |.append | .copy | .clear | .delete=>true
 |_=>false
def zwa(P:Program)(s t:TypeId):Bool:=match P.underlying s,P.underlying t with
 |some (.int _),some (.int _)=>true
 |some .string,some .string=>true
 |_,_=>false
def isQ(P:Program)(o:Oper):Bool:=
 match o.op with
 |.load _ _ | .indexAddr _ _ _ | .index _ _ _ | .slice _ _ _ _ _ | .binOp _ _ _ _ _ | .lookup _ _ _ _ | .nilCheck _=>true
 |.move _ | .assign _ | .unOp _ _ _ | .build _ _ | .makeFunc _ _ _ | .makeInterface _ _ | .extract _ _ | .field _ _ _ | .fieldAddr _ _ _=>true
 |.convert s t _=>zwa P s t
 |.call c=>match c.callee with
  |.builtin b=>!z9r b
  |_=>false
 |_=>false
def zwb(P:Program)(o:Oper)(ρ:Operand->Value)(b:Bool)(h:zb)(K:Value->zb->Prop):Prop:=
 match z9g P o.type with
 |some rt=>∃J:Value->zb->Prop,(b=true->zru P o ρ h J)/\(b=false->z03 rt λv=>J v h)/\(b=true->∀v h',J v h'->z03 rt λv'=>v=v')/\z9n rt λv=>∀h',J v h'->K v h'
 |none=>False
def stepW(P:Program)(o:Oper)(ρ:Operand->Value)(g:Option Bool)(h:zb)(K:Value->zb->Prop):Prop:=
 bif isQ P o then Zh P o ρ g h (λv=>K v h)else match g with
  |none=>zru P o ρ h K
  |some b=>zwb P o ρ b h K
theorem upon_value{next:Act->World->Prop}{Q:Exit->Act->World->Prop}{s:Sem Next}(h:s.run P w=.ok (.value v) w')(hn:next (a.put o.dst v) w'):
  o.upon P a next Q (s.run P w):=by rw[h];exact hn
theorem upon_skip{next:Act->World->Prop}{Q:Exit->Act->World->Prop}{s:Sem Next}(h:s.run P w=.ok .skip w')(hn:next (a.put o.dst undef) w'):
  o.upon P a next Q (s.run P w):=by rw[h];exact hn
theorem Yq{s:Sem Value}(h:s.run P w=.ok v w'):(s >>= λx=>(Dl (D2 x):Sem Next)).run P w=.ok (.value v) w':=by
 rw[Sem.run_bind,h];rfl
theorem zt6{s:Sem Unit}(h:s.run P w=.ok () w'):(s >>= λ_=>(Dl Next.skip:Sem Next)).run P w=.ok .skip w':=by
 rw[Sem.run_bind,h];rfl
theorem zek(H:zru P o ρ h K)(B:World)(d:Nat){next:Act->World->Prop}{Q:Exit->Act->World->Prop}
  (hn:∀v d' h',K v h'->next (a.put o.dst v) (mk B d' h')):o.upon P a next Q ((execOp ρ o).run P (mk B d h)):=by
 unfold zru at H
 split at H
 case h_1 t x y ho=>
  obtain⟨d',h',h1,h2⟩:=H B d
  exact upon_skip (by simp only[execOp,ho];exact zt6 h1) (hn _ _ _ h2)
 case h_2 t m k x ho=>
  obtain⟨d',h',h1,h2⟩:=H B d
  exact upon_skip (by simp only[execOp,ho];exact zt6 h1) (hn _ _ _ h2)
 case h_3 t m k x ho=>
  obtain⟨d',h',h1,h2⟩:=H B d
  exact upon_skip (by simp only[execOp,ho];exact zt6 h1) (hn _ _ _ h2)
 case h_4 t m s x ho=>
  obtain⟨d',h',h1,h2⟩:=H B d
  exact upon_skip (by simp only[execOp,ho];exact zt6 h1) (hn _ _ _ h2)
 case h_5 t m k ho=>
  obtain⟨v,d',h',h1,h2⟩:=H B d
  exact upon_value (by simp only[execOp,ho];exact Yq h1) (hn _ _ _ (xy h2))
 case h_6 t l c ho=>
  obtain⟨v,d',h',h1,h2⟩:=H B d
  exact upon_value (by simp only[execOp,ho];exact Yq h1) (hn _ _ _ (xy h2))
 case h_7 s t x ho=>
  obtain⟨v,d',h',h1,h2⟩:=H B d
  exact upon_value (by simp only[execOp,ho];exact Yq h1) (hn _ _ _ (xy h2))
 case h_8 x t t' ok ho=>
  obtain⟨v,d',h',h1,h2⟩:=H B d
  exact upon_value (by simp only[execOp,ho];exact Yq h1) (hn _ _ _ (xy h2))
 case h_9 t x ho=>
  cases hm:z9q P t with
  |true=>
   rw[hm]at H
   obtain⟨v,d',h',h1,q,rfl,h2⟩:=H B d
   exact upon_value (by simp only[execOp,ho];exact Yq h1) (hn _ _ _ h2)
  |false=>
   rw[hm]at H
   obtain⟨nx,h',h1,h2⟩:=zby H B d
   cases nx with
   |value v=>exact upon_value h1 (hn _ _ _ h2)
   |skip=>exact upon_skip h1 (hn _ _ _ h2)
   |_=>exact h2.elim
 case h_10 x s ho=>
  cases s with
  |true=>
   simp only[cond_true]at H
   obtain⟨nx,h',h1,h2⟩:=zby H B d
   cases nx with
   |value v=>exact upon_value h1 (hn _ _ _ h2)
   |skip=>exact upon_skip h1 (hn _ _ _ h2)
   |_=>exact h2.elim
  |false=>
   simp only[cond_false]at H
   obtain⟨v,d',h',h1,h2⟩:=H B d
   refine upon_value (v:=v) (w':=mk B d' h') (by simp only[execOp,ho];exact Yq h1) (hn _ _ _ ?_)
   rcases h2 with⟨rfl,h2⟩|⟨k,u,rfl,h2⟩ <;> exact h2
 case h_11 x ho=>
  obtain⟨v,d',h',h1,k,u,rfl,h2⟩:=H B d
  exact upon_value (by simp only[execOp,ho];exact Yq h1) (hn _ _ _ h2)
 case h_12 c ho=>
  split at H
  ·rename_i b hb
   split at H
   ·rename_i s hs
    obtain⟨v,d',h',h1,h2⟩:=H B d
    refine upon_value (w':=mk B d' h') ?_ (hn _ _ _ (xy h2))
    have key:execOp ρ o=s >>= λx=>(Dl (D2 x):Sem Next):=by
     simp only[execOp,ho,resolve,hb]
     unfold zji at hs
     split at hs <;> first
      |(simp only[Aa]at hs;subst hs;rfl)
      |cases hs
    rw[key]
    exact Yq h1
   ·exact H.elim
  ·rename_i x hx
   cases hex:z4a P x with
   |true=>
    rw[hex]at H
    obtain⟨v,d',h',h1,h2⟩:=zt5 ho hx H B d
    exact upon_value h1 (hn _ _ _ (xy h2))
   |false=>
   rw[hex]at H
   simp only[cond_false]at H
   cases hst:Ji x with
   |true=>
    rw[hst]at H
    obtain⟨nx,h',h1,h2⟩:=zby H B d
    cases nx with
    |enter f args=>
     rw[h1]
     refine(h2 B d).mono ?_
     rintro e w' ⟨v,d',O,rfl,rfl,h3⟩
     exact hn _ _ _ (xy h3)
    |value v=>exact upon_value h1 (hn _ _ _ h2)
    |_=>exact h2.elim
   |false=>
    rw[hst]at H
    simp only[cond_false]at H
    obtain⟨f,args,h1,h2⟩:=zjk ho hx H
    rw[h2]
    refine(h1 B d).mono ?_
    rintro e w' ⟨v,d',O,rfl,rfl,h3⟩
    exact hn _ _ _ (xy h3)
  ·exact H.elim
 case h_13=>
  obtain⟨nx,h',h1,h2⟩:=zby H B d
  cases nx with
  |value v=>exact upon_value h1 (hn _ _ _ h2)
  |skip=>exact upon_skip h1 (hn _ _ _ h2)
  |_=>exact h2.elim
theorem zps(H:stepW P o ρ g h K)(hg:gok g)(B:World)(d:Nat){next:Act->World->Prop}{Q:Exit->Act->World->Prop}
  (hn:∀v d' h',K v h'->next (a.put o.dst v) (mk B d' h')):o.upon P a next Q ((execOp ρ o).run P (mk B d h)):=by
 unfold stepW at H
 cases hq:isQ P o with
 |true=>
  rw[hq]at H
  obtain⟨v,h1,h2⟩:=zat H
  exact upon_value (h2 hg B d) (hn _ _ _ h1)
 |false=>
  rw[hq]at H
  cases g with
  |none=>exact zek H B d hn
  |some b=>
   have hb:b=true:=hg
   subst hb
   simp only[cond_false]at H
   unfold zwb at H
   split at H
   ·rename_i rt O
    obtain⟨J,h1,_,h3,h4⟩:=H
    refine zek (h1 rfl) B d λv d' h' hJ=>?_
    obtain⟨v',e1,e2⟩:=zv9 (h3 rfl v h' hJ) h4
    subst e1
    exact hn _ _ _ (e2 _ hJ)
   ·exact H.elim
theorem zpt(H:stepW P o ρ (some false) h K):∃v,K v h:=by
 unfold stepW at H
 cases hq:isQ P o with
 |true=>
  rw[hq]at H
  obtain⟨v,h1,_⟩:=zat H
  exact⟨v,h1⟩
 |false=>
  rw[hq]at H
  simp only[cond_false]at H
  unfold zwb at H
  split at H
  ·obtain⟨J,_,h2,_,h4⟩:=H
   obtain⟨v,e1,e2⟩:=zv9 (h2 rfl) h4
   exact⟨v,e2 _ e1⟩
  ·exact H.elim
end
section
variable {n:Nat} {e:Env} {a b:Act} {c:qb} {g:Option Bool} {P:Program} {o:Oper} {h:zb} {K:Value -> zb -> Prop} {ms:List Nat} {ρ:Operand -> Value}
def zau(e:Env):qb->Option (Option Bool)
 |[]=>some none
 |c=>match zv6 e c with
  |some b=>some (some b)
  |none=>none
theorem Qm(hs:Sat n e a)(h:zau e c=some g)(hv:valid (zu a) c):gok g:=by
 unfold zau at h
 split at h
 ·simp only[Aa]at h;subst h;trivial
 ·split at h
  ·rename_i b hb
   simp only[Aa]at h
   subst h
   exact(zas hs hb).2 hv
  ·cases h
theorem zt7(hs:Sat n e a)(h:zau e c=some g)(hv:¬valid (zu a) c):g=some false:=by
 unfold zau at h
 split at h
 ·exact absurd trivial hv
 ·split at h
  ·rename_i b hb
   simp only[Aa]at h
   subst h
   cases b with
   |false=>rfl
   |true=>exact absurd ((zas hs hb).1 rfl) hv
  ·cases h
def zwc(b:Bool):Value->Value->Value
 |.bool x,.bool y=>.bool (bif b then x else y)
 |x,y=>bif b then x else y
theorem zrv(b:Bool)(x y:Value):zwc b x y=if b=true then x else y:=by
 unfold zwc
 split <;> cases b <;> rfl
def orV:Option Value->Option Value->Option Value
 |some v,_=>some v
 |none,w=>w
def zwd(e:Env)(c:qb)(x a b:Operand)(K:Value->Prop):Prop:=
 match x with
 |.tmp s=>match look e s with
  |some (cs,.bool t)=>bif suf cs c then(match orV (zac e c a) (zac e ((s,true)::cs) a),orV (zac e c b) (zac e ((s,false)::cs) b)with
    |some va,some vb=>K (zwc t va vb)
    |_,_=>False)else False
  |_=>False
 |_=>False
theorem Jj{O:Act}(hs:Sat n e O){x a b:Operand}{K:Value->Prop}(H:zwd e c x a b K):
  ∃v,K v/\(valid (zu O) c->∃t,O.eval x=.bool t/\(if t=true then O.eval a else O.eval b)=v):=by
 unfold zwd at H
 split at H
 ·rename_i s
  split at H
  ·rename_i cs t hl
   cases hsf:suf cs c with
   |false=>rw[hsf]at H;exact H.elim
   |true=>
    rw[hsf]at H
    simp only[cond_true]at H
    split at H
    ·rename_i va vb ha hb
     refine⟨_,H,λhv=>⟨t,?_,?_⟩⟩
     ·exact(hs.all _ (Xp hl)).1 (Yp hsf hv)
     ·have Z:=Yp hsf hv
      have hx:zu O s=.bool t:=(hs.all _ (Xp hl)).1 Z
      rw[zrv]
      cases t with
      |true=>
       simp only[if_true]
       unfold orV at ha
       split at ha
       ·rename_i v _ h1
        simp only[Aa]at ha
        subst ha
        exact ji hs hv h1
       ·exact ji hs (c:=(s,true)::cs) ⟨hx,Z⟩ ha
      |false=>
       simp only[A0,if_false]
       unfold orV at hb
       split at hb
       ·rename_i v _ h1
        simp only[Aa]at hb
        subst hb
        exact ji hs hv h1
       ·exact ji hs (c:=(s,false)::cs) ⟨hx,Z⟩ hb
    ·exact H.elim
  ·exact H.elim
 ·exact H.elim
def opW(P:Program)(o:Oper)(e:Env)(c:qb)(h:zb)(K:Value->zb->Prop):Prop:=
 match o.op with
 |.pick x a b=>zwd e c x a b λv=>K v h
 |_=>bif wj o.op then(bif known e c o.op.operands.toList then(match zau e c with
   |some g=>stepW P o (rho e c) g h K
   |none=>False)else False)else False
def wR(P:Program)(n:Nat)(ops:Array Oper)(K:Env->zb->Prop):List Oper->Env->zb->Prop
 |[],e,h=>K (clean e) h
 |o::rest,e,h=>match zde ops e o.guard with
  |some c=>bif yc n c o.dst then opW P o e c h λv h'=>wR P n ops K rest (putO e o.dst c v) h' else False
  |none=>False
theorem zf7(H:opW P o e c h K)(hs:Sat n e a)(hv:valid (zu a) c)(B:World)(d:Nat)
  {next:Act->World->Prop} {Q:Exit->Act->World->Prop} (hn:∀v d' h',K v h'->next (a.put o.dst v) (mk B d' h')):o.wp P a (mk B d h) next Q:=by
 unfold opW at H
 unfold Oper.wp
 split at H
 ·rename_i x y z ho
  obtain⟨v,h1,h2⟩:=Jj hs H
  obtain⟨t,h3,h4⟩:=h2 hv
  refine upon_value (w':=mk B d h) (v:=v) ?_ (hn _ _ _ h1)
  simp only[execOp,ho,h3,asBool,Sem.run_bind,Sem.run_pure,Result.andThen_ok]
  rw[h4]
 ·cases hns:wj o.op with
  |false=>rw[hns]at H;exact H.elim
  |true=>
   rw[hns]at H
   cases hk:known e c o.op.operands.toList with
   |false=>rw[hk]at H;exact H.elim
   |true=>
    rw[hk]at H
    simp only[cond_true]at H
    split at H
    ·rename_i g hg
     rw[Q8 hs hv hns hk]
     exact zps H (Qm hs hg hv) B d hn
    ·exact H.elim
theorem z9s(H:opW P o e c h K)(hs:Sat n e a)(hv:¬valid (zu a) c):∃v,K v h:=by
 unfold opW at H
 split at H
 ·obtain⟨v,h1,_⟩:=Jj hs H
  exact⟨v,h1⟩
 ·cases hns:wj o.op with
  |false=>rw[hns]at H;exact H.elim
  |true=>
   rw[hns]at H
   cases hk:known e c o.op.operands.toList with
   |false=>rw[hk]at H;exact H.elim
   |true=>
    rw[hk]at H
    simp only[cond_true]at H
    split at H
    ·rename_i g hg
     rw[zt7 hs hg hv]at H
     exact zpt H
    ·exact H.elim
def yx:List Oper->List Nat
 |[]=>[]
 |o::l=>match o.dst with
  |some d=>d::yx l
  |none=>yx l
def Same(ms:List Nat)(a b:Act):Prop:=∀i,i∉ms->zu b i=zu a i
theorem Same.refl(ms:List Nat)(a:Act):Same ms a a:=λ_ _=>rfl
theorem Same.trans{a b c:Act}(h:Same ms a b)(k:Same ms b c):Same ms a c:=λi hi=>(k i hi).trans (h i hi)
theorem Same.mono{ms O:List Nat}(h:Same ms a b)(hs:∀x∈ms,x∈O):Same O a b:=λi hi=>h i λhm=>hi (hs i hm)
theorem Same.put(a:Act)(d:Option Nat)(v:Value)(h:∀i,d=some i->i∈ms):Same ms a (a.put d v):=by
 intro i hi
 cases d with
 |none=>rfl
 |some j=>exact qm λe=>hi (e ▸ h j rfl)
theorem Jk{P:Program}{n:Nat}{ops:Array Oper}{K:Env->zb->Prop}{Q:Exit->Act->World->Prop}(B:World):
  ∀(l:List Oper) (e:Env) (h:zb) (a:Act) (d:Nat),wR P n ops K l e h->Sat n e a->(∀e' a' d' h',Sat n e' a'->Same (yx l) a a'->K e' h'->Q .normal a' (mk B d' h'))->wpList P ops Q l a (mk B d h)
 |[],e,h,a,d,H,hs,hQ=>hQ _ _ _ _ hs.clean (Same.refl _ _) H
 |o::rest,e,h,a,d,H,hs,hQ=>by
  unfold wR at H
  split at H
  ·rename_i c hc
   cases hd:yc n c o.dst with
   |false=>rw[hd]at H;exact H.elim
   |true=>
    rw[hd]at H
    simp only[cond_true]at H
    have hw:=Q9 hs hc
    have ac:∀i,o.dst=some i->i∈yx (o::rest):=λi hi=>by simp[yx,hi]
    have aa:∀x∈yx rest,x∈yx (o::rest):=λx hx=>by
     unfold yx
     split
     ·exact Af _ hx
     ·exact hx
    have O:∀v u d' h',(valid (zu a) c->u=v)->(¬valid (zu a) c->u=undef)->wR P n ops K rest (putO e o.dst c v) h'->wpList P ops Q rest (a.put o.dst u) (mk B d' h'):=λv u d' h' h1 h2 h3=>
     Jk B rest _ _ _ _ h3 (hs.putO hd h1 h2) λe' a' ae af q1 q2 q3=>hQ e' a' ae af q1 ((Same.put a o.dst u ac).trans (q2.mono aa)) q3
    unfold wpList
    by_cases hv:valid (zu a) c
    ·rw[if_pos (hw.2 hv)]
     exact .inl (zf7 H hs hv B d λv d' h' hK=>O v v d' h' (λ_=>rfl) (λZ=>absurd hv Z) hK)
    ·rw[if_neg (λhx=>hv (hw.1 hx))]
     obtain⟨v,hK⟩:=z9s H hs hv
     exact O v undef d h (λZ=>absurd Z hv) (λ_=>rfl) hK
  ·exact H.elim
def z5h(P:Program)(o:Oper)(ρ:Operand->Value)(g:Option Bool)(h:zb)(K:Value->Prop):Prop:=
 match o.op with
 |.call c=>match c.callee with
  |.value x=>bif Ji x then(match Qe P (execOp ρ o)with
    |some (.enter f args)=>match z9g P o.type with
     |some rt=>z03 rt λv=>req g (XC P f args h λv' h'=>v'=v/\h'=h)/\K v
     |none=>False
    |_=>False)else(match z9g P o.type with
     |some rt=>z03 rt λv=>req g (z9h P (ρ x) (c.args.map ρ) λf args=>XC P f args h λv' h'=>v'=v/\h'=h)/\K v
     |none=>False)
  |_=>False
 |_=>False
theorem zpu{K:Value->Prop}(H:z5h P o ρ g h K):
  ∃v,K v/\(gok g->∃f args,(∀w,(execOp ρ o).run P w=.ok (.enter f args) w)/\XC P f args h λv' h'=>v'=v/\h'=h):=by
 unfold z5h at H
 split at H
 ·rename_i c ho
  split at H
  ·rename_i x hx
   cases hst:Ji x with
   |true=>
    rw[hst]at H
    simp only[cond_true]at H
    split at H
    ·rename_i f args he
     split at H
     ·obtain⟨v,h1,h2⟩:=zf1 H
      exact⟨v,h2,λhg=>⟨f,args,λw=>Wm he w,h1.out hg⟩⟩
     ·exact H.elim
    ·exact H.elim
   |false=>
    rw[hst]at H
    simp only[cond_false]at H
    split at H
    ·obtain⟨v,h1,h2⟩:=zf1 H
     refine⟨v,h2,λhg=>?_⟩
     obtain⟨f,args,h3,h4⟩:=zjk ho hx (h1.out hg)
     exact⟨f,args,h4,h3⟩
    ·exact H.elim
  ·exact H.elim
 ·exact H.elim
def zf8(o:Oper):Bool:=match o.op with
 |.call c=>match c.callee with
  |.builtin _=>false
  |_=>true
 |_=>false
def opQ(P:Program)(o:Oper)(e:Env)(c:qb)(h:zb)(O:Bool)(K:Value->Prop):Prop:=
 match o.op with
 |.pick x a b=>zwd e c x a b K
 |_=>bif wj o.op then(bif known e c o.op.operands.toList then(match zau e c with
   |some g=>bif zf8 o then(bif O then z5h P o (rho e c) g h K else False)else Zh P o (rho e c) g h K
   |none=>False)else False)else False
def wQ(P:Program)(n:Nat)(ops:Array Oper)(h:zb)(O:Bool)(K:Env->Prop):List Oper->Env->Prop
 |[],e=>K e
 |o::rest,e=>match zde ops e o.guard with
  |some c=>bif yc n c o.dst then opQ P o e c h O λv=>wQ P n ops h O K rest (putO e o.dst c v)else False
  |none=>False
def YQ(P:Program)(o:Oper)(a:Act)(B:World)(h:zb)(O:Bool)(v:Value):Prop:=
 (∀d,(execOp a.eval o).run P (mk B d h)=.ok (.value v) (mk B d h)) \/
 (O=true/\∃f args,(∀d,(execOp a.eval o).run P (mk B d h)=.ok (.enter f args) (mk B d h))/\XC P f args h λv' h'=>v'=v/\h'=h)
theorem znn{O:Bool}{K:Value->Prop}(H:opQ P o e c h O K)(hs:Sat n e a)(B:World):
  ∃v,K v/\(valid (zu a) c->YQ P o a B h O v):=by
 unfold opQ at H
 split at H
 ·rename_i x y z ho
  obtain⟨v,h1,h2⟩:=Jj hs H
  refine⟨v,h1,λhv=>?_⟩
  obtain⟨t,h3,h4⟩:=h2 hv
  refine .inl λd=>?_
  simp only[execOp,ho,h3,asBool,Sem.run_bind,Sem.run_pure,Result.andThen_ok]
  rw[h4]
 ·cases hns:wj o.op with
  |false=>rw[hns]at H;exact H.elim
  |true=>
   rw[hns]at H
   cases hk:known e c o.op.operands.toList with
   |false=>rw[hk]at H;exact H.elim
   |true=>
    rw[hk]at H
    simp only[cond_true]at H
    split at H
    ·rename_i g hg
     cases hc:zf8 o with
     |false=>
      rw[hc]at H
      obtain⟨v,h1,h2⟩:=zat H
      refine⟨v,h1,λhv=>.inl λd=>?_⟩
      rw[Q8 hs hv hns hk]
      exact h2 (Qm hs hg hv) B d
     |true=>
      rw[hc]at H
      cases O with
      |false=>exact H.elim
      |true=>
       simp only[cond_true]at H
       obtain⟨v,h1,h2⟩:=zpu H
       refine⟨v,h1,λhv=>?_⟩
       obtain⟨f,args,h3,h4⟩:=h2 (Qm hs hg hv)
       refine .inr ⟨rfl,f,args,λd=>?_,h4⟩
       rw[Q8 hs hv hns hk]
       exact h3 _
    ·exact H.elim
theorem zrw{P:Program}{n:Nat}{ops:Array Oper}{h:zb}{ac:Bool}{K:Env->Prop}{Q:Act->Prop}(B:World):
  ∀(l:List Oper) (e:Env) (a:Act),wQ P n ops h ac K l e->Sat n e a->(∀e' a',Sat n e' a'->Same (yx l) a a'->K e'->Q a')->wpQuiet P ops (λw=>∃d,w=mk B d h) Q l a
 |[],e,a,H,hs,hQ=>hQ _ _ hs (Same.refl _ _) H
 |o::rest,e,a,H,hs,hQ=>by
  unfold wQ at H
  split at H
  ·rename_i c hc
   cases hd:yc n c o.dst with
   |false=>rw[hd]at H;exact H.elim
   |true=>
    rw[hd]at H
    simp only[cond_true]at H
    have hw:=Q9 hs hc
    have ae:∀i,o.dst=some i->i∈yx (o::rest):=λi hi=>by simp[yx,hi]
    have aa:∀x∈yx rest,x∈yx (o::rest):=λx hx=>by
     unfold yx
     split
     ·exact Af _ hx
     ·exact hx
    obtain⟨v,hK,hy⟩:=znn H hs B
    have O:∀u,(valid (zu a) c->u=v)->(¬valid (zu a) c->u=undef)->wpQuiet P ops (λw=>∃d,w=mk B d h) Q rest (a.put o.dst u):=λu h1 h2=>
     zrw B rest _ _ hK (hs.putO hd h1 h2) λe' a' q1 q2 q3=>hQ e' a' q1 ((Same.put a o.dst u ae).trans (q2.mono aa)) q3
    unfold wpQuiet
    by_cases hv:valid (zu a) c
    ·rw[if_pos (hw.2 hv)]
     refine⟨v,?_,O v (λ_=>rfl) (λZ=>absurd hv Z)⟩
     rintro w ⟨d,rfl⟩
     unfold Oper.quietAt
     rcases hy hv with h1|⟨_,f,args,h1,h2⟩
     ·rw[h1 d];exact⟨rfl,rfl⟩
     ·rw[h1 d]
      refine⟨rfl,(h2 B d).mono ?_⟩
      rintro e' w'' ⟨v',d',h',rfl,rfl,rfl,rfl⟩
      exact⟨rfl,d',rfl⟩
    ·rw[if_neg (λhx=>hv (hw.1 hx))]
     exact O undef (λZ=>absurd Z hv) (λ_=>rfl)
  ·exact H.elim
def z5i(P:Program)(o:Oper)(ρ:Operand->Value)(g:Option Bool)(h:zb)(K:Value->Prop):Prop:=
 match o.op with
 |.call c=>match c.callee with
  |.value x=>bif Ji x then(match Qe P (execOp ρ o)with
    |some (.enter f args)=>match z9g P o.type with
     |some rt=>z03 rt λv=>req g (∀h1,Keep h.size h h1->XC P f args h1 λv' h'=>v'=v/\Keep h1.size h1 h')/\K v
     |none=>False
    |_=>False)else False
  |_=>False
 |_=>False
theorem zpv{K:Value->Prop}(H:z5i P o ρ g h K):
  ∃v,K v/\(gok g->∃f args,(∀w,(execOp ρ o).run P w=.ok (.enter f args) w)/\∀h1,Keep h.size h h1->XC P f args h1 λv' h'=>v'=v/\Keep h1.size h1 h'):=by
 unfold z5i at H
 split at H
 ·split at H
  ·rename_i x _
   cases hx:Ji x with
   |false=>rw[hx]at H;exact H.elim
   |true=>
    rw[hx]at H
    simp only[cond_true]at H
    split at H
    ·rename_i f args hv
     split at H
     ·obtain⟨v,h1,h2⟩:=zf1 H
      exact⟨v,h2,λhg=>⟨f,args,λw=>Wm hv w,h1.out hg⟩⟩
     ·exact H.elim
    ·exact H.elim
  ·exact H.elim
 ·exact H.elim
def opK(P:Program)(o:Oper)(e:Env)(c:qb)(h:zb)(K:Value->Prop):Prop:=
 match o.op with
 |.pick x a b=>zwd e c x a b K
 |_=>bif wj o.op then(bif known e c o.op.operands.toList then(match zau e c with
   |some g=>bif zf8 o then z5i P o (rho e c) g h K else bif zey o then Zh P o (rho e c) g h K else False
   |none=>False)else False)else False
def wK(P:Program)(n:Nat)(ops:Array Oper)(h:zb)(K:Env->Prop):List Oper->Env->Prop
 |[],e=>K e
 |o::rest,e=>match zde ops e o.guard with
  |some c=>bif yc n c o.dst then opK P o e c h λv=>wK P n ops h K rest (putO e o.dst c v)else False
  |none=>False
def YK(P:Program)(o:Oper)(a:Act)(B:World)(h:zb)(v:Value):Prop:=
 (∀d h',Keep h.size h h'->(execOp a.eval o).run P (mk B d h')=.ok (.value v) (mk B d h')) \/
 (∃f args,(∀d h',(execOp a.eval o).run P (mk B d h')=.ok (.enter f args) (mk B d h'))/\∀h1,Keep h.size h h1->XC P f args h1 λv' h'=>v'=v/\Keep h1.size h1 h')
theorem zwe{K:Value->Prop}(H:opK P o e c h K)(hs:Sat n e a)(B:World):
  ∃v,K v/\(valid (zu a) c->YK P o a B h v):=by
 unfold opK at H
 split at H
 ·rename_i x y z ho
  obtain⟨v,h1,h2⟩:=Jj hs H
  refine⟨v,h1,λhv=>?_⟩
  obtain⟨t,h3,h4⟩:=h2 hv
  refine .inl λd h' _=>?_
  simp only[execOp,ho,h3,asBool,Sem.run_bind,Sem.run_pure,Result.andThen_ok]
  rw[h4]
 ·cases hns:wj o.op with
  |false=>rw[hns]at H;exact H.elim
  |true=>
   rw[hns]at H
   cases hk:known e c o.op.operands.toList with
   |false=>rw[hk]at H;exact H.elim
   |true=>
    rw[hk]at H
    simp only[cond_true]at H
    split at H
    ·rename_i g hg
     cases hc:zf8 o with
     |false=>
      rw[hc]at H
      cases hf:zey o with
      |false=>rw[hf]at H;exact H.elim
      |true=>
       rw[hf]at H
       obtain⟨v,h1,h2⟩:=Xq hf H
       refine⟨v,h1,λhv=>.inl λd h' O=>?_⟩
       rw[Q8 hs hv hns hk]
       exact h2 (Qm hs hg hv) h' O B d
     |true=>
      rw[hc]at H
      obtain⟨v,h1,h2⟩:=zpv H
      refine⟨v,h1,λhv=>?_⟩
      obtain⟨f,args,h3,h4⟩:=h2 (Qm hs hg hv)
      refine .inr ⟨f,args,λd h'=>?_,h4⟩
      rw[Q8 hs hv hns hk]
      exact h3 _
    ·exact H.elim
theorem zrx{P:Program}{n:Nat}{ops:Array Oper}{h:zb}{K:Env->Prop}{Q:Act->Prop}(B:World):
  ∀(l:List Oper) (e:Env) (a:Act),wK P n ops h K l e->Sat n e a->(∀e' a',Sat n e' a'->Same (yx l) a a'->K e'->Q a')->wpQuiet P ops (λw=>∃d h',Keep h.size h h'/\w=mk B d h') Q l a
 |[],e,a,H,hs,hQ=>hQ _ _ hs (Same.refl _ _) H
 |o::rest,e,a,H,hs,hQ=>by
  unfold wK at H
  split at H
  ·rename_i c hc
   cases hd:yc n c o.dst with
   |false=>rw[hd]at H;exact H.elim
   |true=>
    rw[hd]at H
    simp only[cond_true]at H
    have hw:=Q9 hs hc
    have ae:∀i,o.dst=some i->i∈yx (o::rest):=λi hi=>by simp[yx,hi]
    have ac:∀x∈yx rest,x∈yx (o::rest):=λx hx=>by
     unfold yx
     split
     ·exact Af _ hx
     ·exact hx
    obtain⟨v,hK,hy⟩:=zwe H hs B
    have Z:∀u,(valid (zu a) c->u=v)->(¬valid (zu a) c->u=undef)->wpQuiet P ops (λw=>∃d h',Keep h.size h h'/\w=mk B d h') Q rest (a.put o.dst u):=λu h1 h2=>
     zrx B rest _ _ hK (hs.putO hd h1 h2) λe' a' q1 q2 q3=>hQ e' a' q1 ((Same.put a o.dst u ae).trans (q2.mono ac)) q3
    unfold wpQuiet
    by_cases hv:valid (zu a) c
    ·rw[if_pos (hw.2 hv)]
     refine⟨v,?_,Z v (λ_=>rfl) (λaa=>absurd hv aa)⟩
     rintro w ⟨d,h0,O,rfl⟩
     unfold Oper.quietAt
     rcases hy hv with h1|⟨f,args,h1,h2⟩
     ·rw[h1 d h0 O];exact⟨rfl,rfl⟩
     ·rw[h1 d h0]
      refine⟨rfl,(h2 h0 O B d).mono ?_⟩
      rintro e' w'' ⟨v',d',h',rfl,rfl,rfl,af⟩
      exact⟨rfl,d',h',O.trans af O.size,rfl⟩
    ·rw[if_neg (λhx=>hv (hw.1 hx))]
     exact Z undef (λaa=>absurd aa hv) (λ_=>rfl)
  ·exact H.elim
theorem zry{P:Program}{n:Nat}{ops:Array Oper}{h:zb}{K:Env->Prop}{Q:Act->Prop}(B:World)(d:Nat):
  ∀(l:List Oper) (e:Env) (a:Act),wQ P n ops h false K l e->Sat n e a->(∀e' a',Sat n e' a'->Same (yx l) a a'->K e'->Q a')->wpStill P ops (mk B d h) Q l a
 |[],e,a,H,hs,hQ=>hQ _ _ hs (Same.refl _ _) H
 |o::rest,e,a,H,hs,hQ=>by
  unfold wQ at H
  split at H
  ·rename_i c hc
   cases hd:yc n c o.dst with
   |false=>rw[hd]at H;exact H.elim
   |true=>
    rw[hd]at H
    simp only[cond_true]at H
    have hw:=Q9 hs hc
    have ac:∀i,o.dst=some i->i∈yx (o::rest):=λi hi=>by simp[yx,hi]
    have aa:∀x∈yx rest,x∈yx (o::rest):=λx hx=>by
     unfold yx
     split
     ·exact Af _ hx
     ·exact hx
    obtain⟨v,hK,hy⟩:=znn H hs B
    have O:∀u,(valid (zu a) c->u=v)->(¬valid (zu a) c->u=undef)->wpStill P ops (mk B d h) Q rest (a.put o.dst u):=λu h1 h2=>
     zry B d rest _ _ hK (hs.putO hd h1 h2) λe' a' q1 q2 q3=>hQ e' a' q1 ((Same.put a o.dst u ac).trans (q2.mono aa)) q3
    unfold wpStill
    by_cases hv:valid (zu a) c
    ·rw[if_pos (hw.2 hv)]
     unfold Oper.still
     rcases hy hv with h1|⟨h0,_⟩
     ·rw[h1 d,Oper.stillUpon_value];exact O v (λ_=>rfl) (λZ=>absurd hv Z)
     ·cases h0
    ·rw[if_neg (λhx=>hv (hw.1 hx))]
     exact O undef (λZ=>absurd Z hv) (λ_=>rfl)
  ·exact H.elim
end
section
variable {i n:Nat} {a b a0:Act} {o:Oper} {h h' h0:zb} {P:Program} {ρ:Operand -> Value} {ops:Array Oper} {listed:Array Bool} {tr md:Bool} {e:Env}
def memN:List Nat->Nat->Bool
 |[],_=>false
 |j::l,i=>bif Nat.beq i j then true else memN l i
theorem xn{l:List Nat}(h:memN l i=false):i∉l:=by
 induction l with
 |nil=>simp
 |cons j l ih=>
  simp only[memN]at h
  by_cases hb:Nat.beq i j=true
  ·simp[hb]at h
  ·simp only[hb,cond_false]at h
   simp only[Ad,not_or]
   exact⟨λe=>hb (by rw[e];simp),ih h⟩
def tmpsOf:List Operand->List Nat
 |[]=>[]
 |.tmp t::l=>t::tmpsOf l
 |_::l=>tmpsOf l
def Z4(ops:Array Oper)(o:Oper):List Nat:=(match o.guard with
 |some (j,_)=>match yw ops j with
  |some g=>[g]
  |none=>[]
 |none=>[])++tmpsOf o.op.operands.toList
def wv(ops:Array Oper)(k:Nat)(S:List Nat):Nat->Bool
 |0=>true
 |p+1=>bif (match yw ops p with
  |some t=>bif memN S t then Region.waitsFor .any ops k p else true
  |none=>true)then wv ops k S p else false
theorem qh{ops:Array Oper}{k:Nat}{S:List Nat}:∀{m:Nat},wv ops k S m=true->∀p t,p<m->yw ops p=some t->t∈S->Region.waitsFor .any ops k p=true
 |0,_,p,t,hp,_,_=>by omega
 |m+1,h,p,t,hp,hd,ht=>by
  simp only[wv]at h
  cases hb:(match yw ops m with
   |some t=>bif memN S t then Region.waitsFor .any ops k m else true
   |none=>true)with
  |false=>rw[hb]at h;cases h
  |true=>
   rw[hb]at h
   rcases AR p m with h1|h1
   ·exact qh h p t h1 hd ht
   ·have:p=m:=by omega
    subst this
    rw[hd]at hb
    simp only at hb
    cases hm:memN S t with
    |false=>exact absurd ht (xn hm)
    |true=>rw[hm]at hb;exact hb
def qi(ops:Array Oper):Nat->Bool
 |0=>true
 |j+1=>bif (match ops[j]? with
  |some o=>o.after.toList.all λe=>!(Region.binds .any e)||Nat.blt e.on j
  |none=>true)then qi ops j else false
theorem qj{ops:Array Oper}:∀{n:Nat},qi ops n=true->∀j o,j<n->ops[j]?=some o->∀e∈o.after,Region.binds .any e=true->e.on<j
 |0,_,j,_,hj,_,_,_,_=>by omega
 |n+1,h,j,o,hj,ho,e,he,hb=>by
  simp only[qi]at h
  cases hc:(match ops[n]? with
   |some o=>o.after.toList.all λe=>!(Region.binds .any e)||Nat.blt e.on n
   |none=>true)with
  |false=>rw[hc]at h;cases h
  |true=>
   rw[hc]at h
   rcases AR j n with h1|h1
   ·exact qj h j o h1 ho e he hb
   ·have:j=n:=by omega
    subst this
    rw[ho]at hc
    have:=AP.1 hc e (by simpa using he)
    rw[hb]at this
    simpa[Cz]using this
def zwf(ops:Array Oper)(d:Nat):Nat->Bool
 |0=>false
 |p+1=>bif (match yw ops p with
  |some t=>Nat.beq t d
  |none=>false)then true else zwf ops d p
def j8(ops:Array Oper):Nat->Bool
 |0=>true
 |p+1=>bif (match yw ops p with
  |some t=>!(zwf ops t p)
  |none=>true)then j8 ops p else false
theorem zdg{ops:Array Oper}{d:Nat}:∀{m:Nat},zwf ops d m=false->∀p,p<m->yw ops p≠some d
 |0,_,p,hp=>by omega
 |m+1,h,p,hp=>by
  simp only[zwf]at h
  cases hb:(match yw ops m with
   |some t=>Nat.beq t d
   |none=>false)with
  |true=>rw[hb]at h;cases h
  |false=>
   rw[hb]at h
   rcases AR p m with h1|h1
   ·exact zdg h p h1
   ·have:p=m:=by omega
    subst this
    intro e
    rw[e]at hb
    simp at hb
theorem qy{ops:Array Oper}:∀{m:Nat},j8 ops m=true->∀p q t,p<m->q<m->yw ops p=some t->yw ops q=some t->p=q
 |0,_,p,q,t,hp,_,_,_=>by omega
 |m+1,h,p,q,t,hp,hq,e1,e2=>by
  simp only[j8]at h
  cases hb:(match yw ops m with
   |some t=>!(zwf ops t m)
   |none=>true)with
  |false=>rw[hb]at h;cases h
  |true=>
   rw[hb]at h
   rcases AR p m with h1|h1 <;> rcases AR q m with h2|h2
   ·exact qy h p q t h1 h2 e1 e2
   ·have:q=m:=by omega
    subst this
    rw[e2]at hb
    simp only[Cb]at hb
    exact absurd e1 (zdg hb p h1)
   ·have:p=m:=by omega
    subst this
    rw[e1]at hb
    simp only[Cb]at hb
    exact absurd e2 (zdg hb q h2)
   ·omega
def zaj(o:Oper):Option Bool:=match o.op with
 |.fieldAddr _ _ _=>some true
 |.indexAddr _ _ _=>some true
 |.move _=>some true
 |.assign _=>match o.after.toList with
  |[]=>some true
  |_=>none
 |.nilCheck _=>some true
 |.slice _ _ _ _ _=>some true
 |.binOp _ _ _ _ _=>some true
 |.load _ _=>some false
 |_=>none
def ze(o:Oper):Bool:=match zaj o with
 |some _=>true
 |none=>false
def zm(o:Oper):Bool:=match zaj o with
 |some b=>!b
 |none=>false
def heavyL:Nat->List Oper->List Nat
 |_,[]=>[]
 |k,o::l=>bif ze o then heavyL (k+1) l else k::heavyL (k+1) l
def Yr(ops:Array Oper):List Nat->Bool
 |[]=>true
 |[_]=>true
 |i::j::l=>bif Region.waitsFor .any ops j i then Yr ops (j::l)else false
def j1(ops:Array Oper)(i:Nat):List Nat->Bool
 |[]=>false
 |j::l=>bif Region.waitsFor .any ops j i then true else j1 ops i l
def zf9(ops:Array Oper)(T:List Nat):Nat->Bool
 |0=>false
 |k+1=>bif (match ops[k]? with
  |some o=>bif zm o then !(j1 ops k T)else false
  |none=>false)then true else zf9 ops T k
def Zj(ops:Array Oper)(T:List Nat):Nat->Nat->Bool
 |0,k=>memN T k
 |f+1,k=>bif memN T k then true else(BE ops.size).any λp=>bif Region.waitsFor .any ops p k then Zj ops T f p else false
def z06(ops:Array Oper)(T:List Nat):Nat->Bool
 |0=>false
 |k+1=>bif (match ops[k]? with
  |some o=>bif zm o then !(Zj ops T ops.size k)else false
  |none=>false)then true else z06 ops T k
def zno(tr:Bool)(ops:Array Oper)(T:List Nat)(m:Nat):Bool:=bif tr then z06 ops T m else zf9 ops T m
def jm(l:List Oper):Bool:=l.all λo=>match o.guard with
 |none=>wj o.op
 |some _=>false
def Ys(ops:Array Oper):Nat->Bool
 |0=>true
 |k+1=>bif (match ops[k]? with
  |some o=>bif wv ops k (tmpsOf o.op.operands.toList) ops.size then(bif ze o then(heavyL 0 ops.toList).all λj=>!(Region.waitsFor .any ops k j)||(match yw ops j with
   |some t=>!(memN (tmpsOf o.op.operands.toList) t)
   |none=>true)else true)else false
  |none=>true)then Ys ops k else false
def mixB(ops:Array Oper):Bool:=bif jm ops.toList then(bif qi ops ops.size then(bif j8 ops ops.size then(bif Yr ops (heavyL 0 ops.toList)then Ys ops ops.size else false)else false)else false)else false
def wU(P:Program)(n:Nat)(h:zb)(K:Env->Prop):List Oper->Env->Prop
 |[],e=>K e
 |o::l,e=>bif ze o then(bif yc n [] o.dst then(bif wj o.op then(bif known e [] o.op.operands.toList then Zh P o (rho e []) none h λv=>wU P n h K l (putO e o.dst [] v)else False)else False)else False)else wU P n h K l e
def wT(P:Program)(n:Nat)(ops:Array Oper)(h0:zb)(K:Env->zb->Prop)(tr:Bool):List Nat->List Nat->Env->zb->Prop
 |_,[],e,h=>K (clean e) h
 |T,j::l,e,h=>match ops[j]? with
  |some o=>bif yc n [] o.dst then opW P o e [] h λv h'=>(bif zno tr ops (j::T) ops.size then Keep h0.size h0 h'/\wT P n ops h0 K tr (j::T) l (putO e o.dst [] v) h' else wT P n ops h0 K tr (j::T) l (putO e o.dst [] v) h')else False
  |none=>False
def qn:Nat->List Oper->(Nat->Value)->Act->Act
 |_,[],_,a=>a
 |k,o::l,f,a=>qn (k+1) l f (bif ze o then a.put o.dst (f k)else a)
theorem ym{a b:Act}:∀{l:List Operand},(∀t∈tmpsOf l,zu a t=zu b t)->∀x∈l,a.eval x=b.eval x
 |[],_,x,hx=>by cases hx
 |y::l,h,x,hx=>by
  rcases Ad.1 hx with rfl|hx
  ·cases x with
   |tmp t=>exact h t (by simp[tmpsOf])
   |const v=>rfl
   |global g=>rfl
   |func f=>rfl
  ·refine ym (l:=l) (λt ht=>h t ?_) x hx
   cases y <;> simp[tmpsOf,ht]
theorem yn(hs:wj o.op=true)(h:∀t∈tmpsOf o.op.operands.toList,zu a t=zu b t):execOp a.eval o=execOp b.eval o:=
 execOp_congr o (λcs b hb=>by rw[hb]at hs;cases hs) λx hx=>ym h x (by simpa using hx)
theorem zpw{p:Addr}(e:h'[p.block]?=h[p.block]?)(i:Nat):zj h' (p.add i)=zj h (p.add i):=by
 have hb:(p.add i).block=p.block:=by unfold Aj;split <;> rfl
 unfold zj;rw[hb,e]
theorem zbz{h h':zb}{p:Addr}(e:h'[p.block]?=h[p.block]?):∀{vs:List Value} {i:Nat},zd h p i vs->zd h' p i vs
 |[],_,_=>trivial
 |v::vs,i,⟨h1,h2⟩=>⟨(zpw e i).trans h1,zbz e h2⟩
theorem zpx{t:TypeId}{x:Value}{K:Value->Prop}(H:zk2 P h t x none K):∃v p,x=.pointer (some p)/\K v/\∀h',h'[p.block]?=h[p.block]?->QExec P (D5 t x) h' v:=by
 unfold zk2 at H
 split at H
 ·rename_i q a hv
  obtain⟨x,h1,h2⟩:=H
  refine⟨_,q,rfl,h2,λh' e=>zbw hv ?_⟩
  have h1:zj h q=some _:=h1
  unfold zj at h1 ⊢
  rw[e];exact h1
 ·rename_i q l hv
  obtain⟨vs,h0,⟨h1,h2⟩,_⟩:=Qi H (jw l)
  exact⟨_,q,rfl,h2,λh' e=>zbx hv h0 (zbz e h1)⟩
 ·exact H.elim
def LdOK(o:Oper)(ρ:Operand->Value)(h h':zb):Prop:=zm o=false\/Keep h.size h h'\/∀t a p,o.op=.load t a->ρ a=.pointer (some p)->h'[p.block]?=h[p.block]?
theorem LdOK.congr{ρ ρ':Operand->Value}(e:∀x∈o.op.operands.toList,ρ' x=ρ x)(H:LdOK o ρ h h'):LdOK o ρ' h h':=by
 rcases H with H|H|H
 ·exact .inl H
 ·exact .inr (.inl H)
 ·refine .inr (.inr λt a p ho hp=>H t a p ho ?_)
  rw[<-e a (by rw[ho];simp[Op.operands])];exact hp
theorem Xr(hq:ze o=true){K:Value->Prop}(H:Zh P o ρ none h K):
  ∃v,K v/\∀h',LdOK o ρ h h'->QExec P (execOp ρ o) h' (.value v):=by
 cases ho:o.op with
 |load t x=>
  have O:zey o=true:=by unfold zey;rw[ho]
  obtain⟨v1,k1,k2⟩:=Xq O H
  unfold Zh at H;rw[ho]at H
  simp only at H
  obtain⟨v,p,hx,h1,h2⟩:=zpx H
  have hv:v1=v:=by
   have a1:=k2 trivial h (Keep.refl _ _) default 0
   have a2:QExec P (execOp ρ o) h (.value v):=by simp only[execOp,ho];exact(h2 h rfl).val
   have a2:=a2 default 0
   rw[a1]at a2
   injection a2 with a2 _
   injection a2
  subst hv
  refine⟨v1,k1,λh' hk=>?_⟩
  rcases hk with hk|hk|hk
  ·unfold zm zaj at hk;rw[ho]at hk;cases hk
  ·exact k2 trivial h' hk
  ·have:=h2 h' (hk t x p ho hx)
   simp only[execOp,ho]
   exact this.val
 |fieldAddr t x i=>
  unfold Zh at H;rw[ho]at H
  obtain⟨v,h1,h2⟩:=zv H none
  exact⟨v,h1,λh' _=>h2 trivial h'⟩
 |indexAddr t x i=>
  unfold Zh at H;rw[ho]at H
  simp only at H
  cases he:Wq P t with
  |false=>rw[he]at H;exact H.elim
  |true=>
   rw[he]at H
   obtain⟨v,h1,h2⟩:=xm (xg he) H
   refine⟨v,h1,λh' _=>?_⟩
   simp only[execOp,ho]
   exact(h2 trivial h').val
 |move x=>
  unfold Zh at H;rw[ho]at H
  obtain⟨v,h1,h2⟩:=zv H none
  exact⟨v,h1,λh' _=>h2 trivial h'⟩
 |assign x=>
  unfold Zh at H;rw[ho]at H
  obtain⟨v,h1,h2⟩:=zv H none
  exact⟨v,h1,λh' _=>h2 trivial h'⟩
 |slice t x lo hi mx=>
  unfold Zh at H;rw[ho]at H
  simp only at H
  cases he:Wq P t with
  |false=>rw[he]at H;exact H.elim
  |true=>
   rw[he]at H
   obtain⟨v,h1,h2⟩:=Ya (λel Z=>xg he el (Or.inl Z)) H
   refine⟨v,h1,λh' _=>?_⟩
   simp only[execOp,ho]
   exact(h2 (show gok none from trivial) h').val
 |binOp op t x y t'=>
  unfold Zh at H;rw[ho]at H
  obtain⟨v,h1,h2⟩:=zfj ho H
  exact⟨v,h1,λh' _=>h2 trivial h'⟩
 |nilCheck x=>
  unfold Zh at H;rw[ho]at H
  simp only at H
  unfold qbh at H
  split at H
  ·rename_i p hx
   obtain⟨a,h1,h2⟩:=H
   have hp:=h1.out (g:=none) trivial
   subst hp
   refine⟨_,h2,λh' _ B d=>?_⟩
   simp only[execOp,ho,hx]
   rfl
  ·obtain⟨v,h1,h2⟩:=zv H none
   exact⟨v,h1,λh' _=>h2 trivial h'⟩
 |_=>unfold ze zaj at hq;rw[ho]at hq;cases hq
theorem qd(σ:Nat->Value):valid σ []:=by unfold valid;trivial
theorem Qj:∀{l:List Oper} {k:Nat} {f:Nat->Value} {a:Act},(qn k l f a).tmps.size=a.tmps.size/\(qn k l f a).defers=a.defers
 |[],_,_,_=>⟨rfl,rfl⟩
 |o::l,k,f,a=>by
  unfold qn
  have:=Qj (l:=l) (k:=k+1) (f:=f) (a:=bif ze o then a.put o.dst (f k)else a)
  rw[this.1,this.2]
  cases ze o with
  |true=>exact⟨size_put _ _ _,qc _ _ _⟩
  |false=>exact⟨rfl,rfl⟩
theorem zo{d:Option Nat}{u:Value}{s:Nat}(h:d≠some s):zu (a.put d u) s=zu a s:=by
 cases d with
 |none=>rfl
 |some t=>exact qm λe=>h (by rw[e])
theorem yd{s:Nat}:∀{l:List Oper} {k:Nat} {f:Nat->Value} {a:Act},(∀o∈l,ze o=true->o.dst≠some s)->zu (qn k l f a) s=zu a s
 |[],_,_,_,_=>rfl
 |o::l,k,f,a,h=>by
  unfold qn
  rw[yd λo' O=>h o' (Af _ O)]
  cases hq:ze o with
  |true=>exact zo (h o Aq hq)
  |false=>rfl
theorem Yb{P:Program}{n:Nat}{h:zb}{K:Env->Prop}:∀{l:List Oper} {k:Nat} {e:Env} {a:Act},wU P n h K l e->Sat n e a->∃(f:Nat->Value) (e':Env),K e'/\Sat n e' (qn k l f a) /\
  ∀i o,l[i]?=some o->ze o=true->wj o.op=true/\yc n [] o.dst=true/\∀h',LdOK o (qn k (l.take i) f a).eval h h'->QExec P (execOp (qn k (l.take i) f a).eval o) h' (.value (f (k+i)))
 |[],k,e,a,H,hs=>⟨λ_=>undef,e,H,hs,λi o h=>by simp at h⟩
 |o::l,k,e,a,H,hs=>by
  unfold wU at H
  cases hq:ze o with
  |false=>
   rw[hq]at H
   obtain⟨f,e',h1,h2,h3⟩:=Yb (k:=k+1) H hs
   refine⟨f,e',h1,by unfold qn;rw[hq];exact h2,λi o' hi O=>?_⟩
   cases i with
   |zero=>simp at hi;subst hi;rw[hq]at O;cases O
   |succ i=>
    have:=h3 i o' (by simpa using hi) O
    rw[B5]
    unfold qn
    rw[hq,show k+(i+1)=k+1+i by omega];exact this
  |true=>
   rw[hq]at H
   simp only[cond_true]at H
   cases hd:yc n [] o.dst with
   |false=>rw[hd]at H;exact H.elim
   |true=>
    rw[hd]at H
    simp only[cond_true]at H
    cases hns:wj o.op with
    |false=>rw[hns]at H;exact H.elim
    |true=>
     rw[hns]at H
     simp only[cond_true]at H
     cases hk:known e [] o.op.operands.toList with
     |false=>rw[hk]at H;exact H.elim
     |true=>
      rw[hk]at H
      simp only[cond_true]at H
      obtain⟨v,H1,H2⟩:=Xr hq H
      obtain⟨f,e',h1,h2,h3⟩:=Yb (k:=k+1) (a:=a.put o.dst v) H1 (hs.putO hd (λ_=>rfl) λhv=>absurd (qd _) hv)
      have hf:∀(m:List Oper) (j:Nat) (b:Act),qn (k+1+j) m (λx=>if x=k then v else f x) b=qn (k+1+j) m f b:=by
       intro m
       induction m with
       |nil=>intro j b;rfl
       |cons o' m ih=>
        intro j b
        unfold qn
        dsimp only
        rw[if_neg (show¬k+1+j=k by omega),show k+1+j+1=k+1+(j+1)by omega,ih]
      refine⟨λx=>if x=k then v else f x,e',h1,?_,λi o' hi O=>?_⟩
      ·unfold qn
       rw[hq,cond_true]
       dsimp only
       rw[if_pos rfl]
       have:=hf l 0 (a.put o.dst v)
       rw[Db]at this
       rw[this];exact h2
      ·cases i with
       |zero=>
        simp at hi;subst hi
        rw[CM,Db]
        dsimp only
        rw[if_pos rfl]
        refine⟨hns,hd,λh' hh=>?_⟩
        show QExec P (execOp a.eval o) h' _
        rw[Q8 hs (qd _) hns hk]
        exact H2 h' (LdOK.congr (λx hx=>(xf hs (qd _) hk x hx).symm) hh)
       |succ i=>
        have:=h3 i o' (by simpa using hi) O
        rw[B5]
        unfold qn
        rw[hq,cond_true]
        dsimp only
        rw[if_pos rfl]
        have e2:=hf (l.take i) 0 (a.put o.dst v)
        rw[Db]at e2
        rw[e2,if_neg (show¬k+(i+1)=k by omega),show k+(i+1)=k+1+i by omega]
        exact this
theorem Yt{next:Act->World->Prop}{Q:Exit->Act->World->Prop}{r:Result Next}(hb:b.defers=[])
  (H:o.upon P b (λc w=>c.defers=[]/\∀v,c=b.put o.dst v->next (a.put o.dst v) w) (λ_ _ _=>False) r):o.upon P a next Q r:=by
 have lo:¬LetsOut (λ(_:Exit) (_:Act) (_:World)=>False):=λh=>by
  obtain⟨_,_,h⟩:=h
  exact h
 cases r with
 |ok x w=>
  cases x with
  |value v=>exact H.2 v rfl
  |skip=>exact H.2 undef rfl
  |defer d=>
   have:=H.1
   rw[qc]at this;cases this
  |enter f args=>
   refine Calls.mono (show Calls P f args w _ from H) λe w' he=>?_
   cases e with
   |returned v=>exact he.2 v rfl
   |panicked c=>exact he.elim
   |outgrown=>exact absurd he lo
  |row row args=>exact Rows.mono (show Rows P row args w _ from H) λv w' he=>he.2 v rfl
  |_=>exact H
 |halt x w=>cases x <;> first|exact H.elim|exact H
theorem qq{j:Nat}:∀{l:List Oper} {k:Nat},j∈heavyL k l↔k<=j/\∃o,l[j-k]?=some o/\ze o=false
 |[],k=>by simp[heavyL]
 |o::l,k=>by
  unfold heavyL
  cases hq:ze o with
  |true=>
   rw[cond_true,qq (l:=l)]
   constructor
   ·rintro⟨h1,o',h2,h3⟩
    exact⟨by omega,o',by rw[show j-k=(j-(k+1))+1 by omega];simpa using h2,h3⟩
   ·rintro⟨h1,o',h2,h3⟩
    rcases Dr h1 with e|e
    ·subst e
     simp at h2;subst h2;rw[hq]at h3;cases h3
    ·exact⟨by omega,o',by rw[show j-k=(j-(k+1))+1 by omega]at h2;simpa using h2,h3⟩
  |false=>
   rw[cond_false,Ad,qq (l:=l)]
   constructor
   ·rintro(rfl|⟨h1,o',h2,h3⟩)
    ·exact⟨Ae _,o,by simp,hq⟩
    ·exact⟨by omega,o',by rw[show j-k=(j-(k+1))+1 by omega];simpa using h2,h3⟩
   ·rintro⟨h1,o',h2,h3⟩
    rcases Dr h1 with e|e
    ·exact .inl e.symm
    ·exact .inr ⟨by omega,o',by rw[show j-k=(j-(k+1))+1 by omega]at h2;simpa using h2,h3⟩
theorem yl:∀{l:List Oper} {k:Nat},(heavyL k l).Nodup
 |[],_=>Ek
 |o::l,k=>by
  unfold heavyL
  cases ze o with
  |true=>exact yl
  |false=>exact CF.2 ⟨λh=>by have:=(qq.1 h).1;omega,yl⟩
theorem qp{ops:Array Oper}:∀{m:Nat},Ys ops m=true->∀k o,k<m->ops[k]?=some o->wv ops k (tmpsOf o.op.operands.toList) ops.size=true/\(ze o=true->∀j∈heavyL 0 ops.toList,Region.waitsFor .any ops k j=true->∀t,yw ops j=some t->t∉tmpsOf o.op.operands.toList)
 |0,_,k,o,hk,_=>by omega
 |m+1,h,k,o,hk,ho=>by
  unfold Ys at h
  split at h
  ·rename_i o' O
   cases hs:wv ops m (tmpsOf o'.op.operands.toList) ops.size with
   |false=>rw[hs]at h;cases h
   |true=>
    rw[hs,cond_true]at h
    rcases AR k m with h1|h1
    ·refine qp (m:=m) ?_ k o h1 ho
     revert h
     cases(bif ze o' then(heavyL 0 ops.toList).all λj=>!(Region.waitsFor .any ops m j)||(match yw ops j with
      |some t=>!(memN (tmpsOf o'.op.operands.toList) t)
      |none=>true)else true) <;> intro h <;> first|exact h|cases h
    ·have:k=m:=by omega
     subst this
     have:o'=o:=Au (O.symm.trans ho)
     subst this
     refine⟨hs,λhq j hj hw t ht=>?_⟩
     rw[hq,cond_true]at h
     cases hall:(heavyL 0 ops.toList).all λj=>!(Region.waitsFor .any ops k j)||(match yw ops j with
      |some t=>!(memN (tmpsOf o'.op.operands.toList) t)
      |none=>true)with
     |false=>rw[hall]at h;cases h
     |true=>
      have:=AP.1 hall j hj
      rw[hw,ht]at this
      simp only[Bool.not_true,Ec,Cb]at this
      exact xn this
  ·rename_i O
   rw[cond_true]at h
   rcases AR k m with h1|h1
   ·exact qp h k o h1 ho
   ·have:k=m:=by omega
    subst this
    rw[O]at ho;cases ho
theorem Qo{ops:Array Oper}:∀{l:List Nat},Yr ops l=true->∀q i j,l[q]?=some i->l[q+1]?=some j->Region.waitsFor .any ops j i=true
 |[],_,q,i,j,h,_=>by simp at h
 |[_],_,q,i,j,_,h=>by simp at h
 |a::b::l,h,q,i,j,h1,h2=>by
  unfold Yr at h
  cases hw:Region.waitsFor .any ops b a with
  |false=>rw[hw]at h;cases h
  |true=>
   rw[hw,cond_true]at h
   cases q with
   |zero=>simp at h1 h2;subst h1;subst h2;exact hw
   |succ q=>exact Qo h q i j (by simpa using h1) (by simpa using h2)
theorem xo{ops:Array Oper}{i:Nat}:∀{l:List Nat},j1 ops i l=true->∃j∈l,Region.waitsFor .any ops j i=true
 |[],h=>by cases h
 |j::l,h=>by
  unfold j1 at h
  cases hw:Region.waitsFor .any ops j i with
  |true=>exact⟨j,Aq,hw⟩
  |false=>
   rw[hw,cond_false]at h
   obtain⟨j',h1,h2⟩:=xo h
   exact⟨j',Af _ h1,h2⟩
theorem Yu{ops:Array Oper}{T:List Nat}:∀{m:Nat},zf9 ops T m=false->∀k o,k<m->ops[k]?=some o->zm o=true->j1 ops k T=true
 |0,_,k,o,hk,_,_=>by omega
 |m+1,h,k,o,hk,ho,hl=>by
  unfold zf9 at h
  cases hb:(match ops[m]? with
   |some o=>bif zm o then !(j1 ops m T)else false
   |none=>false)with
  |true=>rw[hb]at h;cases h
  |false=>
   rw[hb,cond_false]at h
   rcases AR k m with h1|h1
   ·exact Yu h k o h1 ho hl
   ·have:k=m:=by omega
    subst this
    rw[ho]at hb
    simp only[hl,cond_true,Bool.not_eq_false']at hb
    exact hb
theorem Zm{ops:Array Oper}{T:List Nat}:∀{f k:Nat},Zj ops T f k=true->∀{listed:Array Bool},(∀i p,listed.getD i false=true->Region.waitsFor .any ops i p=true->listed.getD p false=true)->(∀j∈T,listed.getD j false=true)->listed.getD k false=true
 |0,k,h,_,_,hT=>by
  have hm:k∈T:=by
   unfold Zj at h
   exact Classical.byContradiction λhc=>by
    have:memN T k=false:=by
     clear h hT
     induction T with
     |nil=>rfl
     |cons x T ih=>
      simp only[Ad,not_or]at hc
      simp only[memN]
      have:Nat.beq k x=false:=by
       cases hb:Nat.beq k x with
       |false=>rfl
       |true=>exact absurd (Ag hb) hc.1
      rw[this,cond_false];exact ih hc.2
    rw[this]at h;cases h
  exact hT k hm
 |f+1,k,h,listed,hc,hT=>by
  unfold Zj at h
  cases hm:memN T k with
  |true=>exact Zm (f:=0) (k:=k) (by unfold Zj;exact hm) hc hT
  |false=>
   rw[hm,cond_false,D8]at h
   obtain⟨p,_,hp⟩:=h
   cases hw:Region.waitsFor .any ops p k with
   |false=>rw[hw]at hp;cases hp
   |true=>rw[hw,cond_true]at hp;exact hc p k (Zm hp hc hT) hw
theorem zdh{ops:Array Oper}{T:List Nat}:∀{m:Nat},z06 ops T m=false->∀k o,k<m->ops[k]?=some o->zm o=true->Zj ops T ops.size k=true
 |0,_,k,o,hk,_,_=>by omega
 |m+1,h,k,o,hk,ho,hl=>by
  unfold z06 at h
  cases hb:(match ops[m]? with
   |some o=>bif zm o then !(Zj ops T ops.size m)else false
   |none=>false)with
  |true=>rw[hb]at h;cases h
  |false=>
   rw[hb,cond_false]at h
   rcases AR k m with h1|h1
   ·exact zdh h k o h1 ho hl
   ·have:k=m:=by omega
    subst this
    rw[ho]at hb
    simp only[hl,cond_true]at hb
    simpa using hb
theorem xp{i p:Nat}(hi:i∈Region.ready .any ops listed)(hw:Region.waitsFor .any ops i p=true):listed.getD p false=true:=by
 obtain⟨oj,Z,e,he,hb,aa⟩:=Region.waitsFor_spec hw
 obtain⟨_,o,ho,O⟩:=mem_ready.1 hi
 have:oj=o:=Au (Z.symm.trans ho)
 subst this
 rw[<-aa];exact O e he hb
theorem qs(inv:HeadInv .any ops n listed){i p:Nat}(hi:listed.getD i false=true)(hw:Region.waitsFor .any ops i p=true):listed.getD p false=true:=by
 obtain⟨oj,O,e,he,hb,Z⟩:=Region.waitsFor_spec hw
 rw[<-Z];exact inv.closed i oj O hi e he hb
theorem Qp{p:Nat->Bool}{N:Nat}(h:∃k,k<N/\p k=false):∃k,k<N/\p k=false/\∀j,j<k->p j=true:=by
 obtain⟨k,h1,h2⟩:=h
 induction k using Nat.strongRecOn with
 |_ k ih=>
  by_cases hm:∃j,j<k/\p j=false
  ·obtain⟨j,h3,h4⟩:=hm
   exact ih j h3 (by omega) h4
  ·exact⟨k,h1,h2,λj hj=>by
    cases hb:p j with
    |true=>rfl
    |false=>exact absurd ⟨j,hj,hb⟩ hm⟩
theorem Ws(h:mixB ops=true):jm ops.toList=true/\qi ops ops.size=true/\j8 ops ops.size=true/\Yr ops (heavyL 0 ops.toList)=true/\Ys ops ops.size=true:=by
 unfold mixB at h
 cases h1:jm ops.toList <;> cases h2:qi ops ops.size <;> cases h3:j8 ops ops.size <;> cases h4:Yr ops (heavyL 0 ops.toList) <;> simp[h1,h2,h3,h4]at h ⊢
 exact h
theorem xz{l:List Oper}(h:jm l=true):∀o∈l,o.guard=none/\wj o.op=true:=by
 intro o ho
 have:=AP.1 h o ho
 cases hg:o.guard with
 |none=>rw[hg]at this;exact⟨rfl,this⟩
 |some g=>rw[hg]at this;cases this
theorem xq:∀{l m:List Oper} {k:Nat} {f:Nat->Value} {a:Act},qn k (l++m) f a=qn (k+l.length) m f (qn k l f a)
 |[],m,k,f,a=>rfl
 |o::l,m,k,f,a=>by
  have e:∀l',qn k (o::l') f a=qn (k+1) l' f (bif ze o then a.put o.dst (f k)else a):=λ_=>rfl
  rw[A3,e,e,xq,show k+1+l.length=k+(o::l).length by simp;omega]
theorem toL(ho:ops[i]?=some o):ops.toList[i]?=some o:=by rw[AU];exact ho
theorem ofL(ho:ops.toList[i]?=some o):ops[i]?=some o:=by rw[AU]at ho;exact ho
structure StM (P:Program) (n:Nat) (ops:Array Oper) (h0:zb) (K:Env->zb->Prop) (tr:Bool) (f:Nat->Value) (a0:Act) (listed:Array Bool) (a b:Act) (e:Env) (h:zb) (done todo:List Nat):Prop where
 inv:HeadInv .any ops ops.size listed
 ag:∀s,(∀i o,ops[i]?=some o->ze o=true->listed.getD i false=false->o.dst≠some s)->zu a s=zu b s
 sz:a.tmps.size=n
 ad:a.defers=[]
 sb:Sat n e b
 qv:∀i o t,ops[i]?=some o->ze o=true->o.dst=some t->zu b t=f i/\t<n
 qx:∀i o,ops[i]?=some o->ze o=true->∀h',(zm o=false\/Keep h0.size h0 h')->QExec P (execOp b.eval o) h' (.value (f i))
 tt:heavyL 0 ops.toList=done.reverse++todo
 ch:∀j,j∈heavyL 0 ops.toList->(listed.getD j false=true↔j∈done)
 wt:wT P n ops h0 K tr done todo e h
 kp:∀i o,ops[i]?=some o->zm o=true->listed.getD i false=false->Keep h0.size h0 h
 sm:Same (yx ops.toList) a0 a
theorem Zs{o:Oper}:∀{l:List Oper},o∈l->∀i,o.dst=some i->i∈yx l
 |[],h,_,_=>by cases h
 |x::l,h,i,hi=>by
  unfold yx
  rcases Ad.1 h with rfl|h
  ·rw[hi];exact Aq
  ·have:=Zs h i hi
   split
   ·exact Af _ this
   ·exact this
theorem zk{k:Nat}(h:ops[k]?=some o):yw ops k=o.dst:=by simp[yw,h]
theorem zpy{K:Env->zb->Prop}{Q:Exit->Act->World->Prop}(B:World)(a7:mixB ops=true){f:Nat->Value}
  (hQ:∀e' a' d' h',Sat n e' a'->Same (yx ops.toList) a0 a'->K e' h'->Q .normal a' (mk B d' h')):
  ∀(N:Nat) (U:List Nat) (listed:Array Bool) (a b:Act) (e:Env) (h:zb) (d:Nat) (done todo:List Nat),U.length=N->U.Nodup->(∀k,k∈U↔k<ops.size/\listed.getD k false=false) ->
   StM P n ops h0 K tr f a0 listed a b e h done todo->wpAny P .any ops Q N listed a (mk B d h):=by
 obtain⟨bE,aJ,bC,ap,al⟩:=Ws a7
 have bc:∀(i:Nat) (o:Oper),ops[i]?=some o->o.guard=none/\wj o.op=true:=λi o ho=>xz bE o (by
  obtain⟨aa,e⟩:=Ac.1 ho
  rw[<-e];simp)
 have bm:∀{listed:Array Bool} {a b:Act} {e:Env} {h:zb} {d:Nat} {done todo:List Nat},(∀k,k<ops.size->listed.getD k false=true)->StM P n ops h0 K tr f a0 listed a b e h done todo->Q .normal a (mk B d h):=by
  intro listed a b e h d done todo ac S
  have ai:todo=[]:=by
   cases todo with
   |nil=>rfl
   |cons j l=>
    have hj:j∈heavyL 0 ops.toList:=by rw[S.tt];simp
    have aa:j<ops.size:=by
     obtain⟨_,o,ho,_⟩:=qq.1 hj
     have:=(Az.1 ho).1
     simpa using this
    have hd:=(S.ch j hj).1 (ac j aa)
    have hn:=yl (l:=ops.toList) (k:=0)
    rw[S.tt,A6]at hn
    exact absurd rfl (hn.2.2 j (by simpa using hd) j (by simp))
  have hw:=S.wt
  rw[ai]at hw
  unfold wT at hw
  have hv:∀s,zu a s=zu b s:=λs=>S.ag s λi o ho hq hl=>by
   rw[ac i (Ac.1 ho).1]at hl;cases hl
  have hs:Sat n e a:=⟨S.ad,S.sz,λx hx=>by
   have:=S.sb.all x hx
   have e1:zu a=zu b:=funext hv
   rw[e1];exact this⟩
  exact hQ _ _ _ _ hs.clean S.sm hw
 intro N
 induction N with
 |zero=>
  intro U listed a b e h d done todo hU _ ae S
  have bz:U=[]:=Cd.1 hU
  subst bz
  have ac:∀k,k<ops.size->listed.getD k false=true:=λk hk=>by
   cases hb:listed.getD k false with
   |true=>rfl
   |false=>exact absurd ((ae k).2 ⟨hk,hb⟩) (by simp)
  refine⟨?_,bm ac S⟩
  rw[CJ]
  intro j hj
  obtain⟨h1,o,ho,_⟩:=mem_ready.1 hj
  have aa:=(Ac.1 ho).1
  have:=ac j aa
  have h2:=getD_both h1
  rw[this]at h2;cases h2
 |succ N ih=>
  intro U listed a b e h d done todo hU aH ae S
  have bq:∃k,k<ops.size/\listed.getD k false=false:=by
   cases U with
   |nil=>cases hU
   |cons k U=>exact⟨k,(ae k).1 Aq⟩
  refine⟨λhr=>?_,λi hi=>?_⟩
  ·exfalso
   obtain⟨k,ay,aM,bp⟩:=Qp bq
   have:k∈Region.ready .any ops listed:=mem_ready.2 ⟨by rw[<-aM];simp[S.inv.size,ay],ops[k],AK ay,λx hx hb=>bp _ (qj aJ k ops[k] ay (AK ay) x hx hb)⟩
   rw[hr]at this;cases this
  ·obtain⟨be,o,ho,ac⟩:=mem_ready.1 hi
   have aB:listed.getD i false=false:=getD_both be
   have aa:i<ops.size:=(Ac.1 ho).1
   obtain⟨hg,bu⟩:=bc i o ho
   have aE:i<listed.size:=by rw[S.inv.size];exact aa
   have a1:(U.erase i).length=N:=by rw[CL ((ae i).2 ⟨aa,aB⟩),hU];rfl
   have an:(U.erase i).Nodup:=aH.erase i
   have am:∀k,k∈U.erase i↔k<ops.size/\(listed.setIfInBounds i true).getD k false=false:=λk=>by
    rw[aH.mem_erase_iff,ae k]
    by_cases hk:i=k
    ·subst hk;simp[aE]
    ·rw[getD_set_ne false hk];exact⟨λhx=>hx.2,λhx=>⟨λe=>hk e.symm,hx⟩⟩
   have ak:=S.inv.set hi aa
   have af:∀k,k≠i->(listed.setIfInBounds i true).getD k false=listed.getD k false:=λk hk=>getD_set_ne false (Ne.symm hk)
   have aj:(listed.setIfInBounds i true).getD i false=true:=by simp[aE]
   obtain⟨au,bI⟩:=qp al i o aa ho
   have a8:∀t∈tmpsOf o.op.operands.toList,zu a t=zu b t:=λt ht=>S.ag t λk ok O hq hl hd=>by
    have hw:=qh au k t (Ac.1 O).1 (by rw[zk O,hd]) ht
    rw[xp hi hw]at hl;cases hl
   have aI:=yn bu a8
   unfold wpOp
   rw[ho]
   simp only
   have aO:BN o (yielded ops a.tmps)=true:=by unfold BN;rw[hg]
   rw[if_pos aO]
   left
   unfold Oper.wp
   rw[aI]
   cases hq:ze o with
   |true=>
    have hx:=S.qx i o ho hq h (by
     cases hl:zm o with
     |false=>exact .inl rfl
     |true=>exact .inr (S.kp i o ho hl aB)) B d
    rw[hx,Oper.upon_value]
    have aU:i∉heavyL 0 ops.toList:=λhm=>by
     obtain⟨_,o',aY,bh⟩:=qq.1 hm
     rw[Cm]at aY
     have:o'=o:=by
      have h2:ops[i]?=some o':=ofL aY
      exact Au (h2.symm.trans ho)
     subst this;rw[hq]at bh;cases bh
    refine ih _ _ _ b e h d done todo a1 an am { S with inv:=ak,ag:=λs hs=>?_,sz:=by rw[size_put];exact S.sz,ad:=by rw[qc];exact S.ad,ch:=λj hj=>?_,kp:=λk ok O hl hk=>?_,sm:=S.sm.trans (Same.put a o.dst _ λt ht=>Zs (by
     obtain⟨bF,e2⟩:=Ac.1 ho
     rw[<-e2];simp) t ht) }
    ·by_cases hd:o.dst=some s
     ·obtain⟨hv,ar⟩:=S.qv i o s ho hq hd
      rw[hd,qt (by rw[S.sz];exact ar),hv]
     ·rw[zo hd]
      refine S.ag s λk ok O Z aN=>?_
      by_cases ah:k=i
      ·subst ah
       have:ok=o:=Au (O.symm.trans ho)
       subst this;exact hd
      ·exact hs k ok O Z (by rw[af k ah];exact aN)
    ·have:j≠i:=λe=>aU (e ▸ hj)
     rw[af j this];exact S.ch j hj
    ·by_cases ah:k=i
     ·subst ah;rw[aj]at hk;cases hk
     ·rw[af k ah]at hk;exact S.kp k ok O hl hk
   |false=>
    have aP:i∈heavyL 0 ops.toList:=qq.2 ⟨CW _,o,by rw[Cm];exact toL ho,hq⟩
    have aF:=yl (l:=ops.toList) (k:=0)
    have ax:i∉done:=λhd=>by rw[(S.ch i aP).2 hd]at aB;cases aB
    have ai:∃rest,todo=i::rest:=by
     have aV:i∈todo:=by
      have:=aP
      rw[S.tt,An]at this
      rcases this with h1|h1
      ·exact absurd (by simpa using h1) ax
      ·exact h1
     cases todo with
     |nil=>cases aV
     |cons j rest=>
      rcases Ad.1 aV with rfl|hr
      ·exact⟨rest,rfl⟩
      ·exfalso
       obtain⟨m,hm,em⟩:=Bf hr
       have hp:∃pr,(j::rest)[m]?=some pr:=⟨_,Ai (by simp;omega)⟩
       obtain⟨pr,aZ⟩:=hp
       have hw:=Qo ap (done.reverse.length+m) pr i (by rw[S.tt,Bb (by omega),Nat.add_sub_cancel_left];exact aZ) (by
        rw[S.tt,Bb (by omega),show done.reverse.length+m+1-done.reverse.length=m+1 by omega,List.getElem?_cons_succ,Ai hm,em])
       have aG:pr∈j::rest:=Ct aZ
       have bj:pr∈heavyL 0 ops.toList:=by rw[S.tt];exact AB _ aG
       have hd:=(S.ch pr bj).1 (xp hi hw)
       rw[S.tt,A6]at aF
       exact aF.2.2 pr (by simpa using hd) pr aG rfl
    obtain⟨rest,rfl⟩:=ai
    have hW:=S.wt
    unfold wT at hW
    rw[ho]at hW
    simp only at hW
    cases hd:yc n [] o.dst with
    |false=>rw[hd]at hW;exact hW.elim
    |true=>
     rw[hd,cond_true]at hW
     refine Yt (b:=b) S.sb.defers ?_
     refine zf7 hW S.sb (qd _) B d λv d' h' hK=>⟨by rw[qc];exact S.sb.defers,λv2 bA=>?_⟩
     have bH:b.put o.dst v2=b.put o.dst v:=bA.symm
     have az:∀j,j∈heavyL 0 ops.toList->((listed.setIfInBounds i true).getD j false=true↔j∈i::done):=λj hj=>by
      by_cases aL:j=i
      ·subst aL;rw[aj];simp
      ·rw[af j aL,S.ch j hj];simp[aL]
     have aS:zno tr ops (i::done) ops.size=false->∀k ok,ops[k]?=some ok->zm ok=true->(listed.setIfInBounds i true).getD k false=true:=λhl k ok O aD=>by
      have ba:∀j∈i::done,(listed.setIfInBounds i true).getD j false=true:=λj hj=>by
       rcases Ad.1 hj with rfl|hj
       ·exact aj
       ·exact getD_set_true ((S.ch j (by rw[S.tt];simp[hj])).2 hj)
      cases tr with
      |false=>
       obtain⟨j,hj,hw⟩:=xo (Yu hl k ok (Ac.1 O).1 O aD)
       exact qs ak (ba j hj) hw
      |true=>exact Zm (zdh hl k ok (Ac.1 O).1 O aD) (λi p h1 h2=>qs ak h1 h2) ba
     have a6:wT P n ops h0 K tr (i::done) rest (putO e o.dst [] v) h'/\(∀k ok,ops[k]?=some ok->zm ok=true->(listed.setIfInBounds i true).getD k false=false->Keep h0.size h0 h'):=by
      cases hl:zno tr ops (i::done) ops.size with
      |true=>rw[hl,cond_true]at hK;exact⟨hK.2,λ_ _ _ _ _=>hK.1⟩
      |false=>rw[hl,cond_false]at hK;exact⟨hK,λk ok O aD hf=>by rw[aS hl k ok O aD]at hf;cases hf⟩
     have aQ:∀k ok t,ops[k]?=some ok->ze ok=true->ok.dst=some t->o.dst≠some t:=λk ok t O Z aA aC=>by
      have:=qy bC k i t (Ac.1 O).1 aa (by rw[zk O,aA]) (by rw[zk ho,aC])
      subst this
      have:ok=o:=Au (O.symm.trans ho)
      subst this;rw[hq]at Z;cases Z
     refine ih _ _ _ (b.put o.dst v) (putO e o.dst [] v) h' d' (i::done) rest a1 an am ⟨ak,λs hs=>?_,by rw[size_put];exact S.sz,by rw[qc];exact S.ad,S.sb.putO hd (λ_=>rfl) λhv=>absurd (qd _) hv,λk ok t O Z aA=>?_,λk ok O Z bD hh=>?_,by rw[S.tt];simp,az,a6.1,a6.2,S.sm.trans (Same.put a o.dst _ λt ht=>Zs (by
      obtain⟨bF,e2⟩:=Ac.1 ho
      rw[<-e2];simp) t ht)⟩
     ·have bB:∀u,(∀k ok,ops[k]?=some ok->ze ok=true->listed.getD k false=false->ok.dst≠some s)->o.dst≠some s->zu (a.put o.dst u) s=zu (b.put o.dst v) s:=λu h1 h2=>by
       rw[zo h2,zo h2];exact S.ag s h1
      have bG:∀k ok,ops[k]?=some ok->ze ok=true->listed.getD k false=false->ok.dst≠some s:=λk ok O Z aN=>by
       by_cases ah:k=i
       ·subst ah
        have:ok=o:=Au (O.symm.trans ho)
        subst this;rw[hq]at Z;cases Z
       ·exact hs k ok O Z (by rw[af k ah];exact aN)
      by_cases aT:o.dst=some s
      ·rw[<-bH,aT]
       have ar:s<n:=by
        rw[aT]at hd
        unfold yc at hd
        simp at hd;exact hd.2
       rw[qt (by rw[S.sz];exact ar),qt (by rw[S.sb.size];exact ar)]
      ·exact bB v2 bG aT
     ·have:=S.qv k ok t O Z aA
      rw[zo (aQ k ok t O Z aA)];exact this
     ·have aM:=bc k ok O
      rw[yn (b:=b) aM.2 λt ht=>?_]
      ·exact S.qx k ok O Z bD hh
      ·refine zo λaC=>?_
       obtain⟨bn,bo⟩:=qp al k ok (Ac.1 O).1 O
       have hw:=qh bn i t aa (by rw[zk ho,aC]) ht
       exact bo Z i aP hw t (by rw[zk ho,aC]) ht
theorem mix_sound{K:Env->zb->Prop}{Q:Exit->Act->World->Prop}(B:World)(ac:mixB ops=true)
  (H:wU P n h (λe'=>wT P n ops h K tr [] (heavyL 0 ops.toList) e' h) ops.toList e) (hs:Sat n e a)
  (hQ:∀e' a' d' h',Sat n e' a'->Same (yx ops.toList) a a'->K e' h'->Q .normal a' (mk B d' h')) (d:Nat):wpAny P .any ops Q ops.size (Bc ops.size false) a (mk B d h):=by
 obtain⟨aA,ae,ax,am,ai⟩:=Ws ac
 obtain⟨f,e1,HT,ak,hf⟩:=Yb (k:=0) H hs
 have hl:∀(i:Nat) (o:Oper),ops[i]?=some o->ops.toList[i]?=some o:=λi o ho=>toL ho
 have O:∀i,qn 0 ops.toList f a=qn (0+(ops.toList.take i).length) (ops.toList.drop i) f (qn 0 (ops.toList.take i) f a):=λi=>by
  rw[<-xq,BD]
 refine zpy B ac (f:=f) hQ ops.size (BE ops.size) _ a (qn 0 ops.toList f a) e1 h d [] (heavyL 0 ops.toList) DN Dm (λk=>by rw[BX,getD_replicate_false];simp) ⟨⟨by simp,λj oj _ hl=>(by rw[getD_replicate_false]at hl;cases hl),λt ht aB=>by omega⟩,λs ay=>?_,hs.size,hs.defers,ak,λi o t ho hq hd=>?_,λi o ho hq h' hh=>?_,by simp,λj hj=>by rw[getD_replicate_false];simp,HT,λ_ _ _ _ _=>Keep.refl _ _,Same.refl _ _⟩
 ·refine(yd λo ho hq=>?_).symm
  obtain⟨i,hi,e⟩:=Bf ho
  exact ay i o (ofL (by rw[Ai hi,e])) hq (getD_replicate_false _ _)
 ·obtain⟨h1,h2,h3⟩:=hf i o (hl i o ho) hq
  have al:t<n:=by
   rw[hd]at h2
   unfold yc at h2
   simp at h2;exact h2.2
  refine⟨?_,al⟩
  have aa:=(Ac.1 ho).1
  have aj:(ops.toList.take i).length=i:=by simp;omega
  rw[O i,aj,AD]
  have ap:ops.toList.drop i=o::ops.toList.drop (i+1):=by
   have:=(Az.1 (hl i o ho))
   rw[AL this.1,this.2]
  rw[ap]
  unfold qn
  rw[hq,cond_true,yd λo' af ar ah=>?_]
  ·rw[hd,qt (by rw[Qj.1,hs.size];exact al)]
  ·obtain⟨m,hm,em⟩:=Bf af
   have Z:ops[i+1+m]?=some o':=by
    have:ops.toList[i+1+m]?=some o':=by rw[<-AE,Ai hm,em]
    exact ofL this
   have:=qy ax i (i+1+m) t aa (Ac.1 Z).1 (by rw[zk ho,hd]) (by rw[zk Z,ah])
   omega
 ·obtain⟨h1,h2,h3⟩:=hf i o (hl i o ho) hq
  have:=h3 h' (hh.imp id Or.inl)
  rw[AD]at this
  rw[yn h1 λt ht=>?_]
  ·exact this
  ·have aa:=(Ac.1 ho).1
   rw[O i]
   refine yd λo' af ar ah=>?_
   obtain⟨m,hm,em⟩:=Bf af
   have Z:ops[i+m]?=some o':=by
    have:ops.toList[i+m]?=some o':=by rw[<-AE,Ai hm,em]
    exact ofL this
   obtain⟨au,_⟩:=qp ai i o aa ho
   have hw:=qh au (i+m) t (Ac.1 Z).1 (by rw[zk Z,ah]) ht
   obtain⟨oj,an,x,hx,hb,az⟩:=Region.waitsFor_spec hw
   have:=qj ae i oj aa an x hx hb
   omega
def zel(j:Nat):List Nat->List Nat
 |[]=>[]
 |k::l=>bif Nat.beq k j then zel j l else k::zel j l
theorem Jl{j x:Nat}:∀{l:List Nat},x∈zel j l↔x∈l/\x≠j
 |[]=>by simp[zel]
 |k::l=>by
  simp only[zel]
  cases hb:Nat.beq k j with
  |true=>
   have:=Ag hb
   subst this
   rw[cond_true,Jl,Ad]
   exact⟨λh=>⟨.inr h.1,h.2⟩,λh=>⟨h.1.resolve_left h.2,h.2⟩⟩
  |false=>
   have O:k≠j:=λe=>by rw[e]at hb;simp at hb
   rw[cond_false,Ad,Ad,Jl]
   constructor
   ·rintro(rfl|h)
    ·exact⟨.inl rfl,O⟩
    ·exact⟨.inr h.1,h.2⟩
   ·rintro⟨rfl|h,h2⟩
    ·exact .inl rfl
    ·exact .inr ⟨h,h2⟩
theorem Xs{j:Nat}:∀{l:List Nat},l.Nodup->(zel j l).Nodup
 |[],h=>h
 |k::l,h=>by
  simp only[zel]
  rw[CF]at h
  cases Nat.beq k j with
  |true=>exact Xs h.2
  |false=>
   rw[cond_false,CF]
   exact⟨λhm=>h.1 (Jl.1 hm).1,Xs h.2⟩
theorem zwg{j:Nat}:∀{l:List Nat},(zel j l).length<=l.length
 |[]=>Ae _
 |k::l=>by
  simp only[zel]
  have:=zwg (j:=j) (l:=l)
  cases Nat.beq k j with
  |true=>rw[cond_true,Av];omega
  |false=>rw[cond_false,Av,Av];omega
theorem zk3{j:Nat}:∀{l:List Nat},j∈l->(zel j l).length+1<=l.length
 |[],h=>by cases h
 |k::l,h=>by
  simp only[zel]
  cases hb:Nat.beq k j with
  |true=>
   have:=zwg (j:=j) (l:=l)
   rw[cond_true,Av];omega
  |false=>
   have O:k≠j:=λe=>by rw[e]at hb;simp at hb
   have:=zk3 (j:=j) (l:=l) (by
    rcases Ad.1 h with rfl|h
    ·exact absurd rfl O
    ·exact h)
   rw[cond_false,Av,Av];omega
def z07(ops:Array Oper)(todo:List Nat)(j:Nat):Bool:=todo.all λk=>bif Nat.beq k j then true else !(Zj ops [j] ops.size k)
def qbi(p:Nat->Prop):List Nat->Prop
 |[]=>True
 |[j]=>p j
 |j::k::l=>p j/\qbi p (k::l)
theorem zk4{p:Nat->Prop}:∀{l:List Nat},qbi p l->∀j∈l,p j
 |[],_,j,h=>by cases h
 |[k],H,j,h=>by simp at h;subst h;exact H
 |k::k2::l,H,j,h=>by
  rcases Ad.1 h with rfl|h
  ·exact H.1
  ·exact zk4 H.2 j h
def zt8(p:Nat->Bool):List Nat->List Nat
 |[]=>[]
 |j::l=>bif p j then j::zt8 p l else zt8 p l
theorem zb0{p:Nat->Bool}{j:Nat}:∀{l:List Nat},j∈l->p j=true->j∈zt8 p l
 |[],h,_=>by cases h
 |k::l,h,hp=>by
  simp only[zt8]
  rcases Ad.1 h with rfl|h
  ·rw[hp];exact Aq
  ·cases p k with
   |true=>exact Af _ (zb0 h hp)
   |false=>exact zb0 h hp
def znp(ops:Array Oper)(T:List Nat)(e:Env)(h0 h':zb)(K:Prop):Nat->Prop
 |0=>K
 |k+1=>match ops[k]? with
  |some o=>bif zm o then(bif Zj ops T ops.size k then znp ops T e h0 h' K k else match o.op with
   |.load _ a=>bif known e [] [a]then(match rho e [] a with
    |.pointer (some p)=>h'[p.block]?=h0[p.block]?/\znp ops T e h0 h' K k
    |_=>False)else False
   |_=>False)else znp ops T e h0 h' K k
  |none=>znp ops T e h0 h' K k
theorem zjl{ops:Array Oper}{T:List Nat}{e:Env}{h0 h':zb}{K:Prop}:∀{m:Nat},znp ops T e h0 h' K m->K/\∀k o,k<m->ops[k]?=some o->zm o=true->Zj ops T ops.size k=false ->
  ∃t a p,o.op=.load t a/\known e [] [a]=true/\rho e [] a=.pointer (some p)/\h'[p.block]?=h0[p.block]?
 |0,H=>⟨H,λk o hk=>by omega⟩
 |m+1,H=>by
  unfold znp at H
  have step:znp ops T e h0 h' K m->(∀o,ops[m]?=some o->zm o=true->Zj ops T ops.size m=false->∃t a p,o.op=.load t a/\known e [] [a]=true/\rho e [] a=.pointer (some p)/\h'[p.block]?=h0[p.block]?) ->
    K/\∀k o,k<m+1->ops[k]?=some o->zm o=true->Zj ops T ops.size k=false->∃t a p,o.op=.load t a/\known e [] [a]=true/\rho e [] a=.pointer (some p)/\h'[p.block]?=h0[p.block]?:=λH1 H2=>by
   obtain⟨h1,h2⟩:=zjl H1
   refine⟨h1,λk o hk ho hl hr=>?_⟩
   rcases AR k m with h3|h3
   ·exact h2 k o h3 ho hl hr
   ·have:k=m:=by omega
    subst this
    exact H2 o ho hl hr
  cases ho:ops[m]? with
  |none=>rw[ho]at H;exact step H λo h1=>by rw[ho]at h1;cases h1
  |some o=>
   rw[ho]at H
   simp only at H
   have same:∀o',ops[m]?=some o'->o'=o:=λo' h1=>Au (h1.symm.trans ho)
   cases hl:zm o with
   |false=>rw[hl]at H;exact step H λo' h1 h2=>by rw[same o' h1,hl]at h2;cases h2
   |true=>
    rw[hl,cond_true]at H
    cases hr:Zj ops T ops.size m with
    |true=>rw[hr]at H;exact step H λo' h1 h2 h3=>by rw[hr]at h3;cases h3
    |false=>
     rw[hr,cond_false]at H
     split at H
     ·rename_i t a O
      cases hk:known e [] [a]with
      |false=>rw[hk]at H;exact H.elim
      |true=>
       rw[hk,cond_true]at H
       split at H
       ·rename_i p hp
        exact step H.2 λo' h1 h2 h3=>⟨t,a,p,by rw[same o' h1];exact O,hk,hp,H.1⟩
       ·exact H.elim
     ·exact H.elim
def z08(md:Bool)(ops:Array Oper)(T:List Nat)(e:Env)(h0 h':zb)(K:Prop):Prop:=bif md then znp ops T e h0 h' K ops.size else Keep h0.size h0 h'/\K
def wB(P:Program)(n:Nat)(ops:Array Oper)(h0:zb)(K:Env->zb->Prop)(md:Bool):Nat->List Nat->List Nat->Env->zb->Prop
 |_,_,[],e,h=>K (clean e) h
 |0,_,_::_,_,_=>False
 |f+1,T,j0::l0,e,h=>qbi (λj=>match ops[j]? with
  |some o=>bif yc n [] o.dst then opW P o e [] h λv h'=>(bif zno true ops (j::T) ops.size then z08 md ops (j::T) e h0 h' (wB P n ops h0 K md f (j::T) (zel j (j0::l0)) (putO e o.dst [] v) h')else wB P n ops h0 K md f (j::T) (zel j (j0::l0)) (putO e o.dst [] v) h')else False
  |none=>False) (zt8 (z07 ops (j0::l0)) (j0::l0))
theorem zwh{K:Env->zb->Prop}{f:Nat}{T todo:List Nat}(H:wB P n ops h0 K md (f+1) T todo e h){j:Nat}(hj:j∈todo)(hc:z07 ops todo j=true):match ops[j]? with
  |some o=>bif yc n [] o.dst then opW P o e [] h λv h'=>(bif zno true ops (j::T) ops.size then z08 md ops (j::T) e h0 h' (wB P n ops h0 K md f (j::T) (zel j todo) (putO e o.dst [] v) h')else wB P n ops h0 K md f (j::T) (zel j todo) (putO e o.dst [] v) h')else False
  |none=>False:=by
 cases todo with
 |nil=>cases hj
 |cons j0 l0=>exact zk4 H j (zb0 hj hc)
def znq(ops:Array Oper):Bool:=bif jm ops.toList then(bif qi ops ops.size then(bif j8 ops ops.size then Ys ops ops.size else false)else false)else false
theorem zjm(h:znq ops=true):jm ops.toList=true/\qi ops ops.size=true/\j8 ops ops.size=true/\Ys ops ops.size=true:=by
 unfold znq at h
 cases h1:jm ops.toList <;> cases h2:qi ops ops.size <;> cases h3:j8 ops ops.size <;> simp[h1,h2,h3]at h ⊢
 exact h
structure StB (P:Program) (n:Nat) (ops:Array Oper) (h0:zb) (K:Env->zb->Prop) (md:Bool) (f:Nat->Value) (a0:Act) (listed:Array Bool) (a b:Act) (e:Env) (h:zb) (done todo:List Nat):Prop where
 inv:HeadInv .any ops ops.size listed
 ag:∀s,(∀i o,ops[i]?=some o->ze o=true->listed.getD i false=false->o.dst≠some s)->zu a s=zu b s
 sz:a.tmps.size=n
 ad:a.defers=[]
 sb:Sat n e b
 qv:∀i o t,ops[i]?=some o->ze o=true->o.dst=some t->zu b t=f i/\t<n
 qx:∀i o,ops[i]?=some o->ze o=true->∀h',LdOK o b.eval h0 h'->QExec P (execOp b.eval o) h' (.value (f i))
 tt:∀j,j∈heavyL 0 ops.toList->(j∈todo↔listed.getD j false=false)
 ch:∀j,j∈heavyL 0 ops.toList->(listed.getD j false=true↔j∈done)
 dn:∀j∈done,j∈heavyL 0 ops.toList
 th:∀j∈todo,j∈heavyL 0 ops.toList
 nd:todo.Nodup
 wt:∃fu,todo.length<=fu/\wB P n ops h0 K md fu done todo e h
 kp:∀i o,ops[i]?=some o->zm o=true->listed.getD i false=false->LdOK o b.eval h0 h
 sm:Same (yx ops.toList) a0 a
theorem z09{K:Env->zb->Prop}{Q:Exit->Act->World->Prop}(B:World)(a7:znq ops=true){f:Nat->Value}
  (hQ:∀e' a' d' h',Sat n e' a'->Same (yx ops.toList) a0 a'->K e' h'->Q .normal a' (mk B d' h')):
  ∀(N:Nat) (U:List Nat) (listed:Array Bool) (a b:Act) (e:Env) (h:zb) (d:Nat) (done todo:List Nat),U.length=N->U.Nodup->(∀k,k∈U↔k<ops.size/\listed.getD k false=false) ->
   StB P n ops h0 K md f a0 listed a b e h done todo->wpAny P .any ops Q N listed a (mk B d h):=by
 obtain⟨bE,aI,bC,an⟩:=zjm a7
 have ba:∀(i:Nat) (o:Oper),ops[i]?=some o->o.guard=none/\wj o.op=true:=λi o ho=>xz bE o (by
  obtain⟨ah,e⟩:=Ac.1 ho
  rw[<-e];simp)
 have bh:∀{listed:Array Bool} {a b:Act} {e:Env} {h:zb} {d:Nat} {done todo:List Nat},(∀k,k<ops.size->listed.getD k false=true)->StB P n ops h0 K md f a0 listed a b e h done todo->Q .normal a (mk B d h):=by
  intro listed a b e h d done todo ai S
  have aJ:todo=[]:=by
   cases htd:todo with
   |nil=>rfl
   |cons j l=>
    have hm:j∈todo:=by rw[htd];simp
    have hj:j∈heavyL 0 ops.toList:=S.th j hm
    have ah:j<ops.size:=by
     obtain⟨_,o,ho,_⟩:=qq.1 hj
     have:=(Az.1 ho).1
     simpa using this
    have:=(S.tt j hj).1 hm
    rw[ai j ah]at this;cases this
  obtain⟨fu,_,hw⟩:=S.wt
  rw[aJ]at hw
  have hw:K (clean e) h:=by cases fu <;> exact hw
  have hv:∀s,zu a s=zu b s:=λs=>S.ag s λi o ho hq hl=>by
   rw[ai i (Ac.1 ho).1]at hl;cases hl
  have hs:Sat n e a:=⟨S.ad,S.sz,λx hx=>by
   have:=S.sb.all x hx
   have e1:zu a=zu b:=funext hv
   rw[e1];exact this⟩
  exact hQ _ _ _ _ hs.clean S.sm hw
 intro N
 induction N with
 |zero=>
  intro U listed a b e h d done todo hU _ ae S
  have bz:U=[]:=Cd.1 hU
  subst bz
  have ai:∀k,k<ops.size->listed.getD k false=true:=λk hk=>by
   cases hb:listed.getD k false with
   |true=>rfl
   |false=>exact absurd ((ae k).2 ⟨hk,hb⟩) (by simp)
  refine⟨?_,bh ai S⟩
  rw[CJ]
  intro j hj
  obtain⟨h1,o,ho,_⟩:=mem_ready.1 hj
  have ah:=(Ac.1 ho).1
  have:=ai j ah
  have h2:=getD_both h1
  rw[this]at h2;cases h2
 |succ N ih=>
  intro U listed a b e h d done todo hU aG ae S
  have bp:∃k,k<ops.size/\listed.getD k false=false:=by
   cases U with
   |nil=>cases hU
   |cons k U=>exact⟨k,(ae k).1 Aq⟩
  refine⟨λhr=>?_,λi hi=>?_⟩
  ·exfalso
   obtain⟨k,az,aL,bo⟩:=Qp bp
   have:k∈Region.ready .any ops listed:=mem_ready.2 ⟨by rw[<-aL];simp[S.inv.size,az],ops[k],AK az,λx hx hb=>bo _ (qj aI k ops[k] az (AK az) x hx hb)⟩
   rw[hr]at this;cases this
  ·obtain⟨bc,o,ho,ai⟩:=mem_ready.1 hi
   have aT:listed.getD i false=false:=getD_both bc
   have ah:i<ops.size:=(Ac.1 ho).1
   obtain⟨hg,bu⟩:=ba i o ho
   have aF:i<listed.size:=by rw[S.inv.size];exact ah
   have aZ:(U.erase i).length=N:=by rw[CL ((ae i).2 ⟨ah,aT⟩),hU];rfl
   have ar:(U.erase i).Nodup:=aG.erase i
   have ap:∀k,k∈U.erase i↔k<ops.size/\(listed.setIfInBounds i true).getD k false=false:=λk=>by
    rw[aG.mem_erase_iff,ae k]
    by_cases hk:i=k
    ·subst hk;simp[aF]
    ·rw[getD_set_ne false hk];exact⟨λhx=>hx.2,λhx=>⟨λe=>hk e.symm,hx⟩⟩
   have aj:=S.inv.set hi ah
   have ac:∀k,k≠i->(listed.setIfInBounds i true).getD k false=listed.getD k false:=λk hk=>getD_set_ne false (Ne.symm hk)
   have aa:(listed.setIfInBounds i true).getD i false=true:=by simp[aF]
   obtain⟨ay,bJ⟩:=qp an i o ah ho
   have a8:∀t∈tmpsOf o.op.operands.toList,zu a t=zu b t:=λt ht=>S.ag t λk ok O hq hl hd=>by
    have hw:=qh ay k t (Ac.1 O).1 (by rw[zk O,hd]) ht
    rw[xp hi hw]at hl;cases hl
   have aH:=yn bu a8
   unfold wpOp
   rw[ho]
   simp only
   have aN:BN o (yielded ops a.tmps)=true:=by unfold BN;rw[hg]
   rw[if_pos aN]
   left
   unfold Oper.wp
   rw[aH]
   cases hq:ze o with
   |true=>
    have hx:=S.qx i o ho hq h (by
     cases hl:zm o with
     |false=>exact .inl hl
     |true=>exact S.kp i o ho hl aT) B d
    rw[hx,Oper.upon_value]
    have aE:i∉heavyL 0 ops.toList:=λhm=>by
     obtain⟨_,o',aY,be⟩:=qq.1 hm
     rw[Cm]at aY
     have:o'=o:=by
      have h2:ops[i]?=some o':=ofL aY
      exact Au (h2.symm.trans ho)
     subst this;rw[hq]at be;cases be
    refine ih _ _ _ b e h d done todo aZ ar ap { S with inv:=aj,ag:=λs hs=>?_,sz:=by rw[size_put];exact S.sz,ad:=by rw[qc];exact S.ad,tt:=λj hj=>(by have:j≠i:=λe=>aE (e ▸ hj);rw[ac j this];exact S.tt j hj),ch:=λj hj=>?_,kp:=λk ok O hl hk=>?_,sm:=S.sm.trans (Same.put a o.dst _ λt ht=>Zs (by
     obtain⟨bF,e2⟩:=Ac.1 ho
     rw[<-e2];simp) t ht) }
    ·by_cases hd:o.dst=some s
     ·obtain⟨hv,au⟩:=S.qv i o s ho hq hd
      rw[hd,qt (by rw[S.sz];exact au),hv]
     ·rw[zo hd]
      refine S.ag s λk ok O Z aM=>?_
      by_cases af:k=i
      ·subst af
       have:ok=o:=Au (O.symm.trans ho)
       subst this;exact hd
      ·exact hs k ok O Z (by rw[ac k af];exact aM)
    ·have:j≠i:=λe=>aE (e ▸ hj)
     rw[ac j this];exact S.ch j hj
    ·by_cases af:k=i
     ·subst af;rw[aa]at hk;cases hk
     ·rw[ac k af]at hk;exact S.kp k ok O hl hk
   |false=>
    have aP:i∈heavyL 0 ops.toList:=qq.2 ⟨CW _,o,by rw[Cm];exact toL ho,hq⟩
    have ax:i∈todo:=(S.tt i aP).2 aT
    obtain⟨fu,bI,bB⟩:=S.wt
    have aU:z07 ops todo i=true:=by
     unfold z07
     rw[AP]
     intro k hk
     cases af:Nat.beq k i with
     |true=>rfl
     |false=>
      have aO:k≠i:=λe=>by rw[e]at af;simp at af
      cases hr:Zj ops [i] ops.size k with
      |false=>rfl
      |true=>
       exfalso
       have:=Zm hr (listed:=listed.setIfInBounds i true) (λp q h1 h2=>qs aj h1 h2) (λj hj=>by simp at hj;subst hj;exact aa)
       rw[ac k aO]at this
       have h2:=(S.tt k (S.th k hk)).1 hk
       rw[this]at h2;cases h2
    have hW:match ops[i]? with
      |some o=>bif yc n [] o.dst then opW P o e [] h λv h'=>(bif zno true ops (i::done) ops.size then z08 md ops (i::done) e h0 h' (wB P n ops h0 K md (fu-1) (i::done) (zel i todo) (putO e o.dst [] v) h')else wB P n ops h0 K md (fu-1) (i::done) (zel i todo) (putO e o.dst [] v) h')else False
      |none=>False:=by
     cases fu with
     |zero=>(have:todo.length=0:=by omega);rw[Cd.1 this]at ax;cases ax
     |succ fu=>
      have:=zwh (show wB P n ops h0 K md (fu+1) done todo e h from bB) ax aU
      exact this
    rw[ho]at hW
    simp only at hW
    cases hd:yc n [] o.dst with
    |false=>rw[hd]at hW;exact hW.elim
    |true=>
     rw[hd,cond_true]at hW
     refine Yt (b:=b) S.sb.defers ?_
     refine zf7 hW S.sb (qd _) B d λv d' h' hK=>⟨by rw[qc];exact S.sb.defers,λv2 bA=>?_⟩
     have bH:b.put o.dst v2=b.put o.dst v:=bA.symm
     have aA:∀j,j∈heavyL 0 ops.toList->((listed.setIfInBounds i true).getD j false=true↔j∈i::done):=λj hj=>by
      by_cases am:j=i
      ·subst am;rw[aa];simp
      ·rw[ac j am,S.ch j hj];simp[am]
     have aS:zno true ops (i::done) ops.size=false->∀k ok,ops[k]?=some ok->zm ok=true->(listed.setIfInBounds i true).getD k false=true:=λhl k ok O ak=>by
      have bq:∀j∈i::done,(listed.setIfInBounds i true).getD j false=true:=λj hj=>by
       rcases Ad.1 hj with rfl|hj
       ·exact aa
       ·exact getD_set_true ((S.ch j (S.dn j hj)).2 hj)
      exact Zm (zdh hl k ok (Ac.1 O).1 O ak) (λi p h1 h2=>qs aj h1 h2) bq
     have al:∀k ok,ops[k]?=some ok->ze ok=true->∀t∈tmpsOf ok.op.operands.toList,zu (b.put o.dst v) t=zu b t:=λk ok O Z t ht=>zo λaD=>by
      obtain⟨bm,bn⟩:=qp an k ok (Ac.1 O).1 O
      have hw:=qh bm i t ah (by rw[zk ho,aD]) ht
      exact bn Z i aP hw t (by rw[zk ho,aD]) ht
     have aC:∀k,Zj ops (i::done) ops.size k=true->(listed.setIfInBounds i true).getD k false=true:=λk hr=>Zm hr (λi p h1 h2=>qs aj h1 h2) λj hj=>by
      rcases Ad.1 hj with rfl|hj
      ·exact aa
      ·exact getD_set_true ((S.ch j (S.dn j hj)).2 hj)
     have a1:wB P n ops h0 K md (fu-1) (i::done) (zel i todo) (putO e o.dst [] v) h'/\(∀k ok,ops[k]?=some ok->zm ok=true->(listed.setIfInBounds i true).getD k false=false->LdOK ok (b.put o.dst v).eval h0 h'):=by
      cases hl:zno true ops (i::done) ops.size with
      |false=>rw[hl,cond_false]at hK;exact⟨hK,λk ok O ak hf=>by rw[aS hl k ok O ak]at hf;cases hf⟩
      |true=>
       rw[hl,cond_true]at hK
       unfold z08 at hK
       cases md with
       |false=>exact⟨hK.2,λ_ _ _ _ _=>.inr (.inl hK.1)⟩
       |true=>
        rw[cond_true]at hK
        obtain⟨g1,g2⟩:=zjl hK
        refine⟨g1,λk ok O ak hf=>.inr (.inr λt a p a6 hp=>?_)⟩
        have hr:Zj ops (i::done) ops.size k=false:=by
         cases hr:Zj ops (i::done) ops.size k with
         |false=>rfl
         |true=>rw[aC k hr]at hf;cases hf
        obtain⟨t',a',p',e1,e2,e3,e4⟩:=g2 k ok (Ac.1 O).1 O ak hr
        rw[a6]at e1
        injection e1 with _ e1
        subst e1
        have Z:ze ok=true:=by
         unfold zm at ak
         unfold ze
         split at ak
         ·rfl
         ·cases ak
        have ae:a∈ok.op.operands.toList:=by rw[a6];simp[Op.operands]
        have ea:=ym (al k ok O Z) a ae
        have eb:b.eval a=rho e [] a:=xf S.sb (qd _) e2 a (by simp)
        rw[ea,eb,e3]at hp
        injection hp with hp
        injection hp with hp
        rw[<-hp];exact e4
     have bj:∀j,j∈heavyL 0 ops.toList->(j∈zel i todo↔(listed.setIfInBounds i true).getD j false=false):=λj hj=>by
      rw[Jl]
      by_cases am:j=i
      ·subst am;rw[aa];simp
      ·rw[ac j am,<-S.tt j hj];exact⟨λhx=>hx.1,λhx=>⟨hx,am⟩⟩
     have aQ:∀k ok t,ops[k]?=some ok->ze ok=true->ok.dst=some t->o.dst≠some t:=λk ok t O Z aB aD=>by
      have:=qy bC k i t (Ac.1 O).1 ah (by rw[zk O,aB]) (by rw[zk ho,aD])
      subst this
      have:ok=o:=Au (O.symm.trans ho)
      subst this;rw[hq]at Z;cases Z
     refine ih _ _ _ (b.put o.dst v) (putO e o.dst [] v) h' d' (i::done) (zel i todo) aZ ar ap ⟨aj,λs hs=>?_,by rw[size_put];exact S.sz,by rw[qc];exact S.ad,S.sb.putO hd (λ_=>rfl) λhv=>absurd (qd _) hv,λk ok t O Z aB=>?_,λk ok O Z bD hh=>?_,bj,aA,(λj hj=>by
      rcases Ad.1 hj with rfl|hj
      ·exact aP
      ·exact S.dn j hj),(λj hj=>S.th j (Jl.1 hj).1),Xs S.nd,⟨fu-1,by have:=zk3 ax;omega,a1.1⟩,a1.2,S.sm.trans (Same.put a o.dst _ λt ht=>Zs (by
      obtain⟨bF,e2⟩:=Ac.1 ho
      rw[<-e2];simp) t ht)⟩
     ·have aO:∀u,(∀k ok,ops[k]?=some ok->ze ok=true->listed.getD k false=false->ok.dst≠some s)->o.dst≠some s->zu (a.put o.dst u) s=zu (b.put o.dst v) s:=λu h1 h2=>by
       rw[zo h2,zo h2];exact S.ag s h1
      have bG:∀k ok,ops[k]?=some ok->ze ok=true->listed.getD k false=false->ok.dst≠some s:=λk ok O Z aM=>by
       by_cases af:k=i
       ·subst af
        have:ok=o:=Au (O.symm.trans ho)
        subst this;rw[hq]at Z;cases Z
       ·exact hs k ok O Z (by rw[ac k af];exact aM)
      by_cases aV:o.dst=some s
      ·rw[<-bH,aV]
       have au:s<n:=by
        rw[aV]at hd
        unfold yc at hd
        simp at hd;exact hd.2
       rw[qt (by rw[S.sz];exact au),qt (by rw[S.sb.size];exact au)]
      ·exact aO v2 bG aV
     ·have:=S.qv k ok t O Z aB
      rw[zo (aQ k ok t O Z aB)];exact this
     ·have aL:=ba k ok O
      rw[yn (b:=b) aL.2 (al k ok O Z)]
      exact S.qx k ok O Z bD (LdOK.congr (λx hx=>(ym (al k ok O Z) x hx).symm) hh)
theorem zjn{K:Env->zb->Prop}{Q:Exit->Act->World->Prop}(B:World)(ac:znq ops=true)
  (H:wU P n h (λe'=>wB P n ops h K md (heavyL 0 ops.toList).length [] (heavyL 0 ops.toList) e' h) ops.toList e) (hs:Sat n e a)
  (hQ:∀e' a' d' h',Sat n e' a'->Same (yx ops.toList) a a'->K e' h'->Q .normal a' (mk B d' h')) (d:Nat):wpAny P .any ops Q ops.size (Bc ops.size false) a (mk B d h):=by
 obtain⟨aA,ae,ax,ai⟩:=zjm ac
 obtain⟨f,e1,HT,ak,hf⟩:=Yb (k:=0) H hs
 have hl:∀(i:Nat) (o:Oper),ops[i]?=some o->ops.toList[i]?=some o:=λi o ho=>toL ho
 have O:∀i,qn 0 ops.toList f a=qn (0+(ops.toList.take i).length) (ops.toList.drop i) f (qn 0 (ops.toList.take i) f a):=λi=>by
  rw[<-xq,BD]
 refine z09 B ac (f:=f) hQ ops.size (BE ops.size) _ a (qn 0 ops.toList f a) e1 h d [] (heavyL 0 ops.toList) DN Dm (λk=>by rw[BX,getD_replicate_false];simp) ⟨⟨by simp,λj oj _ hl=>(by rw[getD_replicate_false]at hl;cases hl),λt ht aB=>by omega⟩,λs ay=>?_,hs.size,hs.defers,ak,λi o t ho hq hd=>?_,λi o ho hq h' hh=>?_,(λj hj=>by rw[getD_replicate_false];simp[hj]),(λj hj=>by rw[getD_replicate_false];simp),(λj hj=>by cases hj),(λj hj=>hj),yl,⟨_,Ae _,HT⟩,λ_ _ _ _ _=>.inr (.inl (Keep.refl _ _)),Same.refl _ _⟩
 ·refine(yd λo ho hq=>?_).symm
  obtain⟨i,hi,e⟩:=Bf ho
  exact ay i o (ofL (by rw[Ai hi,e])) hq (getD_replicate_false _ _)
 ·obtain⟨h1,h2,h3⟩:=hf i o (hl i o ho) hq
  have am:t<n:=by
   rw[hd]at h2
   unfold yc at h2
   simp at h2;exact h2.2
  refine⟨?_,am⟩
  have aa:=(Ac.1 ho).1
  have aj:(ops.toList.take i).length=i:=by simp;omega
  rw[O i,aj,AD]
  have ap:ops.toList.drop i=o::ops.toList.drop (i+1):=by
   have:=(Az.1 (hl i o ho))
   rw[AL this.1,this.2]
  rw[ap]
  unfold qn
  rw[hq,cond_true,yd λo' af ar ah=>?_]
  ·rw[hd,qt (by rw[Qj.1,hs.size];exact am)]
  ·obtain⟨m,hm,em⟩:=Bf af
   have Z:ops[i+1+m]?=some o':=by
    have:ops.toList[i+1+m]?=some o':=by rw[<-AE,Ai hm,em]
    exact ofL this
   have:=qy ax i (i+1+m) t aa (Ac.1 Z).1 (by rw[zk ho,hd]) (by rw[zk Z,ah])
   omega
 ·obtain⟨h1,h2,h3⟩:=hf i o (hl i o ho) hq
  have al:∀t∈tmpsOf o.op.operands.toList,zu (qn 0 ops.toList f a) t=zu (qn 0 (ops.toList.take i) f a) t:=λt ht=>by
   have aa:=(Ac.1 ho).1
   rw[O i]
   refine yd λo' af ar ah=>?_
   obtain⟨m,hm,em⟩:=Bf af
   have Z:ops[i+m]?=some o':=by
    have:ops.toList[i+m]?=some o':=by rw[<-AE,Ai hm,em]
    exact ofL this
   obtain⟨au,_⟩:=qp ai i o aa ho
   have hw:=qh au (i+m) t (Ac.1 Z).1 (by rw[zk Z,ah]) ht
   obtain⟨oj,an,x,hx,hb,az⟩:=Region.waitsFor_spec hw
   have:=qj ae i oj aa an x hx hb
   omega
  have:=h3 h' (LdOK.congr (λx hx=>(ym al x hx).symm) hh)
  rw[AD]at this
  rw[yn h1 al]
  exact this
end
section
variable {l done:List Nat} {i j m n:Nat} {ops:Array Oper} {P:Program} {h h0:zb} {md:Bool} {e:Env} {a:Act}
def z4b(o:Oper):Bool:=match o.op with
 |.extract _ _=>true
 |_=>false
def znr(o:Oper):Bool:=bif ze o then true else z4b o
def upL(ops:Array Oper):Nat->List Nat->List Nat
 |0,S=>S
 |k+1,S=>upL ops k (bif S.any λp=>Region.waitsFor .any ops p k then k::S else S)
theorem zk5{ops:Array Oper}{listed:Array Bool}(hc:∀i p,listed.getD i false=true->Region.waitsFor .any ops i p=true->listed.getD p false=true):∀{m:Nat} {S:List Nat},(∀j∈S,listed.getD j false=true)->∀k∈upL ops m S,listed.getD k false=true
 |0,S,h,k,hk=>h k hk
 |m+1,S,h,k,hk=>by
  unfold upL at hk
  refine zk5 hc (m:=m) (λj hj=>?_) k hk
  cases ha:(S.any λp=>Region.waitsFor .any ops p m)with
  |false=>rw[ha]at hj;exact h j hj
  |true=>
   rw[ha,cond_true]at hj
   rcases Ad.1 hj with rfl|hj
   ·obtain⟨p,hp,hw⟩:=D8.1 ha
    exact hc p _ (h p hp) hw
   ·exact h j hj
theorem Jm(h:memN l i=true):i∈l:=by
 induction l with
 |nil=>cases h
 |cons j l ih=>
  simp only[memN]at h
  cases hb:Nat.beq i j with
  |true=>rw[Ag hb];exact Aq
  |false=>rw[hb]at h;exact Af _ (ih h)
theorem zk6(h:i∈l):memN l i=true:=by
 cases hm:memN l i with
 |true=>rfl
 |false=>exact absurd h (xn hm)
def qb2(ops:Array Oper)(k:Nat):Bool:=match ops[k]? with
 |some o=>!(znr o)
 |none=>false
def qc9(ops:Array Oper)(i:Nat):Bool:=(upL ops ops.size [i]).any (qb2 ops)
def Xt(ops:Array Oper)(i:Nat):Bool:=match ops[i]? with
 |some o=>bif znr o then(bif zm o then qc9 ops i else false)else true
 |none=>true
def hvL(ops:Array Oper):List Nat:=(BE ops.size).filter (Xt ops)
theorem zga:j∈hvL ops↔j<ops.size/\Xt ops j=true:=by
 unfold hvL;rw[List.mem_filter,BX]
theorem zwi(ops:Array Oper):(hvL ops).Nodup:=Dm.filter _
def okW(ops:Array Oper)(done S:List Nat)(k:Nat):Nat->Bool
 |0=>true
 |p+1=>bif Region.waitsFor .any ops k p then(bif (bif Xt ops p then memN done p else memN S p)then okW ops done S k p else false)else okW ops done S k p
theorem zfk{ops:Array Oper}{done S:List Nat}{k:Nat}:∀{m:Nat},okW ops done S k m=true↔∀p,p<m->Region.waitsFor .any ops k p=true->(Xt ops p=true->p∈done)/\(Xt ops p=false->p∈S)
 |0=>⟨λ_ p hp=>by omega,λ_=>rfl⟩
 |m+1=>by
  unfold okW
  have ih:=zfk (ops:=ops) (done:=done) (S:=S) (k:=k) (m:=m)
  constructor
  ·intro h p hp hw
   rcases AR p m with h1|h1
   ·refine ih.1 ?_ p h1 hw
    revert h
    cases Region.waitsFor .any ops k m with
    |false=>exact id
    |true=>
     cases(bif Xt ops m then memN done m else memN S m)with
     |false=>intro h;cases h
     |true=>exact id
   ·have:p=m:=by omega
    subst this
    rw[hw,cond_true]at h
    cases hi:Xt ops p with
    |true=>
     rw[hi,cond_true]at h
     cases hm:memN done p with
     |false=>rw[hm]at h;cases h
     |true=>exact⟨λ_=>Jm hm,(λhc=>by cases hc)⟩
    |false=>
     rw[hi,cond_false]at h
     cases hm:memN S p with
     |false=>rw[hm]at h;cases h
     |true=>exact⟨(λhc=>by cases hc),λ_=>Jm hm⟩
  ·intro h
   have h1:=ih.2 λp hp hw=>h p (by omega) hw
   cases hw:Region.waitsFor .any ops k m with
   |false=>exact h1
   |true=>
    obtain⟨a,b⟩:=h m (by omega) hw
    rw[cond_true]
    cases hi:Xt ops m with
    |true=>rw[cond_true,zk6 (a hi)];exact h1
    |false=>rw[cond_false,zk6 (b hi)];exact h1
def qbj(ops:Array Oper)(done S:List Nat)(k:Nat):List Nat:=bif Xt ops k then S else(bif okW ops done S k k then k::S else S)
def Jf(ops:Array Oper)(done:List Nat):Nat->List Nat
 |0=>[]
 |k+1=>qbj ops done (Jf ops done k) k
theorem Z5{ops:Array Oper}{done:List Nat}:∀{m i:Nat},i∈Jf ops done m->i<m/\Xt ops i=false/\okW ops done (Jf ops done i) i i=true
 |0,i,h=>by cases h
 |m+1,i,h=>by
  unfold Jf qbj at h
  cases hi:Xt ops m with
  |true=>rw[hi,cond_true]at h;have:=Z5 h;exact⟨by omega,this.2⟩
  |false=>
   rw[hi,cond_false]at h
   cases ho:okW ops done (Jf ops done m) m m with
   |false=>rw[ho,cond_false]at h;have:=Z5 h;exact⟨by omega,this.2⟩
   |true=>
    rw[ho,cond_true]at h
    rcases Ad.1 h with rfl|h
    ·exact⟨by omega,hi,ho⟩
    ·have:=Z5 h;exact⟨by omega,this.2⟩
theorem zgb{ops:Array Oper}{done:List Nat}{m:Nat}:∀{m' i:Nat},m<=m'->i∈Jf ops done m->i∈Jf ops done m'
 |0,i,h,hi=>by(have:m=0:=by omega);subst this;exact hi
 |m'+1,i,h,hi=>by
  rcases Dr h with e|e
  ·rw[<-e];exact hi
  ·have:=zgb (m':=m') (by omega) hi
   unfold Jf qbj
   cases Xt ops m' with
   |true=>exact this
   |false=>
    rw[cond_false]
    cases okW ops done (Jf ops done m') m' m' with
    |true=>exact Af _ this
    |false=>exact this
theorem zk7(hm:i<m)(h1:Xt ops i=false)(h2:okW ops done (Jf ops done i) i i=true):i∈Jf ops done m:=by
 refine zgb (m:=i+1) hm ?_
 unfold Jf qbj
 rw[h1,h2];exact Aq
theorem zrz{m i p:Nat}(h:i∈Jf ops done m)(hp:p<i)(hw:Region.waitsFor .any ops i p=true):(Xt ops p=true->p∈done)/\(Xt ops p=false->p∈Jf ops done m):=by
 obtain⟨h1,h2,h3⟩:=Z5 h
 obtain⟨a,b⟩:=zfk.1 h3 p hp hw
 exact⟨a,λhi=>zgb (by omega) (b hi)⟩
def Wc(Z O:List Nat)(n:Nat):List Nat:=(BE n).filter λi=>bif memN O i then !(memN Z i)else false
theorem zjo{Z O:List Nat}:i∈Wc Z O n↔i<n/\i∈O/\i∉Z:=by
 unfold Wc
 rw[List.mem_filter,BX]
 constructor
 ·rintro⟨h1,h2⟩
  cases hn:memN O i with
  |false=>rw[hn]at h2;cases h2
  |true=>
   rw[hn,cond_true]at h2
   exact⟨h1,Jm hn,λhm=>by rw[zk6 hm]at h2;cases h2⟩
 ·rintro⟨h1,h2,h3⟩
  refine⟨h1,?_⟩
  rw[zk6 h2,cond_true]
  cases hw:memN Z i with
  |false=>rfl
  |true=>exact absurd (Jm hw) h3
theorem zb1(Z O:List Nat)(n:Nat):(Wc Z O n).Pairwise (· < ·):=List.pairwise_lt_range.filter _
def wI(P:Program)(n:Nat)(h:zb)(ld:Bool)(ops:Array Oper)(K:Env->Prop):List Nat->Env->Prop
 |[],e=>K e
 |i::l,e=>match ops[i]? with
  |some o=>bif znr o then(bif (bif ld then true else !(zm o))then(bif yc n [] o.dst then(bif wj o.op then(bif known e [] o.op.operands.toList then Zh P o (rho e []) none h λv=>wI P n h ld ops K l (putO e o.dst [] v)else False)else False)else False)else False)else False
  |none=>False
def je(ops:Array Oper)(f:Nat->Value):List Nat->Act->Act
 |[],a=>a
 |i::l,a=>je ops f l (a.put (yw ops i) (f i))
theorem zwj{o:Oper}(hq:znr o=true){ρ:Operand->Value}{K:Value->Prop}(H:Zh P o ρ none h K):
  ∃v,K v/\∀h',LdOK o ρ h h'->QExec P (execOp ρ o) h' (.value v):=by
 unfold znr at hq
 cases hb:ze o with
 |true=>exact Xr hb H
 |false=>
  rw[hb,cond_false]at hq
  unfold z4b at hq
  split at hq
  ·rename_i x i ho
   unfold Zh at H;rw[ho]at H
   obtain⟨v,h1,h2⟩:=zv H none
   exact⟨v,h1,λh' _=>h2 trivial h'⟩
  ·cases hq
theorem zjp{ops:Array Oper}{f:Nat->Value}:∀{l:List Nat} {a:Act},(je ops f l a).tmps.size=a.tmps.size/\(je ops f l a).defers=a.defers
 |[],_=>⟨rfl,rfl⟩
 |i::l,a=>by
  unfold je
  have:=zjp (ops:=ops) (f:=f) (l:=l) (a:=a.put (yw ops i) (f i))
  rw[this.1,this.2]
  exact⟨size_put _ _ _,qc _ _ _⟩
theorem xh{ops:Array Oper}{f:Nat->Value}{s:Nat}:∀{l:List Nat} {a:Act},(∀i∈l,yw ops i≠some s)->zu (je ops f l a) s=zu a s
 |[],_,_=>rfl
 |i::l,a,h=>by
  unfold je
  rw[xh λj hj=>h j (Af _ hj)]
  exact zo (h i Aq)
theorem zav{ops:Array Oper}{f:Nat->Value}:∀{l m:List Nat} {a:Act},je ops f (l++m) a=je ops f m (je ops f l a)
 |[],_,_=>rfl
 |i::l,m,a=>by
  rw[A3]
  show je ops f (l++m) _=je ops f m (je ops f l _)
  exact zav
theorem zk8{P:Program}{n:Nat}{h:zb}{ld:Bool}{ops:Array Oper}{K:Env->Prop}(f0:Nat->Value):∀{l:List Nat} {e:Env} {a:Act},l.Nodup->wI P n h ld ops K l e->Sat n e a->∃(f:Nat->Value) (e':Env),K e'/\Sat n e' (je ops f l a)/\(∀i,i∉l->f i=f0 i) /\
  ∀l1 i l2,l=l1++i::l2->∃o,ops[i]?=some o/\znr o=true/\(ld=false->zm o=false)/\wj o.op=true/\yc n [] o.dst=true/\∀h',LdOK o (je ops f l1 a).eval h h'->QExec P (execOp (je ops f l1 a).eval o) h' (.value (f i))
 |[],e,a,_,H,hs=>⟨f0,e,H,hs,λ_ _=>rfl,λl1 i l2 h=>by simp at h⟩
 |i::l,e,a,hnd,H,hs=>by
  unfold wI at H
  cases ho:ops[i]? with
  |none=>rw[ho]at H;exact H.elim
  |some o=>
   rw[ho]at H
   simp only at H
   cases hq:znr o with
   |false=>rw[hq]at H;exact H.elim
   |true=>
    rw[hq,cond_true]at H
    cases hld:(bif ld then true else !(zm o))with
    |false=>rw[hld]at H;exact H.elim
    |true=>
     rw[hld,cond_true]at H
     cases hd:yc n [] o.dst with
     |false=>rw[hd]at H;exact H.elim
     |true=>
      rw[hd,cond_true]at H
      cases hns:wj o.op with
      |false=>rw[hns]at H;exact H.elim
      |true=>
       rw[hns,cond_true]at H
       cases hk:known e [] o.op.operands.toList with
       |false=>rw[hk]at H;exact H.elim
       |true=>
        rw[hk,cond_true]at H
        rw[CF]at hnd
        obtain⟨v,H1,H2⟩:=zwj hq H
        have O:yw ops i=o.dst:=zk ho
        obtain⟨f,e',g1,g2,g3,g4⟩:=zk8 (λx=>if x=i then v else f0 x) (a:=a.put o.dst v) hnd.2 H1 (hs.putO hd (λ_=>rfl) λhv=>absurd (qd _) hv)
        have aa:f i=v:=by rw[g3 i hnd.1,if_pos rfl]
        have ac:je ops f (i::l) a=je ops f l (a.put o.dst v):=by
         show je ops f l (a.put (yw ops i) (f i))=_
         rw[O,aa]
        refine⟨f,e',g1,by rw[ac];exact g2,λj hj=>?_,λl1 j l2 hl=>?_⟩
        ·simp only[Ad,not_or]at hj
         rw[g3 j hj.2,if_neg hj.1]
        ·cases l1 with
         |nil=>
          simp only[BJ,Ci]at hl
          obtain⟨rfl,rfl⟩:=hl
          refine⟨o,ho,hq,λhl=>by rw[hl]at hld;simpa using hld,hns,hd,λh' hh=>?_⟩
          show QExec P (execOp a.eval o) h' _
          rw[Q8 hs (qd _) hns hk,aa]
          exact H2 h' (LdOK.congr (λx hx=>(xf hs (qd _) hk x hx).symm) hh)
         |cons i' l1=>
          simp only[A3,Ci]at hl
          obtain⟨rfl,rfl⟩:=hl
          obtain⟨o',q1,q2,q3,q4,q5,q6⟩:=g4 l1 j l2 rfl
          have Z:je ops f (i::l1) a=je ops f l1 (a.put o.dst v):=by
           show je ops f l1 (a.put (yw ops i) (f i))=_
           rw[O,aa]
          refine⟨o',q1,q2,q3,q4,q5,λh' hh=>?_⟩
          rw[Z]at hh ⊢
          exact q6 h' hh
def zwk(ops:Array Oper)(U:List Nat):Nat->Bool
 |0=>false
 |k+1=>bif (match ops[k]? with
  |some o=>bif zm o then(bif Xt ops k then false else !(memN U k))else false
  |none=>false)then true else zwk ops U k
theorem zjq{ops:Array Oper}{U:List Nat}:∀{m:Nat},zwk ops U m=false->∀k o,k<m->ops[k]?=some o->zm o=true->Xt ops k=false->k∈U
 |0,_,k,o,hk,_,_,_=>by omega
 |m+1,h,k,o,hk,ho,hl,hi=>by
  unfold zwk at h
  cases hb:(match ops[m]? with
   |some o=>bif zm o then(bif Xt ops m then false else !(memN U m))else false
   |none=>false)with
  |true=>rw[hb]at h;cases h
  |false=>
   rw[hb,cond_false]at h
   rcases AR k m with h1|h1
   ·exact zjq h k o h1 ho hl hi
   ·have:k=m:=by omega
    subst this
    rw[ho]at hb
    simp only[hl,hi,cond_true,cond_false]at hb
    exact Jm (by simpa using hb)
def zgc(ops:Array Oper)(U:List Nat)(e:Env)(h0 h':zb)(K:Prop):Nat->Prop
 |0=>K
 |k+1=>match ops[k]? with
  |some o=>bif (bif zm o then(bif Xt ops k then false else !(memN U k))else false)then(match o.op with
   |.load _ a=>bif known e [] [a]then(match rho e [] a with
    |.pointer (some p)=>h'[p.block]?=h0[p.block]?/\zgc ops U e h0 h' K k
    |_=>False)else False
   |_=>False)else zgc ops U e h0 h' K k
  |none=>zgc ops U e h0 h' K k
theorem zgd{ops:Array Oper}{U:List Nat}{e:Env}{h0 h':zb}{K:Prop}:∀{m:Nat},zgc ops U e h0 h' K m->K/\∀k o,k<m->ops[k]?=some o->zm o=true->Xt ops k=false->k∉U ->
  ∃t a p,o.op=.load t a/\known e [] [a]=true/\rho e [] a=.pointer (some p)/\h'[p.block]?=h0[p.block]?
 |0,H=>⟨H,λk o hk=>by omega⟩
 |m+1,H=>by
  unfold zgc at H
  have step:zgc ops U e h0 h' K m->(∀o,ops[m]?=some o->zm o=true->Xt ops m=false->m∉U->∃t a p,o.op=.load t a/\known e [] [a]=true/\rho e [] a=.pointer (some p)/\h'[p.block]?=h0[p.block]?) ->
    K/\∀k o,k<m+1->ops[k]?=some o->zm o=true->Xt ops k=false->k∉U->∃t a p,o.op=.load t a/\known e [] [a]=true/\rho e [] a=.pointer (some p)/\h'[p.block]?=h0[p.block]?:=λH1 H2=>by
   obtain⟨h1,h2⟩:=zgd H1
   refine⟨h1,λk o hk ho hl hi hr=>?_⟩
   rcases AR k m with h3|h3
   ·exact h2 k o h3 ho hl hi hr
   ·have:k=m:=by omega
    subst this
    exact H2 o ho hl hi hr
  cases ho:ops[m]? with
  |none=>rw[ho]at H;exact step H λo h1=>by rw[ho]at h1;cases h1
  |some o=>
   rw[ho]at H
   simp only at H
   have same:∀o',ops[m]?=some o'->o'=o:=λo' h1=>Au (h1.symm.trans ho)
   cases hc:(bif zm o then(bif Xt ops m then false else !(memN U m))else false)with
   |false=>
    rw[hc]at H
    refine step H λo' h1 h2 h3 h4=>?_
    rw[same o' h1]at h2
    rw[h2,h3,cond_true,cond_false]at hc
    exact absurd (Jm (by simpa using hc)) h4
   |true=>
    rw[hc,cond_true]at H
    split at H
    ·rename_i t a O
     cases hk:known e [] [a]with
     |false=>rw[hk]at H;exact H.elim
     |true=>
      rw[hk,cond_true]at H
      split at H
      ·rename_i p hp
       exact step H.2 λo' h1 h2 h3 h4=>⟨t,a,p,by rw[same o' h1];exact O,hk,hp,H.1⟩
      ·exact H.elim
    ·exact H.elim
def zr0(md:Bool)(ops:Array Oper)(T:List Nat)(e:Env)(h0 h':zb)(K:Prop):Prop:=bif zwk ops (upL ops ops.size T) ops.size then(bif md then zgc ops (upL ops ops.size T) e h0 h' K ops.size else Keep h0.size h0 h'/\K)else K
def z1a(ops:Array Oper)(todo:List Nat)(j:Nat):Bool:=todo.all λk=>bif Nat.beq k j then true else !(memN (upL ops ops.size [j]) k)
def wB7(P:Program)(n:Nat)(ops:Array Oper)(h0:zb)(K:Env->zb->Prop)(md:Bool):Nat->List Nat->List Nat->Env->zb->Prop
 |_,_,[],e,h=>K (clean e) h
 |0,_,_::_,_,_=>False
 |f+1,T,j0::l0,e,h=>qbi (λj=>match ops[j]? with
  |some o=>bif yc n [] o.dst then opW P o e [] h λv h'=>wI P n h' false ops (λe'=>zr0 md ops (j::T) e' h0 h' (wB7 P n ops h0 K md f (j::T) (zel j (j0::l0)) e' h')) (Wc (Jf ops T ops.size) (Jf ops (j::T) ops.size) ops.size) (putO e o.dst [] v)else False
  |none=>False) (zt8 (z1a ops (j0::l0)) (j0::l0))
theorem zt9{K:Env->zb->Prop}{f:Nat}{T todo:List Nat}(H:wB7 P n ops h0 K md (f+1) T todo e h)(hj:j∈todo)(hc:z1a ops todo j=true):match ops[j]? with
  |some o=>bif yc n [] o.dst then opW P o e [] h λv h'=>wI P n h' false ops (λe'=>zr0 md ops (j::T) e' h0 h' (wB7 P n ops h0 K md f (j::T) (zel j todo) e' h')) (Wc (Jf ops T ops.size) (Jf ops (j::T) ops.size) ops.size) (putO e o.dst [] v)else False
  |none=>False:=by
 cases todo with
 |nil=>cases hj
 |cons j0 l0=>exact zk4 H j (zb0 hj hc)
def Xu(ops:Array Oper):Nat->Bool
 |0=>true
 |k+1=>bif (match ops[k]? with
  |some o=>wv ops k (tmpsOf o.op.operands.toList) ops.size
  |none=>true)then Xu ops k else false
theorem Jn{ops:Array Oper}:∀{m:Nat},Xu ops m=true->∀k o,k<m->ops[k]?=some o->wv ops k (tmpsOf o.op.operands.toList) ops.size=true
 |0,_,k,o,hk,_=>by omega
 |m+1,h,k,o,hk,ho=>by
  unfold Xu at h
  cases hb:(match ops[m]? with
   |some o=>wv ops m (tmpsOf o.op.operands.toList) ops.size
   |none=>true)with
  |false=>rw[hb]at h;cases h
  |true=>
   rw[hb,cond_true]at h
   rcases AR k m with h1|h1
   ·exact Jn h k o h1 ho
   ·have:k=m:=by omega
    subst this
    rw[ho]at hb;exact hb
def zns(ops:Array Oper):Bool:=bif jm ops.toList then(bif qi ops ops.size then(bif j8 ops ops.size then Xu ops ops.size else false)else false)else false
theorem zjr(h:zns ops=true):jm ops.toList=true/\qi ops ops.size=true/\j8 ops ops.size=true/\Xu ops ops.size=true:=by
 unfold zns at h
 cases h1:jm ops.toList <;> cases h2:qi ops ops.size <;> cases h3:j8 ops ops.size <;> simp[h1,h2,h3]at h ⊢
 exact h
structure St7 (P:Program) (n:Nat) (ops:Array Oper) (h0:zb) (K:Env->zb->Prop) (md:Bool) (f:Nat->Value) (a0:Act) (listed:Array Bool) (a b:Act) (e:Env) (h:zb) (done todo:List Nat):Prop where
 inv:HeadInv .any ops ops.size listed
 ag:∀s,(∀i o,ops[i]?=some o->Xt ops i=false->listed.getD i false=false->o.dst≠some s)->zu a s=zu b s
 sz:a.tmps.size=n
 ad:a.defers=[]
 sb:Sat n e b
 qv:∀i o t,ops[i]?=some o->i∈Jf ops done ops.size->o.dst=some t->zu b t=f i/\t<n
 qx:∀i o,ops[i]?=some o->i∈Jf ops done ops.size->∀h',LdOK o b.eval h0 h'->QExec P (execOp b.eval o) h' (.value (f i))
 tt:∀j,j∈hvL ops->(j∈todo↔listed.getD j false=false)
 ch:∀j,j∈hvL ops->(listed.getD j false=true↔j∈done)
 dn:∀j∈done,j∈hvL ops
 th:∀j∈todo,j∈hvL ops
 nd:todo.Nodup
 wt:∃fu,todo.length<=fu/\wB7 P n ops h0 K md fu done todo e h
 kp:∀i o,ops[i]?=some o->zm o=true->Xt ops i=false->listed.getD i false=false->LdOK o b.eval h0 h
 sm:Same (yx ops.toList) a0 a
theorem zge{ld:Bool}(ac:qi ops ops.size=true)(an:j8 ops ops.size=true)(aj:Xu ops ops.size=true){f:Nat->Value}{b:Act}(am:b.tmps.size=n)(ae:∀i∈l,i<ops.size)(O:l.Pairwise (· < ·))
  (H:∀l1 i l2,l=l1++i::l2->∃o,ops[i]?=some o/\znr o=true/\(ld=false->zm o=false)/\wj o.op=true/\yc n [] o.dst=true/\∀h',LdOK o (je ops f l1 b).eval h h'->QExec P (execOp (je ops f l1 b).eval o) h' (.value (f i))):
  ∀i o,ops[i]?=some o->i∈l->(∀t,o.dst=some t->zu (je ops f l b) t=f i/\t<n)/\(ld=false->zm o=false)/\∀h',LdOK o (je ops f l b).eval h h'->QExec P (execOp (je ops f l b).eval o) h' (.value (f i)):=by
 intro i o ho hi
 obtain⟨l1,l2,rfl⟩:=List.append_of_mem hi
 obtain⟨o',q1,q2,q3,q4,q5,q6⟩:=H l1 i l2 rfl
 have:o'=o:=Au (q1.symm.trans ho)
 subst this
 have af:i<ops.size:=ae i (by simp)
 have hs:∀j∈l2,i<j:=λj hj=>by
  rw[Cu]at O
  exact(BL.1 O.2.1).1 j hj
 have Z:je ops f (l1++i::l2) b=je ops f l2 ((je ops f l1 b).put (yw ops i) (f i)):=by rw[zav];rfl
 have aa:yw ops i=o'.dst:=zk ho
 refine⟨λt ht=>?_,q3,λh' hh=>?_⟩
 ·have ai:t<n:=by
   rw[ht]at q5
   unfold yc at q5
   simp at q5;exact q5.2
  refine⟨?_,ai⟩
  rw[Z,xh λj hj hd=>?_,aa,ht,qt (by rw[zjp.1,am];exact ai)]
  have:=qy an i j t af (ae j (by simp[hj])) (by rw[aa,ht]) hd
  have:=hs j hj
  omega
 ·have ah:∀t∈tmpsOf o'.op.operands.toList,zu (je ops f (l1++i::l2) b) t=zu (je ops f l1 b) t:=λt ht=>by
   have e1:je ops f (l1++i::l2) b=je ops f (i::l2) (je ops f l1 b):=zav
   rw[e1]
   refine xh λj hj hd=>?_
   have al:j<ops.size:=ae j (by simp[hj])
   have hw:=qh (Jn aj i o' af ho) j t al hd ht
   obtain⟨oj,ak,x,hx,hb,ap⟩:=Region.waitsFor_spec hw
   have h1:=qj ac i oj af ak x hx hb
   rcases Ad.1 hj with rfl|hj
   ·omega
   ·have:=hs j hj;omega
  rw[yn q4 ah]
  exact q6 h' (LdOK.congr (λx hx=>(ym ah x hx).symm) hh)
theorem z1b{K:Env->zb->Prop}{Q:Exit->Act->World->Prop}(B:World)(bu:zns ops=true){a0:Act}
  (hQ:∀e' a' d' h',Sat n e' a'->Same (yx ops.toList) a0 a'->K e' h'->Q .normal a' (mk B d' h')):
  ∀(N:Nat) (U:List Nat) (listed:Array Bool) (f:Nat->Value) (a b:Act) (e:Env) (h:zb) (d:Nat) (done todo:List Nat),U.length=N->U.Nodup->(∀k,k∈U↔k<ops.size/\listed.getD k false=false) ->
   St7 P n ops h0 K md f a0 listed a b e h done todo->wpAny P .any ops Q N listed a (mk B d h):=by
 obtain⟨cb,au,bh,bC⟩:=zjr bu
 have bz:∀(i:Nat) (o:Oper),ops[i]?=some o->o.guard=none/\wj o.op=true:=λi o ho=>xz cb o (by
  obtain⟨ah,e⟩:=Ac.1 ho
  rw[<-e];simp)
 have af:∀k o,ops[k]?=some o->∀p t,p<ops.size->yw ops p=some t->t∈tmpsOf o.op.operands.toList->Region.waitsFor .any ops k p=true:=λk o ho p t hp hd ht=>
  qh (Jn bC k o (Ac.1 ho).1 ho) p t hp hd ht
 have bG:∀k p,Region.waitsFor .any ops k p=true->p<k:=λk p hw=>by
  obtain⟨oj,bS,x,hx,hb,cE⟩:=Region.waitsFor_spec hw
  have:=qj au k oj (Ac.1 bS).1 bS x hx hb
  omega
 have cn:∀{listed:Array Bool} {f:Nat->Value} {a b:Act} {e:Env} {h:zb} {d:Nat} {done todo:List Nat},(∀k,k<ops.size->listed.getD k false=true)->St7 P n ops h0 K md f a0 listed a b e h done todo->Q .normal a (mk B d h):=by
  intro listed f a b e h d done todo ae S
  have be:todo=[]:=by
   cases htd:todo with
   |nil=>rfl
   |cons j l=>
    have hm:j∈todo:=by rw[htd];simp
    have hj:=S.th j hm
    have:=(S.tt j hj).1 hm
    rw[ae j (zga.1 hj).1]at this;cases this
  obtain⟨fu,_,hw⟩:=S.wt
  rw[be]at hw
  have hw:K (clean e) h:=by cases fu <;> exact hw
  have hv:∀s,zu a s=zu b s:=λs=>S.ag s λi o ho hq hl=>by
   rw[ae i (Ac.1 ho).1]at hl;cases hl
  have hs:Sat n e a:=⟨S.ad,S.sz,λx hx=>by
   have:=S.sb.all x hx
   have e1:zu a=zu b:=funext hv
   rw[e1];exact this⟩
  exact hQ _ _ _ _ hs.clean S.sm hw
 intro N
 induction N with
 |zero=>
  intro U listed f a b e h d done todo hU _ am S
  have ck:U=[]:=Cd.1 hU
  subst ck
  have ae:∀k,k<ops.size->listed.getD k false=true:=λk hk=>by
   cases hb:listed.getD k false with
   |true=>rfl
   |false=>exact absurd ((am k).2 ⟨hk,hb⟩) (by simp)
  refine⟨?_,cn ae S⟩
  rw[CJ]
  intro j hj
  obtain⟨h1,o,ho,_⟩:=mem_ready.1 hj
  have ah:=(Ac.1 ho).1
  have:=ae j ah
  have h2:=getD_both h1
  rw[this]at h2;cases h2
 |succ N ih=>
  intro U listed f a b e h d done todo hU aY am S
  have cj:∃k,k<ops.size/\listed.getD k false=false:=by
   cases U with
   |nil=>cases hU
   |cons k U=>exact⟨k,(am k).1 Aq⟩
  refine⟨λhr=>?_,λi hi=>?_⟩
  ·exfalso
   obtain⟨k,aO,b8,co⟩:=Qp cj
   have:k∈Region.ready .any ops listed:=mem_ready.2 ⟨by rw[<-b8];simp[S.inv.size,aO],ops[k],AK aO,λx hx hb=>co _ (qj au k ops[k] aO (AK aO) x hx hb)⟩
   rw[hr]at this;cases this
  ·obtain⟨bA,o,ho,ae⟩:=mem_ready.1 hi
   have aB:listed.getD i false=false:=getD_both bA
   have ah:i<ops.size:=(Ac.1 ho).1
   obtain⟨hg,bZ⟩:=bz i o ho
   have aV:i<listed.size:=by rw[S.inv.size];exact ah
   have bH:(U.erase i).length=N:=by rw[CL ((am i).2 ⟨ah,aB⟩),hU];rfl
   have aI:(U.erase i).Nodup:=aY.erase i
   have aG:∀k,k∈U.erase i↔k<ops.size/\(listed.setIfInBounds i true).getD k false=false:=λk=>by
    rw[aY.mem_erase_iff,am k]
    by_cases hk:i=k
    ·subst hk;simp[aV]
    ·rw[getD_set_ne false hk];exact⟨λhx=>hx.2,λhx=>⟨λe=>hk e.symm,hx⟩⟩
   have aA:=S.inv.set hi ah
   have Z:∀k,k≠i->(listed.setIfInBounds i true).getD k false=listed.getD k false:=λk hk=>getD_set_ne false (Ne.symm hk)
   have aa:(listed.setIfInBounds i true).getD i false=true:=by simp[aV]
   have bL:∀t∈tmpsOf o.op.operands.toList,zu a t=zu b t:=λt ht=>S.ag t λk ok O hq hl hd=>by
    have hw:=af i o ho k t (Ac.1 O).1 (by rw[zk O,hd]) ht
    rw[xp hi hw]at hl;cases hl
   have a6:=yn bZ bL
   have aC:∀v,Same (yx ops.toList) a0 (a.put o.dst v):=λv=>S.sm.trans (Same.put a o.dst _ λt ht=>Zs (by
     obtain⟨cF,e2⟩:=Ac.1 ho
     rw[<-e2];simp) t ht)
   unfold wpOp
   rw[ho]
   simp only
   have bm:BN o (yielded ops a.tmps)=true:=by unfold BN;rw[hg]
   rw[if_pos bm]
   left
   unfold Oper.wp
   rw[a6]
   cases hq:Xt ops i with
   |false=>
    have ba:∀m k ok,k<m->ops[k]?=some ok->Xt ops k=false->(∀p,Region.waitsFor .any ops k p=true->listed.getD p false=true)->k∈Jf ops done ops.size:=by
     intro m
     induction m with
     |zero=>intro k ok hk;omega
     |succ m bn=>
      intro k ok hk O ai bp
      refine zk7 (Ac.1 O).1 ai (zfk.2 λp hp hw=>⟨λar=>?_,λar=>?_⟩)
      ·have bY:=bp p hw
       exact(S.ch p (zga.2 ⟨by have:=(Ac.1 O).1;omega,ar⟩)).1 bY
      ·have aM:p<ops.size:=by have:=(Ac.1 O).1;omega
       have aD:=bn p ops[p] (by omega) (AK aM) ar λq bV=>qs S.inv (bp p hw) bV
       obtain⟨_,g2,g3⟩:=Z5 aD
       exact zk7 hp g2 g3
    have a1:=ba (i+1) i o (by omega) ho hq λp hw=>xp hi hw
    have hx:=S.qx i o ho a1 h (by
     cases hl:zm o with
     |false=>exact .inl hl
     |true=>exact S.kp i o ho hl hq aB) B d
    rw[hx,Oper.upon_value]
    have aU:i∉hvL ops:=λhm=>by rw[(zga.1 hm).2]at hq;cases hq
    refine ih _ _ f _ b e h d done todo bH aI aG { S with inv:=aA,ag:=λs hs=>?_,sz:=by rw[size_put];exact S.sz,ad:=by rw[qc];exact S.ad,tt:=λj hj=>(by have:j≠i:=λe=>aU (e ▸ hj);rw[Z j this];exact S.tt j hj),ch:=λj hj=>?_,kp:=λk ok O hl ai hk=>?_,sm:=aC _ }
    ·by_cases hd:o.dst=some s
     ·obtain⟨hv,aQ⟩:=S.qv i o s ho a1 hd
      rw[hd,qt (by rw[S.sz];exact aQ),hv]
     ·rw[zo hd]
      refine S.ag s λk ok O aL a8=>?_
      by_cases ac:k=i
      ·subst ac
       have:ok=o:=Au (O.symm.trans ho)
       subst this;exact hd
      ·exact hs k ok O aL (by rw[Z k ac];exact a8)
    ·have:j≠i:=λe=>aU (e ▸ hj)
     rw[Z j this];exact S.ch j hj
    ·by_cases ac:k=i
     ·subst ac;rw[aa]at hk;cases hk
     ·rw[Z k ac]at hk;exact S.kp k ok O hl ai hk
   |true=>
    have aD:i∈hvL ops:=zga.2 ⟨ah,hq⟩
    have aJ:i∈todo:=(S.tt i aD).2 aB
    obtain⟨fu,cC,cy⟩:=S.wt
    have bQ:∀p q,(listed.setIfInBounds i true).getD p false=true->Region.waitsFor .any ops p q=true->(listed.setIfInBounds i true).getD q false=true:=λp q h1 h2=>qs aA h1 h2
    have bc:z1a ops todo i=true:=by
     unfold z1a
     rw[AP]
     intro k hk
     cases ac:Nat.beq k i with
     |true=>rfl
     |false=>
      have b9:k≠i:=λe=>by rw[e]at ac;simp at ac
      cases hr:memN (upL ops ops.size [i]) k with
      |false=>rfl
      |true=>
       exfalso
       have:=zk5 bQ (m:=ops.size) (S:=[i]) (λj hj=>by simp at hj;subst hj;exact aa) k (Jm hr)
       rw[Z k b9]at this
       have h2:=(S.tt k (S.th k hk)).1 hk
       rw[this]at h2;cases h2
    have hW:match ops[i]? with
      |some o=>bif yc n [] o.dst then opW P o e [] h λv h'=>wI P n h' false ops (λe'=>zr0 md ops (i::done) e' h0 h' (wB7 P n ops h0 K md (fu-1) (i::done) (zel i todo) e' h')) (Wc (Jf ops done ops.size) (Jf ops (i::done) ops.size) ops.size) (putO e o.dst [] v)else False
      |none=>False:=by
     cases fu with
     |zero=>(have:todo.length=0:=by omega);rw[Cd.1 this]at aJ;cases aJ
     |succ fu=>
      have:=zt9 (show wB7 P n ops h0 K md (fu+1) done todo e h from cy) aJ bc
      exact this
    rw[ho]at hW
    simp only at hW
    cases hd:yc n [] o.dst with
    |false=>rw[hd]at hW;exact hW.elim
    |true=>
     rw[hd,cond_true]at hW
     refine Yt (b:=b) S.sb.defers ?_
     refine zf7 hW S.sb (qd _) B d λv d' h' hK=>⟨by rw[qc];exact S.sb.defers,λv2 cu=>?_⟩
     have cm:b.put o.dst v2=b.put o.dst v:=cu.symm
     generalize aS:Wc (Jf ops done ops.size) (Jf ops (i::done) ops.size) ops.size=bl at hK
     have ak:∀k,k∈bl↔k<ops.size/\k∈Jf ops (i::done) ops.size/\k∉Jf ops done ops.size:=λk=>by rw[<-aS];exact zjo
     have ax:bl.Pairwise (· < ·):=by rw[<-aS];exact zb1 _ _ _
     have bT:bl.Nodup:=ax.imp λh=>by omega
     have bq:Sat n (putO e o.dst [] v) (b.put o.dst v):=S.sb.putO hd (λ_=>rfl) λhv=>absurd (qd _) hv
     obtain⟨f',e2,HK,bJ,bO,bU⟩:=zk8 f bT hK bq
     have bF:=zge au bh bC (f:=f') (l:=bl) (b:=b.put o.dst v) bq.size (λk hk=>((ak k).1 hk).1) ax bU
     have aZ:∀k∈bl,Xt ops k=false:=λk hk=>(Z5 ((ak k).1 hk).2.1).2.1
     have aP:∀j,j∈hvL ops->((listed.setIfInBounds i true).getD j false=true↔j∈i::done):=λj hj=>by
      by_cases an:j=i
      ·subst an;rw[aa];simp
      ·rw[Z j an,S.ch j hj];simp[an]
     have cr:∀j∈i::done,(listed.setIfInBounds i true).getD j false=true:=λj hj=>by
      rcases Ad.1 hj with rfl|hj
      ·exact aa
      ·exact getD_set_true ((S.ch j (S.dn j hj)).2 hj)
     have bM:∀k,k∈upL ops ops.size (i::done)->(listed.setIfInBounds i true).getD k false=true:=λk hk=>zk5 bQ cr k hk
     have aE:i∉done:=λhm=>by rw[(S.ch i aD).2 hm]at aB;cases aB
     have aN:∀k ok,ops[k]?=some ok->k∈Jf ops done ops.size->∀t∈tmpsOf ok.op.operands.toList,zu (b.put o.dst v) t=zu b t:=λk ok O hk t ht=>zo λbo=>by
      have hw:=af k ok O i t ah (by rw[zk ho,bo]) ht
      exact aE ((zrz hk (bG k i hw) hw).1 hq)
     have aj:∀k ok,ops[k]?=some ok->k∈Jf ops done ops.size->∀t∈tmpsOf ok.op.operands.toList,zu (je ops f' bl (b.put o.dst v)) t=zu b t:=λk ok O hk t ht=>by
      rw[xh λp hp aH=>?_]
      ·exact aN k ok O hk t ht
      ·have hw:=af k ok O p t ((ak p).1 hp).1 aH ht
       exact((ak p).1 hp).2.2 ((zrz hk (bG k p hw) hw).2 (aZ p hp))
     have a7:∀k ok t,ops[k]?=some ok->k≠i->ok.dst=some t->o.dst≠some t:=λk ok t O ac ay bo=>by
      have:=qy bh k i t (Ac.1 O).1 ah (by rw[zk O,ay]) (by rw[zk ho,bo])
      exact ac this
     have ap:∀k,Xt ops k=false->k≠i:=λk hk e=>by rw[e,hq]at hk;cases hk
     have cA:∀k ok,ops[k]?=some ok->zm ok=true->Xt ops k=false->k∈Jf ops done ops.size->LdOK ok b.eval h0 h'->LdOK ok (je ops f' bl (b.put o.dst v)).eval h0 h':=λk ok O _ _ hk hh=>
      LdOK.congr (λx hx=>(ym (aj k ok O hk) x hx)) hh
     have bD:wB7 P n ops h0 K md (fu-1) (i::done) (zel i todo) e2 h'/\(∀k ok,ops[k]?=some ok->zm ok=true->Xt ops k=false->(listed.setIfInBounds i true).getD k false=false->LdOK ok (je ops f' bl (b.put o.dst v)).eval h0 h'):=by
      unfold zr0 at HK
      cases hl:zwk ops (upL ops ops.size (i::done)) ops.size with
      |false=>
       rw[hl,cond_false]at HK
       exact⟨HK,λk ok O bj ai hf=>by rw[bM k (zjq hl k ok (Ac.1 O).1 O bj ai)]at hf;cases hf⟩
      |true=>
       rw[hl,cond_true]at HK
       cases md with
       |false=>exact⟨HK.2,λ_ _ _ _ _ _=>.inr (.inl HK.1)⟩
       |true=>
        rw[cond_true]at HK
        obtain⟨g1,g2⟩:=zgd HK
        refine⟨g1,λk ok O bj ai hf=>.inr (.inr λt a p cq hp=>?_)⟩
        obtain⟨t',a',p',e1,cc,e3,e4⟩:=g2 k ok (Ac.1 O).1 O bj ai (λhm=>by rw[bM k hm]at hf;cases hf)
        rw[cq]at e1
        injection e1 with _ e1
        subst e1
        have eb:(je ops f' bl (b.put o.dst v)).eval a=rho e2 [] a:=xf bJ (qd _) cc a (by simp)
        rw[eb,e3]at hp
        injection hp with hp
        injection hp with hp
        rw[<-hp];exact e4
     have cd:∀j,j∈hvL ops->(j∈zel i todo↔(listed.setIfInBounds i true).getD j false=false):=λj hj=>by
      rw[Jl]
      by_cases an:j=i
      ·subst an;rw[aa];simp
      ·rw[Z j an,<-S.tt j hj];exact⟨λhx=>hx.1,λhx=>⟨hx,an⟩⟩
     refine ih _ _ f' _ (je ops f' bl (b.put o.dst v)) e2 h' d' (i::done) (zel i todo) bH aI aG ⟨aA,λs hs=>?_,by rw[size_put];exact S.sz,by rw[qc];exact S.ad,bJ,λk ok t O hk ay=>?_,λk ok O hk bB hh=>?_,cd,aP,(λj hj=>by
      rcases Ad.1 hj with rfl|hj
      ·exact aD
      ·exact S.dn j hj),(λj hj=>S.th j (Jl.1 hj).1),Xs S.nd,⟨fu-1,by have:=zk3 aJ;omega,bD.1⟩,bD.2,aC _⟩
     ·-- slots
      have cp:∀k ok,ops[k]?=some ok->Xt ops k=false->listed.getD k false=false->ok.dst≠some s:=λk ok O aL a8=>hs k ok O aL (by rw[Z k (ap k aL)];exact a8)
      have aS:∀p∈bl,yw ops p≠some s:=λp hp aH=>by
       have aM:=((ak p).1 hp).1
       have O:ops[p]?=some ops[p]:=AK aM
       have ar:=aZ p hp
       refine hs p _ O ar ?_ (by rw[<-zk O];exact aH)
       cases hlp:(listed.setIfInBounds i true).getD p false with
       |false=>rfl
       |true=>
        exfalso
        rw[Z p (ap p ar)]at hlp
        have:∀m q,q<m->q<ops.size->Xt ops q=false->listed.getD q false=true->q∈Jf ops done ops.size:=by
         intro m
         induction m with
         |zero=>intro q hq;omega
         |succ m bn=>
          intro q cB cz ca bI
          refine zk7 cz ca (zfk.2 λp2 cg bE=>⟨λaF=>?_,λaF=>?_⟩)
          ·exact(S.ch p2 (zga.2 ⟨by omega,aF⟩)).1 (qs S.inv bI bE)
          ·have bP:=bn p2 (by omega) (by omega) aF (qs S.inv bI bE)
           obtain⟨_,g2,g3⟩:=Z5 bP
           exact zk7 cg g2 g3
        exact((ak p).1 hp).2.2 (this (p+1) p (by omega) aM ar hlp)
      rw[xh aS]
      by_cases aT:o.dst=some s
      ·rw[<-cm,aT]
       have aQ:s<n:=by
        rw[aT]at hd
        unfold yc at hd
        simp at hd;exact hd.2
       rw[qt (by rw[S.sz];exact aQ),qt (by rw[S.sb.size];exact aQ)]
      ·rw[zo aT,zo aT];exact S.ag s cp
     ·by_cases al:k∈bl
      ·exact(bF k ok O al).1 t ay
      ·have az:k∈Jf ops done ops.size:=Classical.byContradiction λhc=>al ((ak k).2 ⟨(Ac.1 O).1,hk,hc⟩)
       have ai:=(Z5 az).2.1
       obtain⟨q1,q2⟩:=S.qv k ok t O az ay
       refine⟨?_,q2⟩
       rw[xh λp hp aH=>?_,zo (a7 k ok t O (ap k ai) ay),q1,bO k al]
       have:=qy bh p k t ((ak p).1 hp).1 (Ac.1 O).1 aH (by rw[zk O,ay])
       subst this;exact al hp
     ·by_cases al:k∈bl
      ·obtain⟨_,q2,q3⟩:=bF k ok O al
       exact q3 bB (.inl (q2 rfl))
      ·have az:k∈Jf ops done ops.size:=Classical.byContradiction λhc=>al ((ak k).2 ⟨(Ac.1 O).1,hk,hc⟩)
       rw[yn (b:=b) (bz k ok O).2 (aj k ok O az),bO k al]
       exact S.qx k ok O az bB (LdOK.congr (λx hx=>(ym (aj k ok O az) x hx).symm) hh)
theorem zjs{K:Env->zb->Prop}{Q:Exit->Act->World->Prop}(B:World)(aa:zns ops=true)
  (H:wI P n h true ops (λe'=>wB7 P n ops h K md (hvL ops).length [] (hvL ops) e' h) (Wc [] (Jf ops [] ops.size) ops.size) e) (hs:Sat n e a)
  (hQ:∀e' a' d' h',Sat n e' a'->Same (yx ops.toList) a a'->K e' h'->Q .normal a' (mk B d' h')) (d:Nat):wpAny P .any ops Q ops.size (Bc ops.size false) a (mk B d h):=by
 obtain⟨ax,ac,am,aj⟩:=zjr aa
 have Z:∀k,k∈Wc [] (Jf ops [] ops.size) ops.size↔k∈Jf ops [] ops.size:=λk=>by
  rw[zjo]
  exact⟨λh=>h.2.1,λh=>⟨(Z5 h).1,h,by simp⟩⟩
 have O:=zb1 [] (Jf ops [] ops.size) ops.size
 generalize Wc [] (Jf ops [] ops.size) ops.size=bl at H Z O
 have ai:bl.Nodup:=O.imp λh=>by omega
 obtain⟨f,e2,HK,an,_,ak⟩:=zk8 (λ_=>undef) ai H hs
 have af:=zge ac am aj (f:=f) (l:=bl) (b:=a) hs.size (λk hk=>(Z5 ((Z k).1 hk)).1) O ak
 have ae:∀s,(∀i o,ops[i]?=some o->Xt ops i=false->(Bc ops.size false).getD i false=false->o.dst≠some s)->zu a s=zu (je ops f bl a) s:=λs ar=>(xh λp hp ap=>by
  have al:=(Z5 ((Z p).1 hp)).1
  have ah:ops[p]?=some ops[p]:=AK al
  exact ar p _ ah (Z5 ((Z p).1 hp)).2.1 (getD_replicate_false _ _) (by rw[<-zk ah];exact ap)).symm
 refine z1b B aa hQ ops.size (BE ops.size) _ f a (je ops f bl a) e2 h d [] (hvL ops) DN Dm (λk=>by rw[BX,getD_replicate_false];simp) ⟨⟨by simp,λj oj _ hl=>(by rw[getD_replicate_false]at hl;cases hl),λt ht au=>by omega⟩,ae,hs.size,hs.defers,an,λi o t ho hi hd=>(af i o ho ((Z i).2 hi)).1 t hd,λi o ho hi=>(af i o ho ((Z i).2 hi)).2.2,(λj hj=>by rw[getD_replicate_false];simp[hj]),(λj hj=>by rw[getD_replicate_false];simp),(λj hj=>by cases hj),(λj hj=>hj),zwi ops,⟨_,Ae _,HK⟩,λ_ _ _ _ _ _=>.inr (.inl (Keep.refl _ _)),Same.refl _ _⟩
def zwl:List (Nat×Nat)->Nat->Option Nat
 |[],_=>none
 |(j,m)::l,i=>bif Nat.beq i j then some m else zwl l i
def regionF(P:Program)(n:Nat)(tl:List (Nat×Nat))(id:Nat)(ops:Array Oper)(O:Bool)(K:Env->zb->Prop)(e:Env)(h:zb):Prop:=
 bif O then(match zwl tl id with
  |none=>bif Region.lexB .any ops then wQ P n ops h true (λe'=>K (clean e') h) ops.toList e else False
  |some m=>bif Nat.beq m 2000 then(bif mixB ops then wU P n h (λe'=>wT P n ops h K false [] (heavyL 0 ops.toList) e' h) ops.toList e else False)else bif Nat.beq m 3000 then(bif mixB ops then wU P n h (λe'=>wT P n ops h K true [] (heavyL 0 ops.toList) e' h) ops.toList e else False)else bif Nat.beq m 5000 then(bif znq ops then wU P n h (λe'=>wB P n ops h K false (heavyL 0 ops.toList).length [] (heavyL 0 ops.toList) e' h) ops.toList e else False)else bif Nat.beq m 6000 then(bif znq ops then wU P n h (λe'=>wB P n ops h K true (heavyL 0 ops.toList).length [] (heavyL 0 ops.toList) e' h) ops.toList e else False)else bif Nat.beq m 7000 then(bif zns ops then wI P n h true ops (λe'=>wB7 P n ops h K false (hvL ops).length [] (hvL ops) e' h) (Wc [] (Jf ops [] ops.size) ops.size) e else False)else bif Nat.beq m 8000 then(bif zns ops then wI P n h true ops (λe'=>wB7 P n ops h K true (hvL ops).length [] (hvL ops) e' h) (Wc [] (Jf ops [] ops.size) ops.size) e else False)else bif Nat.beq m 1000 then(bif Region.lexB .any ops then wK P n ops h (λe'=>∀h',Keep h.size h h'->K (clean e') h') ops.toList e else False)
   else bif Region.lexTailB .any ops m then wQ P n ops h false (λe'=>wR P n ops K (ops.toList.drop m) e' h) (ops.toList.take m) e else False)
 else wR P n ops K ops.toList e h
theorem Zn(l m:List Oper):yx (l++m)=yx l++yx m:=by
 induction l with
 |nil=>rfl
 |cons o l ih=>simp only[A3,yx];split <;> simp[ih]
theorem zb2(hm:P.follows .mixedOrders=true){tl:List (Nat×Nat)}{id:Nat}{O:Bool}{K:Env->zb->Prop}
  (H:regionF P n tl id ops O K e h) (B:World) (d:Nat) (hs:Sat n e a) {Q:Exit->Act->World->Prop}
  (hQ:∀e' a' d' h',Sat n e' a'->Same (yx ops.toList) a a'->K e' h'->Q .normal a' (mk B d' h')):(CX id ops O).wp P Q a (mk B d h):=by
 unfold regionF at H
 cases O with
 |false=>exact wp_region_list (Jk B _ _ _ _ _ H hs hQ)
 |true=>
  simp only[cond_true]at H
  split at H
  ·cases hB:Region.lexB .any ops with
   |false=>rw[hB]at H;exact H.elim
   |true=>
    rw[hB]at H
    refine wp_region_quiet (C:=λw=>∃d,w=mk B d h) hm hB ⟨d+1,rfl⟩ ?_
    refine zrw B _ _ _ H hs λe' a' q1 q2 q3=>?_
    rintro w' ⟨d',rfl⟩
    exact hQ _ _ _ _ q1.clean q2 q3
  ·rename_i m _
   cases hX:Nat.beq m 2000 with
   |true=>
    rw[hX]at H
    simp only[cond_true]at H
    cases hB:mixB ops with
    |false=>rw[hB]at H;exact H.elim
    |true=>
     rw[hB]at H
     exact wp_region_any hm (mix_sound B hB H hs hQ (d+1))
   |false=>
   rw[hX]at H
   simp only[cond_false]at H
   cases hY:Nat.beq m 3000 with
   |true=>
    rw[hY]at H
    simp only[cond_true]at H
    cases hB:mixB ops with
    |false=>rw[hB]at H;exact H.elim
    |true=>
     rw[hB]at H
     exact wp_region_any hm (mix_sound B hB H hs hQ (d+1))
   |false=>
   rw[hY]at H
   simp only[cond_false]at H
   cases hZ:Nat.beq m 5000 with
   |true=>
    rw[hZ]at H
    simp only[cond_true]at H
    cases hB:znq ops with
    |false=>rw[hB]at H;exact H.elim
    |true=>
     rw[hB]at H
     exact wp_region_any hm (zjn B hB H hs hQ (d+1))
   |false=>
   rw[hZ]at H
   simp only[cond_false]at H
   cases hY6:Nat.beq m 6000 with
   |true=>
    rw[hY6]at H
    simp only[cond_true]at H
    cases hB:znq ops with
    |false=>rw[hB]at H;exact H.elim
    |true=>
     rw[hB]at H
     exact wp_region_any hm (zjn B hB H hs hQ (d+1))
   |false=>
   rw[hY6]at H
   simp only[cond_false]at H
   cases hY7:Nat.beq m 7000 with
   |true=>
    rw[hY7]at H
    simp only[cond_true]at H
    cases hB:zns ops with
    |false=>rw[hB]at H;exact H.elim
    |true=>
     rw[hB]at H
     exact wp_region_any hm (zjs B hB H hs hQ (d+1))
   |false=>
   rw[hY7]at H
   simp only[cond_false]at H
   cases hY8:Nat.beq m 8000 with
   |true=>
    rw[hY8]at H
    simp only[cond_true]at H
    cases hB:zns ops with
    |false=>rw[hB]at H;exact H.elim
    |true=>
     rw[hB]at H
     exact wp_region_any hm (zjs B hB H hs hQ (d+1))
   |false=>
   rw[hY8]at H
   simp only[cond_false]at H
   cases hM:Nat.beq m 1000 with
   |true=>
    rw[hM]at H
    simp only[cond_true]at H
    cases hB:Region.lexB .any ops with
    |false=>rw[hB]at H;exact H.elim
    |true=>
     rw[hB]at H
     refine wp_region_quiet (C:=λw=>∃d h',Keep h.size h h'/\w=mk B d h') hm hB ⟨d+1,h,Keep.refl _ _,rfl⟩ ?_
     refine zrx B _ _ _ H hs λe' a' q1 q2 q3=>?_
     rintro w' ⟨d',h',hk,rfl⟩
     exact hQ _ _ _ _ q1.clean q2 (q3 h' hk)
   |false=>
   rw[hM]at H
   simp only[cond_false]at H
   cases hB:Region.lexTailB .any ops m with
   |false=>rw[hB]at H;exact H.elim
   |true=>
    rw[hB]at H
    have:=wp_region_still_tail (id:=id) (Q:=Q) (a:=a) (w:=mk B d h) (l:=ops.toList) m hm (by simpa using hB) (by
     simp only[Array.toArray_toList]
     refine zry B (d+1) _ _ _ H hs λe' a' q1 q2 q3=>?_
     refine Jk B _ _ _ _ (d+1) q3 q1 λaa ae af ac q4 q5 q6=>hQ aa ae af ac q4 ?_ q6
     have Z:yx ops.toList=yx (ops.toList.take m)++yx (ops.toList.drop m):=by rw[<-Zn,BD]
     rw[Z]
     exact(q2.mono λx hx=>Ao _ hx).trans (q5.mono λx hx=>AB _ hx))
    simpa using this
end
section
variable {n:Nat} {e:Env} {a:Act} {ms:List Nat} {P:Program} {h:zb} {R:Value -> zb -> Prop} {f:FuncId}
@[reducible] def zua:List Atom->Type->Type
 |[],X=>X
 |t::l,X=>t.den->zua l X
def z9t{X:Type}:(l:List Atom)->zua l X->(List Value->X->Prop)->Prop
 |[],f,k=>k [] f
 |t::l,f,k=>∀x:t.den,z9t l (f x) λvs y=>k (t.enc x::vs) y
def znt{X:Type}:(l:List Atom)->List Value->zua l X->Option X
 |[],[],f=>some f
 |t::l,v::vs,f=>match t.dec v with
  |some x=>znt l vs (f x)
  |none=>none
 |_,_,_=>none
def mkC{X:Type}:(l:List Atom)->(List Value->X)->zua l X
 |[],f=>f []
 |t::l,f=>λx=>mkC l λvs=>f (t.enc x::vs)
def zub{X Y:Type}:(l:List Atom)->zua l X->zua l Y->zua l (X×Y)
 |[],f,g=>(f,g)
 |_::l,f,g=>λx=>zub l (f x) (g x)
theorem zgf{X:Type}:∀{l:List Atom} {vs:List Value} {f:zua l X} {x:X} {k:List Value->X->Prop},znt l vs f=some x->z9t l f k->k vs x
 |[],[],f,x,k,h,g=>by simp only[znt,Aa]at h;subst h;exact g
 |[],_::_,f,x,k,h,g=>by simp[znt]at h
 |_::_,[],f,x,k,h,g=>by simp[znt]at h
 |t::l,v::vs,f,x,k,h,g=>by
  simp only[znt]at h
  split at h
  ·rename_i y hy
   have:=zgf h (g y)
   rw[Atom.enc_of_dec hy]at this
   exact this
  ·cases h
theorem zk9{X:Type}:∀{l:List Atom} {vs:List Value} {f:List Value->X} {x:X},znt l vs (mkC l f)=some x->x=f vs
 |[],[],f,x,h=>by simp only[znt,mkC,Aa]at h;exact h.symm
 |[],_::_,f,x,h=>by simp[znt]at h
 |_::_,[],f,x,h=>by simp[znt]at h
 |t::l,v::vs,f,x,h=>by
  simp only[znt,mkC]at h
  split at h
  ·rename_i y hy
   have:=zk9 h
   rw[Atom.enc_of_dec hy]at this
   exact this
  ·cases h
theorem zla{X:Type}:∀{l:List Atom} {f:List Value->X} {k:List Value->X->Prop},(∀vs,k vs (f vs))->z9t l (mkC l f) k
 |[],_,_,h=>h []
 |_::_,_,_,h=>λ_=>zla λ_=>h _
abbrev Ann:=List (Nat×VT)
def wo:Ann->List Atom
 |[]=>[]
 |(_,.one t)::J=>t::wo J
 |(_,.agg l)::J=>l++wo J
def zad(σ:Nat->Option Value):Ann->Option (List Value)
 |[]=>some []
 |(i,.one _)::J=>match σ i,zad σ J with
  |some v,some vs=>some (v::vs)
  |_,_=>none
 |(i,.agg l)::J=>match σ i,zad σ J with
  |some (.agg cs),some vs=>bif Nat.beq cs.toList.length l.length then some (cs.toList++vs)else none
  |_,_=>none
def Yc:Ann->List Value->Env
 |[],_=>[]
 |(i,.one _)::J,v::vs=>(i,[],v)::Yc J vs
 |(_,.one _)::_,[]=>[]
 |(i,.agg l)::J,vs=>(i,[],.agg (vs.take l.length).toArray)::Yc J (vs.drop l.length)
def zdi(e:Env)(i:Nat):Option Value:=match look e i with
 |some ([],v)=>some v
 |_=>none
theorem jo(h:Sat n e a){i:Nat}{v:Value}(hv:zdi e i=some v):zu a i=v:=by
 unfold zdi at hv
 split at hv
 ·rename_i u hl
  simp only[Aa]at hv
  subst hv
  exact(h.all _ (Xp hl)).1 trivial
 ·cases hv
theorem jy{n:Nat}{e:Env}{a:Act}(h:Sat n e a):∀{J:Ann} {vs:List Value},zad (zdi e) J=some vs->zad (λi=>some (zu a i)) J=some vs
 |[],vs,hv=>hv
 |(i,.one t)::J,vs,hv=>by
  simp only[zad]at hv ⊢
  split at hv
  ·rename_i v us h1 h2
   simp only[jy h h2,jo h h1]
   exact hv
  ·cases hv
 |(i,.agg l)::J,vs,hv=>by
  simp only[zad]at hv ⊢
  split at hv
  ·rename_i cs us h1 h2
   simp only[jy h h2,jo h h1]
   exact hv
  ·cases hv
theorem Wt{σ:Nat->Value}:∀{J:Ann} {vs:List Value},zad (λi=>some (σ i)) J=some vs->∀x∈Yc J vs,fact σ x
 |[],vs,_,x,hx=>by cases hx
 |(i,.one t)::J,vs,hv,x,hx=>by
  simp only[zad]at hv
  split at hv
  ·rename_i v us h1 h2
   simp only[Aa]at h1 hv
   subst hv
   simp only[Yc,Ad]at hx
   rcases hx with rfl|hx
   ·exact⟨λ_=>h1,λhn=>absurd trivial hn⟩
   ·exact Wt h2 x hx
  ·cases hv
 |(i,.agg l)::J,vs,hv,x,hx=>by
  simp only[zad]at hv
  split at hv
  ·rename_i cs us h1 h2
   simp only[Aa]at h1
   cases hb:Nat.beq cs.toList.length l.length with
   |false=>rw[hb]at hv;cases hv
   |true=>
    rw[hb]at hv
    simp only[cond_true,Aa]at hv
    subst hv
    have O:cs.toList.length=l.length:=Ag hb
    simp only[Yc,Ad]at hx
    rcases hx with rfl|hx
    ·refine⟨λ_=>?_,λhn=>absurd trivial hn⟩
     simp only
     rw[h1,<-O,Em]
    ·rw[<-O,List.drop_left]at hx
     exact Wt h2 x hx
  ·cases hv
def Wu(ms:List Nat):Env->Env
 |[]=>[]
 |(i,[],v)::e=>bif memN ms i then Wu ms e else(i,[],v)::Wu ms e
 |(_,_::_,_)::e=>Wu ms e
theorem zwm{x:Nat×qb×Value}(h:x∈Wu ms e):x∈e/\x.2.1=[]/\x.1∉ms:=by
 induction e with
 |nil=>cases h
 |cons y e ih=>
  obtain⟨i,c,v⟩:=y
  cases c with
  |nil=>
   simp only[Wu]at h
   cases hm:memN ms i with
   |true=>rw[hm]at h;exact⟨Af _ (ih h).1,(ih h).2⟩
   |false=>
    rw[hm]at h
    simp only[cond_false]at h
    rcases Ad.1 h with rfl|h
    ·exact⟨Aq,rfl,xn hm⟩
    ·exact⟨Af _ (ih h).1,(ih h).2⟩
  |cons g c=>
   simp only[Wu]at h
   exact⟨Af _ (ih h).1,(ih h).2⟩
theorem zb3{a a1:Act}(hs:Sat n e a)(hd:a1.defers=[])(hz:a1.tmps.size=n)(O:Same ms a a1){J:Ann}{vs:List Value}
  (hv:zad (λi=>some (zu a1 i)) J=some vs):Sat n (Yc J vs++Wu ms e) a1:=by
 refine⟨hd,hz,λx hx=>?_⟩
 rcases An.1 hx with hx|hx
 ·exact Wt hv x hx
 ·obtain⟨h1,h2,h3⟩:=zwm hx
  have hf:=hs.all x h1
  refine⟨λ_=>?_,λhn=>absurd (by rw[h2];trivial) hn⟩
  rw[O _ h3]
  exact hf.1 (by rw[h2];trivial)
def j5:Code->Option Nat
 |.region id _ _=>some id
 |.seq a b=>match j5 a with
  |some i=>some i
  |none=>j5 b
 |.cond _ a b=>match j5 a with
  |some i=>some i
  |none=>j5 b
 |.block _ b=>j5 b
 |.loop b=>j5 b
 |_=>none
def Qc:Code->List Nat
 |.region _ ops _=>yx ops.toList
 |.seq a b=>Qc a++Qc b
 |.cond _ a b=>Qc a++Qc b
 |.block _ b=>Qc b
 |.loop b=>Qc b
 |_=>[]
structure Plan where
 tails:List (Nat×Nat)
 loops:List (Nat×Ann)
 joins:List (Nat×Ann)
def z9u:List (Nat×Ann)->Nat->Option Ann
 |[],_=>none
 |(j,m)::l,i=>bif Nat.beq i j then some m else z9u l i
def z1c(l:List (Nat×Ann)):Option Nat->Option Ann
 |some i=>z9u l i
 |none=>none
abbrev zii:=Exit->Env->zb->Prop
def zuc(K:Env->zb->Prop)(Q:zii):zii
 |.normal,e,h=>K e h
 |x,e,h=>Q x e h
def zr1(id:Nat)(Q:zii):zii
 |.exit i,e,h=>bif Nat.beq i id then Q .normal e h else Q (.exit i) e h
 |x,e,h=>Q x e h
def atC{X:Type}(J:Ann)(F:zua (wo J) X)(e:Env)(k:X->Prop):Prop:=
 match zad (zdi e) J with
 |some vs=>match znt (wo J) vs F with
  |some q=>k q
  |none=>False
 |none=>False
def z9v(J:Ann)(rest:Env->zb->Prop)(F:(Env->zb->Prop)->Prop)(e0:Env):Prop:=
 ∀K:zua (wo J) (zb->Prop),z9t (wo J) K (λvs q=>∀h,rest (Yc J vs++e0) h->q h)->F λe h=>atC J K e λq=>q h
def z9w(J:Ann)(body:(Env->zb->Prop)->Env->zb->Prop)(e0 e:Env)(h:zb):Prop:=
 ∃(I:zua (wo J) (zb->Prop)) (μ:zua (wo J) (zb->Nat)),(atC J (zub (wo J) I μ) e λp=>p.1 h) /\
  z9t (wo J) (zub (wo J) I μ) λvs p=>∀h,p.1 h->body (λe' h'=>atC J (zub (wo J) I μ) e' λq=>q.1 h'/\q.2 h'<p.2 h) (Yc J vs++e0) h
def W(P:Program)(n:Nat)(pl:Plan):Code->zii->Env->zb->Prop
 |.skip,Q,e,h=>Q .normal e h
 |.ret,Q,e,h=>Q .ret e h
 |.exit id,Q,e,h=>Q (.exit id) e h
 |.label _,Q,e,h=>Q .normal e h
 |.goto l,Q,e,h=>Q (.goto l) e h
 |.region id ops draw,Q,e,h=>regionF P n pl.tails id ops draw (λe h=>Q .normal e h) e h
 |.seq x y,Q,e,h=>match z1c pl.joins (j5 y)with
  |none=>W P n pl x (zuc (λe h=>W P n pl y Q e h) Q) e h
  |some J=>z9v J (λe h=>W P n pl y Q e h) (λK=>W P n pl x (zuc K Q) e h) (Wu (Qc x) e)
 |.cond c x y,Q,e,h=>match zac e [] c with
  |some (.bool b)=>(b=true->W P n pl x Q e h)/\(b=false->W P n pl y Q e h)
  |_=>False
 |.block id x,Q,e,h=>W P n pl x (zr1 id Q) e h
 |.loop x,Q,e,h=>match z1c pl.loops (j5 x)with
  |some J=>z9w J (λQn e h=>W P n pl x (zuc Qn Q) e h) (Wu (Qc x) e) e h
  |none=>False
 |_,_,_,_=>False
def z9x(n:Nat)(B:World)(ms:List Nat)(a0:Act)(Q:zii):Exit->Act->World->Prop:=
 λx a w=>∃e d h,w=mk B d h/\Sat n e a/\Same ms a0 a/\Q x e h
theorem zdj{X:Type}{J:Ann}{F:zua (wo J) X}{k:X->Prop}(h:atC J F e k):∃vs q,zad (zdi e) J=some vs/\znt (wo J) vs F=some q/\k q:=by
 unfold atC at h
 split at h
 ·rename_i vs hv
  split at h
  ·rename_i q hq
   exact⟨vs,q,hv,hq,h⟩
  ·exact h.elim
 ·exact h.elim
theorem z5j(hm:P.follows .mixedOrders=true){pl:Plan}:∀(c:Code) (Q:zii) (e:Env) (h:zb),W P n pl c Q e h ->
  ∀(B:World) (d:Nat) (a:Act),Sat n e a->c.wp P (z9x n B (Qc c) a Q) a (mk B d h):=by
 intro c
 induction c with
 |skip=>exact λQ e h H B d a hs=>wp_skip ⟨e,d,h,rfl,hs,Same.refl _ _,H⟩
 |ret=>exact λQ e h H B d a hs=>wp_ret ⟨e,d,h,rfl,hs,Same.refl _ _,H⟩
 |exit id=>exact λQ e h H B d a hs=>wp_exit ⟨e,d,h,rfl,hs,Same.refl _ _,H⟩
 |label l=>exact λQ e h H B d a hs=>wp_label ⟨e,d,h,rfl,hs,Same.refl _ _,H⟩
 |goto l=>exact λQ e h H B d a hs=>wp_goto ⟨e,d,h,rfl,hs,Same.refl _ _,H⟩
 |region id ops az=>
  exact λQ e h H B d a hs=>zb2 hm H B d hs λe' a' d' h' q1 q2 q3=>⟨e',d',h',rfl,q1,q2,q3⟩
 |seq x y Z aa=>
  intro Q e h H B d a hs
  simp only[W]at H
  have hl:∀i∈Qc x,i∈Qc (x.seq y):=λi hi=>Ao _ hi
  have hr:∀i∈Qc y,i∈Qc (x.seq y):=λi hi=>AB _ hi
  split at H
  ·refine wp_seq (wp_mono (Z _ _ _ H B d a hs) ?_)
   rintro ex a1 w1 ⟨e1,d1,h1,rfl,s1,m1,q1⟩
   cases ex with
   |normal=>
    refine wp_mono (aa _ _ _ q1 B d1 a1 s1) ?_
    rintro ex a2 w2 ⟨e2,d2,h2,rfl,s2,m2,q2⟩
    exact⟨e2,d2,h2,rfl,s2,(m1.mono hl).trans (m2.mono hr),q2⟩
   |_=>exact⟨e1,d1,h1,rfl,s1,m1.mono hl,q1⟩
  ·rename_i J hJ
   have H':=H (mkC (wo J) λvs=>λh=>W P n pl y Q (Yc J vs++Wu (Qc x) e) h) (zla λvs h hq=>hq)
   refine wp_seq (wp_mono (Z _ _ _ H' B d a hs) ?_)
   rintro ex a1 w1 ⟨e1,d1,h1,rfl,s1,m1,q1⟩
   cases ex with
   |normal=>
    obtain⟨vs,q,hv,hq,hk⟩:=zdj q1
    have am:=zk9 hq
    subst am
    have au:Sat n (Yc J vs++Wu (Qc x) e) a1:=zb3 hs s1.defers s1.size m1 (jy s1 hv)
    refine wp_mono (aa _ _ _ hk B d1 a1 au) ?_
    rintro ex a2 w2 ⟨e2,d2,h2,rfl,s2,m2,q2⟩
    exact⟨e2,d2,h2,rfl,s2,(m1.mono hl).trans (m2.mono hr),q2⟩
   |_=>exact⟨e1,d1,h1,rfl,s1,m1.mono hl,q1⟩
 |cond c x y Z aa=>
  intro Q e h H B d a hs
  simp only[W]at H
  have hl:∀i∈Qc x,i∈Qc (EC c x y):=λi hi=>Ao _ hi
  have hr:∀i∈Qc y,i∈Qc (EC c x y):=λi hi=>AB _ hi
  split at H
  ·rename_i b hb
   refine wp_cond_split (ji hs (c:=[]) trivial hb) (λan=>?_) (λaj=>?_)
   ·refine wp_mono (Z _ _ _ (H.1 an) B d a hs) ?_
    rintro ex a2 w2 ⟨e2,d2,h2,rfl,s2,m2,q2⟩
    exact⟨e2,d2,h2,rfl,s2,m2.mono hl,q2⟩
   ·refine wp_mono (aa _ _ _ (H.2 aj) B d a hs) ?_
    rintro ex a2 w2 ⟨e2,d2,h2,rfl,s2,m2,q2⟩
    exact⟨e2,d2,h2,rfl,s2,m2.mono hr,q2⟩
  ·exact H.elim
 |block id x ih=>
  intro Q e h H B d a hs
  refine wp_block (wp_mono (ih _ _ _ H B d a hs) ?_)
  rintro ex a1 w1 ⟨e1,d1,h1,rfl,s1,m1,q1⟩
  cases ex with
  |exit i=>
   simp only[zr1]at q1
   simp only[Exit.inBlock]
   by_cases hb:Nat.beq i id=true
   ·rw[if_pos (Ag hb)]
    simp only[hb,cond_true]at q1
    exact⟨e1,d1,h1,rfl,s1,m1,q1⟩
   ·rw[if_neg (λhe=>hb (by rw[he];simp))]
    simp only[hb,cond_false]at q1
    exact⟨e1,d1,h1,rfl,s1,m1,q1⟩
  |_=>exact⟨e1,d1,h1,rfl,s1,m1,q1⟩
 |loop x ih=>
  intro Q e h H B d a hs
  simp only[W]at H
  split at H
  ·rename_i J hJ
   obtain⟨I,μ,h0,ac⟩:=H
   obtain⟨ap,p0,af,ay,ah⟩:=zdj h0
   let F:=zub (wo J) I μ
   let at_:Act->Option ((zb->Prop)×(zb->Nat)):=λa1=>(zad (λi=>some (zu a1 i)) J).bind λvs=>znt (wo J) vs F
   refine wp_loop (λa1 w1=>∃d1 h1 vs p,w1=mk B d1 h1/\a1.defers=[]/\a1.tmps.size=n/\Same (Qc x) a a1/\zad (λi=>some (zu a1 i)) J=some vs/\znt (wo J) vs F=some p/\p.1 h1)
    (λa1 w1=>match at_ a1 with|some p=>p.2 w1.heap|none=>0) ⟨d,h,ap,p0,rfl,hs.defers,hs.size,Same.refl _ _,jy hs af,ay,ah⟩ ?_
   rintro a1 w1 ⟨d1,h1,vs,p,rfl,ai,ax,O,hv,hp,hI⟩
   have s1:Sat n (Yc J vs++Wu (Qc x) e) a1:=zb3 hs ai ax O hv
   have hb:=zgf hp ac h1 hI
   refine wp_mono (ih _ _ _ hb B d1 a1 s1) ?_
   rintro ex a2 w2 ⟨e2,d2,h2,rfl,s2,m2,q2⟩
   cases ex with
   |normal=>
    obtain⟨ar,q,ae,hq,al,ak⟩:=zdj q2
    refine⟨⟨d2,h2,ar,q,rfl,s2.defers,s2.size,O.trans m2,jy s2 ae,hq,al⟩,?_⟩
    have e1:at_ a1=some p:=by simp only[at_,hv,Ck];exact hp
    have e2:at_ a2=some q:=by simp only[at_,jy s2 ae,Ck];exact hq
    rw[e1,e2]
    exact ak
   |_=>exact⟨e2,d2,h2,rfl,s2,O.trans m2,q2⟩
  ·exact H.elim
 |_=>exact λQ e h H=>H.elim
def zwn:Nat->List Value->Env
 |_,[]=>[]
 |i,v::vs=>(i,[],v)::zwn (i+1) vs
def z0s(P:Program)(h:zb)(e:Env):List ResultVar->(List Value->Prop)->Prop
 |[],K=>K []
 |.tmp t::l,K=>match zdi e t with
  |some v=>z0s P h e l λvs=>K (v::vs)
  |none=>False
 |.cell a t::l,K=>match zdi e a with
  |some p=>zk2 P h t p none λv=>z0s P h e l λvs=>K (v::vs)
  |none=>False
def zij:List Value->Value
 |[v]=>v
 |vs=>.tuple vs.toArray
def qbk(P:Program)(rs:List ResultVar)(R:Value->zb->Prop):zii
 |.normal,e,h=>z0s P h e rs λvs=>R (zij vs) h
 |.ret,e,h=>z0s P h e rs λvs=>R (zij vs) h
 |_,_,_=>False
def zgg(tmps:Array Value):ResultVar->Sem Value
 |.tmp t=>pure (tmps.getD t undef)
 |.cell a t=>do loadVar t (<-asAddr (tmps.getD a undef))
theorem zdk{P:Program}{n:Nat}{h:zb}{e:Env}{a:Act}(hs:Sat n e a):∀{l:List ResultVar} {K:List Value->Prop},z0s P h e l K->∃vs,K vs/\vs.length=l.length/\QExec P (l.mapM (zgg a.tmps)) h vs
 |[],K,H=>⟨[],H,rfl,λ_ _=>by simp⟩
 |.tmp t::l,K,H=>by
  simp only[z0s]at H
  split at H
  ·rename_i v hv
   obtain⟨vs,h1,h2,h3⟩:=zdk hs H
   refine⟨v::vs,h1,by simp[h2],?_⟩
   rw[En]
   refine QExec.bind (x:=v) ?_ (h3.bind (QExec.pure _))
   rw[<-jo hs hv]
   exact QExec.pure _
  ·exact H.elim
 |.cell x t::l,K,H=>by
  simp only[z0s]at H
  split at H
  ·rename_i p hp
   obtain⟨v,hK,hq⟩:=zf2 H
   obtain⟨vs,h1,h2,h3⟩:=zdk hs hK
   refine⟨v::vs,h1,by simp[h2],?_⟩
   rw[En]
   refine QExec.bind (x:=v) ?_ (h3.bind (QExec.pure _))
   have hx:a.tmps.getD x undef=p:=jo hs hp
   simp only[zgg,hx]
   have O:=hq trivial
   unfold D5 at O
   unfold zk2 at H
   split at H
   ·exact O
   ·exact O
   ·exact H.elim
  ·exact H.elim
theorem Qq{fn:Func}(hs:Sat n e a){rs:List ResultVar}(hr:fn.results.toList=rs)(H:z0s P h e rs λvs=>R (zij vs) h):
  ∃v,R v h/\QExec P (results fn a.tmps) h v:=by
 obtain⟨vs,h1,h2,h3⟩:=zdk hs H
 refine⟨_,h1,?_⟩
 intro B d
 have e0:results fn a.tmps=(fn.results.mapM (zgg a.tmps) >>= λvs=>Dl (if h:vs.size=1 then vs[0]else .tuple vs)):=by
  unfold results
  congr 1
 rw[e0,Array.mapM_eq_mapM_toList,hr,Sem.run_bind,Sem.run_map,h3 B d]
 simp only[Result.andThen_ok,Sem.run_pure]
 match vs,h2 with
 |[],_=>rfl
 |[v],_=>rfl
 |v::u::vs,_=>simp[zij]
theorem Xv(args:Array Value)(k:Nat):∀(vs:List Value) (i:Nat),(∀j v,vs[j]?=some v->(args++Bc k undef).getD (i+j) undef=v) ->
  ∀x∈zwn i vs,fact (λi=>(args++Bc k undef).getD i undef) x
 |[],_,_,x,hx=>by cases hx
 |v::vs,i,h,x,hx=>by
  simp only[zwn,Ad]at hx
  rcases hx with rfl|hx
  ·exact⟨λ_=>h 0 v rfl,λhn=>absurd trivial hn⟩
  ·exact Xv args k vs (i+1) (λj u hj=>by have:=h (j+1) u (by simpa using hj);rwa[show i+(j+1)=i+1+j by omega]at this) x hx
theorem z5k(hm:P.follows .mixedOrders=true){fn:Func}{c:Code}(pl:Plan)(vs:List Value){rs:List ResultVar}(hf:P.funcs[f]?=some fn)(hb:fn.body=some c)(hr:fn.results.toList=rs)(hn:fn.ntmps=n)
  (hz:Nat.ble vs.length n=true) (H:W P n pl c (qbk P rs R) (zwn 0 vs) h):XC P f vs.toArray h R:=by
 intro B d
 subst hn
 refine calls_of_wp hf hb ?_
 have Z:vs.length<=fn.ntmps:=BM hz
 have hs:Sat fn.ntmps (zwn 0 vs) { tmps:=vs.toArray++Bc (fn.ntmps-vs.toArray.size) undef,defers:=[] }:=by
  refine⟨rfl,by simp;omega,?_⟩
  refine Xv vs.toArray _ vs 0 λj v hj=>?_
  have O:j<vs.length:=by
   rcases AR j vs.length with h|h
   ·exact h
   ·rw[Bj h]at hj;cases hj
  simp only[AD,Bi]
  rw[CB (by simpa using O)]
  simp[hj]
 refine wp_mono (z5j hm c _ _ _ H B d _ hs) ?_
 rintro ex a w ⟨e1,d1,h1,rfl,s1,m1,q1⟩
 cases ex with
 |normal=>
  obtain⟨v,hv,hq⟩:=Qq s1 hr q1
  exact⟨s1.defers,v,hq B d1,v,d1,h1,rfl,rfl,hv⟩
 |ret=>
  obtain⟨v,hv,hq⟩:=Qq s1 hr q1
  exact⟨s1.defers,v,hq B d1,v,d1,h1,rfl,rfl,hv⟩
 |_=>exact q1.elim
def codeOf(fn:Func):Code:=match fn.body with
 |some c=>c
 |none=>.skip
def Jo(fn:Func):Bool:=match fn.body with
 |some _=>true
 |none=>false
theorem zud(hm:P.follows .mixedOrders=true)(pl:Plan)(vs:List Value){fn:Func}{rs:List ResultVar}(hf:P.funcs[f]?=some fn)(hb:Jo fn=true)(hr:fn.results.toList=rs)(hn:fn.ntmps=n)
  (hz:Nat.ble vs.length n=true) (H:W P n pl (codeOf fn) (qbk P rs R) (zwn 0 vs) h):XC P f vs.toArray h R:=by
 have O:fn.body=some (codeOf fn):=by
  unfold Jo at hb
  unfold codeOf
  split at hb
  ·rename_i c hc;rw[hc]
  ·cases hb
 exact z5k hm pl vs hf O hr hn hz H
end
section
variable {n m k:Nat} {h h':zb} {a:Option Addr} {cs xs news:List Value} {v z:Value} {e t ty:TypeId} {P:Program}
theorem j6(h:zb)(o:Obj):(h.push o)[h.size]?=some o:=by simp
theorem zue(k:Keep n h h'){a:Addr}(ha:a.block<n):zj h' a=zj h a:=by
 unfold zj;rw[k.get _ ha]
def Arr(n:Nat)(h:zb)(a:Option Addr)(cs:List Value):Prop:=
 cs=[]\/∃b o,a=some ⟨b,o,none⟩/\b<n/\∀i v,cs[i]?=some v->zj h ⟨b,o+i,none⟩=some v
theorem Arr.mono(H:Arr n h a cs)(hm:n<=m):Arr m h a cs:=by
 rcases H with e|⟨b,o,e,hb,hc⟩
 ·exact .inl e
 ·exact .inr ⟨b,o,e,by omega,hc⟩
theorem Arr.keep(H:Arr n h a cs)(k:Keep n h h'):Arr n h' a cs:=by
 rcases H with e|⟨b,o,e,hb,hc⟩
 ·exact .inl e
 ·exact .inr ⟨b,o,e,hb,λi v hi=>(zue k (a:=⟨b,o+i,none⟩) hb).trans (hc i v hi)⟩
theorem zh(b o i:Nat):(⟨b,o,none⟩:Addr).add i=⟨b,o+i,none⟩:=by
 unfold Aj
 split
 ·rename_i h;rw[h];rfl
 ·rfl
theorem Arr.cell(H:Arr n h a cs)(hv:cs[k]?=some v):∃p:Addr,a=some p/\zj h (p.add k)=some v:=by
 rcases H with e|⟨b,o,e,hb,hc⟩
 ·rw[e]at hv;simp at hv
 ·exact⟨⟨b,o,none⟩,e,by rw[zh];exact hc k v hv⟩
def Strs(n:Nat)(h:zb)(s:Sl)(xs:List Bt):Prop:=s.len=xs.length/\Arr n h s.a (xs.map AW)
theorem Strs.mono{s:Sl}{xs:List Bt}(H:Strs n h s xs)(hm:n<=m):Strs m h s xs:=⟨H.1,H.2.mono hm⟩
theorem Strs.keep{s:Sl}{xs:List Bt}(H:Strs n h s xs)(k:Keep n h h'):Strs n h' s xs:=⟨H.1,H.2.keep k⟩
theorem Strs.nil(n:Nat)(h:zb)(a:Option Addr)(c:Nat):Strs n h ⟨a,0,c⟩ []:=⟨rfl,.inl rfl⟩
theorem Qr(a:Option Addr)(sz m:Nat):Q4 a sz 0 m=a:=by
 unfold Q4
 split
 ·rfl
 ·cases a with
  |none=>rfl
  |some p=>simp[Aj]
theorem wrap64{n:Int}(h1:-9223372036854775808<=n)(h2:n<=9223372036854775807):Ab .i64 n=n:=by
 unfold Ab
 have e:(2:Int) ^ Ap .i64=18446744073709551616:=by decide
 have e':(2:Int) ^ (Ap .i64-1)=9223372036854775808:=by decide
 simp only[e,e']
 have hs:Eo .i64=true:=rfl
 simp only[hs,B0,decide_eq_true_eq]
 split <;> omega
theorem zwo(h:k<9223372036854775807):Ab .i64 ((k:Int)+1)=((k+1:Nat):Int):=by
 rw[wrap64 (by omega) (by omega)];omega
def Owns(h:zb)(base:Nat)(e:TypeId)(sz:Nat)(s:Sl)(xs:List Value):Prop:=
 (mk default 0 h).ownsRow base e sz (.slice s.a s.len s.cap) s.len xs
theorem Owns.nil(h:zb)(base:Nat)(e:TypeId)(sz:Nat):Owns h base e sz ⟨none,0,0⟩ []:=World.ownsRow_nil _ _ _ _
theorem Owns.length{base:Nat}{sz:Nat}{s:Sl}(H:Owns h base e sz s xs):xs.length=s.len*sz:=H.1
theorem Owns.arr{base:Nat}{sz:Nat}{s:Sl}(H:Owns h base e sz s xs):Arr h.size h s.a xs:=by
 rcases H.2 with⟨hv,h0⟩|⟨g,cap,O,hv,hb,hg,ae,hm,ac,ht⟩
 ·have hl:=H.1
  rw[h0]at hl
  exact .inl (by simpa using hl)
 ·simp only[AO]at hv
  have aa:g<h.size:=(Ac.1 hg).1
  refine .inr ⟨g,0,hv.1,aa,λi v hi=>?_⟩
  have Z:h[g]?=some (.cells O e (0,0)):=hg
  unfold zj
  simp only[Z,AD,Option.isSome_none,A0,if_false]
  rw[<-ht,AC]at hi
  split at hi
  ·simpa using hi
  ·cases hi
theorem Owns.base_le{base:Nat}{sz:Nat}{s:Sl}(H:Owns h base e sz s xs):∀p,s.a=some p->base<=p.block/\p.block<h.size:=by
 intro p hp
 exact World.ownsRow.lt H p.block (by simp[Value.ownBlock,hp])
theorem Owns.keep{base:Nat}{sz:Nat}{s:Sl}(H:Owns h base e sz s xs)(k:∀p,s.a=some p->h'[p.block]?=h[p.block]?):Owns h' base e sz s xs:=by
 refine⟨H.1,?_⟩
 rcases H.2 with hn|⟨g,cap,O,hv,hb,hg,rest⟩
 ·exact .inl hn
 ·simp only[AO]at hv
  refine .inr ⟨g,cap,O,by simp[hv],hb,?_,rest⟩
  have:=k _ hv.1
  exact this.trans hg
theorem Owns.keepN{base:Nat}{sz:Nat}{s:Sl}(H:Owns h base e sz s xs)(k:Keep h.size h h'):Owns h' base e sz s xs:=
 H.keep λp hp=>k.get _ (H.base_le p hp).2
structure ElemT (P:Program) (t e:TypeId) (z:Value) (sz bytes:Nat):Prop where
 slice:P.underlying t=some (.slice e)
 info:∃i,P.info? e=some i/\i.zero=some z/\i.size=sz/\i.bytes=bytes
 zero:z.cells.size=sz
 pos:0<sz
theorem zem{w:World}{i:TypeInfo}{sz bytes base:Nat}(ht:P.underlying t=some (.slice e))(hi:P.info? e=some i)(hz:i.zero=some z)(al:i.size=sz)(aj:i.bytes=bytes)(ac:w.ownsRow base e sz v n xs){a:Addr}{m c:Nat}(hl:news.length=m*sz)(Z:∀j u,news[j]?=some u->w.cell? (a.add j)=some u)(h1:∀u∈news,u.oneCell'=true)
  (an:n+m<=4611686018427387904) (aa:(n+m)*bytes<=140737488355328) {v':Value} {w':World} (r1:(Ax #[t,t] ty #[v,.slice (some a) m c]).run P w=.ok v' w'):
  ∀p' l c',v'=.slice (some p') l c'->(∃p l0 c0,v=.slice (some p) l0 c0/\p'.block=p.block)\/p'.block=w.heap.size:=by
 subst al aj
 intro p' l c' O
 rcases ac.2 with⟨rfl,rfl⟩|⟨g,cap,ai,rfl,au,hg,ap,ar,ak,am⟩
 ·by_cases hm:m=0
  ·subst hm
   have hn:news=[]:=Aw (by simpa using hl)
   subst hn
   have hr:(Ax #[t,t] ty #[.slice none 0 0,.slice (some a) 0 c]).run P w=.ok (.slice none 0 0) w:=by
    simp[Ax,run_underlying ht,sizeOf,typeInfo,hi,Builtin.lenOf,Cr,loadCells,loadCellsFrom]
   rw[hr]at r1
   simp only[EQ]at r1
   rw[<-r1.1]at O;cases O
  ·have hr:=run_append_nil (P:=P) (ty:=ty) w t e i z ht hi hz a m c news hl Z (by omega) (by omega) (by have hb:=aa;simp only[AD]at hb;omega)
   rw[hr]at r1
   simp only[EQ]at r1
   rw[<-r1.1]at O
   simp only[AO,Aa]at O
   exact .inr (by rw[<-O.1])
 ·by_cases ae:n+m<=cap
  ·have ah:n*i.size+news.length<=ai.size:=by rw[hl,ak,<-BB];exact AM _ ae
   have hr:=run_append_room (P:=P) (ty:=ty) w t e i ht hi g n cap ai hg a m c news hl Z h1 ae ah
   rw[hr]at r1
   simp only[EQ]at r1
   rw[<-r1.1]at O
   simp only[AO,Aa]at O
   exact .inl ⟨_,_,_,rfl,by rw[<-O.1]⟩
  ·have af:∀j u,xs[j]?=some u->w.cell? ((⟨g,0,none⟩:Addr).add j)=some u:=ac.cells (g:=g) rfl
   have hr:=run_append_grow (P:=P) (ty:=ty) w t e i z ht hi hz ⟨g,0,none⟩ n cap xs ac.1 af a m c news hl Z (by omega) (by omega) (growslice_fits (by omega) aa)
   rw[hr]at r1
   simp only[EQ]at r1
   rw[<-r1.1]at O
   simp only[AO,Aa]at O
   exact .inr (by rw[<-O.1])
theorem Xw{sz bytes:Nat}(T:ElemT P t e z sz bytes){base:Nat}{s:Sl}(H:Owns h base e sz s xs)
  {src:Sl} (hs:Arr n h src.a news) (hl:news.length=src.len*sz) (h1:∀u∈news,u.oneCell'=true)
  (O:(s.len+src.len)*bytes<=140737488355328) (ac:s.len+src.len<=4611686018427387904) (ae:base<=h.size) {K:Value->zb->Prop}
  (hK:∀(s':Sl) (h':zb),s'.len=s.len+src.len->Owns h' base e sz s' (xs++news)->(∀i,i<h.size->(∀p,s.a=some p->i≠p.block)->h'[i]?=h[i]?)->h.size<=h'.size->(∀p',s'.a=some p'->(∃p,s.a=some p/\p'.block=p.block)\/p'.block=h.size)->K (.slice s'.a s'.len s'.cap) h'):
  XRun P (Ax #[t,t] ty #[.slice s.a s.len s.cap,.slice src.a src.len src.cap]) h K:=by
 intro B d
 obtain⟨i,hi,hz,ah,af⟩:=T.info
 have key:∃v' w',(Ax #[t,t] ty #[.slice s.a s.len s.cap,.slice src.a src.len src.cap]).run P (mk B d h)=.ok v' w'/\w'.ownsRow base e sz v' (s.len+src.len) (xs++news)/\(mk B d h).grownBy w' (Value.ownBlock (.slice s.a s.len s.cap)) /\
   ∀p' l c',v'=.slice (some p') l c'->(∃p,s.a=some p/\p'.block=p.block)\/p'.block=h.size:=by
  have Z:(mk B d h).ownsRow base e sz (.slice s.a s.len s.cap) s.len xs:=H
  rcases hs with e0|⟨b,o,e0,hb,hc⟩
  ·subst e0
   have h0:src.len=0:=by
    rcases Dt src.len with h0|h0
    ·exact h0
    ·have:=Nat.mul_pos h0 T.pos;simp at hl;omega
   rw[h0]
   have ha:∃q,q=src.a:=⟨_,rfl⟩
   obtain⟨q,hq⟩:=ha
   rw[<-hq]
   cases q with
   |none=>
    refine⟨_,mk B d h,?_,by simpa using Z,⟨rfl,rfl,rfl,Ae _,λ_ _ _=>rfl⟩,λp' l c' aa=>.inl ⟨p',by simp only[AO]at aa;exact aa.1,rfl⟩⟩
    have hT:=T.slice
    have am:s.len<=s.cap:=by
     rcases Z.2 with⟨e1,e2⟩|⟨g,cap,an,e1,_,_,ap,_⟩
     ·omega
     ·simp only[AO]at e1;omega
    generalize s.a=sa at *
    cases sa <;> simp[Ax,run_underlying hT,sizeOf,typeInfo,hi,Builtin.lenOf,Cr,am,storeCells]
   |some p=>
    obtain⟨v',w',r1,r2,r3,_⟩:=run_append_own (P:=P) (w:=mk B d h) base t ty e i z sz bytes T.slice hi hz ah af T.zero T.pos (.slice s.a s.len s.cap) s.len xs Z p 0 src.cap [] (by simp) (by simp) (by simp) (by unfold maxLen;omega) (by rw[h0]at O;exact O) ae
    refine⟨v',w',r1,r2,r3,λp' l c' aa=>?_⟩
    rcases zem T.slice hi hz ah af Z (news:=[]) (by simp) (by simp) (by simp) (by rw[h0]at ac;exact ac) (by rw[h0]at O;exact O) r1 p' l c' aa with⟨q,l0,c0,hq,hb⟩|hb
    ·simp only[AO]at hq;exact .inl ⟨q,hq.1,hb⟩
    ·exact .inr hb
  ·rw[e0]
   obtain⟨v',w',r1,r2,r3,_⟩:=run_append_own (P:=P) (w:=mk B d h) base t ty e i z sz bytes T.slice hi hz ah af T.zero T.pos (.slice s.a s.len s.cap) s.len xs Z ⟨b,o,none⟩ src.len src.cap news hl
    (λj u hu=>by rw[zh];exact hc j u hu) h1 (by unfold maxLen;omega) O ae
   refine⟨v',w',r1,r2,r3,λp' l c' aa=>?_⟩
   rcases zem T.slice hi hz ah af Z hl (λj u hu=>by rw[zh];exact hc j u hu) h1 ac O r1 p' l c' aa with⟨q,l0,c0,hq,aj⟩|aj
   ·simp only[AO]at hq;exact .inl ⟨q,hq.1,aj⟩
   ·exact .inr aj
 obtain⟨v',w',r1,r2,r3,r4⟩:=key
 have hw:w'=mk B w'.drawn w'.heap:=by
  have e1:=r3.os;have e2:=r3.tape;have e3:=r3.output
  cases w';simp only[mk]at *;subst e1;subst e2;subst e3;rfl
 rw[hw]at r1
 have hv:∃s':Sl,v'=.slice s'.a s'.len s'.cap/\s'.len=s.len+src.len:=by
  rcases r2.2 with⟨e1,e2⟩|⟨g,cap,an,e1,_⟩
  ·exact⟨⟨none,0,0⟩,e1,e2.symm⟩
  ·exact⟨⟨some ⟨g,0,none⟩,s.len+src.len,cap⟩,e1,rfl⟩
 obtain⟨s',rfl,ai⟩:=hv
 refine⟨_,_,_,r1,hK s' w'.heap ai ?_ ?_ r3.size λp' ak=>r4 p' s'.len s'.cap (by rw[ak])⟩
 ·rw[<-ai]at r2;exact r2
 ·intro j hj al
  refine r3.block j hj λhe=>?_
  cases ha:s.a with
  |none=>rw[ha]at he;cases he
  |some p=>
   rw[ha]at he
   simp only[Value.ownBlock,Aa]at he
   exact al p ha he
end
section
variable {h:zb} {m:Nat} {P:Program} {kt t et:TypeId} {z:Value}
def zb4(l:List (Bt×Value))(k:Bt):Option Value:=match l with
 |[]=>none
 |p::l=>if p.1=k then some p.2 else zb4 l k
def zwp(l:List (Bt×Value))(k:Bt)(v:Value):List (Bt×Value):=match l with
 |[]=>[(k,v)]
 |p::l=>if p.1=k then(k,v)::l else p::zwp l k v
theorem zwq(l:List (Bt×Value))(k k':Bt)(v:Value):zb4 (zwp l k v) k'=if k=k' then some v else zb4 l k':=by
 induction l with
 |nil=>simp[zwp,zb4]
 |cons p l ih=>
  simp only[zwp]
  split
  ·rename_i h
   simp only[zb4]
   split <;> rename_i h2
   ·rfl
   ·rw[h];simp[h2]
  ·rename_i h
   simp only[zb4,ih]
   split <;> rename_i h2
   ·rw[if_neg (λe=>h (h2.trans e.symm))]
   ·rfl
def MapAt(h:zb)(m:Nat)(l:List (Bt×Value)):Prop:=∃es O,h[m]?=some (.map es O)/\es.toList.map (λe=>(e.key,e.val))=l.map λp=>(AW p.1,p.2)
theorem MapAt.keep{h h':zb}{l:List (Bt×Value)}(H:MapAt h m l)(k:h'[m]?=h[m]?):MapAt h' m l:=by
 obtain⟨es,c,h1,h2⟩:=H;exact⟨es,c,k.trans h1,h2⟩
theorem MapAt.lt{l:List (Bt×Value)}(H:MapAt h m l):m<h.size:=by
 obtain⟨es,c,h1,h2⟩:=H;exact(Ac.1 h1).1
theorem MapAt.new(h:zb):MapAt (h.push (.map #[] 0)) h.size []:=⟨#[],0,j6 _ _,rfl⟩
structure MapT (P:Program) (t kt et:TypeId) (z:Value):Prop where
 map:P.underlying t=some (.map kt et)
 key:P.underlying kt=some .string
 zero:∃i,P.info? et=some i/\i.zero=some z
theorem zjt(a b:Bt):(a==b)=decide (a=b):=by
 show ByteArray.beq a b=_
 cases a;cases b
 rw[AJ]
 simp[ByteArray.beq]
instance lawfulBA:LawfulBEq Bt where
 eq_of_beq:=λ {a b} h=>by rw[zjt]at h;simpa using h
 rfl:=λ {a}=>by rw[zjt];simp
theorem Jp(k:Bt):∀(es:List MapEntry) (l:List (Bt×Value)) (i:Nat),es.map (λe=>(e.key,e.val))=l.map (λp=>(AW p.1,p.2)) ->
  (zb4 l k=none/\Ed .string (.string k) es i=some none)\/(∃j v e,zb4 l k=some v/\es[j]?=some e/\e.key=.string k/\e.val=v/\Ed .string (.string k) es i=some (some (i+j,v)) /\
   ∀w,(es.modify j λe=>{ e with key:=.string k,val:=w }).map (λe=>(e.key,e.val))=(zwp l k w).map λp=>(AW p.1,p.2))
 |[],l,i,h=>by
  have:l=[]:=by cases l <;> simp_all
  subst this
  exact .inl ⟨rfl,rfl⟩
 |e::es,l,i,h=>by
  cases l with
  |nil=>simp at h
  |cons p l=>
   simp only[CY,Ci,BA]at h
   obtain⟨⟨h1,h2⟩,h3⟩:=h
   by_cases hk:p.1=k
   ·refine .inr ⟨0,p.2,e,by simp[zb4,hk],rfl,by rw[h1,hk],h2,?_,λw=>?_⟩
    ·have O:(k==p.1)=true:=by rw[zjt];simpa using hk.symm
     simp[Ed,Instr.sameNow,h1,h2,O]
    ·simp[zwp,hk,h3]
   ·have O:(k==p.1)=false:=by rw[zjt];simpa using λe=>hk e.symm
    rcases Jp k es l (i+1) h3 with⟨g1,g2⟩|⟨j,v,e',g1,g2,g3,g4,g5,g6⟩
    ·refine .inl ⟨by simp[zb4,hk,g1],?_⟩
     simp[Ed,Instr.sameNow,h1,O,g2]
    ·refine .inr ⟨j+1,v,e',by simp[zb4,hk,g1],by simpa using g2,g3,g4,?_,λw=>?_⟩
     ·simp[Ed,Instr.sameNow,h1,O,g5];omega
     ·simp[zwp,hk,h1,h2,g6 w]
theorem Wv(hk:P.underlying kt=some .string)(b:Bool)(k:Bt)(h:zb):QExec P (Instr.checkKey b 10000 kt (.string k)) h ():=by
 intro B d
 have hq:=QExec.underlying (h:=h) hk B d
 unfold Instr.checkKey
 rw[Sem.run_bind,hq]
 rfl
theorem Zo(hk:P.underlying kt=some .string)(k:Bt)(es:List MapEntry)(r:Option (Nat×Value))(h:zb)(hf:Ed .string (.string k) es 0=some r):
  QExec P (Instr.findKey kt (.string k) es) h r:=by
 intro B d
 have hq:=QExec.underlying (h:=h) hk B d
 unfold Instr.findKey
 rw[Sem.run_bind,hq]
 simp only[Result.andThen_ok,hf]
 rfl
theorem Yv{es:Array MapEntry}{c:Nat}(hm:h[m]?=some (.map es c)):QExec P (getObj m) h (.map es c):=by
 intro B d
 have:(mk B d h).heap[m]?=some (.map es c):=hm
 simp[getObj,Sem.run,this]
theorem zr2(hz:∃i,P.info? t=some i/\i.zero=some z):QExec P (zeroValue t) h z:=by
 obtain⟨i,h1,h2⟩:=hz
 intro B d
 simp[zeroValue,typeInfo,program,h1,h2,Sem.run]
def zuf(l:List (Bt×Value))(k:Bt)(z:Value):Value:=(zb4 l k).getD z
theorem zaw(T:MapT P t kt et z){l:List (Bt×Value)}(H:MapAt h m l)(k:Bt)(ok:Bool):
  QExec P (D6 t (.map (some m)) (.string k) ok) h (if ok then .tuple #[zuf l k z,.bool (zb4 l k).isSome]else zuf l k z):=by
 obtain⟨es,c,h1,h2⟩:=H
 intro B d
 have hu:=QExec.underlying (h:=h) T.map B d
 have hg:=Yv (P:=P) h1 B d
 have hc:=Wv T.key es.isEmpty k h B d
 unfold D6
 rw[Sem.run_bind,hu]
 simp only[Result.andThen_ok,Sem.run_bind,hg,Sem.run_pure,hc]
 rcases Jp k es.toList l 0 h2 with⟨g1,g2⟩|⟨j,v,e,g1,g2,g3,g4,g5,_⟩
 ·rw[Zo T.key k es.toList none h g2 B d]
  have hz:=zr2 (h:=h) T.zero B d
  simp only[Result.andThen_ok,Sem.run_bind,hz,Sem.run_pure,zuf,g1]
  cases ok <;> rfl
 ·rw[Zo T.key k es.toList _ h g5 B d]
  simp only[Result.andThen_ok,zuf,g1]
  cases ok <;> rfl
theorem zax{l:List (Bt×Value)}{k:Bt}{v:Value}(g:zb4 l k=none):zwp l k v=l++[(k,v)]:=by
 induction l with
 |nil=>rfl
 |cons p l ih=>
  simp only[zb4]at g
  split at g
  ·cases g
  ·rename_i hp
   simp[zwp,hp,ih g]
theorem zwr(T:MapT P t kt et z){l:List (Bt×Value)}(H:MapAt h m l)(k:Bt)(v:Value){K:zb->Prop}
  (hK:∀h':zb,MapAt h' m (zwp l k v)->h'.size=h.size->(∀i,i≠m->h'[i]?=h[i]?)->K h'):XRunU P (CO t (.map (some m)) (.string k) v) h K:=by
 have aa:=H.lt
 obtain⟨es,c,h1,h2⟩:=H
 intro B d
 have hu:=QExec.underlying (h:=h) T.map B d
 have hg:=Yv (P:=P) h1 B d
 have hc:=Wv T.key false k h B d
 have O:∀o:Obj,(setObj m o).run P (mk B d h)=.ok () (mk B d (h.setIfInBounds m o)):=by
  intro o
  have:(mk B d h).heap[m]?=some (.map es c):=h1
  simp[setObj,Sem.run,this]
  rfl
 unfold CO
 rcases Jp k es.toList l 0 h2 with⟨g1,g2⟩|⟨j,v0,e,g1,g2,g3,g4,g5,g6⟩
 ·refine⟨d,h.setIfInBounds m (.map (es.push { key:=.string k,val:=v,born:=c }) (c+1)),?_,hK _ ⟨es.push { key:=.string k,val:=v,born:=c },c+1,by simp[aa],?_⟩ (by simp) (λi hi=>by rw[AH (Ne.symm hi)])⟩
  ·rw[Sem.run_bind,hu]
   simp only[Result.andThen_ok,Sem.run_bind,hg,hc]
   rw[Zo T.key k es.toList none h g2 B d]
   simp only[Result.andThen_ok]
   exact O _
  ·rw[zax g1]
   simp[h2]
 ·have ac:j<es.size:=by
   have:=(Az.1 g2).1
   simpa using this
  refine⟨d,_,?_,hK (h.setIfInBounds m (.map (es.modify j λe=>{ e with key:=.string k,val:=v }) c)) ⟨es.modify j λe=>{ e with key:=.string k,val:=v },c,by simp[aa],?_⟩ (by simp) (λi hi=>by rw[AH (Ne.symm hi)])⟩
  ·rw[Sem.run_bind,hu]
   simp only[Result.andThen_ok,Sem.run_bind,hg,hc]
   rw[Zo T.key k es.toList _ h g5 B d]
   simp only[Result.andThen_ok,AD]
   have Z:((es[j]?).map (·.key)).getD (.string k)=.string k:=by
    have:es[j]?=some e:=by simpa using g2
    rw[this];exact g3
   rw[Z]
   have hs:Eg (.string k) (.string k)=pure (.string k):=by
    unfold Eg
    rw[if_pos (by show(k==k)=true;rw[zjt];simp)]
   rw[hs]
   exact O _
  ·have:=g6 v
   simpa using this
end
section
variable {h h':zb} {b n o:Nat} {cs:Array Value} {v:Value} {P:Program} {t:TypeId}
def Blk(h:zb)(b:Nat)(cs:Array Value):Prop:=∃T,h[b]?=some (.cells cs T (0,0))
theorem Blk.keep(H:Blk h b cs)(k:h'[b]?=h[b]?):Blk h' b cs:=by
 obtain⟨T,e⟩:=H;exact⟨T,k.trans e⟩
theorem Blk.keepN(H:Blk h b cs)(k:Keep n h h')(hb:b<n):Blk h' b cs:=H.keep (k.get b hb)
theorem Blk.new(h:zb)(cs:Array Value)(T:TypeId):Blk (h.push (.cells cs T)) h.size cs:=⟨T,j6 _ _⟩
theorem Blk.lt(H:Blk h b cs):b<h.size:=by
 obtain⟨T,e⟩:=H;exact(Ac.1 e).1
theorem Blk.cell(H:Blk h b cs)(hv:cs[o]?=some v):zj h ⟨b,o,none⟩=some v:=by
 obtain⟨T,e⟩:=H
 unfold zj
 simp[e,hv]
theorem Blk.cellAdd{b o k:Nat}(H:Blk h b cs)(hv:cs[o+k]?=some v):zj h ((⟨b,o,none⟩:Addr).add k)=some v:=by
 rw[zh];exact H.cell hv
theorem Blk.ld{cs:List Value}(H:Blk h b cs.toArray):zd h ⟨b,0,none⟩ 0 cs:=by
 have key:∀(l:List Value) (i:Nat),(∀j v,l[j]?=some v->cs[i+j]?=some v)->zd h ⟨b,0,none⟩ i l:=by
  intro l
  induction l with
  |nil=>intro i _;trivial
  |cons v l ih=>
   intro i hi
   refine⟨?_,ih (i+1) λj u hu=>?_⟩
   ·rw[zh,AD]
    exact H.cell (by have:=hi 0 v rfl;simpa using this)
   ·have:=hi (j+1) u (by simpa using hu)
    rwa[show i+(j+1)=i+1+j by omega]at this
 exact key cs 0 λj v hv=>by simpa using hv
theorem Keep.setBlk(o:Obj)(hb:n<=b):Keep n h (h.setIfInBounds b o):=
 ⟨by simp,λi hi=>by rw[AH (by omega)]⟩
theorem zju(H:Blk h b cs)(B:World)(d:Nat):(mk B d h).frozen? ⟨b,o,none⟩=false:=by
 obtain⟨T,e⟩:=H
 have:(mk B d h).heap[b]?=some (.cells cs T (0,0)):=e
 simp[World.frozen?,this]
theorem zb5{T:TypeId}(e:h[b]?=some (.cells cs T (0,0)))(ho:o<cs.size)(hv:v.oneCell'=true)(B:World)(d:Nat):
  (store ⟨b,o,none⟩ v).run P (mk B d h)=.ok () (mk B d (h.setIfInBounds b (.cells (cs.setIfInBounds o v) T (0,0)))):=by
 have hc:(mk B d h).cell? ⟨b,o,none⟩=some cs[o]:=Blk.cell (h:=h) ⟨T,e⟩ (by simp[ho])
 have hf:=zju (o:=o) (⟨T,e⟩:Blk h b cs) B d
 have O:(mk B d h).setCell ⟨b,o,none⟩ v=mk B d (h.setIfInBounds b (.cells (cs.setIfInBounds o v) T (0,0))):=by
  unfold World.setCell mk
  simp only
  congr 1
  have hb:b<h.size:=(Ac.1 e).1
  apply Array.ext_getElem?
  intro i
  rw[Array.getElem?_modify]
  by_cases hi:i=b
  ·subst hi
   have e':h[i]=.cells cs T (0,0):=by
    have:=AK hb
    rw[e]at this
    exact(Au this).symm
   simp[hb,e']
  ·rw[if_neg (Ne.symm hi),AH (Ne.symm hi)]
 cases v with
 |agg x=>simp[Value.oneCell']at hv
 |tuple x=>simp[Value.oneCell']at hv
 |_=>simp only[store,Sem.run,hc,hf,A0,if_false,O]
theorem cells_one(hv:v.oneCell'=true):v.cells=#[v]:=by
 cases v <;> first|rfl|simp[Value.oneCell']at hv
theorem zjv(hi:yu P t=true)(hs:yr P t=1)(H:Blk h b cs)(ho:o<cs.size)(hv:v.oneCell'=true){K:zb->Prop}
  (hK:∀h':zb,Blk h' b (cs.setIfInBounds o v)->h'.size=h.size->(∀i,i≠b->h'[i]?=h[i]?)->K h'):XRunU P (Al t (.pointer (some ⟨b,o,none⟩)) v) h K:=by
 obtain⟨T,e⟩:=H
 have hb:b<h.size:=(Ac.1 e).1
 intro B d
 refine⟨d,_,?_,hK (h.setIfInBounds b (.cells (cs.setIfInBounds o v) T (0,0))) ⟨T,by simp[hb]⟩ (by simp) λi hi=>by rw[AH (Ne.symm hi)]⟩
 have hz:=QExec.sizeOf (P:=P) (h:=h) (jj hi).choose_spec B d
 unfold Al Ej
 simp only[Sem.run_bind,Sem.run_pure,Result.andThen_ok]
 unfold storeVar
 rw[Sem.run_bind,hz]
 simp only[Result.andThen_ok]
 rw[hs,cells_one hv]
 simp only[DO,Av,Ef,AD,ne_eq,not_true_eq_false,if_false]
 show Sem.run P (storeCells ⟨b,o,none⟩ [v]) _=_
 unfold storeCells
 rw[Sem.run_bind]
 have ha:(⟨b,o,none⟩:Addr).add 0=⟨b,o,none⟩:=by rw[zh];rfl
 rw[ha,zb5 e ho hv B d]
 rfl
theorem Zt{P:Program}{b:Nat}{T:TypeId}(B:World)(d:Nat):∀(vs:List Value) (i:Nat) (h:zb) (cs:Array Value),h[b]?=some (.cells cs T (0,0))->i+vs.length<=cs.size->(∀v∈vs,v.oneCell'=true) ->
  ∃h',(storeCells ⟨b,0,none⟩ vs i).run P (mk B d h)=.ok () (mk B d h')/\h'[b]?=some (.cells (cs.toList.take i++vs++cs.toList.drop (i+vs.length)).toArray T (0,0))/\h'.size=h.size/\∀j,j≠b->h'[j]?=h[j]?
 |[],i,h,cs,e,_,_=>⟨h,rfl,by simpa using e,rfl,λ_ _=>rfl⟩
 |v::vs,i,h,cs,e,hl,hv=>by
  have hb:b<h.size:=(Ac.1 e).1
  simp only[Av]at hl
  have h1:=zb5 (P:=P) e (o:=i) (by omega) (hv v Aq) B d
  have e':(h.setIfInBounds b (.cells (cs.setIfInBounds i v) T (0,0)))[b]?=some (.cells (cs.setIfInBounds i v) T (0,0)):=by simp[hb]
  have O:i+1+vs.length<=(cs.setIfInBounds i v).size:=by rw[B4];omega
  obtain⟨h',r1,r2,r3,r4⟩:=Zt (P:=P) B d vs (i+1) (h.setIfInBounds b (.cells (cs.setIfInBounds i v) T (0,0))) (cs.setIfInBounds i v) e' O λu hu=>hv u (Af _ hu)
  refine⟨h',?_,?_,by rw[r3];simp,λj hj=>by rw[r4 j hj,AH (Ne.symm hj)]⟩
  ·unfold storeCells
   rw[Sem.run_bind,zh,AD,h1]
   simp only[Result.andThen_ok]
   exact r1
  ·rw[r2]
   congr 3
   have hi:i<cs.toList.length:=by simp;omega
   simp only[Array.toList_setIfInBounds,Av]
   rw[List.take_set,List.drop_set_of_lt (by omega)]
   have e2:(cs.toList.take (i+1)).set i v=cs.toList.take i++[v]:=by
    rw[Am hi,List.set_append_right _ _ (by simp;omega)]
    have:i-(cs.toList.take i).length=0:=by simp;omega
    rw[this];rfl
   rw[e2,show i+(vs.length+1)=i+1+vs.length by omega]
   simp
theorem zws{t e:TypeId}{z:Value}{sz bytes:Nat}(T:ElemT P t e z sz bytes){g o n c:Nat}{X:TypeId}(hg:h[g]?=some (.cells cs X (0,0)))(hn:o+n*sz<=cs.size)(hz:∀v∈(Bl z.cells n).toList,v.oneCell'=true)
  (O:(Bl z.cells n).toList.length=n*sz) {ty:TypeId} {K:Value->zb->Prop}
  (hK:∀h':zb,h'[g]?=some (.cells (cs.toList.take o++(Bl z.cells n).toList++cs.toList.drop (o+n*sz)).toArray X (0,0))->h'.size=h.size->(∀i,i≠g->h'[i]?=h[i]?)->K (.tuple #[]) h') (ae:0<n):
  XRun P (D3 #[t] ty #[.slice (some ⟨g,o,none⟩) n c]) h K:=by
 intro B d
 have Z:∀(vs:List Value) (i:Nat) (w:World),(storeCells ⟨g,o,none⟩ vs i).run P w=(storeCells ⟨g,0,none⟩ vs (o+i)).run P w:=by
  intro vs
  induction vs with
  |nil=>intro i w;rfl
  |cons v vs ih=>
   intro i w
   unfold storeCells
   rw[Sem.run_bind,Sem.run_bind,zh,zh,AD]
   congr 1
   funext a w'
   exact ih (i+1) w'
 obtain⟨h',r1,r2,r3,r4⟩:=Zt (P:=P) B d (Bl z.cells n).toList (o+0) h cs hg (by rw[O];omega) hz
 refine⟨_,d,h',?_,hK h' (by rw[r2,O];simp) r3 r4⟩
 obtain⟨i,hi,ac,_,_⟩:=T.info
 have hu:=QExec.underlying (h:=h) T.slice B d
 have aa:=zr2 (P:=P) (h:=h) ⟨i,hi,ac⟩ B d
 have hs:=Z (Bl z.cells n).toList 0 (mk B d h)
 rw[r1]at hs
 unfold D3
 simp only[DK,Dn]
 cases n with
 |zero=>omega
 |succ n=>
  rw[Sem.run_bind,hu]
  simp only[Result.andThen_ok]
  rw[Sem.run_bind,aa]
  simp only[Result.andThen_ok]
  rw[Sem.run_bind,hs]
  rfl
theorem Owns.base{h:zb}{base O:Nat}{e:TypeId}{sz:Nat}{s:Sl}{xs:List Value}(H:Owns h base e sz s xs)(hb:O<=base):Owns h O e sz s xs:=by
 refine⟨H.1,?_⟩
 rcases H.2 with hn|⟨g,cap,Z,hv,aa,rest⟩
 ·exact .inl hn
 ·exact .inr ⟨g,cap,Z,hv,by omega,rest⟩
end
end Go.X
end
section
namespace Go.X
variable {cs:List Value}
inductive Tr where
 |mk (kind:Int) (text:Bt) (keys:List Bt) (items:List Tr)
namespace Tr
@[reducible] def kind:Tr->Int|mk k _ _ _=>k
@[reducible] def text:Tr->Bt|mk _ s _ _=>s
@[reducible] def keys:Tr->List Bt|mk _ _ ks _=>ks
@[reducible] def items:Tr->List Tr|mk _ _ _ xs=>xs
@[simp] theorem eta(t:Tr):mk t.kind t.text t.keys t.items=t:=by cases t;rfl
instance:Inhabited Tr:=⟨mk 0 ⟨#[]⟩ [] []⟩
end Tr
inductive Ty where
 |int (k:IntKind)|bool|str|row (t:Ty)|tree|unit|pair (a b:Ty)|ptr (t:Ty)|iter|err
 deriving DecidableEq
@[reducible] def El:Ty->Type
 |.int _=>Int
 |.bool=>Bool
 |.str=>Bt
 |.row t=>List (El t)
 |.tree=>Tr
 |.unit=>Unit
 |.pair a b=>El a×El b
 |.ptr t=>El t
 |.iter=>Bt×Nat
 |.err=>Bool
def z9y:(t:Ty)->El t
 |.int _=>(0:Int)
 |.bool=>false
 |.str=>(⟨#[]⟩:Bt)
 |.row _=>[]
 |.tree=>default
 |.unit=>()
 |.pair a b=>(z9y a,z9y b)
 |.ptr t=>z9y t
 |.iter=>(⟨#[]⟩,0)
 |.err=>true
def sz:Ty->Nat
 |.tree=>4
 |.unit=>0
 |.pair a b=>sz a+sz b
 |_=>1
abbrev Fr:=Nat->Option (Array Value)
def Fr.le(M M':Fr):Prop:=∀b cs,M b=some cs->M' b=some cs
theorem Fr.le.refl(M:Fr):Fr.le M M:=λ_ _ h=>h
theorem Fr.le.trans{a b c:Fr}(h:Fr.le a b)(k:Fr.le b c):Fr.le a c:=λ_ _ e=>k _ _ (h _ _ e)
def cut(cs:Array Value)(o n:Nat):List Value:=(cs.toList.drop o).take n
def RowAt(M:Fr){α:Type}(R:α->List Value->Prop)(z:Nat)(xs:List α)(v:Value):Prop:=
 ∃a c,v=.slice a xs.length c/\(xs.length<=140737488355328/\xs.length<=c)/\(xs=[]\/∃b o cs,a=some ⟨b,o,none⟩/\M b=some cs/\∀i (h:i<xs.length),R xs[i] (cut cs (o+i*z) z))
inductive TrRd (M:Fr):Tr->List Value->Prop where
 |mk {k:Int} {s:Bt} {ks:List Bt} {xs:List Tr} {vk:Value} {a:Option Addr} {c b o:Nat} {cs:Array Value}
  (hk:RowAt M (λs cs=>cs=[.string s]) 1 ks vk) (hn:xs.length<=140737488355328/\xs.length<=c) (hz:xs=[]\/(a=some ⟨b,o,none⟩/\M b=some cs))
  (hi:∀i (h:i<xs.length),TrRd M xs[i] (cut cs (o+i*4) 4)):TrRd M (.mk k s ks xs) [.int .i64 k,.string s,vk,.slice a xs.length c]
def Zp(s:Bt)(p:Nat):Value:=.iface 0 (.agg #[.string s,.int .i64 p])
def Rd(M:Fr):(t:Ty)->El t->List Value->Prop
 |.int k,i,cs=>cs=[.int k i]
 |.bool,b,cs=>cs=[.bool b]
 |.str,s,cs=>cs=[.string s]
 |.row t,xs,cs=>∃v,cs=[v]/\RowAt M (Rd M t) (sz t) xs v
 |.tree,t,cs=>TrRd M t cs
 |.unit,_,cs=>cs=[]
 |.pair a b,x,cs=>∃c1 c2,cs=c1++c2/\Rd M a x.1 c1/\Rd M b x.2 c2
 |.ptr t,x,cs=>∃b o cc,cs=[.pointer (some ⟨b,o,none⟩)]/\M b=some cc/\Rd M t x (cut cc o (sz t))
 |.iter,x,cs=>cs=[Zp x.1 x.2]
 |.err,b,cs=>∃v,cs=[v]/\((b=true/\v=.nilIface)\/(b=false/\∃t u,v=.iface t u))
theorem RowAt.mono{M M':Fr}(hM:Fr.le M M'){α:Type}{R R':α->List Value->Prop}{z:Nat}{xs:List α}{v:Value}(H:RowAt M R z xs v)(hR:∀x∈xs,∀cs,R x cs->R' x cs):RowAt M' R' z xs v:=by
 obtain⟨a,c,e,hn,h⟩:=H
 refine⟨a,c,e,hn,h.imp id ?_⟩
 rintro⟨b,o,cs,e1,e2,h3⟩
 exact⟨b,o,cs,e1,hM _ _ e2,λi h=>hR _ (Ay _) _ (h3 i h)⟩
theorem TrRd.mono{M M':Fr}(hM:Fr.le M M'){t:Tr}(H:TrRd M t cs):TrRd M' t cs:=by
 induction H with
 |mk hk hn hz _ ih=>exact .mk (hk.mono hM λ_ _ _ h=>h) hn (hz.imp id λh=>⟨h.1,hM _ _ h.2⟩) ih
theorem Rd.mono{M M':Fr}(hM:Fr.le M M'):∀{t:Ty} {x:El t} {cs:List Value},Rd M t x cs->Rd M' t x cs
 |.int _,_,_,h=>h
 |.bool,_,_,h=>h
 |.str,_,_,h=>h
 |.row _,_,_,⟨v,e,h⟩=>⟨v,e,h.mono hM λ_ _ _ h=>Rd.mono hM h⟩
 |.tree,_,_,h=>TrRd.mono hM h
 |.unit,_,_,h=>h
 |.pair _ _,_,_,⟨c1,c2,e,h1,h2⟩=>⟨c1,c2,e,Rd.mono hM h1,Rd.mono hM h2⟩
 |.ptr _,_,_,⟨b,o,cc,e,h1,h2⟩=>⟨b,o,cc,e,hM _ _ h1,Rd.mono hM h2⟩
 |.iter,_,_,h=>h
 |.err,_,_,h=>h
theorem Rd.len{M:Fr}:∀{t:Ty} {x:El t} {cs:List Value},Rd M t x cs->cs.length=sz t
 |.int _,_,_,h=>by rw[h];rfl
 |.bool,_,_,h=>by rw[h];rfl
 |.str,_,_,h=>by rw[h];rfl
 |.row t,_,_,⟨v,e,_⟩=>by rw[e];rfl
 |.tree,_,_,h=>by cases h;rfl
 |.unit,_,_,h=>by rw[h];rfl
 |.pair _ _,_,_,⟨c1,c2,e,h1,h2⟩=>by rw[e,Ar,Rd.len h1,Rd.len h2];rfl
 |.ptr _,_,_,⟨b,o,cc,e,_⟩=>by rw[e];rfl
 |.iter,_,_,h=>by rw[h];rfl
 |.err,_,_,⟨v,e,_⟩=>by rw[e];rfl
theorem Rd.one{M:Fr}:∀{t:Ty} {x:El t} {cs:List Value},Rd M t x cs->∀v∈cs,v.oneCell'=true
 |.int _,_,_,h=>by rw[h];simp[Value.oneCell']
 |.bool,_,_,h=>by rw[h];simp[Value.oneCell']
 |.str,_,_,h=>by rw[h];simp[Value.oneCell']
 |.row t,_,_,⟨v,e,a,c,e2,_⟩=>by rw[e,e2];simp[Value.oneCell']
 |.tree,_,_,h=>by
  cases h with
  |mk hk _ _ _=>obtain⟨a,c,e,_⟩:=hk;rw[e];simp[Value.oneCell']
 |.unit,_,_,h=>by rw[h];simp
 |.pair _ _,_,_,⟨c1,c2,e,h1,h2⟩=>by
  intro v hv
  rw[e]at hv
  rcases An.1 hv with hv|hv
  ·exact Rd.one h1 v hv
  ·exact Rd.one h2 v hv
 |.ptr _,_,_,⟨b,o,cc,e,_⟩=>by rw[e];simp[Value.oneCell']
 |.iter,_,_,h=>by rw[h];simp[Value.oneCell',Zp]
 |.err,_,_,⟨v,e,h⟩=>by
  rw[e]
  rcases h with⟨_,rfl⟩|⟨_,t,u,rfl⟩ <;> simp[Value.oneCell']
theorem TrRd.keys{M:Fr}{t:Tr}(H:TrRd M t cs):∃vk vi,cs=[.int .i64 t.kind,.string t.text,vk,vi]/\Rd M (.row .str) t.keys [vk]/\Rd M (.row .tree) t.items [vi]:=by
 cases H with
 | @mk k s ks xs vk a c b o cs hk hn hz hi=>
  exact⟨vk,_,rfl,⟨vk,rfl,hk⟩,⟨_,rfl,a,c,rfl,hn,hz.imp id λh=>⟨b,o,cs,h.1,h.2,hi⟩⟩⟩
theorem TrRd.of{M:Fr}{k:Int}{s:Bt}{ks:List Bt}{xs:List Tr}{vk vi:Value}(h1:Rd M (.row .str) ks [vk])(h2:Rd M (.row .tree) xs [vi]):TrRd M (.mk k s ks xs) [.int .i64 k,.string s,vk,vi]:=by
 obtain⟨v,e,h1⟩:=h1
 obtain⟨v',e',a,c,e2,hn,h2⟩:=h2
 cases e;cases e';subst e2
 rcases h2 with rfl|⟨b,o,cs,e1,e2,h3⟩
 ·exact .mk (b:=0) (o:=0) (cs:=#[]) h1 hn (.inl rfl) λi h=>absurd h (by simp)
 ·exact .mk h1 hn (.inr ⟨e1,e2⟩) h3
def Bd:(t:Ty)->El t->Prop
 |.row _,xs=>xs.length<=140737488355328
 |.tree,t=>t.keys.length<=140737488355328/\t.items.length<=140737488355328
 |.pair a b,x=>Bd a x.1/\Bd b x.2
 |_,_=>True
theorem Rd.bd{M:Fr}:∀{t:Ty} {x:El t} {cs:List Value},Rd M t x cs->Bd t x
 |.int _,_,_,_=>trivial
 |.bool,_,_,_=>trivial
 |.str,_,_,_=>trivial
 |.row t,_,_,⟨v,_,a,c,_,h,_⟩=>h.1
 |.tree,_,_,h=>by
  cases h with
  |mk hk hn _ _=>obtain⟨a,c,e,h,_⟩:=hk;exact⟨h.1,hn.1⟩
 |.unit,_,_,_=>trivial
 |.pair _ _,_,_,⟨_,_,_,h1,h2⟩=>⟨Rd.bd h1,Rd.bd h2⟩
 |.ptr _,_,_,_=>trivial
 |.iter,_,_,_=>trivial
 |.err,_,_,_=>trivial
inductive AA where
 |v (x:Value)
 |d (t:Ty) (x:El t)
 |box (c o:Nat)
 |own (c:Nat)
 |oelt (c z:Nat) (i:Nat) (o:Nat)
 |elt (t:Ty) (x:El t) (o:Nat)
 |dc (t:Ty) (xs:List (El t))
inductive AG where
 |a (x:AA)
 |agg (l:List AA)
inductive AV where
 |g (x:AG)
 |tup (l:List AG)
 |nx (b:Bool) (p:Int) (c:Int)
structure Gh where
 M:Fr
 β:Nat->Nat
 σ:Nat->Sl
def All2{α β:Type}(R:α->β->Prop):List α->List β->Prop
 |[],[]=>True
 |x::xs,y::ys=>R x y/\All2 R xs ys
 |_,_=>False
def slV(s:Sl):Value:=.slice s.a s.len s.cap
def DenA(γ:Gh):AA->Value->Prop
 |.v x,u=>u=x
 |.d t x,u=>Rd γ.M t x [u]
 |.box c o,u=>u=.pointer (some ⟨γ.β c,o,none⟩)
 |.own c,u=>u=slV (γ.σ c)
 |.oelt c z i o,u=>∃g,(γ.σ c).a=some ⟨g,0,none⟩/\u=.pointer (some ⟨g,i*z+o,none⟩)
 |.elt t x o,u=>∃b f cs,u=.pointer (some ⟨b,f+o,none⟩)/\γ.M b=some cs/\Rd γ.M t x (cut cs f (sz t))
 |.dc t xs,u=>∃s:Sl,u=slV s/\s.cap=s.len/\Rd γ.M (.row t) xs [u]
def DenG(γ:Gh):AG->Value->Prop
 |.a x,u=>DenA γ x u
 |.agg l,u=>∃us,u=.agg us.toArray/\All2 (DenA γ) l us
def DenV(γ:Gh):AV->Value->Prop
 |.g x,u=>DenG γ x u
 |.tup l,u=>∃us,u=.tuple us.toArray/\All2 (DenG γ) l us
 |.nx b p c,u=>(b=true->u=.tuple #[.bool true,.int .i64 p,.int .i32 c])/\(b=false->u=.tuple #[.bool false])
theorem All2.length{α β:Type}{R:α->β->Prop}:∀{l:List α} {m:List β},All2 R l m->l.length=m.length
 |[],[],_=>rfl
 |[],_::_,h=>h.elim
 |_::_,[],h=>h.elim
 |_::_,_::_,h=>by simp[All2.length h.2]
theorem All2.imp{α β:Type}{R R':α->β->Prop}:∀{l:List α} {m:List β},All2 R l m->(∀x∈l,∀y,R x y->R' x y)->All2 R' l m
 |[],[],_,_=>trivial
 |[],_::_,h,_=>h.elim
 |_::_,[],h,_=>h.elim
 |_::_,_::_,h,k=>⟨k _ Aq _ h.1,All2.imp h.2 λx hx y hy=>k x (Af _ hx) y hy⟩
theorem All2.append{α β:Type}{R:α->β->Prop}:∀{l l':List α} {m m':List β},All2 R l m->All2 R l' m'->All2 R (l++l') (m++m')
 |[],_,[],_,_,h=>h
 |[],_,_::_,_,h,_=>h.elim
 |_::_,_,[],_,h,_=>h.elim
 |_::_,_,_::_,_,h,k=>⟨h.1,All2.append h.2 k⟩
theorem All2.take{α β:Type}{R:α->β->Prop}:∀(n:Nat) {l:List α} {m:List β},All2 R l m->All2 R (l.take n) (m.take n)
 |0,_,_,_=>by simp[All2]
 |_+1,[],[],_=>trivial
 |_+1,[],_::_,h=>h.elim
 |_+1,_::_,[],h=>h.elim
 |n+1,_::_,_::_,h=>⟨h.1,All2.take n h.2⟩
theorem All2.drop{α β:Type}{R:α->β->Prop}:∀(n:Nat) {l:List α} {m:List β},All2 R l m->All2 R (l.drop n) (m.drop n)
 |0,_,_,h=>by simpa using h
 |_+1,[],[],_=>trivial
 |_+1,[],_::_,h=>h.elim
 |_+1,_::_,[],h=>h.elim
 |n+1,_::_,_::_,h=>by simpa using All2.drop n h.2
theorem All2.get{α β:Type}{R:α->β->Prop}:∀{l:List α} {m:List β} {i:Nat} {x:α},All2 R l m->l[i]?=some x->∃y,m[i]?=some y/\R x y
 |[],[],_,_,_,h=>by simp at h
 |[],_::_,_,_,h,_=>h.elim
 |_::_,[],_,_,h,_=>h.elim
 |_::_,y::_,0,_,h,e=>by simp at e;subst e;exact⟨y,rfl,h.1⟩
 |_::_,_::_,i+1,_,h,e=>by simpa using All2.get h.2 (by simpa using e)
def Yw:(t:Ty)->El t->List AA
 |.int k,i=>[.v (.int k i)]
 |.bool,b=>[.v (.bool b)]
 |.str,s=>[.v (.string s)]
 |.row t,xs=>[.d (.row t) xs]
 |.tree,t=>[.v (.int .i64 t.kind),.v (.string t.text),.d (.row .str) t.keys,.d (.row .tree) t.items]
 |.unit,_=>[]
 |.pair a b,x=>Yw a x.1++Yw b x.2
 |.ptr t,x=>[.elt t x 0]
 |.iter,x=>[.d .iter x]
 |.err,x=>[.d .err x]
theorem xr{γ:Gh}:∀{t:Ty} {x:El t} {cs:List Value},Rd γ.M t x cs->All2 (DenA γ) (Yw t x) cs
 |.int _,_,_,h=>by rw[h];exact⟨rfl,trivial⟩
 |.bool,_,_,h=>by rw[h];exact⟨rfl,trivial⟩
 |.str,_,_,h=>by rw[h];exact⟨rfl,trivial⟩
 |.row t,_,_,⟨v,e,h⟩=>by rw[e];exact⟨⟨v,rfl,h⟩,trivial⟩
 |.tree,_,_,h=>by
  obtain⟨vk,vi,e,h1,h2⟩:=TrRd.keys h
  rw[e];exact⟨rfl,rfl,h1,h2,trivial⟩
 |.unit,_,_,h=>by rw[h];trivial
 |.pair _ _,_,_,⟨c1,c2,e,h1,h2⟩=>by rw[e];exact(xr h1).append (xr h2)
 |.ptr t,x,_,⟨b,o,cc,e,h1,h2⟩=>by rw[e];exact⟨⟨b,o,cc,rfl,h1,h2⟩,trivial⟩
 |.iter,x,_,h=>by rw[h];exact⟨rfl,trivial⟩
 |.err,x,_,⟨v,e,h⟩=>by rw[e];exact⟨⟨v,rfl,h⟩,trivial⟩
def zpz:Ty->Bool
 |.iter=>true
 |.err=>true
 |.pair a b=>bif zpz a then true else zpz b
 |_=>false
theorem Rd.noIt{M:Fr}:∀{t:Ty} {x:El t} {cs:List Value},zpz t=false->Rd M t x cs->∀s p,Zp s p∉cs
 |.int _,_,_,_,h,s,p=>by rw[h];simp[Zp]
 |.bool,_,_,_,h,s,p=>by rw[h];simp[Zp]
 |.str,_,_,_,h,s,p=>by rw[h];simp[Zp]
 |.row t,_,_,_,⟨v,e,a,c,e2,_⟩,s,p=>by rw[e,e2];simp[Zp]
 |.tree,_,_,_,h,s,p=>by
  cases h with
  |mk hk _ _ _=>obtain⟨a,c,e,_⟩:=hk;rw[e];simp[Zp]
 |.unit,_,_,_,h,s,p=>by rw[h];simp
 |.pair a b,_,_,hi,⟨c1,c2,e,h1,h2⟩,s,p=>by
  simp only[zpz]at hi
  cases ha:zpz a with
  |true=>rw[ha]at hi;cases hi
  |false=>
   rw[ha]at hi
   rw[e]
   intro hm
   rcases An.1 hm with hm|hm
   ·exact Rd.noIt ha h1 s p hm
   ·exact Rd.noIt hi h2 s p hm
 |.ptr _,_,_,_,⟨b,o,cc,e,_⟩,s,p=>by rw[e];simp[Zp]
 |.iter,_,_,hi,_,_,_=>by cases hi
 |.err,_,_,hi,_,_,_=>by cases hi
def itB:List AA->Bool
 |[.d t _]=>zpz t
 |[.v (.iface _ _)]=>true
 |_=>false
theorem zr3{γ:Gh}{l:List AA}{us:List Value}(h:itB l=false)(hd:All2 (DenA γ) l us)(s:Bt)(p:Nat):us≠[Zp s p]:=by
 intro e
 subst e
 match l,hd with
 |[x],hd=>
  cases x with
  |v y=>rw[<-show Zp s p=y from hd.1]at h;simp[itB,Zp]at h
  |d t y=>exact Rd.noIt (show zpz t=false from h) (show Rd γ.M t y [Zp s p]from hd.1) s p (by simp)
  |box c o=>have:Zp s p=_:=hd.1;simp[Zp]at this
  |own c=>have:Zp s p=_:=hd.1;simp[Zp,slV]at this
  |oelt c z i o=>obtain⟨g,_,e⟩:=hd.1;simp[Zp]at e
  |elt t y o=>obtain⟨b,f,cs,e,_⟩:=hd.1;simp[Zp]at e
  |dc t xs=>obtain⟨s',e,_⟩:=hd.1;simp[Zp,slV]at e
 |[],hd=>exact hd.elim
 |_::_::_,hd=>exact hd.2.elim
inductive Ch where
 |box (l:List AA)
 |row (e:TypeId) (t:Ty) (xs:List (El t))
 |fz (t:Ty) (xs:List (El t))
abbrev CS:=List (Nat×Ch)
def Yx:CS->Nat->Option Ch
 |[],_=>none
 |(j,k)::l,i=>bif Nat.beq i j then some k else Yx l i
theorem qe{l:CS}{i:Nat}{k:Ch}(h:Yx l i=some k):(i,k)∈l:=by
 induction l with
 |nil=>cases h
 |cons x l ih=>
  obtain⟨j,k'⟩:=x
  simp only[Yx]at h
  by_cases hb:Nat.beq i j=true
  ·simp only[hb,cond_true,Aa]at h
   subst h
   rw[Ag hb];exact Aq
  ·simp only[hb,cond_false]at h
   exact Af _ (ih h)
def Q5(t t':Ty)(x:El t):Option (El t'):=if h:t=t' then some (h ▸ x)else none
theorem Jq{M:Fr}{t t':Ty}{x:El t}{y:El t'}(h:Q5 t t' x=some y)(r:Rd M t x cs):Rd M t' y cs:=by
 unfold Q5 at h
 split at h
 ·rename_i e
  subst e
  simp only[Aa]at h
  subst h;exact r
 ·cases h
def zik(cs:CS):(t:Ty)->AA->Option (El t)
 |.int k,.v (.int k' i)=>if k=k' then some i else none
 |.bool,.v (.bool b)=>some b
 |.str,.v (.string s)=>some s
 |.row t,.v (.slice none 0 0)=>some ([]:List (El t))
 |.row t,.d t' x=>Q5 t' (.row t) x
 |.row t,.dc t' x=>Q5 (.row t') (.row t) x
 |.row t,.own c=>match Yx cs c with
  |some (.fz t' xs)=>Q5 (.row t') (.row t) xs
  |_=>none
 |.ptr t,.elt t' x 0=>Q5 t' t x
 |.ptr t,.d t' x=>Q5 t' (.ptr t) x
 |.iter,.d t' x=>Q5 t' .iter x
 |.err,.d t' x=>Q5 t' .err x
 |.err,.v .nilIface=>some true
 |.err,.v (.iface _ _)=>some false
 |_,_=>none
def collect(cs:CS):(t:Ty)->List AA->Option (El t×List AA)
 |.unit,l=>some ((),l)
 |.pair a b,l=>match collect cs a l with
  |some (x,l')=>match collect cs b l' with
   |some (y,l'')=>some ((x,y),l'')
   |none=>none
  |none=>none
 |.tree,k::s::ks::xs::l=>match zik cs (.int .i64) k,zik cs .str s,zik cs (.row .str) ks,zik cs (.row .tree) xs with
  |some k,some s,some ks,some xs=>some (Tr.mk k s ks xs,l)
  |_,_,_,_=>none
 |.tree,_=>none
 |t,x::l=>match zik cs t x with
  |some y=>some (y,l)
  |none=>none
 |_,[]=>none
def z0t(γ:Gh)(cs:CS):Prop:=∀c t xs,(c,Ch.fz t xs)∈cs->Rd γ.M (.row t) xs [slV (γ.σ c)]
theorem j7{γ:Gh}{cs:CS}(hf:z0t γ cs){t:Ty}{x:AA}{y:El t}(h:zik cs t x=some y){u:Value}(hd:DenA γ x u):Rd γ.M t y [u]:=by
 unfold zik at h
 split at h
 ·split at h
  ·rename_i hk;simp only[Aa]at h;subst h;subst hk;exact congrArg (λu=>[u]) hd
  ·cases h
 ·simp only[Aa]at h;subst h;exact congrArg (λu=>[u]) hd
 ·simp only[Aa]at h;subst h;exact congrArg (λu=>[u]) hd
 ·simp only[Aa]at h;subst h
  exact⟨u,rfl,none,0,hd,by simp,.inl rfl⟩
 ·exact Jq h hd
 ·obtain⟨s,_,_,hd⟩:=hd
  exact Jq h hd
 ·split at h
  ·rename_i t' xs O
   rw[show u=_ from hd]
   exact Jq h (hf _ _ _ (qe O))
  ·cases h
 ·rename_i t t' x
  obtain⟨b,f,cs',e,h1,h2⟩:=hd
  exact⟨b,f,cs',by rw[e];rfl,h1,by
   unfold Q5 at h
   split at h
   ·rename_i e;subst e;simp only[Aa]at h;subst h;exact h2
   ·cases h⟩
 ·exact Jq h hd
 ·exact Jq h hd
 ·exact Jq h hd
 ·simp only[Aa]at h;subst h;exact⟨u,rfl,.inl ⟨rfl,hd⟩⟩
 ·rename_i t' x';simp only[Aa]at h;subst h;exact⟨u,rfl,.inr ⟨rfl,_,_,hd⟩⟩
 ·cases h
theorem Yy{γ:Gh}{cs:CS}(hf:z0t γ cs):∀{t:Ty} {l l':List AA} {y:El t},collect cs t l=some (y,l')->∀{us:List Value},All2 (DenA γ) l us->∃c1 c2,us=c1++c2/\Rd γ.M t y c1/\All2 (DenA γ) l' c2
 |.unit,l,l',y,h,us,hu=>by
  simp only[collect,Aa,BA]at h
  obtain⟨_,rfl⟩:=h
  exact⟨[],us,rfl,rfl,hu⟩
 |.pair a b,l,l',y,h,us,hu=>by
  simp only[collect]at h
  split at h
  ·rename_i x l1 h1
   split at h
   ·rename_i z l2 h2
    simp only[Aa,BA]at h
    obtain⟨rfl,rfl⟩:=h
    obtain⟨c1,c2,rfl,r1,r2⟩:=Yy hf h1 hu
    obtain⟨c3,c4,rfl,r3,r4⟩:=Yy hf h2 r2
    exact⟨c1++c3,c4,by simp,⟨c1,c3,rfl,r1,r3⟩,r4⟩
   ·cases h
  ·cases h
 |.tree,l,l',y,h,us,hu=>by
  match l,us,hu,h with
  |k::s::ks::xs::l,u1::u2::u3::u4::us,hu,h=>
   simp only[collect]at h
   split at h
   ·rename_i k' s' ks' O h1 h2 h3 h4
    simp only[Aa,BA]at h
    obtain⟨rfl,rfl⟩:=h
    obtain⟨d1,d2,d3,d4,d5⟩:=hu
    have r1:=j7 hf h1 d1
    have r2:=j7 hf h2 d2
    have r3:=j7 hf h3 d3
    have r4:=j7 hf h4 d4
    refine⟨[u1,u2,u3,u4],us,rfl,?_,d5⟩
    have e1:[u1]=[EX .i64 k']:=r1
    have e2:[u2]=[AW s']:=r2
    cases e1;cases e2
    exact TrRd.of r3 r4
   ·cases h
  |[],_,_,h=>simp[collect]at h
  |[_],_,_,h=>simp[collect]at h
  |[_,_],_,_,h=>simp[collect]at h
  |[_,_,_],_,_,h=>simp[collect]at h
  |_::_::_::_::_,[],hu,_=>exact hu.elim
  |_::_::_::_::_,[_],hu,_=>exact hu.2.elim
  |_::_::_::_::_,[_,_],hu,_=>exact hu.2.2.elim
  |_::_::_::_::_,[_,_,_],hu,_=>exact hu.2.2.2.elim
 |.int k,x::l,l',y,h,u::us,hu=>by
  simp only[collect]at h
  split at h
  ·rename_i z hz;simp only[Aa,BA]at h;obtain⟨rfl,rfl⟩:=h
   exact⟨[u],us,rfl,j7 hf hz hu.1,hu.2⟩
  ·cases h
 |.bool,x::l,l',y,h,u::us,hu=>by
  simp only[collect]at h
  split at h
  ·rename_i z hz;simp only[Aa,BA]at h;obtain⟨rfl,rfl⟩:=h
   exact⟨[u],us,rfl,j7 hf hz hu.1,hu.2⟩
  ·cases h
 |.str,x::l,l',y,h,u::us,hu=>by
  simp only[collect]at h
  split at h
  ·rename_i z hz;simp only[Aa,BA]at h;obtain⟨rfl,rfl⟩:=h
   exact⟨[u],us,rfl,j7 hf hz hu.1,hu.2⟩
  ·cases h
 |.row _,x::l,l',y,h,u::us,hu=>by
  simp only[collect]at h
  split at h
  ·rename_i z hz;simp only[Aa,BA]at h;obtain⟨rfl,rfl⟩:=h
   exact⟨[u],us,rfl,j7 hf hz hu.1,hu.2⟩
  ·cases h
 |.ptr _,x::l,l',y,h,u::us,hu=>by
  simp only[collect]at h
  split at h
  ·rename_i z hz;simp only[Aa,BA]at h;obtain⟨rfl,rfl⟩:=h
   exact⟨[u],us,rfl,j7 hf hz hu.1,hu.2⟩
  ·cases h
 |.iter,x::l,l',y,h,u::us,hu=>by
  simp only[collect]at h
  split at h
  ·rename_i z hz;simp only[Aa,BA]at h;obtain⟨rfl,rfl⟩:=h
   exact⟨[u],us,rfl,j7 hf hz hu.1,hu.2⟩
  ·cases h
 |.iter,_::_,_,_,_,[],hu=>hu.elim
 |.iter,[],_,_,h,_,_=>by simp[collect]at h
 |.err,x::l,l',y,h,u::us,hu=>by
  simp only[collect]at h
  split at h
  ·rename_i z hz;simp only[Aa,BA]at h;obtain⟨rfl,rfl⟩:=h
   exact⟨[u],us,rfl,j7 hf hz hu.1,hu.2⟩
  ·cases h
 |.err,_::_,_,_,_,[],hu=>hu.elim
 |.err,[],_,_,h,_,_=>by simp[collect]at h
 |.int _,_::_,_,_,_,[],hu=>hu.elim
 |.bool,_::_,_,_,_,[],hu=>hu.elim
 |.str,_::_,_,_,_,[],hu=>hu.elim
 |.row _,_::_,_,_,_,[],hu=>hu.elim
 |.ptr _,_::_,_,_,_,[],hu=>hu.elim
 |.int _,[],_,_,h,_,_=>by simp[collect]at h
 |.bool,[],_,_,h,_,_=>by simp[collect]at h
 |.str,[],_,_,h,_,_=>by simp[collect]at h
 |.row _,[],_,_,h,_,_=>by simp[collect]at h
 |.ptr _,[],_,_,h,_,_=>by simp[collect]at h
end Go.X
end
