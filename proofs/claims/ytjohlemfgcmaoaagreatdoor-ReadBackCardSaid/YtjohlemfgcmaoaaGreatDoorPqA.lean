/- A part of the proof: nothing is stated here for its own sake. -/
import Derived.Deep.Quiet
import Derived.StillTail
import Derived.Laws.Strings
import Derived.Laws.Cover3
import Derived.Laws.Pointers
import Derived.Laws.OwnMore
open _root_.Go.Addr renaming add->Ai
open _root_.Array renaming getD_eq_getD_getElem?->BB,getElem?_append_left->CI,getElem?_eq_getElem->A0,getElem?_eq_some_iff->Ad,getElem?_push->BV,getElem?_setIfInBounds_ne->AC,getElem?_toList->BP,replicate->Bn,size_setIfInBounds->AU
open _root_.Bool renaming and_eq_true->As,eq_iff_iff->AJ,false_eq_true->A5,false_or->Du,not_eq_true'->CY,true_and->BZ
open _root_.Go.Builtin renaming append_->AB,firstCells->CQ,len_->DK
open _root_.Classical renaming byContradiction->CO
open _root_.Go.Code renaming cond->Ej,region->Eo
open _root_.Go.Deferred renaming ofValue->DL
open _root_.Go.Instr renaming findNow->D3,indexAt->Ek,keyThatStays->Eb,loadAt->DJ,lookup->Ed,mapUpdate->CN,next->Dm,range->Ev,sliceAt->DZ,storeAt->An,sureAddr->Dh
open _root_.Go.IntKind renaming bits->Ak,signed->Dj,wrap->Aa
open _root_.List renaming all_eq_true->AD,any_eq_true->DN,cons_append->AE,drop_eq_getElem_cons->Ba,drop_left->DD,eq_nil_of_length_eq_zero->AO,getElem?_append_right->Bi,getElem?_drop->AQ,getElem?_eq_getElem->Aq,getElem?_eq_none->BS,getElem?_eq_some_iff->AF,getElem?_take->AL,getElem_mem->AN,getElem_of_mem->Cj,length_append->Ag,length_cons->Ap,length_eq_zero_iff->A7,length_erase_of_mem->Dd,length_nil->AZ,mapM_cons->Ef,map_cons->Az,mem_append->Aw,mem_append_left->Ar,mem_append_right->Ay,mem_cons->Af,mem_cons_of_mem->Ae,mem_cons_self->Aj,mem_filter->D5,mem_of_getElem?->Bh,mem_range->Bw,nil_append->A8,nodup_append->CG,nodup_cons->BE,nodup_nil->Di,nodup_range->DO,pairwise_append->CE,pairwise_cons->BH,range->Cb,replicate->C8,size_toArray->Dx,take_append_drop->BQ,take_left->CH,take_succ_cons->C3,take_succ_eq_append_getElem->Av
open _root_.List.cons renaming injEq->BM
open _root_.Nat renaming add_mul->BU,add_sub_cancel_left->CC,add_zero->CW,blt_eq->Cu,eq_of_beq_eq_true->Ah,eq_or_lt_of_le->Dn,eq_zero_or_pos->Do,le_of_ble_eq_true->BR,le_refl->Ac,le_trans->CV,lt_of_lt_of_le->C7,lt_or_ge->A1,mul_le_mul_right->AP,strongRecOn->Dt,sub_zero->Ee,zero_add->AK,zero_le->Cv
open _root_.Go.Next renaming value->Dl
open _root_.Go.Op renaming equal->Eu
open _root_.Option renaming bind_some->CP
open _root_.Option.some renaming inj->Au,injEq->Ab
open _root_.Prod.mk renaming injEq->Be
open _root_.Pure renaming pure->Dc
open _root_.Go.Region renaming wanted->Bu
open _root_.Go.Result.ok renaming injEq->Er
open _root_.Go.Value renaming int->Ey,string->Bl
open _root_.Go.Value.slice renaming injEq->AX
set_option linter.unusedVariables false
set_option maxRecDepth 100000
namespace Go.X
end Go.X
namespace Go.Proofs
end Go.Proofs
open Go Go.X Go.Proofs
section
namespace Go.X
section
abbrev Bt:= ByteArray
variable {i n m:Nat} {v u:Value} {a:Act} {o:Oper}
abbrev za:=Array Obj
abbrev zz:=List (Nat×Bool)
abbrev Env:=List (Nat×zz×Value)
def mk(B:World)(d:Nat)(h:za):World:={ B with heap:=h,drawn:=d }
def look:Env->Nat->Option (zz×Value)
 |[],_=>none
 |(j,c,v)::e,i=>bif Nat.beq i j then some (c,v)else look e i
def valid(σ:Nat->Value):zz->Prop
 |[]=>True
 |(g,p)::c=>σ g=.bool p/\valid σ c
def zo(a:Act)(i:Nat):Value:=a.tmps.getD i undef
def fact(σ:Nat->Value)(x:Nat×zz×Value):Prop:=(valid σ x.2.1->σ x.1=x.2.2)/\(¬valid σ x.2.1->σ x.1=undef)
structure Sat (n:Nat) (e:Env) (a:Act):Prop where
 defers:a.defers=[]
 size:a.tmps.size=n
 all:∀x∈e,fact (zo a) x
def mentions:zz->Nat->Bool
 |[],_=>false
 |(g,_)::c,i=>bif Nat.beq i g then true else mentions c i
def del:Env->Nat->Env
 |[],_=>[]
 |(j,c,v)::e,i=>bif (bif Nat.beq i j then true else mentions c i)then del e i else(j,c,v)::del e i
def put(e:Env)(i:Nat)(c:zz)(v:Value):Env:=(i,c,v)::del e i
def putO(e:Env):Option Nat->zz->Value->Env
 |none,_,_=>e
 |some d,c,v=>put e d c v
def clean:Env->Env
 |[]=>[]
 |(j,[],v)::e=>(j,[],v)::clean e
 |(_,_::_,_)::e=>clean e
theorem zaj{e:Env}{c:zz}(h:look e i=some (c,v)):(i,c,v)∈e:=by
 induction e with
 |nil=>cases h
 |cons x e ih=>
  obtain⟨j,cj,vj⟩:=x
  simp only[look]at h
  by_cases hb:Nat.beq i j=true
  ·simp only[hb,cond_true,Ab,Be]at h
   obtain⟨rfl,rfl⟩:=h
   rw[Ah hb]
   exact Aj
  ·simp only[hb,cond_false]at h
   exact Ae _ (ih h)
theorem z9m{e:Env}{x:Nat×zz×Value}(h:x∈del e i):x∈e/\x.1≠i/\mentions x.2.1 i=false:=by
 induction e with
 |nil=>cases h
 |cons y e ih=>
  obtain⟨j,cj,vj⟩:=y
  simp only[del]at h
  by_cases hb:Nat.beq i j=true
  ·simp only[hb,cond_true]at h
   exact⟨Ae _ (ih h).1,(ih h).2⟩
  ·have ab:Nat.beq i j=false:=Bool.eq_false_iff.2 hb
   simp only[ab,cond_false]at h
   by_cases hm:mentions cj i=true
   ·simp only[hm,cond_true]at h
    exact⟨Ae _ (ih h).1,(ih h).2⟩
   ·have aa:mentions cj i=false:=by simpa using hm
    simp only[aa,cond_false]at h
    rcases Af.1 h with rfl|h
    ·refine⟨Aj,λZ=>?_,aa⟩
     simp only at Z
     rw[Z]at hb
     exact hb (by simp)
    ·exact⟨Ae _ (ih h).1,(ih h).2⟩
theorem zya{e:Env}{x:Nat×zz×Value}(h:x∈clean e):x∈e/\x.2.1=[]:=by
 induction e with
 |nil=>cases h
 |cons y e ih=>
  obtain⟨j,cj,vj⟩:=y
  cases cj with
  |nil=>
   simp only[clean]at h
   rcases Af.1 h with rfl|h
   ·exact⟨Aj,rfl⟩
   ·exact⟨Ae _ (ih h).1,(ih h).2⟩
  |cons c cs=>
   simp only[clean]at h
   exact⟨Ae _ (ih h).1,(ih h).2⟩
theorem Sat.sub{e e':Env}(h:Sat n e a)(hs:∀x∈e',x∈e):Sat n e' a:=⟨h.defers,h.size,λx hx=>h.all x (hs x hx)⟩
theorem Sat.clean{n:Nat}{e:Env}{a:Act}(h:Sat n e a):Sat n (clean e) a:=h.sub λ_ hx=>(zya hx).1
theorem Ze{σ τ:Nat->Value}{c:zz}(hm:mentions c i=false)(h:∀j,j≠i->σ j=τ j):valid σ c↔valid τ c:=by
 induction c with
 |nil=>exact Iff.rfl
 |cons x c ih=>
  obtain⟨g,p⟩:=x
  simp only[mentions]at hm
  by_cases hb:Nat.beq i g=true
  ·simp[hb]at hm
  ·simp only[hb,cond_false]at hm
   have hg:g≠i:=λe=>hb (by rw[e];simp)
   simp only[valid,h g hg,ih hm]
theorem qt(hi:i<a.tmps.size):zo (a.put (some i) u) i=u:=by
 simp[zo,Act.put,hi]
theorem qf{i j:Nat}(h:j≠i):zo (a.put (some i) u) j=zo a j:=by
 simp[zo,Act.put,AC (Ne.symm h)]
theorem size_put(a:Act)(d:Option Nat)(u:Value):(a.put d u).tmps.size=a.tmps.size:=by
 cases d <;> simp[Act.put]
theorem qm(a:Act)(d:Option Nat)(u:Value):(a.put d u).defers=a.defers:=by
 cases d <;> simp[Act.put]
theorem Sat.put{n:Nat}{e:Env}{a:Act}(h:Sat n e a){i:Nat}{c:zz}{v u:Value}(hi:i<n)(hm:mentions c i=false)
  (hy:valid (zo a) c->u=v) (hn:¬valid (zo a) c->u=undef):Sat n (put e i c v) (a.put (some i) u):=by
 refine⟨by rw[qm];exact h.defers,by rw[size_put];exact h.size,λx hx=>?_⟩
 have aa:i<a.tmps.size:=by rw[h.size];exact hi
 rcases Af.1 hx with rfl|hx
 ·have hv:=Ze (σ:=zo (a.put (some i) u)) (τ:=zo a) hm (λj hj=>qf hj)
  refine⟨λhc=>?_,λhc=>?_⟩
  ·exact(qt aa).trans (hy (hv.1 hc))
  ·exact(qt aa).trans (hn (λZ=>hc (hv.2 Z)))
 ·obtain⟨h1,h2,h3⟩:=z9m hx
  have hv:=Ze (σ:=zo (a.put (some i) u)) (τ:=zo a) h3 (λj hj=>qf hj)
  have hf:=h.all x h1
  refine⟨λhc=>?_,λhc=>?_⟩
  ·exact(qf h2).trans (hf.1 (hv.1 hc))
  ·exact(qf h2).trans (hf.2 (λZ=>hc (hv.2 Z)))
def qk(n:Nat)(c:zz):Option Nat->Bool
 |none=>true
 |some d=>bif mentions c d then false else Nat.blt d n
theorem Sat.putO{n:Nat}{e:Env}{a:Act}(h:Sat n e a){d:Option Nat}{c:zz}{v u:Value}(hd:qk n c d=true)
  (hy:valid (zo a) c->u=v) (hn:¬valid (zo a) c->u=undef):Sat n (putO e d c v) (a.put d u):=by
 cases d with
 |none=>exact h
 |some i=>
  simp only[qk]at hd
  by_cases hm:mentions c i=true
  ·simp[hm]at hd
  ·have Z:mentions c i=false:=by simpa using hm
   simp only[Z,cond_false]at hd
   exact h.put (by simpa[Cu]using hd) Z hy hn
def Zf:zz->zz->Bool
 |[],[]=>true
 |(g,p)::c,(g',p')::c'=>bif Nat.beq g g' then(bif p then(bif p' then Zf c c' else false)else(bif p' then false else Zf c c'))else false
 |_,_=>false
theorem Y4:∀{c c':zz},Zf c c'=true->c=c'
 |[],[],_=>rfl
 |[],_::_,h=>by simp[Zf]at h
 |_::_,[],h=>by simp[Zf]at h
 |(g,p)::c,(g',p')::c',h=>by
  simp only[Zf]at h
  by_cases hb:Nat.beq g g'=true
  ·simp only[hb,cond_true]at h
   have e1:=Ah hb
   cases p <;> cases p' <;> simp at h <;> rw[e1,Y4 h]
  ·simp[hb]at h
def suf(cs:zz):zz->Bool
 |[]=>Zf cs []
 |x::c=>bif Zf cs (x::c)then true else suf cs c
theorem Y5{σ:Nat->Value}{cs:zz}:∀{c:zz},suf cs c=true->valid σ c->valid σ cs
 |[],h,_=>by rw[Y4 h];trivial
 |x::c,h,hv=>by
  simp only[suf]at h
  by_cases hb:Zf cs (x::c)=true
  ·rw[Y4 hb];exact hv
  ·simp only[hb,cond_false]at h
   exact Y5 h hv.2
def W9(e:Env)(c:zz):Operand->Option Value
 |.tmp t=>match look e t with
  |some (cs,v)=>bif suf cs c then some v else none
  |none=>none
 |.const v=>some v
 |.global g=>some (.pointer (some ⟨g,0,none⟩))
 |.func f=>some (.func (.func f) #[] #[])
theorem qu{e:Env}(h:Sat n e a){c:zz}(hc:valid (zo a) c){x:Operand}(hx:W9 e c x=some v):a.eval x=v:=by
 cases x with
 |tmp t=>
  simp only[W9]at hx
  split at hx
  ·rename_i cs u hl
   by_cases hs:suf cs c=true
   ·simp only[hs,cond_true,Ab]at hx
    subst hx
    exact(h.all _ (zaj hl)).1 (Y5 hs hc)
   ·simp[hs]at hx
  ·cases hx
 |const u=>simp only[W9,Ab]at hx;exact hx
 |global g=>simp only[W9,Ab]at hx;exact hx
 |func f=>simp only[W9,Ab]at hx;exact hx
def rho(e:Env)(c:zz)(x:Operand):Value:=match W9 e c x with
 |some v=>v
 |none=>undef
def known(e:Env)(c:zz):List Operand->Bool
 |[]=>true
 |x::l=>match W9 e c x with
  |some _=>known e c l
  |none=>false
theorem Zg{e:Env}(h:Sat n e a){c:zz}(hc:valid (zo a) c){l:List Operand}(hk:known e c l=true):∀x∈l,a.eval x=rho e c x:=by
 induction l with
 |nil=>intro x hx;cases hx
 |cons y l ih=>
  intro x hx
  simp only[known]at hk
  split at hk
  ·rename_i v hv
   rcases Af.1 hx with rfl|hx
   ·rw[qu h hc hv];simp[rho,hv]
   ·exact ih hk x hx
  ·cases hk
def we:Op->Bool
 |.select _ _=>false
 |_=>true
theorem Jx{e:Env}(h:Sat n e a){c:zz}(hc:valid (zo a) c)(hs:we o.op=true)(hk:known e c o.op.operands.toList=true):
  execOp a.eval o=execOp (rho e c) o:=
 execOp_congr o (λcs b hb=>by rw[hb]at hs;cases hs) λx hx=>Zg h hc hk x (by simpa using hx)
def yn(ops:Array Oper)(j:Nat):Option Nat:=match ops[j]? with
 |some o=>o.dst
 |none=>none
def Yy(ops:Array Oper)(e:Env):Option (Nat×Bool)->Option zz
 |none=>some []
 |some (j,p)=>match yn ops j with
  |some g=>match look e g with
   |some (cg,.bool _)=>some ((g,p)::cg)
   |_=>none
  |none=>none
def zyb(e:Env):zz->Option Bool
 |[]=>some true
 |(g,p)::c=>match look e g with
  |some (cg,.bool b)=>bif Zf cg c then(match zyb e c with
    |some cb=>some (cb&&(bif p then b else !b))
    |none=>none)else none
  |_=>none
theorem zcy{b:Bool}:undef≠.bool b:=by simp[undef]
theorem zbg{n:Nat}{e:Env}{a:Act}(h:Sat n e a):∀{c:zz} {b:Bool},zyb e c=some b->(b=true↔valid (zo a) c)
 |[],b,hb=>by simp only[zyb,Ab]at hb;simp[<-hb,valid]
 |(g,p)::c,b,hb=>by
  simp only[zyb]at hb
  split at hb
  ·rename_i cg bg hl
   by_cases hq:Zf cg c=true
   ·simp only[hq,cond_true]at hb
    split at hb
    ·rename_i cb Z
     simp only[Ab]at hb
     have ih:=zbg h Z
     have hf:=h.all _ (zaj hl)
     rw[Y4 hq]at hf
     by_cases hv:valid (zo a) c
     ·have h1:zo a g=.bool bg:=hf.1 hv
      have h2:=ih.2 hv
      subst hb
      simp only[valid,h1,hv,h2,BZ,and_true,Value.bool.injEq]
      cases p <;> cases bg <;> simp
     ·have h1:cb=false:=by cases cb with|false=>rfl|true=>exact absurd (ih.1 rfl) hv
      subst hb
      simp[valid,hv,h1]
    ·cases hb
   ·simp[hq]at hb
  ·cases hb
theorem Zu{ops:Array Oper}{e:Env}(h:Sat n e a){c:zz}(hc:Yy ops e o.guard=some c):
  Bu o (yielded ops a.tmps)=true↔valid (zo a) c:=by
 unfold Bu
 cases hg:o.guard with
 |none=>rw[hg]at hc;simp only[Yy,Ab]at hc;simp[<-hc,valid]
 |some jp=>
  obtain⟨j,p⟩:=jp
  rw[hg]at hc
  simp only[Yy]at hc
  split at hc
  ·rename_i g hd
   split at hc
   ·rename_i cg b hl
    simp only[Ab]at hc
    subst hc
    have aa:((ops[j]?).bind (·.dst))=some g:=by
     simp only[yn]at hd
     split at hd
     ·rename_i o' Z;simp[Z,hd]
     ·cases hd
    have hf:=h.all _ (zaj hl)
    have hy:yielded ops a.tmps j=some p↔zo a g=.bool p:=by
     unfold yielded zo
     rw[aa]
     simp only[CP]
     cases ht:a.tmps[g]? with
     |none=>simp[BB,ht,undef]
     |some v=>cases v <;> simp[BB,ht]
    simp only[beq_iff_eq,hy,valid]
    constructor
    ·intro h1
     refine⟨h1,?_⟩
     by_cases hv:valid (zo a) cg
     ·exact hv
     ·have:=hf.2 hv
      simp only at this
      rw[h1]at this
      exact absurd this.symm zcy
    ·exact λh1=>h1.1
   ·cases hc
  ·cases hc
structure Keep (n:Nat) (h h':za):Prop where
 size:h.size<=h'.size
 get:∀i,i<n->h'[i]?=h[i]?
theorem Keep.refl(n:Nat)(h:za):Keep n h h:=⟨Ac _,λ_ _=>rfl⟩
theorem Keep.trans{a b c:za}(h:Keep n a b)(k:Keep m b c)(hm:n<=m):Keep n a c:=
 ⟨CV h.size k.size,λi hi=>(k.get i (C7 hi hm)).trans (h.get i hi)⟩
theorem Keep.mono{a b:za}(h:Keep n a b)(hm:m<=n):Keep m a b:=⟨h.size,λi hi=>h.get i (C7 hi hm)⟩
theorem Keep.push(h:za)(o:Obj)(hn:n<=h.size):Keep n h (h.push o):=
 ⟨by simp,λi hi=>by rw[BV,if_neg (by omega)]⟩
end
section
variable {P:Program} {α:Type} {h:za} {v x i:Value} {t:TypeId} {g:Option Bool} {n l r:Int}
def zc(h:za)(a:Addr):Option Value:=
 match h[a.block]? with
 |some (.cells c _ _)=>if a.spot.isSome then none else c[a.off]?
 |_=>none
theorem zrj(B:World)(d:Nat)(h:za)(a:Addr):(mk B d h).cell? a=zc h a:=rfl
def Qj(P:Program){α:Type}:Sem α->Option α
 |.pure a=>some a
 |.program k=>Qj P (k P)
 |.mark _ k=>Qj P k
 |_=>none
def QExec(P:Program){α:Type}(s:Sem α)(h:za)(x:α):Prop:=∀B d,s.run P (mk B d h)=.ok x (mk B d h)
theorem Xk{s:Sem α}{x:α}(h:Qj P s=some x)(w:World):s.run P w=.ok x w:=by
 induction s with
 |pure a=>simp only[Qj,Ab]at h;subst h;rfl
 |program k ih=>exact ih P h
 |mark m k ih=>exact ih h
 |_=>simp[Qj]at h
theorem zjb{s:Sem α}{x:α}(h:Qj P s=some x)(hp:za):QExec P s hp x:=λ_ _=>Xk h _
theorem QExec.bind{α β:Type}{s:Sem α}{f:α->Sem β}{x:α}{y:β}(h1:QExec P s h x)(h2:QExec P (f x) h y):QExec P (s >>= f) h y:=by
 intro B d
 rw[Sem.run_bind,h1 B d]
 exact h2 B d
theorem QExec.pure(x:α):QExec P (Dc x) h x:=λ_ _=>rfl
theorem QExec.val{s:Sem Value}(h1:QExec P s h v):QExec P (s >>= λx=>Dc (Dl x)) h (Dl v):=h1.bind (QExec.pure _)
theorem QExec.underlying{d:TypeDesc}(hd:P.underlying t=some d):QExec P (Go.underlying t) h d:=by
 intro B e
 simp[Go.underlying,program,hd,Sem.run]
def qn(P:Program)(t:TypeId):Nat:=match P.info? t with
 |some i=>i.size
 |none=>0
theorem QExec.sizeOf{i:TypeInfo}(hi:P.info? t=some i):QExec P (Go.sizeOf t) h (qn P t):=by
 intro B d
 simp[Go.sizeOf,typeInfo,program,hi,Sem.run,qn]
theorem info_of_underlying{d:TypeDesc}(hd:P.underlying t=some d):∃i,P.info? t=some i:=by
 unfold Program.underlying at hd
 cases h:P.info? t with
 |none=>rw[h]at hd;cases hd
 |some i=>exact⟨i,rfl⟩
inductive Atom where
 |int (k:IntKind)|bool|str|sl|mp|ptr|raw|ad
structure Sl where
 a:Option Addr
 len:Nat
 cap:Nat
@[reducible] def Atom.den:Atom->Type
 |.int _=>Int | .bool=>Bool | .str=>Bt | .sl=>Sl | .mp=>Option Nat | .ptr=>Option Addr | .raw=>Value | .ad=>Addr
def Atom.enc:(t:Atom)->t.den->Value
 |.int k,n=>.int k n
 |.bool,b=>.bool b
 |.str,s=>.string s
 |.sl,s=>.slice s.a s.len s.cap
 |.mp,m=>.map m
 |.ptr,p=>.pointer p
 |.raw,v=>v
 |.ad,p=>.pointer (some p)
def Atom.dec:(t:Atom)->Value->Option t.den
 |.int k,.int k' n=>if k=k' then some n else none
 |.bool,.bool b=>some b
 |.str,.string s=>some s
 |.sl,.slice a l c=>some ⟨a,l,c⟩
 |.mp,.map m=>some m
 |.ptr,.pointer p=>some p
 |.raw,v=>some v
 |.ad,.pointer (some p)=>some p
 |_,_=>none
theorem Atom.enc_of_dec{t:Atom}{x:t.den}(h:t.dec v=some x):t.enc x=v:=by
 cases t with
 |ad=>
  cases v with
  |pointer p=>
   cases p with
   |none=>simp[Atom.dec]at h
   |some a=>simp[Atom.dec]at h;rw[h];rfl
  |_=>simp[Atom.dec]at h
 |_=>cases v <;> simp_all[Atom.dec,Atom.enc] <;> (subst h;first|rfl|exact⟨rfl,rfl,rfl⟩)
inductive VT where
 |one (t:Atom)
 |agg (l:List Atom)
inductive RT where
 |one (v:VT)
 |tup (l:List VT)
def zlr:List Atom->(List Value->Prop)->Prop
 |[],F=>F []
 |t::l,F=>∃x:t.den,zlr l λvs=>F (t.enc x::vs)
def qf0:VT->(Value->Prop)->Prop
 |.one t,F=>∃x:t.den,F (t.enc x)
 |.agg l,F=>zlr l λvs=>F (.agg vs.toArray)
def z9n:List VT->(List Value->Prop)->Prop
 |[],F=>F []
 |t::l,F=>qf0 t λv=>z9n l λvs=>F (v::vs)
def z4a:RT->(Value->Prop)->Prop
 |.one v,F=>qf0 v F
 |.tup l,F=>z9n l λvs=>F (.tuple vs.toArray)
def zcz:List Atom->(List Value->Prop)->Prop
 |[],F=>F []
 |t::l,F=>∀x:t.den,zcz l λvs=>F (t.enc x::vs)
def zyc:VT->(Value->Prop)->Prop
 |.one t,F=>∀x:t.den,F (t.enc x)
 |.agg l,F=>zcz l λvs=>F (.agg vs.toArray)
def zj4:List VT->(List Value->Prop)->Prop
 |[],F=>F []
 |t::l,F=>zyc t λv=>zj4 l λvs=>F (v::vs)
def qcu:RT->(Value->Prop)->Prop
 |.one v,F=>zyc v F
 |.tup l,F=>zj4 l λvs=>F (.tuple vs.toArray)
theorem Y6:∀{l:List Atom} {F G:List Value->Prop},zlr l F->zcz l G->∃vs,vs.length=l.length/\F vs/\G vs
 |[],_,_,h,g=>⟨[],rfl,h,g⟩
 |_::_,_,_,⟨x,h⟩,g=>let ⟨vs,h0,h1,h2⟩:=Y6 h (g x);⟨_,by simp[h0],h1,h2⟩
theorem wh:∀(l:List Atom),zcz l λ_=>True
 |[]=>trivial
 |_::l=>λ_=>wh l
theorem zrk{v:VT}{F G:Value->Prop}(h:qf0 v F)(g:zyc v G):∃u,F u/\G u:=by
 cases v with
 |one t=>obtain⟨x,h⟩:=h;exact⟨_,h,g x⟩
 |agg l=>obtain⟨vs,_,h1,h2⟩:=Y6 h g;exact⟨_,h1,h2⟩
theorem zrl(v:VT):zyc v λ_=>True:=by
 cases v with
 |one t=>exact λ_=>trivial
 |agg l=>exact wh l
theorem zls:∀{l:List VT} {F G:List Value->Prop},z9n l F->zj4 l G->∃vs,F vs/\G vs
 |[],_,_,h,g=>⟨[],h,g⟩
 |_::_,_,_,h,g=>let ⟨_,h1,h2⟩:=zrk h g;let ⟨_,h3,h4⟩:=zls h1 h2;⟨_,h3,h4⟩
theorem zfe:∀(l:List VT),zj4 l λ_=>True
 |[]=>trivial
 |v::l=>by
  have h:=zfe l
  simp only[zj4]
  cases v with
  |one t=>exact λ_=>h
  |agg l'=>
   simp only[zyc]
   have key:∀(l':List Atom) (f:List Value->List Value),zcz l' λ_=>zj4 l λ_=>True:=λl' _=>by
    induction l' with
    |nil=>exact h
    |cons t l' ih=>exact λ_=>ih
   exact key l' id
theorem zyd{r:RT}{F G:Value->Prop}(h:z4a r F)(g:qcu r G):∃v,F v/\G v:=by
 cases r with
 |one v=>exact zrk h g
 |tup l=>obtain⟨vs,h1,h2⟩:=zls h g;exact⟨_,h1,h2⟩
theorem zgt{r:RT}{F:Value->Prop}(h:z4a r F):∃v,F v:=by
 cases r with
 |one v=>obtain⟨u,h1,_⟩:=zrk h (zrl v);exact⟨u,h1⟩
 |tup l=>obtain⟨vs,h1,_⟩:=zls h (zfe l);exact⟨_,h1⟩
def z7w:TypeDesc->Atom
 |.int k=>.int k
 |.bool=>.bool
 |.string=>.str
 |.slice _=>.sl
 |.map _ _=>.mp
 |.pointer _=>.ptr
 |_=>.raw
def zlt(P:Program):Nat->TypeId->Option (List Atom)
 |0,_=>none
 |n+1,t=>match P.underlying t with
  |some (.struct fs)=>fs.toList.foldr (λf l=>match zlt P n f.type,l with
    |some x,some y=>some (x++y)
    |_,_=>none) (some [])
  |some (.array m e)=>match zlt P n e with
    |some x=>some (C8 m x).flatten
    |none=>none
  |some d=>some [z7w d]
  |none=>none
def zx5(P:Program)(t:TypeId):Option VT:=match P.underlying t with
 |some (.struct _)|some (.array _ _)=>match zlt P 8 t with
  |some l=>bif Nat.beq l.length (qn P t)then some (.agg l)else none
  |none=>none
 |some d=>some (.one (z7w d))
 |none=>none
def qcv(P:Program):List TypeId->Option (List VT)
 |[]=>some []
 |t::l=>match zx5 P t,qcv P l with
  |some x,some y=>some (x::y)
  |_,_=>none
def qcp(P:Program)(t:TypeId):Option RT:=match P.underlying t with
 |some (.tuple ts)=>match qcv P ts.toList with
  |some l=>some (.tup l)
  |none=>none
 |_=>match zx5 P t with
  |some v=>some (.one v)
  |none=>none
def req:Option Bool->Prop->Prop
 |none,p=>p
 |some b,p=>b=true->p
def gok:Option Bool->Prop
 |none=>True
 |some b=>b=true
theorem req.out{p:Prop}(h:req g p)(hg:gok g):p:=by
 cases g with
 |none=>exact h
 |some b=>exact h hg
def zd(h:za)(p:Addr):Nat->List Value->Prop
 |_,[]=>True
 |i,v::vs=>zc h (p.add i)=some v/\zd h p (i+1) vs
def zn4(P:Program)(h:za)(t:TypeId)(p:Value)(g:Option Bool)(K:Value->Prop):Prop:=
 match p,zx5 P t with
 |.pointer (some p),some (.one a)=>∃x:a.den,req g (zc h p=some (a.enc x))/\K (a.enc x)
 |.pointer (some p),some (.agg l)=>zlr l λvs=>req g (zd h p 0 vs)/\K (.agg vs.toArray)
 |_,_=>False
theorem Xl{P:Program}{h:za}{p:Addr}:∀(vs:List Value) (i:Nat) (acc:Array Value),zd h p i vs->QExec P (loadCellsFrom p i vs.length acc) h (acc++vs.toArray)
 |[],i,acc,_=>by intro B d;simp[loadCellsFrom]
 |v::vs,i,acc,⟨h1,h2⟩=>by
  have ih:=Xl (P:=P) vs (i+1) (acc.push v) h2
  intro B d
  simp only[Ap,loadCellsFrom,Sem.run_bind,run_load]
  rw[zrj,h1]
  simp only[Result.andThen_ok]
  rw[ih B d]
  simp
theorem zgf{a:Atom}{p:Addr}(ht:zx5 P t=some (.one a))(hc:zc h p=some v):QExec P (loadVar t p) h v:=by
 unfold zx5 at ht
 cases hu:P.underlying t with
 |none=>rw[hu]at ht;cases ht
 |some d=>
  rw[hu]at ht
  intro B e
  have hq:=QExec.underlying (h:=h) hu B e
  have Z:(isAgg t).run P (mk B e h)=.ok false (mk B e h):=by
   unfold isAgg
   rw[Sem.run_bind,hq]
   cases d <;> first|rfl|(exfalso;revert ht;dsimp only;split <;> first|(intro h;cases h;done)|(cases hb:Nat.beq _ _ <;> intro h <;> cases h))
  unfold loadVar
  rw[Sem.run_bind,Z]
  simp only[Result.andThen_ok,A5,if_false,run_load]
  rw[zrj,hc]
theorem zgg{l:List Atom}{p:Addr}{vs:List Value}(ht:zx5 P t=some (.agg l))(hl:vs.length=l.length)(hc:zd h p 0 vs):QExec P (loadVar t p) h (.agg vs.toArray):=by
 unfold zx5 at ht
 cases hu:P.underlying t with
 |none=>rw[hu]at ht;cases ht
 |some d=>
  rw[hu]at ht
  obtain⟨i,hi⟩:=info_of_underlying hu
  have Z:(∃fs,d=.struct fs)\/(∃n e,d=.array n e):=by
   cases d <;> first|exact Or.inl ⟨_,rfl⟩|exact Or.inr ⟨_,_,rfl⟩|(simp at ht)
  have aa:qn P t=l.length:=by
   have hm:(match zlt P 8 t with
     |some l=>bif Nat.beq l.length (qn P t)then some (VT.agg l)else none
     |none=>none)=some (.agg l):=by
    rcases Z with⟨fs,rfl⟩|⟨n,e,rfl⟩ <;> exact ht
   split at hm
   ·rename_i l' _
    cases hb:Nat.beq l'.length (qn P t)with
    |false=>rw[hb]at hm;cases hm
    |true=>
     rw[hb]at hm
     simp only[cond_true,Ab,VT.agg.injEq]at hm
     rw[<-hm];exact(Ah hb).symm
   ·cases hm
  intro B e
  have hq:=QExec.underlying (h:=h) hu B e
  have hA:(isAgg t).run P (mk B e h)=.ok true (mk B e h):=by
   unfold isAgg
   rw[Sem.run_bind,hq]
   rcases Z with⟨fs,rfl⟩|⟨n,e',rfl⟩ <;> rfl
  have hS:=QExec.sizeOf (h:=h) hi B e
  unfold loadVar
  rw[Sem.run_bind,hA]
  simp only[Result.andThen_ok,if_true]
  rw[Sem.run_bind,hS]
  simp only[Result.andThen_ok]
  have hL:=Xl (P:=P) vs 0 #[] hc B e
  unfold loadCells
  rw[Sem.run_bind,aa,<-hl,hL]
  simp
theorem zgu{p:Value}{K:Value->Prop}(H:zn4 P h t p g K):
  ∃v,K v/\(gok g->QExec P (DJ t p) h v):=by
 unfold zn4 at H
 split at H
 ·rename_i q a hv
  obtain⟨x,h1,h2⟩:=H
  exact⟨_,h2,λhg=>zgf hv (h1.out hg)⟩
 ·rename_i q l hv
  obtain⟨vs,h0,⟨h1,h2⟩,_⟩:=Y6 H (wh l)
  exact⟨_,h2,λhg=>zgg hv h0 (h1.out hg)⟩
 ·exact H.elim
def zn5(P:Program)(t:TypeId)(x i:Value)(g:Option Bool)(K:Value->Prop):Prop:=
 match P.underlying t with
 |some (.slice el)=>match x,i with
  |.slice base len _,.int _ n=>∃a:Addr,req g (base=some a/\0<=n/\n<(len:Int))/\K (.pointer (some (a.add (n.toNat*qn P el))))
  |_,_=>False
 |some (.array len el)=>match x,i with
  |.pointer base,.int _ n=>∃a:Addr,req g (base=some a/\0<=n/\n<(len:Int))/\K (.pointer (some (a.add (n.toNat*qn P el))))
  |_,_=>False
 |_=>False
def qd(P:Program)(t:TypeId):Bool:=match P.info? t with
 |some _=>true
 |none=>false
theorem yw(h:qd P t=true):∃i,P.info? t=some i:=by
 unfold qd at h
 split at h
 ·exact⟨_,by assumption⟩
 ·cases h
theorem wq(t:TypeId)(B:World)(d:Nat):(∃i,P.info? t=some i)->(Go.sizeOf t).run P (mk B d h)=.ok (qn P t) (mk B d h):=λ⟨_,hi⟩=>QExec.sizeOf hi B d
theorem Zv{K:Value->Prop}
  (Z:∀el,(P.underlying t=some (.slice el)\/∃n,P.underlying t=some (.array n el))->∃i,P.info? el=some i) (H:zn5 P t x i g K):
  ∃v,K v/\(gok g->∀h:za,QExec P (Ek t x i) h v):=by
 unfold zn5 at H
 split at H
 ·rename_i el hu
  split at H
  ·rename_i base len cap k n
   obtain⟨a,h1,h2⟩:=H
   refine⟨_,h2,λhg=>?_⟩
   obtain⟨rfl,h3,h4⟩:=h1.out hg
   intro h B d
   have hq:=QExec.underlying (h:=h) hu B d
   have hs:=wq (h:=h) el B d (Z el (Or.inl hu))
   unfold Ek
   simp[asIntOf,Sem.run_bind,hq,hs,h3,h4]
  ·exact H.elim
 ·rename_i len el hu
  split at H
  ·rename_i base k n
   obtain⟨a,h1,h2⟩:=H
   refine⟨_,h2,λhg=>?_⟩
   obtain⟨rfl,h3,h4⟩:=h1.out hg
   intro h B d
   have hq:=QExec.underlying (h:=h) hu B d
   have hs:=wq (h:=h) el B d (Z el (Or.inr ⟨_,hu⟩))
   unfold Ek
   simp[asIntOf,Sem.run_bind,hq,hs,h3,h4,Dh]
  ·exact H.elim
 ·exact H.elim
def zb(s:Bt)(i:Nat):Int:=((s.data[i]?.getD 0).toNat:Int)
def zgv(x i:Value)(g:Option Bool)(K:Value->Prop):Prop:=
 match x,i with
 |.string s,.int _ n=>req g (0<=n/\n<(s.size:Int))/\K (.int .u8 (zb s n.toNat))
 |_,_=>False
theorem qcw(s:Bt)(i:Nat)(h:i<s.size):s[i]?=some (s.data[i]?.getD 0):=by
 have h':i<s.data.size:=h
 rw[getElem?_pos s i h]
 simp[A0 h']
 rfl
theorem Xm{K:Value->Prop}(hu:P.underlying t=some .string)(H:zgv x i g K):
  ∃v,K v/\(gok g->∀h:za,QExec P (Instr.index t x i) h v):=by
 unfold zgv at H
 split at H
 ·rename_i s k n
  obtain⟨h1,h2⟩:=H
  refine⟨_,h2,λhg=>?_⟩
  obtain⟨h3,h4⟩:=h1.out hg
  intro h B d
  have hq:=QExec.underlying (h:=h) hu B d
  unfold Instr.index
  have hb:=qcw s n.toNat (by omega)
  simp only[asIntOf,Sem.run_bind,hq,Sem.run_pure,Result.andThen_ok,h3,if_true,hb,zb]
 ·exact H.elim
def zjc(a:Option Addr)(sz l m:Nat):Option Addr:=if m=l then a else a.map (·.add (l*sz))
def yx:Option Value->Int->Option Int
 |none,d=>some d
 |some (.int _ n),_=>some n
 |some _,_=>none
def ztp(P:Program)(t:TypeId)(x:Value)(lo hi mx:Option Value)(g:Option Bool)(K:Value->Prop):Prop:=
 match P.underlying t with
 |some .string=>match x,mx with
  |.string s,none=>match yx lo 0,yx hi (s.size:Int)with
   |some l,some r=>req g (0<=l/\l<=r/\r<=(s.size:Int))/\K (.string (s.extract l.toNat r.toNat))
   |_,_=>False
  |_,_=>False
 |some (.slice el)=>match x with
  |.slice a len cap=>match yx lo 0,yx hi (len:Int),yx mx (cap:Int)with
   |some l,some r,some m=>(mx=none\/∃v,hi=some v)/\req g (0<=l/\l<=r/\r<=m/\m<=(cap:Int))/\K (.slice (zjc a (qn P el) l.toNat m.toNat) (r.toNat-l.toNat) (m.toNat-l.toNat))
   |_,_,_=>False
  |_=>False
 |some (.array n el)=>match x,mx with
  |.pointer (some a),none=>match yx lo 0,yx hi (n:Int)with
   |some l,some r=>req g (0<=l/\l<=r/\r<=(n:Int))/\K (.slice (zjc (some a) (qn P el) l.toNat n) (r.toNat-l.toNat) (n-l.toNat))
   |_,_=>False
  |_,_=>False
 |_=>False
theorem jf{v:Option Value}{d n:Int}(h:yx v d=some n):(v=none/\n=d)\/∃k,v=some (.int k n):=by
 unfold yx at h
 split at h
 ·exact Or.inl ⟨rfl,by simpa using h.symm⟩
 ·simp only[Ab]at h
  exact Or.inr ⟨_,by rw[h]⟩
 ·cases h
theorem y9{k:IntKind}{y:Nat}{c:BoundsCode}(h0:0<=n)(h1:n<=(y:Int)):QExec P (Instr.sliceBound (.int k n) y c) h n.toNat:=by
 intro B d
 simp[Instr.sliceBound,asIntOf,h0,h1]
theorem zj5{n:Nat}{lo hi:Option Value}(hl:yx lo 0=some l)(hr:yx hi (n:Int)=some r)(h3:0<=l)(h4:l<=r)(h5:r<=(n:Int)):
  QExec P (Instr.sliceBounds false n n lo hi none) h (l.toNat,r.toNat,n):=by
 have e:(r.toNat:Int)=r:=Int.toNat_of_nonneg (by omega)
 rcases jf hl with⟨rfl,rfl⟩|⟨k,rfl⟩ <;> rcases jf hr with⟨rfl,rfl⟩|⟨k',rfl⟩
 ·exact QExec.pure _
 ·exact QExec.bind (QExec.pure n) (QExec.bind (y9 (by omega) h5) (QExec.pure _))
 ·exact QExec.bind (QExec.pure n) (QExec.bind (QExec.pure n) (QExec.bind (y9 h3 h4) (QExec.pure _)))
 ·exact QExec.bind (QExec.pure n) (QExec.bind (y9 (by omega) h5) (QExec.bind (y9 h3 (by omega)) (QExec.pure _)))
theorem zn6{len cap:Nat}{lo hi mx:Option Value}{l r m:Int}(hl:yx lo 0=some l)(hr:yx hi (len:Int)=some r)(hm:yx mx (cap:Int)=some m)
  (h0:mx=none\/∃v,hi=some v) (h3:0<=l) (h4:l<=r) (h5:r<=m) (h6:m<=(cap:Int)):
  QExec P (Instr.sliceBounds true len cap lo hi mx) h (l.toNat,r.toNat,m.toNat):=by
 have e:(r.toNat:Int)=r:=Int.toNat_of_nonneg (by omega)
 have e2:(m.toNat:Int)=m:=Int.toNat_of_nonneg (by omega)
 rcases jf hm with⟨rfl,rfl⟩|⟨km,rfl⟩
 ·rcases jf hl with⟨rfl,rfl⟩|⟨k,rfl⟩ <;> rcases jf hr with⟨rfl,rfl⟩|⟨k',rfl⟩
  ·exact QExec.pure _
  ·exact QExec.bind (QExec.pure cap) (QExec.bind (y9 (by omega) h5) (QExec.pure _))
  ·exact QExec.bind (QExec.pure cap) (QExec.bind (QExec.pure len) (QExec.bind (y9 h3 h4) (QExec.pure _)))
  ·exact QExec.bind (QExec.pure cap) (QExec.bind (y9 (by omega) h5) (QExec.bind (y9 h3 (by omega)) (QExec.pure _)))
 ·rcases h0 with h0|⟨v,rfl⟩
  ·cases h0
  ·rcases jf hr with⟨h9,_⟩|⟨k',h9⟩
   ·cases h9
   ·cases h9
    rcases jf hl with⟨rfl,rfl⟩|⟨k,rfl⟩
    ·exact QExec.bind (x:=m.toNat) (y9 (by omega) h6) (QExec.bind (y9 (by omega) (by omega)) (QExec.pure _))
    ·exact QExec.bind (x:=m.toNat) (y9 (by omega) h6) (QExec.bind (y9 (by omega) (by omega)) (QExec.bind (y9 h3 (by omega)) (QExec.pure _)))
theorem Yn{lo hi mx:Option Value}{K:Value->Prop}
  (Z:∀el,(P.underlying t=some (.slice el)\/∃n,P.underlying t=some (.array n el))->∃i,P.info? el=some i) (H:ztp P t x lo hi mx g K):
  ∃v,K v/\(gok g->∀h:za,QExec P (DZ t x lo hi mx) h v):=by
 unfold ztp at H
 split at H
 ·rename_i hu
  split at H
  ·rename_i s
   split at H
   ·rename_i l r hl hr
    obtain⟨h1,h2⟩:=H
    refine⟨_,h2,λhg=>?_⟩
    obtain⟨h3,h4,h5⟩:=h1.out hg
    intro h B d
    have hq:=QExec.underlying (h:=h) hu B d
    have bb:=zj5 (P:=P) (h:=h) hl hr h3 h4 h5 B d
    unfold DZ
    rw[Sem.run_bind,hq]
    simp only[Result.andThen_ok]
    unfold Instr.slice
    rw[Sem.run_bind,hq]
    simp[bb]
   ·exact H.elim
  ·exact H.elim
 ·rename_i el hu
  split at H
  ·rename_i a len cap
   split at H
   ·rename_i l r m hl hr hm
    obtain⟨h0,h1,h2⟩:=H
    refine⟨_,h2,λhg=>?_⟩
    obtain⟨h3,h4,h5,h6⟩:=h1.out hg
    intro h B d
    have hq:=QExec.underlying (h:=h) hu B d
    have hs:=wq (h:=h) el B d (Z el (.inl hu))
    have bb:=zn6 (P:=P) (h:=h) hl hr hm h0 h3 h4 h5 h6 B d
    unfold DZ
    rw[Sem.run_bind,hq]
    simp only[Result.andThen_ok]
    unfold Instr.slice
    rw[Sem.run_bind,hq]
    simp[bb,hs,zjc]
   ·exact H.elim
  ·exact H.elim
 ·rename_i n el hu
  split at H
  ·rename_i a
   split at H
   ·rename_i l r hl hr
    obtain⟨h1,h2⟩:=H
    refine⟨_,h2,λhg=>?_⟩
    obtain⟨h3,h4,h5⟩:=h1.out hg
    intro h B d
    have hq:=QExec.underlying (h:=h) hu B d
    have hs:=wq (h:=h) el B d (Z el (.inr ⟨n,hu⟩))
    have bb:=zj5 (P:=P) (h:=h) hl hr h3 h4 h5 B d
    unfold DZ
    rw[Sem.run_bind,hq]
    simp only[Result.andThen_ok,Dh,Sem.run_bind,Sem.run_pure,bb,hs]
    unfold zjc
    split <;> rfl
   ·exact H.elim
  ·exact H.elim
 ·exact H.elim
end
section
variable {P:Program} {f:FuncId} {h:za} {t ty t':TypeId} {g:Option Bool} {w w':World} {v:Value} {o:Oper} {ρ:Operand -> Value} {K:Value -> za -> Prop} {a:Act}
def XC(P:Program)(f:FuncId)(args:Array Value)(h:za)(R:Value->za->Prop):Prop:=
 ∀B d,Calls P f args (mk B d h) λe w'=>∃v d' h',e=.returned v/\w'=mk B d' h'/\R v h'
theorem XC.mono{args:Array Value}{R R':Value->za->Prop}(H:XC P f args h R)(hR:∀v h',R v h'->R' v h'):XC P f args h R':=
 λB d=>(H B d).mono λ_ _ ⟨v,d',h',e1,e2,r⟩=>⟨v,d',h',e1,e2,hR _ _ r⟩
def Z5(P:Program)(s:Sem Value)(h:za)(K:Value->za->Prop):Prop:=∀B d,∃v d' h',s.run P (mk B d h)=.ok v (mk B d' h')/\K v h'
def zk(P:Program)(s:Sem Unit)(h:za)(K:za->Prop):Prop:=∀B d,∃d' h',s.run P (mk B d h)=.ok () (mk B d' h')/\K h'
def Zw(n:Nat):Prop:=n<=9223372036854775807
def zd9(P:Program)(s:Sem Next)(K:Value->Prop):Prop:=match Qj P s with
 |some (.value v)=>K v
 |_=>False
def z4b(P:Program)(ty:TypeId)(s:Sem Value)(g:Option Bool)(h:za)(K:Value->Prop):Prop:=match qcp P ty with
 |some rt=>z4a rt λv=>req g (QExec P s h v)/\K v
 |none=>False
def zv3(P:Program)(t:TypeId):Bool:=match P.underlying t with
 |some (.slice _)=>true
 |_=>false
def zv4(P:Program)(t:TypeId):Bool:=match P.underlying t with
 |some (.pointer e)=>Nat.beq e (P.pointee t)
 |_=>false
theorem ztq(h:zv4 P t=true):P.underlying t=some (.pointer (P.pointee t)):=by
 unfold zv4 at h
 split at h
 ·rename_i e hu;rw[hu,Ah h]
 ·cases h
def qfi(P:Program)(t:TypeId)(s:Sem Next)(op:BinOp)(x y:Value)(g:Option Bool)(K:Value->Prop):Prop:=
 match op,x,y with
 |.eql,.slice a _ _,.slice none 0 0=>bif zv3 P t then K (.bool a.isNone)else zd9 P s K
 |.neq,.slice a _ _,.slice none 0 0=>bif zv3 P t then K (.bool (!a.isNone))else zd9 P s K
 |.eql,.pointer a,.pointer none=>bif zv4 P t then K (.bool a.isNone)else zd9 P s K
 |.neq,.pointer a,.pointer none=>bif zv4 P t then K (.bool (!a.isNone))else zd9 P s K
 |.quo,.int k a,.int k' b=>k=k'/\req g (b≠0)/\K (.int k (k.wrap (a.tdiv b)))
 |.rem,.int k a,.int k' b=>k=k'/\req g (b≠0)/\K (.int k (a.tmod b))
 |.add,.string a,.string b=>req g (Zw (a.size+b.size))/\K (.string (a++b))
 |_,_,_=>zd9 P s K
def z9o(op:BinOp)(y:Operand):Bool:=match y with
 |.const _=>false
 |_=>match op with
  |.shl | .shr=>true
  |_=>false
def shF(op:BinOp)(x y:Value)(g:Option Bool)(K:Value->Prop):Prop:=
 match x,y with
 |.int k a,.int _ b=>match op with
  |.shl=>req g (0<=b)/\K (.int k (k.wrap (a*2 ^ (min b.toNat k.bits))))
  |.shr=>req g (0<=b)/\K (.int k (a.fdiv (2 ^ (min b.toNat k.bits))))
  |_=>False
 |_,_=>False
def qcx(P:Program)(t:TypeId)(y:Operand):Bool:=match y with
 |.const .nilIface=>match P.underlying t with
  |some (.interface _)=>true
  |_=>false
 |_=>false
def ifc:Value->Bool
 |.nilIface=>true
 |.iface _ _=>true
 |_=>false
def qcy:Value->Bool
 |.nilIface=>true
 |_=>false
def nvF(op:BinOp)(x y:Value)(g:Option Bool)(K:Value->Prop):Prop:=match y with
 |.nilIface=>match op with
  |.eql=>req g (ifc x=true)/\K (.bool (qcy x))
  |.neq=>req g (ifc x=true)/\K (.bool (!qcy x))
  |_=>False
 |_=>False
def zj6(b:Builtin)(Z:Array TypeId)(aa:TypeId)(args:Array Value):Option (Sem Value):=
 match b with
 |.append=>some (AB Z aa args)
 |.copy=>some (Builtin.copy_ Z aa args)
 |.clear=>some (Builtin.clear_ Z aa args)
 |.delete=>some (Builtin.delete_ Z aa args)
 |.len=>some (DK Z aa args)
 |_=>none
def qf1(P:Program)(s:Sem Next)(ty:TypeId)(Z:Array TypeId)(args:Array Value)(g:Option Bool)(h:za)(K:Value->Prop):Prop:=
 match (args[0]?:Option Value)with
 |some (Value.map _)=>z4b P ty (DK Z ty args) g h K
 |_=>zd9 P s K
def za9(P:Program)(t:TypeId):Bool:=match P.underlying t with
 |some (.slice el)=>qd P el
 |some (.array _ el)=>qd P el
 |_=>true
theorem Zh(h:za9 P t=true):∀el,(P.underlying t=some (.slice el)\/∃n,P.underlying t=some (.array n el))->∃i,P.info? el=some i:=by
 intro el Z
 unfold za9 at h
 rcases Z with Z|⟨n,Z⟩ <;> rw[Z]at h <;> exact yw h
def zn7(P:Program)(t:TypeId):Bool:=match P.underlying t with
 |some .string=>true
 |_=>false
theorem zn8(h:zn7 P t=true):P.underlying t=some .string:=by
 unfold zn7 at h
 split at h
 ·assumption
 ·cases h
def qfj(P:Program)(s:Sem Next)(x:Value)(g:Option Bool)(K:Value->Prop):Prop:=match x with
 |.pointer p=>∃a:Addr,req g (p=some a)/\K (.pointer (some a))
 |_=>zd9 P s K
def Yh(P:Program)(o:Oper)(ρ:Operand->Value)(g:Option Bool)(h:za)(K:Value->Prop):Prop:=
 match o.op with
 |.load t a=>zn4 P h t (ρ a) g K
 |.indexAddr t x i=>bif za9 P t then zn5 P t (ρ x) (ρ i) g K else False
 |.index t x i=>bif zn7 P t then zgv (ρ x) (ρ i) g K else zd9 P (execOp ρ o) K
 |.slice t x lo hi mx=>bif za9 P t then ztp P t (ρ x) (lo.map ρ) (hi.map ρ) (mx.map ρ) g K else False
 |.binOp op t x y _=>bif z9o op y then shF op (ρ x) (ρ y) g K else bif qcx P t y then nvF op (ρ x) (ρ y) g K else qfi P t (execOp ρ o) op (ρ x) (ρ y) g K
 |.lookup t m k ok=>z4b P o.type (Ed t (ρ m) (ρ k) ok) g h K
 |.nilCheck x=>qfj P (execOp ρ o) (ρ x) g K
 |.call c=>match c.callee with
  |.builtin .len=>qf1 P (execOp ρ o) o.type c.argTypes (c.args.map ρ) g h K
  |_=>zd9 P (execOp ρ o) K
 |_=>zd9 P (execOp ρ o) K
theorem zt{s:Sem Next}{K:Value->Prop}(H:zd9 P s K)(g:Option Bool):∃v,K v/\(gok g->∀h:za,QExec P s h (.value v)):=by
 unfold zd9 at H
 split at H
 ·rename_i v hv
  exact⟨v,H,λ_ h=>zjb hv h⟩
 ·exact H.elim
theorem zgw{s:Sem Value}{K:Value->Prop}(H:z4b P ty s g h K):∃v,K v/\(gok g->QExec P s h v):=by
 unfold z4b at H
 split at H
 ·obtain⟨v,h1,h2⟩:=zgt H
  exact⟨v,h2,λhg=>h1.out hg⟩
 ·exact H.elim
theorem xh{op:BinOp}(t:TypeId)(x y:Operand)(a b:Value)(h1:(op matches .eql | .neq)=false):eqGuard op t x y a b=pure ():=by
 unfold eqGuard
 cases op <;> simp at h1 <;> rfl
theorem ztr{s:Sem Value}(h:s.run P w=.ok v w'):(s >>= λx=>(Dc (Dl x):Sem Next)).run P w=.ok (.value v) w':=by
 rw[Sem.run_bind,h];rfl
theorem zj7{s:Sem Next}{K:Value->Prop}(h:za)(H:∃v,K v/\(gok g->∀h:za,QExec P s h (.value v))):∃v,K v/\(gok g->QExec P s h (.value v)):=
 let ⟨v,h1,h2⟩:=H;⟨v,h1,λhg=>h2 hg h⟩
theorem z4c{op:BinOp}{x y:Operand}(ho:o.op=.binOp op t x y t'){K:Value->Prop}
  (H:qfi P t (execOp ρ o) op (ρ x) (ρ y) g K):∃v,K v/\(gok g->∀h:za,QExec P (execOp ρ o) h (.value v)):=by
 have Z:∀(op:BinOp) (x y:Operand) (a b:Option Addr) (l c l' c':Nat) (w:World),(eqGuard op t x y (.slice a l c) (.slice b l' c')).run P w=.ok () w:=λop x y a b l c l' c' w=>by
  unfold eqGuard;cases op <;> rfl
 have aa:∀(op:BinOp) (x y:Operand) (a b:Option Addr) (w:World),(eqGuard op t x y (.pointer a) (.pointer b)).run P w=.ok () w:=λop x y a b w=>by
  unfold eqGuard;cases op <;> rfl
 unfold qfi at H
 split at H
 ·rename_i a l c hx hy
  cases hs:zv3 P t with
  |false=>rw[hs]at H;exact zt H g
  |true=>
   rw[hs,cond_true]at H
   refine⟨_,H,λhg h B d=>?_⟩
   have hu:∃el,P.underlying t=some (.slice el):=by
    unfold zv3 at hs
    split at hs
    ·rename_i el hu;exact⟨el,hu⟩
    ·cases hs
   obtain⟨el,hu⟩:=hu
   simp only[execOp,ho,hx,hy]
   refine ztr ?_
   rw[Sem.run_bind,Z]
   simp only[Result.andThen_ok,binOp,Sem.run_bind,run_equal_slice_nil _ t _ _ _ _ hu];rfl
 ·rename_i a l c hx hy
  cases hs:zv3 P t with
  |false=>rw[hs]at H;exact zt H g
  |true=>
   rw[hs,cond_true]at H
   refine⟨_,H,λhg h B d=>?_⟩
   have hu:∃el,P.underlying t=some (.slice el):=by
    unfold zv3 at hs
    split at hs
    ·rename_i el hu;exact⟨el,hu⟩
    ·cases hs
   obtain⟨el,hu⟩:=hu
   simp only[execOp,ho,hx,hy]
   refine ztr ?_
   rw[Sem.run_bind,Z]
   simp only[Result.andThen_ok,binOp,Sem.run_bind,run_equal_slice_nil _ t _ _ _ _ hu];rfl
 ·rename_i a hx hy
  cases hs:zv4 P t with
  |false=>rw[hs]at H;exact zt H g
  |true=>
   rw[hs,cond_true]at H
   refine⟨_,H,λhg h B d=>?_⟩
   have hu:=ztq hs
   simp only[execOp,ho,hx,hy]
   refine ztr ?_
   rw[Sem.run_bind,aa]
   simp only[Result.andThen_ok,binOp,Sem.run_bind,run_equal_pointer_nil _ t _ hu];rfl
 ·rename_i a hx hy
  cases hs:zv4 P t with
  |false=>rw[hs]at H;exact zt H g
  |true=>
   rw[hs,cond_true]at H
   refine⟨_,H,λhg h B d=>?_⟩
   have hu:=ztq hs
   simp only[execOp,ho,hx,hy]
   refine ztr ?_
   rw[Sem.run_bind,aa]
   simp only[Result.andThen_ok,binOp,Sem.run_bind,run_equal_pointer_nil _ t _ hu];rfl
 ·rename_i k a k' b hx hy
  obtain⟨rfl,h1,h2⟩:=H
  refine⟨_,h2,λhg=>?_⟩
  have hb:=h1.out hg
  intro h B d
  simp only[execOp,ho,hx,hy]
  rw[xh _ _ _ _ _ rfl]
  simp[binOp,Op.intDiv,hb]
 ·rename_i k a k' b hx hy
  obtain⟨rfl,h1,h2⟩:=H
  refine⟨_,h2,λhg=>?_⟩
  have hb:=h1.out hg
  intro h B d
  simp only[execOp,ho,hx,hy]
  rw[xh _ _ _ _ _ rfl]
  simp[binOp,Op.intDiv,hb]
 ·rename_i a b hx hy
  obtain⟨h1,h2⟩:=H
  refine⟨_,h2,λhg=>?_⟩
  have hb:=h1.out hg
  intro h B d
  simp only[execOp,ho,hx,hy]
  rw[xh _ _ _ _ _ rfl]
  have hm:¬((a.size+b.size:Nat):Int)>IntKind.i64.max:=by
   unfold Zw at hb
   have:IntKind.i64.max=9223372036854775807:=by decide
   omega
  simp only[binOp,Op.stringOp,if_neg hm]
  rfl
 ·exact zt H g
theorem z9p{op:BinOp}{x y:Operand}(ho:o.op=.binOp op t x y t'){K:Value->Prop}
  (H:shF op (ρ x) (ρ y) g K):∃v,K v/\(gok g->∀h:za,QExec P (execOp ρ o) h (.value v)):=by
 unfold shF at H
 split at H
 ·rename_i k a k' b hx hy
  split at H
  ·obtain⟨h1,h2⟩:=H
   refine⟨_,h2,λhg h B d=>?_⟩
   have hb:=h1.out hg
   simp only[execOp,ho,hx,hy]
   rw[xh _ _ _ _ _ rfl]
   simp only[binOp,Op.shift,if_neg (show¬b<0 by omega)];rfl
  ·obtain⟨h1,h2⟩:=H
   refine⟨_,h2,λhg h B d=>?_⟩
   have hb:=h1.out hg
   simp only[execOp,ho,hx,hy]
   rw[xh _ _ _ _ _ rfl]
   simp only[binOp,Op.shift,if_neg (show¬b<0 by omega)];rfl
  ·exact H.elim
 ·exact H.elim
theorem z9q{op:BinOp}{x y:Operand}(ho:o.op=.binOp op t x y t'){K:Value->Prop}
  (hb:qcx P t y=true) (H:nvF op (ρ x) (ρ y) g K):∃v,K v/\(gok g->∀h:za,QExec P (execOp ρ o) h (.value v)):=by
 have hu:∃ms,P.underlying t=some (.interface ms)/\y=.const .nilIface:=by
  unfold qcx at hb
  split at hb
  ·split at hb
   ·rename_i ms hu;exact⟨ms,hu,rfl⟩
   ·cases hb
  ·cases hb
 obtain⟨ms,hu,rfl⟩:=hu
 have key:∀{u:Value} (h:za),ifc u=true->QExec P (Eu t u .nilIface) h (qcy u):=by
  intro u h hi B d
  have hq:=QExec.underlying (h:=h) hu B d
  unfold Eu Op.maxDepth
  cases u <;> first|(cases hi;done)|(unfold Op.equalIn;rw[Sem.run_bind,hq];rfl)
 have hg:∀op u (h:za),ifc u=true->QExec P (eqGuard op t x (.const .nilIface) u .nilIface) h ():=by
  intro op u h hi B d
  unfold eqGuard
  cases u <;> first|(cases hi;done)|(cases op <;> simp)
 have Z:∀op u,ifc u=true->(binOp op t u .nilIface=match op with | .eql=>(do pure (.bool (<-Eu t u .nilIface))) | .neq=>(do pure (.bool (!(<-Eu t u .nilIface))))|_=>binOp op t u .nilIface):=by
  intro op u hi
  cases u <;> first|(cases hi;done)|(cases op <;> rfl)
 unfold nvF at H
 split at H
 ·rename_i hy
  split at H
  ·refine⟨_,H.2,λaa h=>?_⟩
   have hi:=H.1.out aa
   simp only[execOp,ho,hy]
   refine QExec.val ((hg _ _ h hi).bind ?_)
   rw[Z _ _ hi]
   exact(key h hi).bind (QExec.pure _)
  ·refine⟨_,H.2,λaa h=>?_⟩
   have hi:=H.1.out aa
   simp only[execOp,ho,hy]
   refine QExec.val ((hg _ _ h hi).bind ?_)
   rw[Z _ _ hi]
   exact(key h hi).bind (QExec.pure _)
  ·exact H.elim
 ·exact H.elim
theorem zrm{op:BinOp}{x y:Operand}(ho:o.op=.binOp op t x y t'){K:Value->Prop}
  (H:bif z9o op y then shF op (ρ x) (ρ y) g K else bif qcx P t y then nvF op (ρ x) (ρ y) g K else qfi P t (execOp ρ o) op (ρ x) (ρ y) g K):∃v,K v/\(gok g->∀h:za,QExec P (execOp ρ o) h (.value v)):=by
 cases hb:z9o op y with
 |true=>rw[hb]at H;exact z9p ho H
 |false=>
  rw[hb]at H
  cases hn:qcx P t y with
  |true=>rw[hn]at H;exact z9q ho hn H
  |false=>rw[hn]at H;exact z4c ho H
theorem zv5{c:Call}(ho:o.op=.call c)(hc:c.callee=.builtin .len){K:Value->Prop}
  (H:qf1 P (execOp ρ o) o.type c.argTypes (c.args.map ρ) g h K):∃v,K v/\(gok g->QExec P (execOp ρ o) h (.value v)):=by
 unfold qf1 at H
 split at H
 ·obtain⟨v,h1,h2⟩:=zgw H
  refine⟨v,h1,λhg=>?_⟩
  have:=h2 hg
  intro B d
  simp only[execOp,ho,resolve,hc,Sem.run_bind,Sem.run_pure,Result.andThen_ok,invoke,builtin]
  rw[this B d]
  rfl
 ·exact zj7 h (zt H g)
theorem zbh{K:Value->Prop}(H:Yh P o ρ g h K):∃v,K v/\(gok g->QExec P (execOp ρ o) h (.value v)):=by
 unfold Yh at H
 split at H
 ·rename_i t a ho
  obtain⟨v,h1,h2⟩:=zgu H
  refine⟨v,h1,λhg=>?_⟩
  simp only[execOp,ho]
  exact(h2 hg).val
 ·rename_i t x i ho
  cases he:za9 P t with
  |false=>rw[he]at H;exact H.elim
  |true=>
   rw[he]at H
   obtain⟨v,h1,h2⟩:=Zv (Zh he) H
   refine⟨v,h1,λhg=>?_⟩
   simp only[execOp,ho]
   exact(h2 hg h).val
 ·rename_i t x i ho
  cases he:zn7 P t with
  |false=>rw[he]at H;exact zj7 h (zt H g)
  |true=>
   rw[he]at H
   obtain⟨v,h1,h2⟩:=Xm (zn8 he) H
   refine⟨v,h1,λhg=>?_⟩
   simp only[execOp,ho]
   exact(h2 hg h).val
 ·rename_i t x lo hi mx ho
  cases he:za9 P t with
  |false=>rw[he]at H;exact H.elim
  |true=>
   rw[he]at H
   obtain⟨v,h1,h2⟩:=Yn (Zh he) H
   refine⟨v,h1,λhg=>?_⟩
   simp only[execOp,ho]
   exact(h2 hg h).val
 ·rename_i op t x y t' ho
  exact zj7 h (zrm ho H)
 ·rename_i t m k ok ho
  obtain⟨v,h1,h2⟩:=zgw H
  refine⟨v,h1,λhg=>?_⟩
  simp only[execOp,ho]
  exact(h2 hg).val
 ·rename_i x ho
  unfold qfj at H
  split at H
  ·rename_i p hx
   obtain⟨a,h1,h2⟩:=H
   refine⟨_,h2,λhg=>?_⟩
   have hp:=h1.out hg
   subst hp
   intro B d
   simp only[execOp,ho,hx]
   rfl
  ·exact zj7 h (zt H g)
 ·rename_i c ho
  split at H
  ·rename_i hc
   exact zv5 ho hc H
  ·exact zj7 h (zt H g)
 ·exact zj7 h (zt H g)
def zfo(o:Oper):Bool:=match o.op with
 |.lookup .. => false
 |.call c=>match c.callee with
  |.builtin .len=>false
  |_=>true
 |_=>true
theorem z4d{p:Addr}(H:zc h p=some v):p.block<h.size:=by
 unfold zc at H
 cases e:h[p.block]? with
 |none=>simp[e]at H
 |some o=>exact(Ad.1 e).1
theorem zgx{h h':za}(k:Keep h.size h h'){p:Addr}(H:zc h p=some v):zc h' p=some v:=by
 have:=z4d H
 unfold zc at H ⊢
 rw[k.get _ this];exact H
theorem zgy{h h':za}(k:Keep h.size h h'){p:Addr}:∀{vs:List Value} {i:Nat},zd h p i vs->zd h' p i vs
 |[],_,_=>trivial
 |_::_,_,⟨h1,h2⟩=>⟨zgx k h1,zgy k h2⟩
theorem zak{K:Value->Prop}(hf:zfo o=true)(H:Yh P o ρ g h K):∃v,K v/\(gok g->∀h',Keep h.size h h'->QExec P (execOp ρ o) h' (.value v)):=by
 unfold Yh at H
 split at H
 ·rename_i t a ho
  unfold zn4 at H
  split at H
  ·rename_i q b hp hv
   obtain⟨x,h1,h2⟩:=H
   refine⟨_,h2,λhg h' hk=>?_⟩
   simp only[execOp,ho,hp]
   exact(zgf hv (zgx hk (h1.out hg))).val
  ·rename_i q l hp hv
   obtain⟨vs,h0,⟨h1,h2⟩,_⟩:=Y6 H (wh l)
   refine⟨_,h2,λhg h' hk=>?_⟩
   simp only[execOp,ho,hp]
   exact(zgg hv h0 (zgy hk (h1.out hg))).val
  ·exact H.elim
 ·rename_i t x i ho
  cases he:za9 P t with
  |false=>rw[he]at H;exact H.elim
  |true=>
   rw[he]at H
   obtain⟨v,h1,h2⟩:=Zv (Zh he) H
   refine⟨v,h1,λhg h' _=>?_⟩
   simp only[execOp,ho]
   exact(h2 hg h').val
 ·rename_i t x i ho
  cases he:zn7 P t with
  |false=>
   rw[he]at H
   obtain⟨v,h1,h2⟩:=zt H g
   exact⟨v,h1,λhg h' _=>h2 hg h'⟩
  |true=>
   rw[he]at H
   obtain⟨v,h1,h2⟩:=Xm (zn8 he) H
   refine⟨v,h1,λhg h' _=>?_⟩
   simp only[execOp,ho]
   exact(h2 hg h').val
 ·rename_i t x lo hi mx ho
  cases he:za9 P t with
  |false=>rw[he]at H;exact H.elim
  |true=>
   rw[he]at H
   obtain⟨v,h1,h2⟩:=Yn (Zh he) H
   refine⟨v,h1,λhg h' _=>?_⟩
   simp only[execOp,ho]
   exact(h2 hg h').val
 ·rename_i op t x y t' ho
  obtain⟨v,h1,h2⟩:=zrm ho H
  exact⟨v,h1,λhg h' _=>h2 hg h'⟩
 ·rename_i t m k ok ho
  simp[zfo,ho]at hf
 ·rename_i x ho
  unfold qfj at H
  split at H
  ·rename_i p hx
   obtain⟨a,h1,h2⟩:=H
   refine⟨_,h2,λhg h' _=>?_⟩
   have hp:=h1.out hg
   subst hp
   intro B d
   simp only[execOp,ho,hx]
   rfl
  ·obtain⟨v,h1,h2⟩:=zt H g
   exact⟨v,h1,λhg h' _=>h2 hg h'⟩
 ·rename_i c ho
  split at H
  ·rename_i hc
   simp[zfo,ho,hc]at hf
  ·obtain⟨v,h1,h2⟩:=zt H g
   exact⟨v,h1,λhg h' _=>h2 hg h'⟩
 ·obtain⟨v,h1,h2⟩:=zt H g
  exact⟨v,h1,λhg h' _=>h2 hg h'⟩
def wpN(P:Program){α:Type}:Sem α->za->(α->za->Prop)->Prop
 |.pure a,h,K=>K a h
 |.program k,h,K=>wpN P (k P) h K
 |.mark _ k,h,K=>wpN P k h K
 |.new o k,h,K=>wpN P (k h.size) (h.push o) K
 |_,_,_=>False
theorem zgz{α:Type}{s:Sem α}{K:α->za->Prop}(H:wpN P s h K)(B:World)(d:Nat):∃x h',s.run P (mk B d h)=.ok x (mk B d h')/\K x h':=by
 induction s generalizing h with
 |pure a=>exact⟨a,h,rfl,H⟩
 |program k ih=>exact ih P H
 |mark m k ih=>exact ih H
 |new o k ih=>
  obtain⟨x,h',h1,h2⟩:=ih h.size H
  exact⟨x,h',h1,h2⟩
 |_=>exact H.elim
def typed(P:Program)(ty:TypeId)(v:Value)(K:Value->Prop):Prop:=match qcp P ty with
 |some rt=>z4a rt λv'=>v=v'/\K v'
 |none=>False
theorem xj{K:Value->Prop}(H:typed P ty v K):K v:=by
 unfold typed at H
 split at H
 ·obtain⟨v',h1,h2⟩:=zgt H;rw[h1];exact h2
 ·exact H.elim
def zj(P:Program)(f:FuncId):Bool:=match P.funcs[f]? with
 |some fn=>(match fn.body with
  |some _=>true
  | none => false) && !(fn.name == "runtime.NumGoroutine")
 |none=>false
theorem Xn(h:zj P f=true)(args:Array Value)(w:World):(callFunc f args).run P w=.ok (.enter f args) w:=by
 unfold zj at h
 split at h
 ·rename_i fn hf
  simp only[As,CY]at h
  obtain⟨h1,h2⟩:=h
  unfold callFunc
  simp only[program,Sem.run_bind,Sem.run,Result.andThen_ok,hf]
  split at h1
  ·rename_i b hb
   simp[h2,hb]
  ·cases h1
 ·cases h
def qcz(P:Program)(v:Value)(args:Array Value)(K:FuncId->Array Value->Prop):Prop:=match v with
 |.func (.func f) first cap=>zj P f=true/\K f (first++args++cap)
 |_=>False
theorem zj8{c:Call}{x:Operand}(ho:o.op=.call c)(hc:c.callee=.value x){K:FuncId->Array Value->Prop}(H:qcz P (ρ x) (c.args.map ρ) K):
  ∃f args,K f args/\∀w,(execOp ρ o).run P w=.ok (.enter f args) w:=by
 unfold qcz at H
 split at H
 ·rename_i f first cap hv
  obtain⟨h1,h2⟩:=H
  refine⟨_,_,h2,λw=>?_⟩
  simp only[execOp,ho,resolve,hc,hv,DL,Sem.run_bind,Sem.run_pure,Result.andThen_ok,invoke]
  exact Xn h1 _ w
 ·exact H.elim
def Jy:Operand->Bool
 |.func _=>true
 |_=>false
def qf2(P:Program)(f:FuncId):Bool:=match P.funcs[f]? with
 |some fn=>(match fn.body with
  |some _=>false
  |none=>true)
 |none=>false
def qh4(P:Program)(f:FuncId)(args:Array Value)(h:za)(K:Value->za->Prop):Prop:=∀B d,∃v d' h',(callFunc f args).run P (mk B d h)=.ok (.value v) (mk B d' h')/\K v h'
def z7x(P:Program):Operand->Bool
 |.func f=>qf2 P f
 |_=>false
def qf3(P:Program)(v:Value)(args:Array Value)(h:za)(K:Value->za->Prop):Prop:=match v with
 |.func (.func f) first cap=>qh4 P f (first++args++cap) h K
 |_=>False
theorem zv6{c:Call}{x:Operand}(ho:o.op=.call c)(hc:c.callee=.value x)(H:qf3 P (ρ x) (c.args.map ρ) h K)(B:World)(d:Nat):
  ∃v d' h',(execOp ρ o).run P (mk B d h)=.ok (.value v) (mk B d' h')/\K v h':=by
 unfold qf3 at H
 split at H
 ·rename_i f first cap hv
  obtain⟨v,d',h',h1,h2⟩:=H B d
  refine⟨v,d',h',?_,h2⟩
  simp only[execOp,ho,resolve,hc,hv,DL,Sem.run_bind,Sem.run_pure,Result.andThen_ok,invoke]
  exact h1
 ·exact H.elim
def qc0(P:Program)(t:TypeId):Bool:=match P.underlying t with
 |some (.map _ _)=>true
 |_=>false
def zts(P:Program)(o:Oper)(ρ:Operand->Value)(h:za)(K:Value->za->Prop):Prop:=
 match o.op with
 |.store t a x=>zk P (An t (ρ a) (ρ x)) h λh'=>K undef h'
 |.mapUpdate t m k x=>zk P (CN t (ρ m) (ρ k) (ρ x)) h λh'=>K undef h'
 |.insert t m k x=>zk P (CN t (ρ m) (ρ k) (ρ x)) h λh'=>K undef h'
 |.entryStore t m s x=>zk P (Instr.entryStore t (ρ m) (ρ s) (ρ x)) h λh'=>K undef h'
 |.mapEntry t m k=>Z5 P (Instr.mapEntry t (ρ m) (ρ k)) h λv h'=>typed P o.type v λv'=>K v' h'
 |.makeSlice t l c=>Z5 P (Instr.makeSlice t (ρ l) (ρ c)) h λv h'=>typed P o.type v λv'=>K v' h'
 |.convert s t x=>Z5 P (convert s t (ρ x)) h λv h'=>typed P o.type v λv'=>K v' h'
 |.typeAssert x t t' ok=>Z5 P (Instr.typeAssert (ρ x) t t' ok) h λv h'=>typed P o.type v λv'=>K v' h'
 |.range t x=>bif qc0 P t then Z5 P (Ev t (ρ x)) h λv h'=>∃q:Option Addr,v=.pointer q/\K (.pointer q) h' else wpN P (execOp ρ o) h λnx h'=>match nx with
   |.value v=>K v h'
   |.skip=>K undef h'
   |_=>False
 |.next x s=>bif s then Z5 P (Dm (ρ x) s o.type) h λv h'=>(v=.tuple #[.bool false]/\K (.tuple #[.bool false]) h')\/∃k u:Int,v=.tuple #[.bool true,.int .i64 k,.int .i32 u]/\K (.tuple #[.bool true,.int .i64 k,.int .i32 u]) h'
  else Z5 P (Dm (ρ x) s o.type) h λv h'=>(v=.tuple #[.bool false]/\K (.tuple #[.bool false]) h')\/∃k u:Value,v=.tuple #[.bool true,k,u]/\K (.tuple #[.bool true,k,u]) h'
 |.entry x=>Z5 P (Instr.entry (ρ x)) h λv h'=>∃k u:Value,v=.tuple #[k,u]/\K (.tuple #[k,u]) h'
 |.call c=>match c.callee with
  |.builtin b=>match zj6 b c.argTypes o.type (c.args.map ρ)with
   |some s=>Z5 P s h λv h'=>typed P o.type v λv'=>K v' h'
   |none=>False
  |.value x=>bif z7x P x then qf3 P (ρ x) (c.args.map ρ) h (λv h'=>typed P o.type v λv'=>K v' h')else bif Jy x then(wpN P (execOp ρ o) h λnx h'=>match nx with
   |.enter f args=>XC P f args h' λv Z=>typed P o.type v λv'=>K v' Z
   |.value v=>K v h'
   |_=>False)else qcz P (ρ x) (c.args.map ρ) λf args=>XC P f args h λv Z=>typed P o.type v λv'=>K v' Z
  |_=>False
 |_=>wpN P (execOp ρ o) h λnx h'=>match nx with
   |.value v=>K v h'
   |.skip=>K undef h'
   |_=>False
def qc1:Builtin->Bool
 |.append | .copy | .clear | .delete=>true
 |_=>false
def zye(P:Program)(s t:TypeId):Bool:=match P.underlying s,P.underlying t with
 |some (.int _),some (.int _)=>true
 |some .string,some .string=>true
 |_,_=>false
def isQ(P:Program)(o:Oper):Bool:=
 match o.op with
 |.load _ _ | .indexAddr _ _ _ | .index _ _ _ | .slice _ _ _ _ _ | .binOp _ _ _ _ _ | .lookup _ _ _ _ | .nilCheck _=>true
 |.move _ | .assign _ | .unOp _ _ _ | .build _ _ | .makeFunc _ _ _ | .makeInterface _ _ | .extract _ _ | .field _ _ _ | .fieldAddr _ _ _=>true
 |.convert s t _=>zye P s t
 |.call c=>match c.callee with
  |.builtin b=>!qc1 b
  |_=>false
 |_=>false
def zyf(P:Program)(o:Oper)(ρ:Operand->Value)(b:Bool)(h:za)(K:Value->za->Prop):Prop:=
 match qcp P o.type with
 |some rt=>∃J:Value->za->Prop,(b=true->zts P o ρ h J)/\(b=false->z4a rt λv=>J v h)/\(b=true->∀v h',J v h'->z4a rt λv'=>v=v')/\qcu rt λv=>∀h',J v h'->K v h'
 |none=>False
def stepW(P:Program)(o:Oper)(ρ:Operand->Value)(g:Option Bool)(h:za)(K:Value->za->Prop):Prop:=
 bif isQ P o then Yh P o ρ g h (λv=>K v h)else match g with
  |none=>zts P o ρ h K
  |some b=>zyf P o ρ b h K
theorem upon_value{next:Act->World->Prop}{Q:Exit->Act->World->Prop}{s:Sem Next}(h:s.run P w=.ok (.value v) w')(hn:next (a.put o.dst v) w'):
  o.upon P a next Q (s.run P w):=by rw[h];exact hn
theorem upon_skip{next:Act->World->Prop}{Q:Exit->Act->World->Prop}{s:Sem Next}(h:s.run P w=.ok .skip w')(hn:next (a.put o.dst undef) w'):
  o.upon P a next Q (s.run P w):=by rw[h];exact hn
theorem Yi{s:Sem Value}(h:s.run P w=.ok v w'):(s >>= λx=>(Dc (Dl x):Sem Next)).run P w=.ok (.value v) w':=by
 rw[Sem.run_bind,h];rfl
theorem zv7{s:Sem Unit}(h:s.run P w=.ok () w'):(s >>= λ_=>(Dc Next.skip:Sem Next)).run P w=.ok .skip w':=by
 rw[Sem.run_bind,h];rfl
theorem zff(H:zts P o ρ h K)(B:World)(d:Nat){next:Act->World->Prop}{Q:Exit->Act->World->Prop}
  (hn:∀v d' h',K v h'->next (a.put o.dst v) (mk B d' h')):o.upon P a next Q ((execOp ρ o).run P (mk B d h)):=by
 unfold zts at H
 split at H
 case h_1 t x y ho=>
  obtain⟨d',h',h1,h2⟩:=H B d
  exact upon_skip (by simp only[execOp,ho];exact zv7 h1) (hn _ _ _ h2)
 case h_2 t m k x ho=>
  obtain⟨d',h',h1,h2⟩:=H B d
  exact upon_skip (by simp only[execOp,ho];exact zv7 h1) (hn _ _ _ h2)
 case h_3 t m k x ho=>
  obtain⟨d',h',h1,h2⟩:=H B d
  exact upon_skip (by simp only[execOp,ho];exact zv7 h1) (hn _ _ _ h2)
 case h_4 t m s x ho=>
  obtain⟨d',h',h1,h2⟩:=H B d
  exact upon_skip (by simp only[execOp,ho];exact zv7 h1) (hn _ _ _ h2)
 case h_5 t m k ho=>
  obtain⟨v,d',h',h1,h2⟩:=H B d
  exact upon_value (by simp only[execOp,ho];exact Yi h1) (hn _ _ _ (xj h2))
 case h_6 t l c ho=>
  obtain⟨v,d',h',h1,h2⟩:=H B d
  exact upon_value (by simp only[execOp,ho];exact Yi h1) (hn _ _ _ (xj h2))
 case h_7 s t x ho=>
  obtain⟨v,d',h',h1,h2⟩:=H B d
  exact upon_value (by simp only[execOp,ho];exact Yi h1) (hn _ _ _ (xj h2))
 case h_8 x t t' ok ho=>
  obtain⟨v,d',h',h1,h2⟩:=H B d
  exact upon_value (by simp only[execOp,ho];exact Yi h1) (hn _ _ _ (xj h2))
 case h_9 t x ho=>
  cases hm:qc0 P t with
  |true=>
   rw[hm]at H
   obtain⟨v,d',h',h1,q,rfl,h2⟩:=H B d
   exact upon_value (by simp only[execOp,ho];exact Yi h1) (hn _ _ _ h2)
  |false=>
   rw[hm]at H
   obtain⟨nx,h',h1,h2⟩:=zgz H B d
   cases nx with
   |value v=>exact upon_value h1 (hn _ _ _ h2)
   |skip=>exact upon_skip h1 (hn _ _ _ h2)
   |_=>exact h2.elim
 case h_10 x s ho=>
  cases s with
  |true=>
   simp only[cond_true]at H
   obtain⟨v,d',h',h1,h2⟩:=H B d
   refine upon_value (v:=v) (w':=mk B d' h') (by simp only[execOp,ho];exact Yi h1) (hn _ _ _ ?_)
   rcases h2 with⟨rfl,h2⟩|⟨k,u,rfl,h2⟩ <;> exact h2
  |false=>
   simp only[cond_false]at H
   obtain⟨v,d',h',h1,h2⟩:=H B d
   refine upon_value (v:=v) (w':=mk B d' h') (by simp only[execOp,ho];exact Yi h1) (hn _ _ _ ?_)
   rcases h2 with⟨rfl,h2⟩|⟨k,u,rfl,h2⟩ <;> exact h2
 case h_11 x ho=>
  obtain⟨v,d',h',h1,k,u,rfl,h2⟩:=H B d
  exact upon_value (by simp only[execOp,ho];exact Yi h1) (hn _ _ _ h2)
 case h_12 c ho=>
  split at H
  ·rename_i b hb
   split at H
   ·rename_i s hs
    obtain⟨v,d',h',h1,h2⟩:=H B d
    refine upon_value (w':=mk B d' h') ?_ (hn _ _ _ (xj h2))
    have key:execOp ρ o=s >>= λx=>(Dc (Dl x):Sem Next):=by
     simp only[execOp,ho,resolve,hb]
     unfold zj6 at hs
     split at hs <;> first
      |(simp only[Ab]at hs;subst hs;rfl)
      |cases hs
    rw[key]
    exact Yi h1
   ·exact H.elim
  ·rename_i x hx
   cases hex:z7x P x with
   |true=>
    rw[hex]at H
    obtain⟨v,d',h',h1,h2⟩:=zv6 ho hx H B d
    exact upon_value h1 (hn _ _ _ (xj h2))
   |false=>
   rw[hex]at H
   simp only[cond_false]at H
   cases hst:Jy x with
   |true=>
    rw[hst]at H
    obtain⟨nx,h',h1,h2⟩:=zgz H B d
    cases nx with
    |enter f args=>
     rw[h1]
     refine(h2 B d).mono ?_
     rintro e w' ⟨v,d',Z,rfl,rfl,h3⟩
     exact hn _ _ _ (xj h3)
    |value v=>exact upon_value h1 (hn _ _ _ h2)
    |_=>exact h2.elim
   |false=>
    rw[hst]at H
    simp only[cond_false]at H
    obtain⟨f,args,h1,h2⟩:=zj8 ho hx H
    rw[h2]
    refine(h1 B d).mono ?_
    rintro e w' ⟨v,d',Z,rfl,rfl,h3⟩
    exact hn _ _ _ (xj h3)
  ·exact H.elim
 case h_13=>
  obtain⟨nx,h',h1,h2⟩:=zgz H B d
  cases nx with
  |value v=>exact upon_value h1 (hn _ _ _ h2)
  |skip=>exact upon_skip h1 (hn _ _ _ h2)
  |_=>exact h2.elim
theorem zrn(H:stepW P o ρ g h K)(hg:gok g)(B:World)(d:Nat){next:Act->World->Prop}{Q:Exit->Act->World->Prop}
  (hn:∀v d' h',K v h'->next (a.put o.dst v) (mk B d' h')):o.upon P a next Q ((execOp ρ o).run P (mk B d h)):=by
 unfold stepW at H
 cases hq:isQ P o with
 |true=>
  rw[hq]at H
  obtain⟨v,h1,h2⟩:=zbh H
  exact upon_value (h2 hg B d) (hn _ _ _ h1)
 |false=>
  rw[hq]at H
  cases g with
  |none=>exact zff H B d hn
  |some b=>
   have hb:b=true:=hg
   subst hb
   simp only[cond_false]at H
   unfold zyf at H
   split at H
   ·rename_i rt Z
    obtain⟨J,h1,_,h3,h4⟩:=H
    refine zff (h1 rfl) B d λv d' h' hJ=>?_
    obtain⟨v',e1,e2⟩:=zyd (h3 rfl v h' hJ) h4
    subst e1
    exact hn _ _ _ (e2 _ hJ)
   ·exact H.elim
theorem zro(H:stepW P o ρ (some false) h K):∃v,K v h:=by
 unfold stepW at H
 cases hq:isQ P o with
 |true=>
  rw[hq]at H
  obtain⟨v,h1,_⟩:=zbh H
  exact⟨v,h1⟩
 |false=>
  rw[hq]at H
  simp only[cond_false]at H
  unfold zyf at H
  split at H
  ·obtain⟨J,_,h2,_,h4⟩:=H
   obtain⟨v,e1,e2⟩:=zyd (h2 rfl) h4
   exact⟨v,e2 _ e1⟩
  ·exact H.elim
end
section
variable {n:Nat} {e:Env} {a b:Act} {c:zz} {g:Option Bool} {P:Program} {o:Oper} {h:za} {K:Value -> za -> Prop} {ms:List Nat} {ρ:Operand -> Value}
def zbi(e:Env):zz->Option (Option Bool)
 |[]=>some none
 |c=>match zyb e c with
  |some b=>some (some b)
  |none=>none
theorem Qw(hs:Sat n e a)(h:zbi e c=some g)(hv:valid (zo a) c):gok g:=by
 unfold zbi at h
 split at h
 ·simp only[Ab]at h;subst h;trivial
 ·split at h
  ·rename_i b hb
   simp only[Ab]at h
   subst h
   exact(zbg hs hb).2 hv
  ·cases h
theorem zv8(hs:Sat n e a)(h:zbi e c=some g)(hv:¬valid (zo a) c):g=some false:=by
 unfold zbi at h
 split at h
 ·exact absurd trivial hv
 ·split at h
  ·rename_i b hb
   simp only[Ab]at h
   subst h
   cases b with
   |false=>rfl
   |true=>exact absurd ((zbg hs hb).1 rfl) hv
  ·cases h
def zyg(b:Bool):Value->Value->Value
 |.bool x,.bool y=>.bool (bif b then x else y)
 |x,y=>bif b then x else y
theorem ztt(b:Bool)(x y:Value):zyg b x y=if b=true then x else y:=by
 unfold zyg
 split <;> cases b <;> rfl
def orV:Option Value->Option Value->Option Value
 |some v,_=>some v
 |none,w=>w
def zyh(e:Env)(c:zz)(x a b:Operand)(K:Value->Prop):Prop:=
 match x with
 |.tmp s=>match look e s with
  |some (cs,.bool t)=>bif suf cs c then(match orV (W9 e c a) (W9 e ((s,true)::cs) a),orV (W9 e c b) (W9 e ((s,false)::cs) b)with
    |some va,some vb=>K (zyg t va vb)
    |_,_=>False)else False
  |_=>False
 |_=>False
theorem Jz{Z:Act}(hs:Sat n e Z){x a b:Operand}{K:Value->Prop}(H:zyh e c x a b K):
  ∃v,K v/\(valid (zo Z) c->∃t,Z.eval x=.bool t/\(if t=true then Z.eval a else Z.eval b)=v):=by
 unfold zyh at H
 split at H
 ·rename_i s
  split at H
  ·rename_i cs t hl
   cases hsf:suf cs c with
   |false=>rw[hsf]at H;exact H.elim
   |true=>
    rw[hsf]at H
    simp only[cond_true]at H
    split at H
    ·rename_i va vb ha hb
     refine⟨_,H,λhv=>⟨t,?_,?_⟩⟩
     ·exact(hs.all _ (zaj hl)).1 (Y5 hsf hv)
     ·have aa:=Y5 hsf hv
      have hx:zo Z s=.bool t:=(hs.all _ (zaj hl)).1 aa
      rw[ztt]
      cases t with
      |true=>
       simp only[if_true]
       unfold orV at ha
       split at ha
       ·rename_i v _ h1
        simp only[Ab]at ha
        subst ha
        exact qu hs hv h1
       ·exact qu hs (c:=(s,true)::cs) ⟨hx,aa⟩ ha
      |false=>
       simp only[A5,if_false]
       unfold orV at hb
       split at hb
       ·rename_i v _ h1
        simp only[Ab]at hb
        subst hb
        exact qu hs hv h1
       ·exact qu hs (c:=(s,false)::cs) ⟨hx,aa⟩ hb
    ·exact H.elim
  ·exact H.elim
 ·exact H.elim
def opW(P:Program)(o:Oper)(e:Env)(c:zz)(h:za)(K:Value->za->Prop):Prop:=
 match o.op with
 |.pick x a b=>zyh e c x a b λv=>K v h
 |_=>bif we o.op then(bif known e c o.op.operands.toList then(match zbi e c with
   |some g=>stepW P o (rho e c) g h K
   |none=>False)else False)else False
def wR(P:Program)(n:Nat)(ops:Array Oper)(K:Env->za->Prop):List Oper->Env->za->Prop
 |[],e,h=>K (clean e) h
 |o::rest,e,h=>match Yy ops e o.guard with
  |some c=>bif qk n c o.dst then opW P o e c h λv h'=>wR P n ops K rest (putO e o.dst c v) h' else False
  |none=>False
theorem zlu(H:opW P o e c h K)(hs:Sat n e a)(hv:valid (zo a) c)(B:World)(d:Nat)
  {next:Act->World->Prop} {Q:Exit->Act->World->Prop} (hn:∀v d' h',K v h'->next (a.put o.dst v) (mk B d' h')):o.wp P a (mk B d h) next Q:=by
 unfold opW at H
 unfold Oper.wp
 split at H
 ·rename_i x y z ho
  obtain⟨v,h1,h2⟩:=Jz hs H
  obtain⟨t,h3,h4⟩:=h2 hv
  refine upon_value (w':=mk B d h) (v:=v) ?_ (hn _ _ _ h1)
  simp only[execOp,ho,h3,asBool,Sem.run_bind,Sem.run_pure,Result.andThen_ok]
  rw[h4]
 ·cases hns:we o.op with
  |false=>rw[hns]at H;exact H.elim
  |true=>
   rw[hns]at H
   cases hk:known e c o.op.operands.toList with
   |false=>rw[hk]at H;exact H.elim
   |true=>
    rw[hk]at H
    simp only[cond_true]at H
    split at H
    ·rename_i g hg
     rw[Jx hs hv hns hk]
     exact zrn H (Qw hs hg hv) B d hn
    ·exact H.elim
theorem z7y(H:opW P o e c h K)(hs:Sat n e a)(hv:¬valid (zo a) c):∃v,K v h:=by
 unfold opW at H
 split at H
 ·obtain⟨v,h1,_⟩:=Jz hs H
  exact⟨v,h1⟩
 ·cases hns:we o.op with
  |false=>rw[hns]at H;exact H.elim
  |true=>
   rw[hns]at H
   cases hk:known e c o.op.operands.toList with
   |false=>rw[hk]at H;exact H.elim
   |true=>
    rw[hk]at H
    simp only[cond_true]at H
    split at H
    ·rename_i g hg
     rw[zv8 hs hg hv]at H
     exact zro H
    ·exact H.elim
def y8:List Oper->List Nat
 |[]=>[]
 |o::l=>match o.dst with
  |some d=>d::y8 l
  |none=>y8 l
def Same(ms:List Nat)(a b:Act):Prop:=∀i,i∉ms->zo b i=zo a i
theorem Same.refl(ms:List Nat)(a:Act):Same ms a a:=λ_ _=>rfl
theorem Same.trans{a b c:Act}(h:Same ms a b)(k:Same ms b c):Same ms a c:=λi hi=>(k i hi).trans (h i hi)
theorem Same.mono{ms Z:List Nat}(h:Same ms a b)(hs:∀x∈ms,x∈Z):Same Z a b:=λi hi=>h i λhm=>hi (hs i hm)
theorem Same.put(a:Act)(d:Option Nat)(v:Value)(h:∀i,d=some i->i∈ms):Same ms a (a.put d v):=by
 intro i hi
 cases d with
 |none=>rfl
 |some j=>exact qf λe=>hi (e ▸ h j rfl)
theorem zal{P:Program}{n:Nat}{ops:Array Oper}{K:Env->za->Prop}{Q:Exit->Act->World->Prop}(B:World):
  ∀(l:List Oper) (e:Env) (h:za) (a:Act) (d:Nat),wR P n ops K l e h->Sat n e a->(∀e' a' d' h',Sat n e' a'->Same (y8 l) a a'->K e' h'->Q .normal a' (mk B d' h'))->wpList P ops Q l a (mk B d h)
 |[],e,h,a,d,H,hs,hQ=>hQ _ _ _ _ hs.clean (Same.refl _ _) H
 |o::rest,e,h,a,d,H,hs,hQ=>by
  unfold wR at H
  split at H
  ·rename_i c hc
   cases hd:qk n c o.dst with
   |false=>rw[hd]at H;exact H.elim
   |true=>
    rw[hd]at H
    simp only[cond_true]at H
    have hw:=Zu hs hc
    have ae:∀i,o.dst=some i->i∈y8 (o::rest):=λi hi=>by simp[y8,hi]
    have aa:∀x∈y8 rest,x∈y8 (o::rest):=λx hx=>by
     unfold y8
     split
     ·exact Ae _ hx
     ·exact hx
    have Z:∀v u d' h',(valid (zo a) c->u=v)->(¬valid (zo a) c->u=undef)->wR P n ops K rest (putO e o.dst c v) h'->wpList P ops Q rest (a.put o.dst u) (mk B d' h'):=λv u d' h' h1 h2 h3=>
     zal B rest _ _ _ _ h3 (hs.putO hd h1 h2) λe' a' af ah q1 q2 q3=>hQ e' a' af ah q1 ((Same.put a o.dst u ae).trans (q2.mono aa)) q3
    unfold wpList
    by_cases hv:valid (zo a) c
    ·rw[if_pos (hw.2 hv)]
     exact .inl (zlu H hs hv B d λv d' h' hK=>Z v v d' h' (λ_=>rfl) (λab=>absurd hv ab) hK)
    ·rw[if_neg (λhx=>hv (hw.1 hx))]
     obtain⟨v,hK⟩:=z7y H hs hv
     exact Z v undef d h (λab=>absurd ab hv) (λ_=>rfl) hK
  ·exact H.elim
def z9r(P:Program)(o:Oper)(ρ:Operand->Value)(g:Option Bool)(h:za)(K:Value->Prop):Prop:=
 match o.op with
 |.call c=>match c.callee with
  |.value x=>bif Jy x then(match Qj P (execOp ρ o)with
    |some (.enter f args)=>match qcp P o.type with
     |some rt=>z4a rt λv=>req g (XC P f args h λv' h'=>v'=v/\h'=h)/\K v
     |none=>False
    |_=>False)else(match qcp P o.type with
     |some rt=>z4a rt λv=>req g (qcz P (ρ x) (c.args.map ρ) λf args=>XC P f args h λv' h'=>v'=v/\h'=h)/\K v
     |none=>False)
  |_=>False
 |_=>False
theorem zrp{K:Value->Prop}(H:z9r P o ρ g h K):
  ∃v,K v/\(gok g->∃f args,(∀w,(execOp ρ o).run P w=.ok (.enter f args) w)/\XC P f args h λv' h'=>v'=v/\h'=h):=by
 unfold z9r at H
 split at H
 ·rename_i c ho
  split at H
  ·rename_i x hx
   cases hst:Jy x with
   |true=>
    rw[hst]at H
    simp only[cond_true]at H
    split at H
    ·rename_i f args he
     split at H
     ·obtain⟨v,h1,h2⟩:=zgt H
      exact⟨v,h2,λhg=>⟨f,args,λw=>Xk he w,h1.out hg⟩⟩
     ·exact H.elim
    ·exact H.elim
   |false=>
    rw[hst]at H
    simp only[cond_false]at H
    split at H
    ·obtain⟨v,h1,h2⟩:=zgt H
     refine⟨v,h2,λhg=>?_⟩
     obtain⟨f,args,h3,h4⟩:=zj8 ho hx (h1.out hg)
     exact⟨f,args,h4,h3⟩
    ·exact H.elim
  ·exact H.elim
 ·exact H.elim
def zg0(o:Oper):Bool:=match o.op with
 |.call c=>match c.callee with
  |.builtin _=>false
  |_=>true
 |_=>false
def opQ(P:Program)(o:Oper)(e:Env)(c:zz)(h:za)(Z:Bool)(K:Value->Prop):Prop:=
 match o.op with
 |.pick x a b=>zyh e c x a b K
 |_=>bif we o.op then(bif known e c o.op.operands.toList then(match zbi e c with
   |some g=>bif zg0 o then(bif Z then z9r P o (rho e c) g h K else False)else Yh P o (rho e c) g h K
   |none=>False)else False)else False
def wQ(P:Program)(n:Nat)(ops:Array Oper)(h:za)(Z:Bool)(K:Env->Prop):List Oper->Env->Prop
 |[],e=>K e
 |o::rest,e=>match Yy ops e o.guard with
  |some c=>bif qk n c o.dst then opQ P o e c h Z λv=>wQ P n ops h Z K rest (putO e o.dst c v)else False
  |none=>False
def YQ(P:Program)(o:Oper)(a:Act)(B:World)(h:za)(Z:Bool)(v:Value):Prop:=
 (∀d,(execOp a.eval o).run P (mk B d h)=.ok (.value v) (mk B d h)) \/
 (Z=true/\∃f args,(∀d,(execOp a.eval o).run P (mk B d h)=.ok (.enter f args) (mk B d h))/\XC P f args h λv' h'=>v'=v/\h'=h)
theorem zn9{Z:Bool}{K:Value->Prop}(H:opQ P o e c h Z K)(hs:Sat n e a)(B:World):
  ∃v,K v/\(valid (zo a) c->YQ P o a B h Z v):=by
 unfold opQ at H
 split at H
 ·rename_i x y z ho
  obtain⟨v,h1,h2⟩:=Jz hs H
  refine⟨v,h1,λhv=>?_⟩
  obtain⟨t,h3,h4⟩:=h2 hv
  refine .inl λd=>?_
  simp only[execOp,ho,h3,asBool,Sem.run_bind,Sem.run_pure,Result.andThen_ok]
  rw[h4]
 ·cases hns:we o.op with
  |false=>rw[hns]at H;exact H.elim
  |true=>
   rw[hns]at H
   cases hk:known e c o.op.operands.toList with
   |false=>rw[hk]at H;exact H.elim
   |true=>
    rw[hk]at H
    simp only[cond_true]at H
    split at H
    ·rename_i g hg
     cases hc:zg0 o with
     |false=>
      rw[hc]at H
      obtain⟨v,h1,h2⟩:=zbh H
      refine⟨v,h1,λhv=>.inl λd=>?_⟩
      rw[Jx hs hv hns hk]
      exact h2 (Qw hs hg hv) B d
     |true=>
      rw[hc]at H
      cases Z with
      |false=>exact H.elim
      |true=>
       simp only[cond_true]at H
       obtain⟨v,h1,h2⟩:=zrp H
       refine⟨v,h1,λhv=>?_⟩
       obtain⟨f,args,h3,h4⟩:=h2 (Qw hs hg hv)
       refine .inr ⟨rfl,f,args,λd=>?_,h4⟩
       rw[Jx hs hv hns hk]
       exact h3 _
    ·exact H.elim
theorem ztu{P:Program}{n:Nat}{ops:Array Oper}{h:za}{ae:Bool}{K:Env->Prop}{Q:Act->Prop}(B:World):
  ∀(l:List Oper) (e:Env) (a:Act),wQ P n ops h ae K l e->Sat n e a->(∀e' a',Sat n e' a'->Same (y8 l) a a'->K e'->Q a')->wpQuiet P ops (λw=>∃d,w=mk B d h) Q l a
 |[],e,a,H,hs,hQ=>hQ _ _ hs (Same.refl _ _) H
 |o::rest,e,a,H,hs,hQ=>by
  unfold wQ at H
  split at H
  ·rename_i c hc
   cases hd:qk n c o.dst with
   |false=>rw[hd]at H;exact H.elim
   |true=>
    rw[hd]at H
    simp only[cond_true]at H
    have hw:=Zu hs hc
    have af:∀i,o.dst=some i->i∈y8 (o::rest):=λi hi=>by simp[y8,hi]
    have aa:∀x∈y8 rest,x∈y8 (o::rest):=λx hx=>by
     unfold y8
     split
     ·exact Ae _ hx
     ·exact hx
    obtain⟨v,hK,hy⟩:=zn9 H hs B
    have Z:∀u,(valid (zo a) c->u=v)->(¬valid (zo a) c->u=undef)->wpQuiet P ops (λw=>∃d,w=mk B d h) Q rest (a.put o.dst u):=λu h1 h2=>
     ztu B rest _ _ hK (hs.putO hd h1 h2) λe' a' q1 q2 q3=>hQ e' a' q1 ((Same.put a o.dst u af).trans (q2.mono aa)) q3
    unfold wpQuiet
    by_cases hv:valid (zo a) c
    ·rw[if_pos (hw.2 hv)]
     refine⟨v,?_,Z v (λ_=>rfl) (λab=>absurd hv ab)⟩
     rintro w ⟨d,rfl⟩
     unfold Oper.quietAt
     rcases hy hv with h1|⟨_,f,args,h1,h2⟩
     ·rw[h1 d];exact⟨rfl,rfl⟩
     ·rw[h1 d]
      refine⟨rfl,(h2 B d).mono ?_⟩
      rintro e' w'' ⟨v',d',h',rfl,rfl,rfl,rfl⟩
      exact⟨rfl,d',rfl⟩
    ·rw[if_neg (λhx=>hv (hw.1 hx))]
     exact Z undef (λab=>absurd ab hv) (λ_=>rfl)
  ·exact H.elim
def z9s(P:Program)(o:Oper)(ρ:Operand->Value)(g:Option Bool)(h:za)(K:Value->Prop):Prop:=
 match o.op with
 |.call c=>match c.callee with
  |.value x=>bif Jy x then(match Qj P (execOp ρ o)with
    |some (.enter f args)=>match qcp P o.type with
     |some rt=>z4a rt λv=>req g (∀h1,Keep h.size h h1->XC P f args h1 λv' h'=>v'=v/\Keep h1.size h1 h')/\K v
     |none=>False
    |_=>False)else False
  |_=>False
 |_=>False
theorem zrq{K:Value->Prop}(H:z9s P o ρ g h K):
  ∃v,K v/\(gok g->∃f args,(∀w,(execOp ρ o).run P w=.ok (.enter f args) w)/\∀h1,Keep h.size h h1->XC P f args h1 λv' h'=>v'=v/\Keep h1.size h1 h'):=by
 unfold z9s at H
 split at H
 ·split at H
  ·rename_i x _
   cases hx:Jy x with
   |false=>rw[hx]at H;exact H.elim
   |true=>
    rw[hx]at H
    simp only[cond_true]at H
    split at H
    ·rename_i f args hv
     split at H
     ·obtain⟨v,h1,h2⟩:=zgt H
      exact⟨v,h2,λhg=>⟨f,args,λw=>Xk hv w,h1.out hg⟩⟩
     ·exact H.elim
    ·exact H.elim
  ·exact H.elim
 ·exact H.elim
def opK(P:Program)(o:Oper)(e:Env)(c:zz)(h:za)(K:Value->Prop):Prop:=
 match o.op with
 |.pick x a b=>zyh e c x a b K
 |_=>bif we o.op then(bif known e c o.op.operands.toList then(match zbi e c with
   |some g=>bif zg0 o then z9s P o (rho e c) g h K else bif zfo o then Yh P o (rho e c) g h K else False
   |none=>False)else False)else False
def wK(P:Program)(n:Nat)(ops:Array Oper)(h:za)(K:Env->Prop):List Oper->Env->Prop
 |[],e=>K e
 |o::rest,e=>match Yy ops e o.guard with
  |some c=>bif qk n c o.dst then opK P o e c h λv=>wK P n ops h K rest (putO e o.dst c v)else False
  |none=>False
def YK(P:Program)(o:Oper)(a:Act)(B:World)(h:za)(v:Value):Prop:=
 (∀d h',Keep h.size h h'->(execOp a.eval o).run P (mk B d h')=.ok (.value v) (mk B d h')) \/
 (∃f args,(∀d h',(execOp a.eval o).run P (mk B d h')=.ok (.enter f args) (mk B d h'))/\∀h1,Keep h.size h h1->XC P f args h1 λv' h'=>v'=v/\Keep h1.size h1 h')
theorem zyi{K:Value->Prop}(H:opK P o e c h K)(hs:Sat n e a)(B:World):
  ∃v,K v/\(valid (zo a) c->YK P o a B h v):=by
 unfold opK at H
 split at H
 ·rename_i x y z ho
  obtain⟨v,h1,h2⟩:=Jz hs H
  refine⟨v,h1,λhv=>?_⟩
  obtain⟨t,h3,h4⟩:=h2 hv
  refine .inl λd h' _=>?_
  simp only[execOp,ho,h3,asBool,Sem.run_bind,Sem.run_pure,Result.andThen_ok]
  rw[h4]
 ·cases hns:we o.op with
  |false=>rw[hns]at H;exact H.elim
  |true=>
   rw[hns]at H
   cases hk:known e c o.op.operands.toList with
   |false=>rw[hk]at H;exact H.elim
   |true=>
    rw[hk]at H
    simp only[cond_true]at H
    split at H
    ·rename_i g hg
     cases hc:zg0 o with
     |false=>
      rw[hc]at H
      cases hf:zfo o with
      |false=>rw[hf]at H;exact H.elim
      |true=>
       rw[hf]at H
       obtain⟨v,h1,h2⟩:=zak hf H
       refine⟨v,h1,λhv=>.inl λd h' Z=>?_⟩
       rw[Jx hs hv hns hk]
       exact h2 (Qw hs hg hv) h' Z B d
     |true=>
      rw[hc]at H
      obtain⟨v,h1,h2⟩:=zrq H
      refine⟨v,h1,λhv=>?_⟩
      obtain⟨f,args,h3,h4⟩:=h2 (Qw hs hg hv)
      refine .inr ⟨f,args,λd h'=>?_,h4⟩
      rw[Jx hs hv hns hk]
      exact h3 _
    ·exact H.elim
theorem ztv{P:Program}{n:Nat}{ops:Array Oper}{h:za}{K:Env->Prop}{Q:Act->Prop}(B:World):
  ∀(l:List Oper) (e:Env) (a:Act),wK P n ops h K l e->Sat n e a->(∀e' a',Sat n e' a'->Same (y8 l) a a'->K e'->Q a')->wpQuiet P ops (λw=>∃d h',Keep h.size h h'/\w=mk B d h') Q l a
 |[],e,a,H,hs,hQ=>hQ _ _ hs (Same.refl _ _) H
 |o::rest,e,a,H,hs,hQ=>by
  unfold wK at H
  split at H
  ·rename_i c hc
   cases hd:qk n c o.dst with
   |false=>rw[hd]at H;exact H.elim
   |true=>
    rw[hd]at H
    simp only[cond_true]at H
    have hw:=Zu hs hc
    have af:∀i,o.dst=some i->i∈y8 (o::rest):=λi hi=>by simp[y8,hi]
    have ab:∀x∈y8 rest,x∈y8 (o::rest):=λx hx=>by
     unfold y8
     split
     ·exact Ae _ hx
     ·exact hx
    obtain⟨v,hK,hy⟩:=zyi H hs B
    have aa:∀u,(valid (zo a) c->u=v)->(¬valid (zo a) c->u=undef)->wpQuiet P ops (λw=>∃d h',Keep h.size h h'/\w=mk B d h') Q rest (a.put o.dst u):=λu h1 h2=>
     ztv B rest _ _ hK (hs.putO hd h1 h2) λe' a' q1 q2 q3=>hQ e' a' q1 ((Same.put a o.dst u af).trans (q2.mono ab)) q3
    unfold wpQuiet
    by_cases hv:valid (zo a) c
    ·rw[if_pos (hw.2 hv)]
     refine⟨v,?_,aa v (λ_=>rfl) (λae=>absurd hv ae)⟩
     rintro w ⟨d,h0,Z,rfl⟩
     unfold Oper.quietAt
     rcases hy hv with h1|⟨f,args,h1,h2⟩
     ·rw[h1 d h0 Z];exact⟨rfl,rfl⟩
     ·rw[h1 d h0]
      refine⟨rfl,(h2 h0 Z B d).mono ?_⟩
      rintro e' w'' ⟨v',d',h',rfl,rfl,rfl,ah⟩
      exact⟨rfl,d',h',Z.trans ah Z.size,rfl⟩
    ·rw[if_neg (λhx=>hv (hw.1 hx))]
     exact aa undef (λae=>absurd ae hv) (λ_=>rfl)
  ·exact H.elim
theorem ztw{P:Program}{n:Nat}{ops:Array Oper}{h:za}{K:Env->Prop}{Q:Act->Prop}(B:World)(d:Nat):
  ∀(l:List Oper) (e:Env) (a:Act),wQ P n ops h false K l e->Sat n e a->(∀e' a',Sat n e' a'->Same (y8 l) a a'->K e'->Q a')->wpStill P ops (mk B d h) Q l a
 |[],e,a,H,hs,hQ=>hQ _ _ hs (Same.refl _ _) H
 |o::rest,e,a,H,hs,hQ=>by
  unfold wQ at H
  split at H
  ·rename_i c hc
   cases hd:qk n c o.dst with
   |false=>rw[hd]at H;exact H.elim
   |true=>
    rw[hd]at H
    simp only[cond_true]at H
    have hw:=Zu hs hc
    have ae:∀i,o.dst=some i->i∈y8 (o::rest):=λi hi=>by simp[y8,hi]
    have aa:∀x∈y8 rest,x∈y8 (o::rest):=λx hx=>by
     unfold y8
     split
     ·exact Ae _ hx
     ·exact hx
    obtain⟨v,hK,hy⟩:=zn9 H hs B
    have Z:∀u,(valid (zo a) c->u=v)->(¬valid (zo a) c->u=undef)->wpStill P ops (mk B d h) Q rest (a.put o.dst u):=λu h1 h2=>
     ztw B d rest _ _ hK (hs.putO hd h1 h2) λe' a' q1 q2 q3=>hQ e' a' q1 ((Same.put a o.dst u ae).trans (q2.mono aa)) q3
    unfold wpStill
    by_cases hv:valid (zo a) c
    ·rw[if_pos (hw.2 hv)]
     unfold Oper.still
     rcases hy hv with h1|⟨h0,_⟩
     ·rw[h1 d,Oper.stillUpon_value];exact Z v (λ_=>rfl) (λab=>absurd hv ab)
     ·cases h0
    ·rw[if_neg (λhx=>hv (hw.1 hx))]
     exact Z undef (λab=>absurd ab hv) (λ_=>rfl)
  ·exact H.elim
end
section
variable {i n:Nat} {a b a0:Act} {o:Oper} {h h' h0:za} {P:Program} {ρ:Operand -> Value} {ops:Array Oper} {listed:Array Bool} {tr md:Bool} {e:Env}
def memN:List Nat->Nat->Bool
 |[],_=>false
 |j::l,i=>bif Nat.beq i j then true else memN l i
theorem Zi{l:List Nat}(h:memN l i=false):i∉l:=by
 induction l with
 |nil=>simp
 |cons j l ih=>
  simp only[memN]at h
  by_cases hb:Nat.beq i j=true
  ·simp[hb]at h
  ·simp only[hb,cond_false]at h
   simp only[Af,not_or]
   exact⟨λe=>hb (by rw[e];simp),ih h⟩
def tmpsOf:List Operand->List Nat
 |[]=>[]
 |.tmp t::l=>t::tmpsOf l
 |_::l=>tmpsOf l
def Zj(ops:Array Oper)(o:Oper):List Nat:=(match o.guard with
 |some (j,_)=>match yn ops j with
  |some g=>[g]
  |none=>[]
 |none=>[])++tmpsOf o.op.operands.toList
def ww(ops:Array Oper)(k:Nat)(S:List Nat):Nat->Bool
 |0=>true
 |p+1=>bif (match yn ops p with
  |some t=>bif memN S t then Region.waitsFor .any ops k p else true
  |none=>true)then ww ops k S p else false
theorem yc{ops:Array Oper}{k:Nat}{S:List Nat}:∀{m:Nat},ww ops k S m=true->∀p t,p<m->yn ops p=some t->t∈S->Region.waitsFor .any ops k p=true
 |0,_,p,t,hp,_,_=>by omega
 |m+1,h,p,t,hp,hd,ht=>by
  simp only[ww]at h
  cases hb:(match yn ops m with
   |some t=>bif memN S t then Region.waitsFor .any ops k m else true
   |none=>true)with
  |false=>rw[hb]at h;cases h
  |true=>
   rw[hb]at h
   rcases A1 p m with h1|h1
   ·exact yc h p t h1 hd ht
   ·have:p=m:=by omega
    subst this
    rw[hd]at hb
    simp only at hb
    cases hm:memN S t with
    |false=>exact absurd ht (Zi hm)
    |true=>rw[hm]at hb;exact hb
def qg(ops:Array Oper):Nat->Bool
 |0=>true
 |j+1=>bif (match ops[j]? with
  |some o=>o.after.toList.all λe=>!(Region.binds .any e)||Nat.blt e.on j
  |none=>true)then qg ops j else false
theorem qc{ops:Array Oper}:∀{n:Nat},qg ops n=true->∀j o,j<n->ops[j]?=some o->∀e∈o.after,Region.binds .any e=true->e.on<j
 |0,_,j,_,hj,_,_,_,_=>by omega
 |n+1,h,j,o,hj,ho,e,he,hb=>by
  simp only[qg]at h
  cases hc:(match ops[n]? with
   |some o=>o.after.toList.all λe=>!(Region.binds .any e)||Nat.blt e.on n
   |none=>true)with
  |false=>rw[hc]at h;cases h
  |true=>
   rw[hc]at h
   rcases A1 j n with h1|h1
   ·exact qc h j o h1 ho e he hb
   ·have:j=n:=by omega
    subst this
    rw[ho]at hc
    have:=AD.1 hc e (by simpa using he)
    rw[hb]at this
    simpa[Cu]using this
def zyj(ops:Array Oper)(d:Nat):Nat->Bool
 |0=>false
 |p+1=>bif (match yn ops p with
  |some t=>Nat.beq t d
  |none=>false)then true else zyj ops d p
def wj(ops:Array Oper):Nat->Bool
 |0=>true
 |p+1=>bif (match yn ops p with
  |some t=>!(zyj ops t p)
  |none=>true)then wj ops p else false
theorem zea{ops:Array Oper}{d:Nat}:∀{m:Nat},zyj ops d m=false->∀p,p<m->yn ops p≠some d
 |0,_,p,hp=>by omega
 |m+1,h,p,hp=>by
  simp only[zyj]at h
  cases hb:(match yn ops m with
   |some t=>Nat.beq t d
   |none=>false)with
  |true=>rw[hb]at h;cases h
  |false=>
   rw[hb]at h
   rcases A1 p m with h1|h1
   ·exact zea h p h1
   ·have:p=m:=by omega
    subst this
    intro e
    rw[e]at hb
    simp at hb
theorem qw{ops:Array Oper}:∀{m:Nat},wj ops m=true->∀p q t,p<m->q<m->yn ops p=some t->yn ops q=some t->p=q
 |0,_,p,q,t,hp,_,_,_=>by omega
 |m+1,h,p,q,t,hp,hq,e1,e2=>by
  simp only[wj]at h
  cases hb:(match yn ops m with
   |some t=>!(zyj ops t m)
   |none=>true)with
  |false=>rw[hb]at h;cases h
  |true=>
   rw[hb]at h
   rcases A1 p m with h1|h1 <;> rcases A1 q m with h2|h2
   ·exact qw h p q t h1 h2 e1 e2
   ·have:q=m:=by omega
    subst this
    rw[e2]at hb
    simp only[CY]at hb
    exact absurd e1 (zea hb p h1)
   ·have:p=m:=by omega
    subst this
    rw[e1]at hb
    simp only[CY]at hb
    exact absurd e2 (zea hb q h2)
   ·omega
def zg1(o:Oper):Option Bool:=match o.op with
 |.fieldAddr _ _ _=>some true
 |.indexAddr _ _ _=>some true
 |.move _=>some true
 |.assign _=>match o.after.toList with
  |[]=>some true
  |_=>none
 |.nilCheck _=>some true
 |.slice _ _ _ _ _=>some true
 |.binOp _ _ _ _ _=>some true
 |.load _ _=>some false
 |_=>none
def zf(o:Oper):Bool:=match zg1 o with
 |some _=>true
 |none=>false
def zn(o:Oper):Bool:=match zg1 o with
 |some b=>!b
 |none=>false
def zx:Nat->List Oper->List Nat
 |_,[]=>[]
 |k,o::l=>bif zf o then zx (k+1) l else k::zx (k+1) l
def zc0(ops:Array Oper):List Nat->Bool
 |[]=>true
 |[_]=>true
 |i::j::l=>bif Region.waitsFor .any ops j i then zc0 ops (j::l)else false
def Yz(ops:Array Oper)(i:Nat):List Nat->Bool
 |[]=>false
 |j::l=>bif Region.waitsFor .any ops j i then true else Yz ops i l
def zrr(ops:Array Oper)(T:List Nat):Nat->Bool
 |0=>false
 |k+1=>bif (match ops[k]? with
  |some o=>bif zn o then !(Yz ops k T)else false
  |none=>false)then true else zrr ops T k
def Zd(ops:Array Oper)(T:List Nat):Nat->Nat->Bool
 |0,k=>memN T k
 |f+1,k=>bif memN T k then true else(Cb ops.size).any λp=>bif Region.waitsFor .any ops p k then Zd ops T f p else false
def z4e(ops:Array Oper)(T:List Nat):Nat->Bool
 |0=>false
 |k+1=>bif (match ops[k]? with
  |some o=>bif zn o then !(Zd ops T ops.size k)else false
  |none=>false)then true else z4e ops T k
def zoa(tr:Bool)(ops:Array Oper)(T:List Nat)(m:Nat):Bool:=bif tr then z4e ops T m else zrr ops T m
def Qk(l:List Oper):Bool:=l.all λo=>match o.guard with
 |none=>we o.op
 |some _=>false
def zba(ops:Array Oper):Nat->Bool
 |0=>true
 |k+1=>bif (match ops[k]? with
  |some o=>bif ww ops k (tmpsOf o.op.operands.toList) ops.size then(bif zf o then(zx 0 ops.toList).all λj=>!(Region.waitsFor .any ops k j)||(match yn ops j with
   |some t=>!(memN (tmpsOf o.op.operands.toList) t)
   |none=>true)else true)else false
  |none=>true)then zba ops k else false
def z4f(ops:Array Oper):Bool:=bif Qk ops.toList then(bif qg ops ops.size then(bif wj ops ops.size then(bif zc0 ops (zx 0 ops.toList)then zba ops ops.size else false)else false)else false)else false
def wU(P:Program)(n:Nat)(h:za)(K:Env->Prop):List Oper->Env->Prop
 |[],e=>K e
 |o::l,e=>bif zf o then(bif qk n [] o.dst then(bif we o.op then(bif known e [] o.op.operands.toList then Yh P o (rho e []) none h λv=>wU P n h K l (putO e o.dst [] v)else False)else False)else False)else wU P n h K l e
def wT(P:Program)(n:Nat)(ops:Array Oper)(h0:za)(K:Env->za->Prop)(tr:Bool):List Nat->List Nat->Env->za->Prop
 |_,[],e,h=>K (clean e) h
 |T,j::l,e,h=>match ops[j]? with
  |some o=>bif qk n [] o.dst then opW P o e [] h λv h'=>(bif zoa tr ops (j::T) ops.size then Keep h0.size h0 h'/\wT P n ops h0 K tr (j::T) l (putO e o.dst [] v) h' else wT P n ops h0 K tr (j::T) l (putO e o.dst [] v) h')else False
  |none=>False
def jv:Nat->List Oper->(Nat->Value)->Act->Act
 |_,[],_,a=>a
 |k,o::l,f,a=>jv (k+1) l f (bif zf o then a.put o.dst (f k)else a)
theorem Zk{a b:Act}:∀{l:List Operand},(∀t∈tmpsOf l,zo a t=zo b t)->∀x∈l,a.eval x=b.eval x
 |[],_,x,hx=>by cases hx
 |y::l,h,x,hx=>by
  rcases Af.1 hx with rfl|hx
  ·cases x with
   |tmp t=>exact h t (by simp[tmpsOf])
   |const v=>rfl
   |global g=>rfl
   |func f=>rfl
  ·refine Zk (l:=l) (λt ht=>h t ?_) x hx
   cases y <;> simp[tmpsOf,ht]
theorem j8(hs:we o.op=true)(h:∀t∈tmpsOf o.op.operands.toList,zo a t=zo b t):execOp a.eval o=execOp b.eval o:=
 execOp_congr o (λcs b hb=>by rw[hb]at hs;cases hs) λx hx=>Zk h x (by simpa using hx)
theorem zrs{p:Addr}(e:h'[p.block]?=h[p.block]?)(i:Nat):zc h' (p.add i)=zc h (p.add i):=by
 have hb:(p.add i).block=p.block:=by unfold Ai;split <;> rfl
 unfold zc;rw[hb,e]
theorem zc1{h h':za}{p:Addr}(e:h'[p.block]?=h[p.block]?):∀{vs:List Value} {i:Nat},zd h p i vs->zd h' p i vs
 |[],_,_=>trivial
 |v::vs,i,⟨h1,h2⟩=>⟨(zrs e i).trans h1,zc1 e h2⟩
theorem zrt{t:TypeId}{x:Value}{K:Value->Prop}(H:zn4 P h t x none K):∃v p,x=.pointer (some p)/\K v/\∀h',h'[p.block]?=h[p.block]?->QExec P (DJ t x) h' v:=by
 unfold zn4 at H
 split at H
 ·rename_i q a hv
  obtain⟨x,h1,h2⟩:=H
  refine⟨_,q,rfl,h2,λh' e=>zgf hv ?_⟩
  have h1:zc h q=some _:=h1
  unfold zc at h1 ⊢
  rw[e];exact h1
 ·rename_i q l hv
  obtain⟨vs,h0,⟨h1,h2⟩,_⟩:=Y6 H (wh l)
  exact⟨_,q,rfl,h2,λh' e=>zgg hv h0 (zc1 e h1)⟩
 ·exact H.elim
def LdOK(o:Oper)(ρ:Operand->Value)(h h':za):Prop:=zn o=false\/Keep h.size h h'\/∀t a p,o.op=.load t a->ρ a=.pointer (some p)->h'[p.block]?=h[p.block]?
theorem LdOK.congr{ρ ρ':Operand->Value}(e:∀x∈o.op.operands.toList,ρ' x=ρ x)(H:LdOK o ρ h h'):LdOK o ρ' h h':=by
 rcases H with H|H|H
 ·exact .inl H
 ·exact .inr (.inl H)
 ·refine .inr (.inr λt a p ho hp=>H t a p ho ?_)
  rw[<-e a (by rw[ho];simp[Op.operands])];exact hp
theorem zj9(hq:zf o=true){K:Value->Prop}(H:Yh P o ρ none h K):
  ∃v,K v/\∀h',LdOK o ρ h h'->QExec P (execOp ρ o) h' (.value v):=by
 cases ho:o.op with
 |load t x=>
  have Z:zfo o=true:=by unfold zfo;rw[ho]
  obtain⟨v1,k1,k2⟩:=zak Z H
  unfold Yh at H;rw[ho]at H
  simp only at H
  obtain⟨v,p,hx,h1,h2⟩:=zrt H
  have hv:v1=v:=by
   have a1:=k2 trivial h (Keep.refl _ _) default 0
   have a2:QExec P (execOp ρ o) h (.value v):=by simp only[execOp,ho];exact(h2 h rfl).val
   have a2:=a2 default 0
   rw[a1]at a2
   injection a2 with a2 _
   injection a2
  subst hv
  refine⟨v1,k1,λh' hk=>?_⟩
  rcases hk with hk|hk|hk
  ·unfold zn zg1 at hk;rw[ho]at hk;cases hk
  ·exact k2 trivial h' hk
  ·have:=h2 h' (hk t x p ho hx)
   simp only[execOp,ho]
   exact this.val
 |fieldAddr t x i=>
  unfold Yh at H;rw[ho]at H
  obtain⟨v,h1,h2⟩:=zt H none
  exact⟨v,h1,λh' _=>h2 trivial h'⟩
 |indexAddr t x i=>
  unfold Yh at H;rw[ho]at H
  simp only at H
  cases he:za9 P t with
  |false=>rw[he]at H;exact H.elim
  |true=>
   rw[he]at H
   obtain⟨v,h1,h2⟩:=Zv (Zh he) H
   refine⟨v,h1,λh' _=>?_⟩
   simp only[execOp,ho]
   exact(h2 trivial h').val
 |move x=>
  unfold Yh at H;rw[ho]at H
  obtain⟨v,h1,h2⟩:=zt H none
  exact⟨v,h1,λh' _=>h2 trivial h'⟩
 |assign x=>
  unfold Yh at H;rw[ho]at H
  obtain⟨v,h1,h2⟩:=zt H none
  exact⟨v,h1,λh' _=>h2 trivial h'⟩
 |slice t x lo hi mx=>
  unfold Yh at H;rw[ho]at H
  simp only at H
  cases he:za9 P t with
  |false=>rw[he]at H;exact H.elim
  |true=>
   rw[he]at H
   obtain⟨v,h1,h2⟩:=Yn (Zh he) H
   refine⟨v,h1,λh' _=>?_⟩
   simp only[execOp,ho]
   exact(h2 (show gok none from trivial) h').val
 |binOp op t x y t'=>
  unfold Yh at H;rw[ho]at H
  obtain⟨v,h1,h2⟩:=zrm ho H
  exact⟨v,h1,λh' _=>h2 trivial h'⟩
 |nilCheck x=>
  unfold Yh at H;rw[ho]at H
  simp only at H
  unfold qfj at H
  split at H
  ·rename_i p hx
   obtain⟨a,h1,h2⟩:=H
   have hp:=h1.out (g:=none) trivial
   subst hp
   refine⟨_,h2,λh' _ B d=>?_⟩
   simp only[execOp,ho,hx]
   rfl
  ·obtain⟨v,h1,h2⟩:=zt H none
   exact⟨v,h1,λh' _=>h2 trivial h'⟩
 |_=>unfold zf zg1 at hq;rw[ho]at hq;cases hq
theorem jj(σ:Nat->Value):valid σ []:=by unfold valid;trivial
theorem zeb:∀{l:List Oper} {k:Nat} {f:Nat->Value} {a:Act},(jv k l f a).tmps.size=a.tmps.size/\(jv k l f a).defers=a.defers
 |[],_,_,_=>⟨rfl,rfl⟩
 |o::l,k,f,a=>by
  unfold jv
  have:=zeb (l:=l) (k:=k+1) (f:=f) (a:=bif zf o then a.put o.dst (f k)else a)
  rw[this.1,this.2]
  cases zf o with
  |true=>exact⟨size_put _ _ _,qm _ _ _⟩
  |false=>exact⟨rfl,rfl⟩
theorem zr{d:Option Nat}{u:Value}{s:Nat}(h:d≠some s):zo (a.put d u) s=zo a s:=by
 cases d with
 |none=>rfl
 |some t=>exact qf λe=>h (by rw[e])
theorem wy{s:Nat}:∀{l:List Oper} {k:Nat} {f:Nat->Value} {a:Act},(∀o∈l,zf o=true->o.dst≠some s)->zo (jv k l f a) s=zo a s
 |[],_,_,_,_=>rfl
 |o::l,k,f,a,h=>by
  unfold jv
  rw[wy λo' Z=>h o' (Ae _ Z)]
  cases hq:zf o with
  |true=>exact zr (h o Aj hq)
  |false=>rfl
theorem zgh{P:Program}{n:Nat}{h:za}{K:Env->Prop}:∀{l:List Oper} {k:Nat} {e:Env} {a:Act},wU P n h K l e->Sat n e a->∃(f:Nat->Value) (e':Env),K e'/\Sat n e' (jv k l f a) /\
  ∀i o,l[i]?=some o->zf o=true->we o.op=true/\qk n [] o.dst=true/\∀h',LdOK o (jv k (l.take i) f a).eval h h'->QExec P (execOp (jv k (l.take i) f a).eval o) h' (.value (f (k+i)))
 |[],k,e,a,H,hs=>⟨λ_=>undef,e,H,hs,λi o h=>by simp at h⟩
 |o::l,k,e,a,H,hs=>by
  unfold wU at H
  cases hq:zf o with
  |false=>
   rw[hq]at H
   obtain⟨f,e',h1,h2,h3⟩:=zgh (k:=k+1) H hs
   refine⟨f,e',h1,by unfold jv;rw[hq];exact h2,λi o' hi Z=>?_⟩
   cases i with
   |zero=>simp at hi;subst hi;rw[hq]at Z;cases Z
   |succ i=>
    have:=h3 i o' (by simpa using hi) Z
    rw[C3]
    unfold jv
    rw[hq,show k+(i+1)=k+1+i by omega];exact this
  |true=>
   rw[hq]at H
   simp only[cond_true]at H
   cases hd:qk n [] o.dst with
   |false=>rw[hd]at H;exact H.elim
   |true=>
    rw[hd]at H
    simp only[cond_true]at H
    cases hns:we o.op with
    |false=>rw[hns]at H;exact H.elim
    |true=>
     rw[hns]at H
     simp only[cond_true]at H
     cases hk:known e [] o.op.operands.toList with
     |false=>rw[hk]at H;exact H.elim
     |true=>
      rw[hk]at H
      simp only[cond_true]at H
      obtain⟨v,H1,H2⟩:=zj9 hq H
      obtain⟨f,e',h1,h2,h3⟩:=zgh (k:=k+1) (a:=a.put o.dst v) H1 (hs.putO hd (λ_=>rfl) λhv=>absurd (jj _) hv)
      have hf:∀(m:List Oper) (j:Nat) (b:Act),jv (k+1+j) m (λx=>if x=k then v else f x) b=jv (k+1+j) m f b:=by
       intro m
       induction m with
       |nil=>intro j b;rfl
       |cons o' m ih=>
        intro j b
        unfold jv
        dsimp only
        rw[if_neg (show¬k+1+j=k by omega),show k+1+j+1=k+1+(j+1)by omega,ih]
      refine⟨λx=>if x=k then v else f x,e',h1,?_,λi o' hi Z=>?_⟩
      ·unfold jv
       rw[hq,cond_true]
       dsimp only
       rw[if_pos rfl]
       have:=hf l 0 (a.put o.dst v)
       rw[CW]at this
       rw[this];exact h2
      ·cases i with
       |zero=>
        simp at hi;subst hi
        rw[List.take_zero,CW]
        dsimp only
        rw[if_pos rfl]
        refine⟨hns,hd,λh' hh=>?_⟩
        show QExec P (execOp a.eval o) h' _
        rw[Jx hs (jj _) hns hk]
        exact H2 h' (LdOK.congr (λx hx=>(Zg hs (jj _) hk x hx).symm) hh)
       |succ i=>
        have:=h3 i o' (by simpa using hi) Z
        rw[C3]
        unfold jv
        rw[hq,cond_true]
        dsimp only
        rw[if_pos rfl]
        have e2:=hf (l.take i) 0 (a.put o.dst v)
        rw[CW]at e2
        rw[e2,if_neg (show¬k+(i+1)=k by omega),show k+(i+1)=k+1+i by omega]
        exact this
theorem zec{next:Act->World->Prop}{Q:Exit->Act->World->Prop}{r:Result Next}(hb:b.defers=[])
  (H:o.upon P b (λc w=>c.defers=[]/\∀v,c=b.put o.dst v->next (a.put o.dst v) w) (λ_ _ _=>False) r):o.upon P a next Q r:=by
 have lo:¬LetsOut (λ(_:Exit) (_:Act) (_:World)=>False):=λh=>by
  obtain⟨_,_,h⟩:=h
  exact h
 cases r with
 |ok x w=>
  cases x with
  |value v=>exact H.2 v rfl
  |skip=>exact H.2 undef rfl
  |defer d=>
   have:=H.1
   rw[qm]at this;cases this
  |enter f args=>
   refine Calls.mono (show Calls P f args w _ from H) λe w' he=>?_
   cases e with
   |returned v=>exact he.2 v rfl
   |panicked c=>exact he.elim
   |outgrown=>exact absurd he lo
  |row row args=>exact Rows.mono (show Rows P row args w _ from H) λv w' he=>he.2 v rfl
  |_=>exact H
 |halt x w=>cases x <;> first|exact H.elim|exact H
theorem yf{j:Nat}:∀{l:List Oper} {k:Nat},j∈zx k l↔k<=j/\∃o,l[j-k]?=some o/\zf o=false
 |[],k=>by simp[zx]
 |o::l,k=>by
  unfold zx
  cases hq:zf o with
  |true=>
   rw[cond_true,yf (l:=l)]
   constructor
   ·rintro⟨h1,o',h2,h3⟩
    exact⟨by omega,o',by rw[show j-k=(j-(k+1))+1 by omega];simpa using h2,h3⟩
   ·rintro⟨h1,o',h2,h3⟩
    rcases Dn h1 with e|e
    ·subst e
     simp at h2;subst h2;rw[hq]at h3;cases h3
    ·exact⟨by omega,o',by rw[show j-k=(j-(k+1))+1 by omega]at h2;simpa using h2,h3⟩
  |false=>
   rw[cond_false,Af,yf (l:=l)]
   constructor
   ·rintro(rfl|⟨h1,o',h2,h3⟩)
    ·exact⟨Ac _,o,by simp,hq⟩
    ·exact⟨by omega,o',by rw[show j-k=(j-(k+1))+1 by omega];simpa using h2,h3⟩
   ·rintro⟨h1,o',h2,h3⟩
    rcases Dn h1 with e|e
    ·exact .inl e.symm
    ·exact .inr ⟨by omega,o',by rw[show j-k=(j-(k+1))+1 by omega]at h2;simpa using h2,h3⟩
theorem jc:∀{l:List Oper} {k:Nat},(zx k l).Nodup
 |[],_=>Di
 |o::l,k=>by
  unfold zx
  cases zf o with
  |true=>exact jc
  |false=>exact BE.2 ⟨λh=>by have:=(yf.1 h).1;omega,jc⟩
theorem jw{ops:Array Oper}:∀{m:Nat},zba ops m=true->∀k o,k<m->ops[k]?=some o->ww ops k (tmpsOf o.op.operands.toList) ops.size=true/\(zf o=true->∀j∈zx 0 ops.toList,Region.waitsFor .any ops k j=true->∀t,yn ops j=some t->t∉tmpsOf o.op.operands.toList)
 |0,_,k,o,hk,_=>by omega
 |m+1,h,k,o,hk,ho=>by
  unfold zba at h
  split at h
  ·rename_i o' Z
   cases hs:ww ops m (tmpsOf o'.op.operands.toList) ops.size with
   |false=>rw[hs]at h;cases h
   |true=>
    rw[hs,cond_true]at h
    rcases A1 k m with h1|h1
    ·refine jw (m:=m) ?_ k o h1 ho
     revert h
     cases(bif zf o' then(zx 0 ops.toList).all λj=>!(Region.waitsFor .any ops m j)||(match yn ops j with
      |some t=>!(memN (tmpsOf o'.op.operands.toList) t)
      |none=>true)else true) <;> intro h <;> first|exact h|cases h
    ·have:k=m:=by omega
     subst this
     have:o'=o:=Au (Z.symm.trans ho)
     subst this
     refine⟨hs,λhq j hj hw t ht=>?_⟩
     rw[hq,cond_true]at h
     cases hall:(zx 0 ops.toList).all λj=>!(Region.waitsFor .any ops k j)||(match yn ops j with
      |some t=>!(memN (tmpsOf o'.op.operands.toList) t)
      |none=>true)with
     |false=>rw[hall]at h;cases h
     |true=>
      have:=AD.1 hall j hj
      rw[hw,ht]at this
      simp only[Bool.not_true,Du,CY]at this
      exact Zi this
  ·rename_i Z
   rw[cond_true]at h
   rcases A1 k m with h1|h1
   ·exact jw h k o h1 ho
   ·have:k=m:=by omega
    subst this
    rw[Z]at ho;cases ho
theorem zg2{ops:Array Oper}:∀{l:List Nat},zc0 ops l=true->∀q i j,l[q]?=some i->l[q+1]?=some j->Region.waitsFor .any ops j i=true
 |[],_,q,i,j,h,_=>by simp at h
 |[_],_,q,i,j,_,h=>by simp at h
 |a::b::l,h,q,i,j,h1,h2=>by
  unfold zc0 at h
  cases hw:Region.waitsFor .any ops b a with
  |false=>rw[hw]at h;cases h
  |true=>
   rw[hw,cond_true]at h
   cases q with
   |zero=>simp at h1 h2;subst h1;subst h2;exact hw
   |succ q=>exact zg2 h q i j (by simpa using h1) (by simpa using h2)
theorem zfg{ops:Array Oper}{i:Nat}:∀{l:List Nat},Yz ops i l=true->∃j∈l,Region.waitsFor .any ops j i=true
 |[],h=>by cases h
 |j::l,h=>by
  unfold Yz at h
  cases hw:Region.waitsFor .any ops j i with
  |true=>exact⟨j,Aj,hw⟩
  |false=>
   rw[hw,cond_false]at h
   obtain⟨j',h1,h2⟩:=zfg h
   exact⟨j',Ae _ h1,h2⟩
theorem zka{ops:Array Oper}{T:List Nat}:∀{m:Nat},zrr ops T m=false->∀k o,k<m->ops[k]?=some o->zn o=true->Yz ops k T=true
 |0,_,k,o,hk,_,_=>by omega
 |m+1,h,k,o,hk,ho,hl=>by
  unfold zrr at h
  cases hb:(match ops[m]? with
   |some o=>bif zn o then !(Yz ops m T)else false
   |none=>false)with
  |true=>rw[hb]at h;cases h
  |false=>
   rw[hb,cond_false]at h
   rcases A1 k m with h1|h1
   ·exact zka h k o h1 ho hl
   ·have:k=m:=by omega
    subst this
    rw[ho]at hb
    simp only[hl,cond_true,Bool.not_eq_false']at hb
    exact hb
theorem Zl{ops:Array Oper}{T:List Nat}:∀{f k:Nat},Zd ops T f k=true->∀{listed:Array Bool},(∀i p,listed.getD i false=true->Region.waitsFor .any ops i p=true->listed.getD p false=true)->(∀j∈T,listed.getD j false=true)->listed.getD k false=true
 |0,k,h,_,_,hT=>by
  have hm:k∈T:=by
   unfold Zd at h
   exact CO λhc=>by
    have:memN T k=false:=by
     clear h hT
     induction T with
     |nil=>rfl
     |cons x T ih=>
      simp only[Af,not_or]at hc
      simp only[memN]
      have:Nat.beq k x=false:=by
       cases hb:Nat.beq k x with
       |false=>rfl
       |true=>exact absurd (Ah hb) hc.1
      rw[this,cond_false];exact ih hc.2
    rw[this]at h;cases h
  exact hT k hm
 |f+1,k,h,listed,hc,hT=>by
  unfold Zd at h
  cases hm:memN T k with
  |true=>exact Zl (f:=0) (k:=k) (by unfold Zd;exact hm) hc hT
  |false=>
   rw[hm,cond_false,DN]at h
   obtain⟨p,_,hp⟩:=h
   cases hw:Region.waitsFor .any ops p k with
   |false=>rw[hw]at hp;cases hp
   |true=>rw[hw,cond_true]at hp;exact hc p k (Zl hp hc hT) hw
theorem zed{ops:Array Oper}{T:List Nat}:∀{m:Nat},z4e ops T m=false->∀k o,k<m->ops[k]?=some o->zn o=true->Zd ops T ops.size k=true
 |0,_,k,o,hk,_,_=>by omega
 |m+1,h,k,o,hk,ho,hl=>by
  unfold z4e at h
  cases hb:(match ops[m]? with
   |some o=>bif zn o then !(Zd ops T ops.size m)else false
   |none=>false)with
  |true=>rw[hb]at h;cases h
  |false=>
   rw[hb,cond_false]at h
   rcases A1 k m with h1|h1
   ·exact zed h k o h1 ho hl
   ·have:k=m:=by omega
    subst this
    rw[ho]at hb
    simp only[hl,cond_true]at hb
    simpa using hb
theorem Zm{i p:Nat}(hi:i∈Region.ready .any ops listed)(hw:Region.waitsFor .any ops i p=true):listed.getD p false=true:=by
 obtain⟨oj,aa,e,he,hb,ab⟩:=Region.waitsFor_spec hw
 obtain⟨_,o,ho,Z⟩:=mem_ready.1 hi
 have:oj=o:=Au (aa.symm.trans ho)
 subst this
 rw[<-ab];exact Z e he hb
theorem yq(inv:HeadInv .any ops n listed){i p:Nat}(hi:listed.getD i false=true)(hw:Region.waitsFor .any ops i p=true):listed.getD p false=true:=by
 obtain⟨oj,Z,e,he,hb,aa⟩:=Region.waitsFor_spec hw
 rw[<-aa];exact inv.closed i oj Z hi e he hb
theorem zbj{p:Nat->Bool}{N:Nat}(h:∃k,k<N/\p k=false):∃k,k<N/\p k=false/\∀j,j<k->p j=true:=by
 obtain⟨k,h1,h2⟩:=h
 induction k using Dt with
 |_ k ih=>
  by_cases hm:∃j,j<k/\p j=false
  ·obtain⟨j,h3,h4⟩:=hm
   exact ih j h3 (by omega) h4
  ·exact⟨k,h1,h2,λj hj=>by
    cases hb:p j with
    |true=>rfl
    |false=>exact absurd ⟨j,hj,hb⟩ hm⟩
theorem zob(h:z4f ops=true):Qk ops.toList=true/\qg ops ops.size=true/\wj ops ops.size=true/\zc0 ops (zx 0 ops.toList)=true/\zba ops ops.size=true:=by
 unfold z4f at h
 cases h1:Qk ops.toList <;> cases h2:qg ops ops.size <;> cases h3:wj ops ops.size <;> cases h4:zc0 ops (zx 0 ops.toList) <;> simp[h1,h2,h3,h4]at h ⊢
 exact h
theorem zc2{l:List Oper}(h:Qk l=true):∀o∈l,o.guard=none/\we o.op=true:=by
 intro o ho
 have:=AD.1 h o ho
 cases hg:o.guard with
 |none=>rw[hg]at this;exact⟨rfl,this⟩
 |some g=>rw[hg]at this;cases this
theorem Xo:∀{l m:List Oper} {k:Nat} {f:Nat->Value} {a:Act},jv k (l++m) f a=jv (k+l.length) m f (jv k l f a)
 |[],m,k,f,a=>rfl
 |o::l,m,k,f,a=>by
  have e:∀l',jv k (o::l') f a=jv (k+1) l' f (bif zf o then a.put o.dst (f k)else a):=λ_=>rfl
  rw[AE,e,e,Xo,show k+1+l.length=k+(o::l).length by simp;omega]
theorem toL(ho:ops[i]?=some o):ops.toList[i]?=some o:=by rw[BP];exact ho
theorem ofL(ho:ops.toList[i]?=some o):ops[i]?=some o:=by rw[BP]at ho;exact ho
structure StM (P:Program) (n:Nat) (ops:Array Oper) (h0:za) (K:Env->za->Prop) (tr:Bool) (f:Nat->Value) (a0:Act) (listed:Array Bool) (a b:Act) (e:Env) (h:za) (done todo:List Nat):Prop where
 inv:HeadInv .any ops ops.size listed
 ag:∀s,(∀i o,ops[i]?=some o->zf o=true->listed.getD i false=false->o.dst≠some s)->zo a s=zo b s
 sz:a.tmps.size=n
 ad:a.defers=[]
 sb:Sat n e b
 qv:∀i o t,ops[i]?=some o->zf o=true->o.dst=some t->zo b t=f i/\t<n
 qx:∀i o,ops[i]?=some o->zf o=true->∀h',(zn o=false\/Keep h0.size h0 h')->QExec P (execOp b.eval o) h' (.value (f i))
 tt:zx 0 ops.toList=done.reverse++todo
 ch:∀j,j∈zx 0 ops.toList->(listed.getD j false=true↔j∈done)
 wt:wT P n ops h0 K tr done todo e h
 kp:∀i o,ops[i]?=some o->zn o=true->listed.getD i false=false->Keep h0.size h0 h
 sm:Same (y8 ops.toList) a0 a
theorem Yo{o:Oper}:∀{l:List Oper},o∈l->∀i,o.dst=some i->i∈y8 l
 |[],h,_,_=>by cases h
 |x::l,h,i,hi=>by
  unfold y8
  rcases Af.1 h with rfl|h
  ·rw[hi];exact Aj
  ·have:=Yo h i hi
   split
   ·exact Ae _ this
   ·exact this
theorem zl{k:Nat}(h:ops[k]?=some o):yn ops k=o.dst:=by simp[yn,h]
theorem z9t{K:Env->za->Prop}{Q:Exit->Act->World->Prop}(B:World)(a1:z4f ops=true){f:Nat->Value}
  (hQ:∀e' a' d' h',Sat n e' a'->Same (y8 ops.toList) a0 a'->K e' h'->Q .normal a' (mk B d' h')):
  ∀(N:Nat) (U:List Nat) (listed:Array Bool) (a b:Act) (e:Env) (h:za) (d:Nat) (done todo:List Nat),U.length=N->U.Nodup->(∀k,k∈U↔k<ops.size/\listed.getD k false=false) ->
   StM P n ops h0 K tr f a0 listed a b e h done todo->wpAny P .any ops Q N listed a (mk B d h):=by
 obtain⟨bB,aQ,bA,aA,ap⟩:=zob a1
 have bm:∀(i:Nat) (o:Oper),ops[i]?=some o->o.guard=none/\we o.op=true:=λi o ho=>zc2 bB o (by
  obtain⟨ab,e⟩:=Ad.1 ho
  rw[<-e];simp)
 have fin:∀{listed:Array Bool} {a b:Act} {e:Env} {h:za} {d:Nat} {done todo:List Nat},(∀k,k<ops.size->listed.getD k false=true)->StM P n ops h0 K tr f a0 listed a b e h done todo->Q .normal a (mk B d h):=by
  intro listed a b e h d done todo ae S
  have aj:todo=[]:=by
   cases todo with
   |nil=>rfl
   |cons j l=>
    have hj:j∈zx 0 ops.toList:=by rw[S.tt];simp
    have ab:j<ops.size:=by
     obtain⟨_,o,ho,_⟩:=yf.1 hj
     have:=(AF.1 ho).1
     simpa using this
    have hd:=(S.ch j hj).1 (ae j ab)
    have hn:=jc (l:=ops.toList) (k:=0)
    rw[S.tt,CG]at hn
    exact absurd rfl (hn.2.2 j (by simpa using hd) j (by simp))
  have hw:=S.wt
  rw[aj]at hw
  unfold wT at hw
  have hv:∀s,zo a s=zo b s:=λs=>S.ag s λi o ho hq hl=>by
   rw[ae i (Ad.1 ho).1]at hl;cases hl
  have hs:Sat n e a:=⟨S.ad,S.sz,λx hx=>by
   have:=S.sb.all x hx
   have e1:zo a=zo b:=funext hv
   rw[e1];exact this⟩
  exact hQ _ _ _ _ hs.clean S.sm hw
 intro N
 induction N with
 |zero=>
  intro U listed a b e h d done todo hU _ ah S
  have bC:U=[]:=A7.1 hU
  subst bC
  have ae:∀k,k<ops.size->listed.getD k false=true:=λk hk=>by
   cases hb:listed.getD k false with
   |true=>rfl
   |false=>exact absurd ((ah k).2 ⟨hk,hb⟩) (by simp)
  refine⟨?_,fin ae S⟩
  rw[List.eq_nil_iff_forall_not_mem]
  intro j hj
  obtain⟨h1,o,ho,_⟩:=mem_ready.1 hj
  have ab:=(Ad.1 ho).1
  have:=ae j ab
  have h2:=getD_both h1
  rw[this]at h2;cases h2
 |succ N ih=>
  intro U listed a b e h d done todo hU aH ah S
  have bI:∃k,k<ops.size/\listed.getD k false=false:=by
   cases U with
   |nil=>cases hU
   |cons k U=>exact⟨k,(ah k).1 Aj⟩
  refine⟨λhr=>?_,λi hi=>?_⟩
  ·exfalso
   obtain⟨k,aF,aV,bF⟩:=zbj bI
   have:k∈Region.ready .any ops listed:=mem_ready.2 ⟨by rw[<-aV];simp[S.inv.size,aF],ops[k],A0 aF,λx hx hb=>bF _ (qc aQ k ops[k] aF (A0 aF) x hx hb)⟩
   rw[hr]at this;cases this
  ·obtain⟨bh,o,ho,ae⟩:=mem_ready.1 hi
   have az:listed.getD i false=false:=getD_both bh
   have ab:i<ops.size:=(Ad.1 ho).1
   obtain⟨hg,br⟩:=bm i o ho
   have aI:i<listed.size:=by rw[S.inv.size];exact ab
   have bi:(U.erase i).length=N:=by rw[Dd ((ah i).2 ⟨ab,az⟩),hU];rfl
   have an:(U.erase i).Nodup:=aH.erase i
   have ar:∀k,k∈U.erase i↔k<ops.size/\(listed.setIfInBounds i true).getD k false=false:=λk=>by
    rw[aH.mem_erase_iff,ah k]
    by_cases hk:i=k
    ·subst hk;simp[aI]
    ·rw[getD_set_ne false hk];exact⟨λhx=>hx.2,λhx=>⟨λe=>hk e.symm,hx⟩⟩
   have am:=S.inv.set hi ab
   have ai:∀k,k≠i->(listed.setIfInBounds i true).getD k false=listed.getD k false:=λk hk=>getD_set_ne false (Ne.symm hk)
   have ak:(listed.setIfInBounds i true).getD i false=true:=by simp[aI]
   obtain⟨aC,bJ⟩:=jw ap i o ab ho
   have be:∀t∈tmpsOf o.op.operands.toList,zo a t=zo b t:=λt ht=>S.ag t λk ok Z hq hl hd=>by
    have hw:=yc aC k t (Ad.1 Z).1 (by rw[zl Z,hd]) ht
    rw[Zm hi hw]at hl;cases hl
   have aU:=j8 br be
   unfold wpOp
   rw[ho]
   simp only
   have aM:Bu o (yielded ops a.tmps)=true:=by unfold Bu;rw[hg]
   rw[if_pos aM]
   left
   unfold Oper.wp
   rw[aU]
   cases hq:zf o with
   |true=>
    have hx:=S.qx i o ho hq h (by
     cases hl:zn o with
     |false=>exact .inl rfl
     |true=>exact .inr (S.kp i o ho hl az)) B d
    rw[hx,Oper.upon_value]
    have a6:i∉zx 0 ops.toList:=λhm=>by
     obtain⟨_,o',ba,a7⟩:=yf.1 hm
     rw[Ee]at ba
     have:o'=o:=by
      have h2:ops[i]?=some o':=ofL ba
      exact Au (h2.symm.trans ho)
     subst this;rw[hq]at a7;cases a7
    refine ih _ _ _ b e h d done todo bi an ar { S with inv:=am,ag:=λs hs=>?_,sz:=by rw[size_put];exact S.sz,ad:=by rw[qm];exact S.ad,ch:=λj hj=>?_,kp:=λk ok Z hl hk=>?_,sm:=S.sm.trans (Same.put a o.dst _ λt ht=>Yo (by
     obtain⟨bo,e2⟩:=Ad.1 ho
     rw[<-e2];simp) t ht) }
    ·by_cases hd:o.dst=some s
     ·obtain⟨hv,au⟩:=S.qv i o s ho hq hd
      rw[hd,qt (by rw[S.sz];exact au),hv]
     ·rw[zr hd]
      refine S.ag s λk ok Z aa aO=>?_
      by_cases af:k=i
      ·subst af
       have:ok=o:=Au (Z.symm.trans ho)
       subst this;exact hd
      ·exact hs k ok Z aa (by rw[ai k af];exact aO)
    ·have:j≠i:=λe=>a6 (e ▸ hj)
     rw[ai j this];exact S.ch j hj
    ·by_cases af:k=i
     ·subst af;rw[ak]at hk;cases hk
     ·rw[ai k af]at hk;exact S.kp k ok Z hl hk
   |false=>
    have aT:i∈zx 0 ops.toList:=yf.2 ⟨Cv _,o,by rw[Ee];exact toL ho,hq⟩
    have aL:=jc (l:=ops.toList) (k:=0)
    have aB:i∉done:=λhd=>by rw[(S.ch i aT).2 hd]at az;cases az
    have aj:∃rest,todo=i::rest:=by
     have aZ:i∈todo:=by
      have:=aT
      rw[S.tt,Aw]at this
      rcases this with h1|h1
      ·exact absurd (by simpa using h1) aB
      ·exact h1
     cases todo with
     |nil=>cases aZ
     |cons j rest=>
      rcases Af.1 aZ with rfl|hr
      ·exact⟨rest,rfl⟩
      ·exfalso
       obtain⟨m,hm,em⟩:=Cj hr
       have hp:∃pr,(j::rest)[m]?=some pr:=⟨_,Aq (by simp;omega)⟩
       obtain⟨pr,bg⟩:=hp
       have hw:=zg2 aA (done.reverse.length+m) pr i (by rw[S.tt,Bi (by omega),CC];exact bg) (by
        rw[S.tt,Bi (by omega),show done.reverse.length+m+1-done.reverse.length=m+1 by omega,List.getElem?_cons_succ,Aq hm,em])
       have aJ:pr∈j::rest:=Bh bg
       have bj:pr∈zx 0 ops.toList:=by rw[S.tt];exact Ay _ aJ
       have hd:=(S.ch pr bj).1 (Zm hi hw)
       rw[S.tt,CG]at aL
       exact aL.2.2 pr (by simpa using hd) pr aJ rfl
    obtain⟨rest,rfl⟩:=aj
    have hW:=S.wt
    unfold wT at hW
    rw[ho]at hW
    simp only at hW
    cases hd:qk n [] o.dst with
    |false=>rw[hd]at hW;exact hW.elim
    |true=>
     rw[hd,cond_true]at hW
     refine zec (b:=b) S.sb.defers ?_
     refine zlu hW S.sb (jj _) B d λv d' h' hK=>⟨by rw[qm];exact S.sb.defers,λv2 bG=>?_⟩
     have bz:b.put o.dst v2=b.put o.dst v:=bG.symm
     have aE:∀j,j∈zx 0 ops.toList->((listed.setIfInBounds i true).getD j false=true↔j∈i::done):=λj hj=>by
      by_cases aY:j=i
      ·subst aY;rw[ak];simp
      ·rw[ai j aY,S.ch j hj];simp[aY]
     have aN:zoa tr ops (i::done) ops.size=false->∀k ok,ops[k]?=some ok->zn ok=true->(listed.setIfInBounds i true).getD k false=true:=λhl k ok Z ay=>by
      have bn:∀j∈i::done,(listed.setIfInBounds i true).getD j false=true:=λj hj=>by
       rcases Af.1 hj with rfl|hj
       ·exact ak
       ·exact getD_set_true ((S.ch j (by rw[S.tt];simp[hj])).2 hj)
      cases tr with
      |false=>
       obtain⟨j,hj,hw⟩:=zfg (zka hl k ok (Ad.1 Z).1 Z ay)
       exact yq am (bn j hj) hw
      |true=>exact Zl (zed hl k ok (Ad.1 Z).1 Z ay) (λi p h1 h2=>yq am h1 h2) bn
     have a8:wT P n ops h0 K tr (i::done) rest (putO e o.dst [] v) h'/\(∀k ok,ops[k]?=some ok->zn ok=true->(listed.setIfInBounds i true).getD k false=false->Keep h0.size h0 h'):=by
      cases hl:zoa tr ops (i::done) ops.size with
      |true=>rw[hl,cond_true]at hK;exact⟨hK.2,λ_ _ _ _ _=>hK.1⟩
      |false=>rw[hl,cond_false]at hK;exact⟨hK,λk ok Z ay hf=>by rw[aN hl k ok Z ay]at hf;cases hf⟩
     have aS:∀k ok t,ops[k]?=some ok->zf ok=true->ok.dst=some t->o.dst≠some t:=λk ok t Z aa ax aG=>by
      have:=qw bA k i t (Ad.1 Z).1 ab (by rw[zl Z,ax]) (by rw[zl ho,aG])
      subst this
      have:ok=o:=Au (Z.symm.trans ho)
      subst this;rw[hq]at aa;cases aa
     refine ih _ _ _ (b.put o.dst v) (putO e o.dst [] v) h' d' (i::done) rest bi an ar ⟨am,λs hs=>?_,by rw[size_put];exact S.sz,by rw[qm];exact S.ad,S.sb.putO hd (λ_=>rfl) λhv=>absurd (jj _) hv,λk ok t Z aa ax=>?_,λk ok Z aa bq hh=>?_,by rw[S.tt];simp,aE,a8.1,a8.2,S.sm.trans (Same.put a o.dst _ λt ht=>Yo (by
      obtain⟨bo,e2⟩:=Ad.1 ho
      rw[<-e2];simp) t ht)⟩
     ·have bE:∀u,(∀k ok,ops[k]?=some ok->zf ok=true->listed.getD k false=false->ok.dst≠some s)->o.dst≠some s->zo (a.put o.dst u) s=zo (b.put o.dst v) s:=λu h1 h2=>by
       rw[zr h2,zr h2];exact S.ag s h1
      have bD:∀k ok,ops[k]?=some ok->zf ok=true->listed.getD k false=false->ok.dst≠some s:=λk ok Z aa aO=>by
       by_cases af:k=i
       ·subst af
        have:ok=o:=Au (Z.symm.trans ho)
        subst this;rw[hq]at aa;cases aa
       ·exact hs k ok Z aa (by rw[ai k af];exact aO)
      by_cases aP:o.dst=some s
      ·rw[<-bz,aP]
       have au:s<n:=by
        rw[aP]at hd
        unfold qk at hd
        simp at hd;exact hd.2
       rw[qt (by rw[S.sz];exact au),qt (by rw[S.sb.size];exact au)]
      ·exact bE v2 bD aP
     ·have:=S.qv k ok t Z aa ax
      rw[zr (aS k ok t Z aa ax)];exact this
     ·have aV:=bm k ok Z
      rw[j8 (b:=b) aV.2 λt ht=>?_]
      ·exact S.qx k ok Z aa bq hh
      ·refine zr λaG=>?_
       obtain⟨bH,bu⟩:=jw ap k ok (Ad.1 Z).1 Z
       have hw:=yc bH i t ab (by rw[zl ho,aG]) ht
       exact bu aa i aT hw t (by rw[zl ho,aG]) ht
theorem zoc{K:Env->za->Prop}{Q:Exit->Act->World->Prop}(B:World)(ae:z4f ops=true)
  (H:wU P n h (λe'=>wT P n ops h K tr [] (zx 0 ops.toList) e' h) ops.toList e) (hs:Sat n e a)
  (hQ:∀e' a' d' h',Sat n e' a'->Same (y8 ops.toList) a a'->K e' h'->Q .normal a' (mk B d' h')) (d:Nat):wpAny P .any ops Q ops.size (Bn ops.size false) a (mk B d h):=by
 obtain⟨aE,ah,ar,ap,aj⟩:=zob ae
 obtain⟨f,e1,HT,am,hf⟩:=zgh (k:=0) H hs
 have hl:∀(i:Nat) (o:Oper),ops[i]?=some o->ops.toList[i]?=some o:=λi o ho=>toL ho
 have Z:∀i,jv 0 ops.toList f a=jv (0+(ops.toList.take i).length) (ops.toList.drop i) f (jv 0 (ops.toList.take i) f a):=λi=>by
  rw[<-Xo,BQ]
 refine z9t B ae (f:=f) hQ ops.size (Cb ops.size) _ a (jv 0 ops.toList f a) e1 h d [] (zx 0 ops.toList) List.length_range DO (λk=>by rw[Bw,getD_replicate_false];simp) ⟨⟨by simp,λj oj _ hl=>(by rw[getD_replicate_false]at hl;cases hl),λt ht aB=>by omega⟩,λs ay=>?_,hs.size,hs.defers,am,λi o t ho hq hd=>?_,λi o ho hq h' hh=>?_,by simp,λj hj=>by rw[getD_replicate_false];simp,HT,λ_ _ _ _ _=>Keep.refl _ _,Same.refl _ _⟩
 ·refine(wy λo ho hq=>?_).symm
  obtain⟨i,hi,e⟩:=Cj ho
  exact ay i o (ofL (by rw[Aq hi,e])) hq (getD_replicate_false _ _)
 ·obtain⟨h1,h2,h3⟩:=hf i o (hl i o ho) hq
  have ak:t<n:=by
   rw[hd]at h2
   unfold qk at h2
   simp at h2;exact h2.2
  refine⟨?_,ak⟩
  have ab:=(Ad.1 ho).1
  have an:(ops.toList.take i).length=i:=by simp;omega
  rw[Z i,an,AK]
  have ax:ops.toList.drop i=o::ops.toList.drop (i+1):=by
   have:=(AF.1 (hl i o ho))
   rw[Ba this.1,this.2]
  rw[ax]
  unfold jv
  rw[hq,cond_true,wy λo' ai az af=>?_]
  ·rw[hd,qt (by rw[zeb.1,hs.size];exact ak)]
  ·obtain⟨m,hm,em⟩:=Cj ai
   have aa:ops[i+1+m]?=some o':=by
    have:ops.toList[i+1+m]?=some o':=by rw[<-AQ,Aq hm,em]
    exact ofL this
   have:=qw ar i (i+1+m) t ab (Ad.1 aa).1 (by rw[zl ho,hd]) (by rw[zl aa,af])
   omega
 ·obtain⟨h1,h2,h3⟩:=hf i o (hl i o ho) hq
  have:=h3 h' (hh.imp id Or.inl)
  rw[AK]at this
  rw[j8 h1 λt ht=>?_]
  ·exact this
  ·have ab:=(Ad.1 ho).1
   rw[Z i]
   refine wy λo' ai az af=>?_
   obtain⟨m,hm,em⟩:=Cj ai
   have aa:ops[i+m]?=some o':=by
    have:ops.toList[i+m]?=some o':=by rw[<-AQ,Aq hm,em]
    exact ofL this
   obtain⟨aA,_⟩:=jw aj i o ab ho
   have hw:=yc aA (i+m) t (Ad.1 aa).1 (by rw[zl aa,af]) ht
   obtain⟨oj,au,x,hx,hb,aC⟩:=Region.waitsFor_spec hw
   have:=qc ah i oj ab au x hx hb
   omega
def zee(j:Nat):List Nat->List Nat
 |[]=>[]
 |k::l=>bif Nat.beq k j then zee j l else k::zee j l
theorem J0{j x:Nat}:∀{l:List Nat},x∈zee j l↔x∈l/\x≠j
 |[]=>by simp[zee]
 |k::l=>by
  simp only[zee]
  cases hb:Nat.beq k j with
  |true=>
   have:=Ah hb
   subst this
   rw[cond_true,J0,Af]
   exact⟨λh=>⟨.inr h.1,h.2⟩,λh=>⟨h.1.resolve_left h.2,h.2⟩⟩
  |false=>
   have Z:k≠j:=λe=>by rw[e]at hb;simp at hb
   rw[cond_false,Af,Af,J0]
   constructor
   ·rintro(rfl|h)
    ·exact⟨.inl rfl,Z⟩
    ·exact⟨.inr h.1,h.2⟩
   ·rintro⟨rfl|h,h2⟩
    ·exact .inl rfl
    ·exact .inr ⟨h,h2⟩
theorem zam{j:Nat}:∀{l:List Nat},l.Nodup->(zee j l).Nodup
 |[],h=>h
 |k::l,h=>by
  simp only[zee]
  rw[BE]at h
  cases Nat.beq k j with
  |true=>exact zam h.2
  |false=>
   rw[cond_false,BE]
   exact⟨λhm=>h.1 (J0.1 hm).1,zam h.2⟩
theorem zyk{j:Nat}:∀{l:List Nat},(zee j l).length<=l.length
 |[]=>Ac _
 |k::l=>by
  simp only[zee]
  have:=zyk (j:=j) (l:=l)
  cases Nat.beq k j with
  |true=>rw[cond_true,Ap];omega
  |false=>rw[cond_false,Ap,Ap];omega
theorem zlv{j:Nat}:∀{l:List Nat},j∈l->(zee j l).length+1<=l.length
 |[],h=>by cases h
 |k::l,h=>by
  simp only[zee]
  cases hb:Nat.beq k j with
  |true=>
   have:=zyk (j:=j) (l:=l)
   rw[cond_true,Ap];omega
  |false=>
   have Z:k≠j:=λe=>by rw[e]at hb;simp at hb
   have:=zlv (j:=j) (l:=l) (by
    rcases Af.1 h with rfl|h
    ·exact absurd rfl Z
    ·exact h)
   rw[cond_false,Ap,Ap];omega
def z4g(ops:Array Oper)(todo:List Nat)(j:Nat):Bool:=todo.all λk=>bif Nat.beq k j then true else !(Zd ops [j] ops.size k)
def qfk(p:Nat->Prop):List Nat->Prop
 |[]=>True
 |[j]=>p j
 |j::k::l=>p j/\qfk p (k::l)
theorem zlw{p:Nat->Prop}:∀{l:List Nat},qfk p l->∀j∈l,p j
 |[],_,j,h=>by cases h
 |[k],H,j,h=>by simp at h;subst h;exact H
 |k::k2::l,H,j,h=>by
  rcases Af.1 h with rfl|h
  ·exact H.1
  ·exact zlw H.2 j h
def zv9(p:Nat->Bool):List Nat->List Nat
 |[]=>[]
 |j::l=>bif p j then j::zv9 p l else zv9 p l
theorem zc3{p:Nat->Bool}{j:Nat}:∀{l:List Nat},j∈l->p j=true->j∈zv9 p l
 |[],h,_=>by cases h
 |k::l,h,hp=>by
  simp only[zv9]
  rcases Af.1 h with rfl|h
  ·rw[hp];exact Aj
  ·cases p k with
   |true=>exact Ae _ (zc3 h hp)
   |false=>exact zc3 h hp
def zod(ops:Array Oper)(T:List Nat)(e:Env)(h0 h':za)(K:Prop):Nat->Prop
 |0=>K
 |k+1=>match ops[k]? with
  |some o=>bif zn o then(bif Zd ops T ops.size k then zod ops T e h0 h' K k else match o.op with
   |.load _ a=>bif known e [] [a]then(match rho e [] a with
    |.pointer (some p)=>h'[p.block]?=h0[p.block]?/\zod ops T e h0 h' K k
    |_=>False)else False
   |_=>False)else zod ops T e h0 h' K k
  |none=>zod ops T e h0 h' K k
theorem zkb{ops:Array Oper}{T:List Nat}{e:Env}{h0 h':za}{K:Prop}:∀{m:Nat},zod ops T e h0 h' K m->K/\∀k o,k<m->ops[k]?=some o->zn o=true->Zd ops T ops.size k=false ->
  ∃t a p,o.op=.load t a/\known e [] [a]=true/\rho e [] a=.pointer (some p)/\h'[p.block]?=h0[p.block]?
 |0,H=>⟨H,λk o hk=>by omega⟩
 |m+1,H=>by
  unfold zod at H
  have step:zod ops T e h0 h' K m->(∀o,ops[m]?=some o->zn o=true->Zd ops T ops.size m=false->∃t a p,o.op=.load t a/\known e [] [a]=true/\rho e [] a=.pointer (some p)/\h'[p.block]?=h0[p.block]?) ->
    K/\∀k o,k<m+1->ops[k]?=some o->zn o=true->Zd ops T ops.size k=false->∃t a p,o.op=.load t a/\known e [] [a]=true/\rho e [] a=.pointer (some p)/\h'[p.block]?=h0[p.block]?:=λH1 H2=>by
   obtain⟨h1,h2⟩:=zkb H1
   refine⟨h1,λk o hk ho hl hr=>?_⟩
   rcases A1 k m with h3|h3
   ·exact h2 k o h3 ho hl hr
   ·have:k=m:=by omega
    subst this
    exact H2 o ho hl hr
  cases ho:ops[m]? with
  |none=>rw[ho]at H;exact step H λo h1=>by rw[ho]at h1;cases h1
  |some o=>
   rw[ho]at H
   simp only at H
   have same:∀o',ops[m]?=some o'->o'=o:=λo' h1=>Au (h1.symm.trans ho)
   cases hl:zn o with
   |false=>rw[hl]at H;exact step H λo' h1 h2=>by rw[same o' h1,hl]at h2;cases h2
   |true=>
    rw[hl,cond_true]at H
    cases hr:Zd ops T ops.size m with
    |true=>rw[hr]at H;exact step H λo' h1 h2 h3=>by rw[hr]at h3;cases h3
    |false=>
     rw[hr,cond_false]at H
     split at H
     ·rename_i t a Z
      cases hk:known e [] [a]with
      |false=>rw[hk]at H;exact H.elim
      |true=>
       rw[hk,cond_true]at H
       split at H
       ·rename_i p hp
        exact step H.2 λo' h1 h2 h3=>⟨t,a,p,by rw[same o' h1];exact Z,hk,hp,H.1⟩
       ·exact H.elim
     ·exact H.elim
def z4h(md:Bool)(ops:Array Oper)(T:List Nat)(e:Env)(h0 h':za)(K:Prop):Prop:=bif md then zod ops T e h0 h' K ops.size else Keep h0.size h0 h'/\K
def wB(P:Program)(n:Nat)(ops:Array Oper)(h0:za)(K:Env->za->Prop)(md:Bool):Nat->List Nat->List Nat->Env->za->Prop
 |_,_,[],e,h=>K (clean e) h
 |0,_,_::_,_,_=>False
 |f+1,T,j0::l0,e,h=>qfk (λj=>match ops[j]? with
  |some o=>bif qk n [] o.dst then opW P o e [] h λv h'=>(bif zoa true ops (j::T) ops.size then z4h md ops (j::T) e h0 h' (wB P n ops h0 K md f (j::T) (zee j (j0::l0)) (putO e o.dst [] v) h')else wB P n ops h0 K md f (j::T) (zee j (j0::l0)) (putO e o.dst [] v) h')else False
  |none=>False) (zv9 (z4g ops (j0::l0)) (j0::l0))
theorem zyl{K:Env->za->Prop}{f:Nat}{T todo:List Nat}(H:wB P n ops h0 K md (f+1) T todo e h){j:Nat}(hj:j∈todo)(hc:z4g ops todo j=true):match ops[j]? with
  |some o=>bif qk n [] o.dst then opW P o e [] h λv h'=>(bif zoa true ops (j::T) ops.size then z4h md ops (j::T) e h0 h' (wB P n ops h0 K md f (j::T) (zee j todo) (putO e o.dst [] v) h')else wB P n ops h0 K md f (j::T) (zee j todo) (putO e o.dst [] v) h')else False
  |none=>False:=by
 cases todo with
 |nil=>cases hj
 |cons j0 l0=>exact zlw H j (zc3 hj hc)
def zoe(ops:Array Oper):Bool:=bif Qk ops.toList then(bif qg ops ops.size then(bif wj ops ops.size then zba ops ops.size else false)else false)else false
theorem zkc(h:zoe ops=true):Qk ops.toList=true/\qg ops ops.size=true/\wj ops ops.size=true/\zba ops ops.size=true:=by
 unfold zoe at h
 cases h1:Qk ops.toList <;> cases h2:qg ops ops.size <;> cases h3:wj ops ops.size <;> simp[h1,h2,h3]at h ⊢
 exact h
structure StB (P:Program) (n:Nat) (ops:Array Oper) (h0:za) (K:Env->za->Prop) (md:Bool) (f:Nat->Value) (a0:Act) (listed:Array Bool) (a b:Act) (e:Env) (h:za) (done todo:List Nat):Prop where
 inv:HeadInv .any ops ops.size listed
 ag:∀s,(∀i o,ops[i]?=some o->zf o=true->listed.getD i false=false->o.dst≠some s)->zo a s=zo b s
 sz:a.tmps.size=n
 ad:a.defers=[]
 sb:Sat n e b
 qv:∀i o t,ops[i]?=some o->zf o=true->o.dst=some t->zo b t=f i/\t<n
 qx:∀i o,ops[i]?=some o->zf o=true->∀h',LdOK o b.eval h0 h'->QExec P (execOp b.eval o) h' (.value (f i))
 tt:∀j,j∈zx 0 ops.toList->(j∈todo↔listed.getD j false=false)
 ch:∀j,j∈zx 0 ops.toList->(listed.getD j false=true↔j∈done)
 dn:∀j∈done,j∈zx 0 ops.toList
 th:∀j∈todo,j∈zx 0 ops.toList
 nd:todo.Nodup
 wt:∃fu,todo.length<=fu/\wB P n ops h0 K md fu done todo e h
 kp:∀i o,ops[i]?=some o->zn o=true->listed.getD i false=false->LdOK o b.eval h0 h
 sm:Same (y8 ops.toList) a0 a
theorem z4i{K:Env->za->Prop}{Q:Exit->Act->World->Prop}(B:World)(a6:zoe ops=true){f:Nat->Value}
  (hQ:∀e' a' d' h',Sat n e' a'->Same (y8 ops.toList) a0 a'->K e' h'->Q .normal a' (mk B d' h')):
  ∀(N:Nat) (U:List Nat) (listed:Array Bool) (a b:Act) (e:Env) (h:za) (d:Nat) (done todo:List Nat),U.length=N->U.Nodup->(∀k,k∈U↔k<ops.size/\listed.getD k false=false) ->
   StB P n ops h0 K md f a0 listed a b e h done todo->wpAny P .any ops Q N listed a (mk B d h):=by
 obtain⟨bA,aS,bz,au⟩:=zkc a6
 have bj:∀(i:Nat) (o:Oper),ops[i]?=some o->o.guard=none/\we o.op=true:=λi o ho=>zc2 bA o (by
  obtain⟨af,e⟩:=Ad.1 ho
  rw[<-e];simp)
 have fin:∀{listed:Array Bool} {a b:Act} {e:Env} {h:za} {d:Nat} {done todo:List Nat},(∀k,k<ops.size->listed.getD k false=true)->StB P n ops h0 K md f a0 listed a b e h done todo->Q .normal a (mk B d h):=by
  intro listed a b e h d done todo aj S
  have aM:todo=[]:=by
   cases htd:todo with
   |nil=>rfl
   |cons j l=>
    have hm:j∈todo:=by rw[htd];simp
    have hj:j∈zx 0 ops.toList:=S.th j hm
    have af:j<ops.size:=by
     obtain⟨_,o,ho,_⟩:=yf.1 hj
     have:=(AF.1 ho).1
     simpa using this
    have:=(S.tt j hj).1 hm
    rw[aj j af]at this;cases this
  obtain⟨fu,_,hw⟩:=S.wt
  rw[aM]at hw
  have hw:K (clean e) h:=by cases fu <;> exact hw
  have hv:∀s,zo a s=zo b s:=λs=>S.ag s λi o ho hq hl=>by
   rw[aj i (Ad.1 ho).1]at hl;cases hl
  have hs:Sat n e a:=⟨S.ad,S.sz,λx hx=>by
   have:=S.sb.all x hx
   have e1:zo a=zo b:=funext hv
   rw[e1];exact this⟩
  exact hQ _ _ _ _ hs.clean S.sm hw
 intro N
 induction N with
 |zero=>
  intro U listed a b e h d done todo hU _ ai S
  have bB:U=[]:=A7.1 hU
  subst bB
  have aj:∀k,k<ops.size->listed.getD k false=true:=λk hk=>by
   cases hb:listed.getD k false with
   |true=>rfl
   |false=>exact absurd ((ai k).2 ⟨hk,hb⟩) (by simp)
  refine⟨?_,fin aj S⟩
  rw[List.eq_nil_iff_forall_not_mem]
  intro j hj
  obtain⟨h1,o,ho,_⟩:=mem_ready.1 hj
  have af:=(Ad.1 ho).1
  have:=aj j af
  have h2:=getD_both h1
  rw[this]at h2;cases h2
 |succ N ih=>
  intro U listed a b e h d done todo hU aI ai S
  have bH:∃k,k<ops.size/\listed.getD k false=false:=by
   cases U with
   |nil=>cases hU
   |cons k U=>exact⟨k,(ai k).1 Aj⟩
  refine⟨λhr=>?_,λi hi=>?_⟩
  ·exfalso
   obtain⟨k,aE,aZ,bE⟩:=zbj bH
   have:k∈Region.ready .any ops listed:=mem_ready.2 ⟨by rw[<-aZ];simp[S.inv.size,aE],ops[k],A0 aE,λx hx hb=>bE _ (qc aS k ops[k] aE (A0 aE) x hx hb)⟩
   rw[hr]at this;cases this
  ·obtain⟨bh,o,ho,aj⟩:=mem_ready.1 hi
   have aO:listed.getD i false=false:=getD_both bh
   have af:i<ops.size:=(Ad.1 ho).1
   obtain⟨hg,bo⟩:=bj i o ho
   have aJ:i<listed.size:=by rw[S.inv.size];exact af
   have bi:(U.erase i).length=N:=by rw[Dd ((ai i).2 ⟨af,aO⟩),hU];rfl
   have ar:(U.erase i).Nodup:=aI.erase i
   have ax:∀k,k∈U.erase i↔k<ops.size/\(listed.setIfInBounds i true).getD k false=false:=λk=>by
    rw[aI.mem_erase_iff,ai k]
    by_cases hk:i=k
    ·subst hk;simp[aJ]
    ·rw[getD_set_ne false hk];exact⟨λhx=>hx.2,λhx=>⟨λe=>hk e.symm,hx⟩⟩
   have am:=S.inv.set hi af
   have ae:∀k,k≠i->(listed.setIfInBounds i true).getD k false=listed.getD k false:=λk hk=>getD_set_ne false (Ne.symm hk)
   have ab:(listed.setIfInBounds i true).getD i false=true:=by simp[aJ]
   obtain⟨aB,bJ⟩:=jw au i o af ho
   have bg:∀t∈tmpsOf o.op.operands.toList,zo a t=zo b t:=λt ht=>S.ag t λk ok Z hq hl hd=>by
    have hw:=yc aB k t (Ad.1 Z).1 (by rw[zl Z,hd]) ht
    rw[Zm hi hw]at hl;cases hl
   have aY:=j8 bo bg
   unfold wpOp
   rw[ho]
   simp only
   have aL:Bu o (yielded ops a.tmps)=true:=by unfold Bu;rw[hg]
   rw[if_pos aL]
   left
   unfold Oper.wp
   rw[aY]
   cases hq:zf o with
   |true=>
    have hx:=S.qx i o ho hq h (by
     cases hl:zn o with
     |false=>exact .inl hl
     |true=>exact S.kp i o ho hl aO) B d
    rw[hx,Oper.upon_value]
    have aH:i∉zx 0 ops.toList:=λhm=>by
     obtain⟨_,o',ba,a7⟩:=yf.1 hm
     rw[Ee]at ba
     have:o'=o:=by
      have h2:ops[i]?=some o':=ofL ba
      exact Au (h2.symm.trans ho)
     subst this;rw[hq]at a7;cases a7
    refine ih _ _ _ b e h d done todo bi ar ax { S with inv:=am,ag:=λs hs=>?_,sz:=by rw[size_put];exact S.sz,ad:=by rw[qm];exact S.ad,tt:=λj hj=>(by have:j≠i:=λe=>aH (e ▸ hj);rw[ae j this];exact S.tt j hj),ch:=λj hj=>?_,kp:=λk ok Z hl hk=>?_,sm:=S.sm.trans (Same.put a o.dst _ λt ht=>Yo (by
     obtain⟨bm,e2⟩:=Ad.1 ho
     rw[<-e2];simp) t ht) }
    ·by_cases hd:o.dst=some s
     ·obtain⟨hv,ay⟩:=S.qv i o s ho hq hd
      rw[hd,qt (by rw[S.sz];exact ay),hv]
     ·rw[zr hd]
      refine S.ag s λk ok Z aa aP=>?_
      by_cases ah:k=i
      ·subst ah
       have:ok=o:=Au (Z.symm.trans ho)
       subst this;exact hd
      ·exact hs k ok Z aa (by rw[ae k ah];exact aP)
    ·have:j≠i:=λe=>aH (e ▸ hj)
     rw[ae j this];exact S.ch j hj
    ·by_cases ah:k=i
     ·subst ah;rw[ab]at hk;cases hk
     ·rw[ae k ah]at hk;exact S.kp k ok Z hl hk
   |false=>
    have aV:i∈zx 0 ops.toList:=yf.2 ⟨Cv _,o,by rw[Ee];exact toL ho,hq⟩
    have aA:i∈todo:=(S.tt i aV).2 aO
    obtain⟨fu,bL,bD⟩:=S.wt
    have aT:z4g ops todo i=true:=by
     unfold z4g
     rw[AD]
     intro k hk
     cases ah:Nat.beq k i with
     |true=>rfl
     |false=>
      have a1:k≠i:=λe=>by rw[e]at ah;simp at ah
      cases hr:Zd ops [i] ops.size k with
      |false=>rfl
      |true=>
       exfalso
       have:=Zl hr (listed:=listed.setIfInBounds i true) (λp q h1 h2=>yq am h1 h2) (λj hj=>by simp at hj;subst hj;exact ab)
       rw[ae k a1]at this
       have h2:=(S.tt k (S.th k hk)).1 hk
       rw[this]at h2;cases h2
    have hW:match ops[i]? with
      |some o=>bif qk n [] o.dst then opW P o e [] h λv h'=>(bif zoa true ops (i::done) ops.size then z4h md ops (i::done) e h0 h' (wB P n ops h0 K md (fu-1) (i::done) (zee i todo) (putO e o.dst [] v) h')else wB P n ops h0 K md (fu-1) (i::done) (zee i todo) (putO e o.dst [] v) h')else False
      |none=>False:=by
     cases fu with
     |zero=>(have:todo.length=0:=by omega);rw[A7.1 this]at aA;cases aA
     |succ fu=>
      have:=zyl (show wB P n ops h0 K md (fu+1) done todo e h from bD) aA aT
      exact this
    rw[ho]at hW
    simp only at hW
    cases hd:qk n [] o.dst with
    |false=>rw[hd]at hW;exact hW.elim
    |true=>
     rw[hd,cond_true]at hW
     refine zec (b:=b) S.sb.defers ?_
     refine zlu hW S.sb (jj _) B d λv d' h' hK=>⟨by rw[qm];exact S.sb.defers,λv2 bF=>?_⟩
     have bu:b.put o.dst v2=b.put o.dst v:=bF.symm
     have aC:∀j,j∈zx 0 ops.toList->((listed.setIfInBounds i true).getD j false=true↔j∈i::done):=λj hj=>by
      by_cases ap:j=i
      ·subst ap;rw[ab];simp
      ·rw[ae j ap,S.ch j hj];simp[ap]
     have aN:zoa true ops (i::done) ops.size=false->∀k ok,ops[k]?=some ok->zn ok=true->(listed.setIfInBounds i true).getD k false=true:=λhl k ok Z ak=>by
      have bI:∀j∈i::done,(listed.setIfInBounds i true).getD j false=true:=λj hj=>by
       rcases Af.1 hj with rfl|hj
       ·exact ab
       ·exact getD_set_true ((S.ch j (S.dn j hj)).2 hj)
      exact Zl (zed hl k ok (Ad.1 Z).1 Z ak) (λi p h1 h2=>yq am h1 h2) bI
     have an:∀k ok,ops[k]?=some ok->zf ok=true->∀t∈tmpsOf ok.op.operands.toList,zo (b.put o.dst v) t=zo b t:=λk ok Z aa t ht=>zr λaF=>by
      obtain⟨bG,bq⟩:=jw au k ok (Ad.1 Z).1 Z
      have hw:=yc bG i t af (by rw[zl ho,aF]) ht
      exact bq aa i aV hw t (by rw[zl ho,aF]) ht
     have aG:∀k,Zd ops (i::done) ops.size k=true->(listed.setIfInBounds i true).getD k false=true:=λk hr=>Zl hr (λi p h1 h2=>yq am h1 h2) λj hj=>by
      rcases Af.1 hj with rfl|hj
      ·exact ab
      ·exact getD_set_true ((S.ch j (S.dn j hj)).2 hj)
     have a8:wB P n ops h0 K md (fu-1) (i::done) (zee i todo) (putO e o.dst [] v) h'/\(∀k ok,ops[k]?=some ok->zn ok=true->(listed.setIfInBounds i true).getD k false=false->LdOK ok (b.put o.dst v).eval h0 h'):=by
      cases hl:zoa true ops (i::done) ops.size with
      |false=>rw[hl,cond_false]at hK;exact⟨hK,λk ok Z ak hf=>by rw[aN hl k ok Z ak]at hf;cases hf⟩
      |true=>
       rw[hl,cond_true]at hK
       unfold z4h at hK
       cases md with
       |false=>exact⟨hK.2,λ_ _ _ _ _=>.inr (.inl hK.1)⟩
       |true=>
        rw[cond_true]at hK
        obtain⟨g1,g2⟩:=zkb hK
        refine⟨g1,λk ok Z ak hf=>.inr (.inr λt a p be hp=>?_)⟩
        have hr:Zd ops (i::done) ops.size k=false:=by
         cases hr:Zd ops (i::done) ops.size k with
         |false=>rfl
         |true=>rw[aG k hr]at hf;cases hf
        obtain⟨t',a',p',e1,e2,e3,e4⟩:=g2 k ok (Ad.1 Z).1 Z ak hr
        rw[be]at e1
        injection e1 with _ e1
        subst e1
        have aa:zf ok=true:=by
         unfold zn at ak
         unfold zf
         split at ak
         ·rfl
         ·cases ak
        have ai:a∈ok.op.operands.toList:=by rw[be];simp[Op.operands]
        have ea:=Zk (an k ok Z aa) a ai
        have eb:b.eval a=rho e [] a:=Zg S.sb (jj _) e2 a (by simp)
        rw[ea,eb,e3]at hp
        injection hp with hp
        injection hp with hp
        rw[<-hp];exact e4
     have br:∀j,j∈zx 0 ops.toList->(j∈zee i todo↔(listed.setIfInBounds i true).getD j false=false):=λj hj=>by
      rw[J0]
      by_cases ap:j=i
      ·subst ap;rw[ab];simp
      ·rw[ae j ap,<-S.tt j hj];exact⟨λhx=>hx.1,λhx=>⟨hx,ap⟩⟩
     have aU:∀k ok t,ops[k]?=some ok->zf ok=true->ok.dst=some t->o.dst≠some t:=λk ok t Z aa az aF=>by
      have:=qw bz k i t (Ad.1 Z).1 af (by rw[zl Z,az]) (by rw[zl ho,aF])
      subst this
      have:ok=o:=Au (Z.symm.trans ho)
      subst this;rw[hq]at aa;cases aa
     refine ih _ _ _ (b.put o.dst v) (putO e o.dst [] v) h' d' (i::done) (zee i todo) bi ar ax ⟨am,λs hs=>?_,by rw[size_put];exact S.sz,by rw[qm];exact S.ad,S.sb.putO hd (λ_=>rfl) λhv=>absurd (jj _) hv,λk ok t Z aa az=>?_,λk ok Z aa bn hh=>?_,br,aC,(λj hj=>by
      rcases Af.1 hj with rfl|hj
      ·exact aV
      ·exact S.dn j hj),(λj hj=>S.th j (J0.1 hj).1),zam S.nd,⟨fu-1,by have:=zlv aA;omega,a8.1⟩,a8.2,S.sm.trans (Same.put a o.dst _ λt ht=>Yo (by
      obtain⟨bm,e2⟩:=Ad.1 ho
      rw[<-e2];simp) t ht)⟩
     ·have a1:∀u,(∀k ok,ops[k]?=some ok->zf ok=true->listed.getD k false=false->ok.dst≠some s)->o.dst≠some s->zo (a.put o.dst u) s=zo (b.put o.dst v) s:=λu h1 h2=>by
       rw[zr h2,zr h2];exact S.ag s h1
      have bC:∀k ok,ops[k]?=some ok->zf ok=true->listed.getD k false=false->ok.dst≠some s:=λk ok Z aa aP=>by
       by_cases ah:k=i
       ·subst ah
        have:ok=o:=Au (Z.symm.trans ho)
        subst this;rw[hq]at aa;cases aa
       ·exact hs k ok Z aa (by rw[ae k ah];exact aP)
      by_cases aQ:o.dst=some s
      ·rw[<-bu,aQ]
       have ay:s<n:=by
        rw[aQ]at hd
        unfold qk at hd
        simp at hd;exact hd.2
       rw[qt (by rw[S.sz];exact ay),qt (by rw[S.sb.size];exact ay)]
      ·exact a1 v2 bC aQ
     ·have:=S.qv k ok t Z aa az
      rw[zr (aU k ok t Z aa az)];exact this
     ·have aZ:=bj k ok Z
      rw[j8 (b:=b) aZ.2 (an k ok Z aa)]
      exact S.qx k ok Z aa bn (LdOK.congr (λx hx=>(Zk (an k ok Z aa) x hx).symm) hh)
theorem zkd{K:Env->za->Prop}{Q:Exit->Act->World->Prop}(B:World)(ae:zoe ops=true)
  (H:wU P n h (λe'=>wB P n ops h K md (zx 0 ops.toList).length [] (zx 0 ops.toList) e' h) ops.toList e) (hs:Sat n e a)
  (hQ:∀e' a' d' h',Sat n e' a'->Same (y8 ops.toList) a a'->K e' h'->Q .normal a' (mk B d' h')) (d:Nat):wpAny P .any ops Q ops.size (Bn ops.size false) a (mk B d h):=by
 obtain⟨aE,ah,ar,aj⟩:=zkc ae
 obtain⟨f,e1,HT,an,hf⟩:=zgh (k:=0) H hs
 have hl:∀(i:Nat) (o:Oper),ops[i]?=some o->ops.toList[i]?=some o:=λi o ho=>toL ho
 have Z:∀i,jv 0 ops.toList f a=jv (0+(ops.toList.take i).length) (ops.toList.drop i) f (jv 0 (ops.toList.take i) f a):=λi=>by
  rw[<-Xo,BQ]
 refine z4i B ae (f:=f) hQ ops.size (Cb ops.size) _ a (jv 0 ops.toList f a) e1 h d [] (zx 0 ops.toList) List.length_range DO (λk=>by rw[Bw,getD_replicate_false];simp) ⟨⟨by simp,λj oj _ hl=>(by rw[getD_replicate_false]at hl;cases hl),λt ht aB=>by omega⟩,λs ay=>?_,hs.size,hs.defers,an,λi o t ho hq hd=>?_,λi o ho hq h' hh=>?_,(λj hj=>by rw[getD_replicate_false];simp[hj]),(λj hj=>by rw[getD_replicate_false];simp),(λj hj=>by cases hj),(λj hj=>hj),jc,⟨_,Ac _,HT⟩,λ_ _ _ _ _=>.inr (.inl (Keep.refl _ _)),Same.refl _ _⟩
 ·refine(wy λo ho hq=>?_).symm
  obtain⟨i,hi,e⟩:=Cj ho
  exact ay i o (ofL (by rw[Aq hi,e])) hq (getD_replicate_false _ _)
 ·obtain⟨h1,h2,h3⟩:=hf i o (hl i o ho) hq
  have am:t<n:=by
   rw[hd]at h2
   unfold qk at h2
   simp at h2;exact h2.2
  refine⟨?_,am⟩
  have ab:=(Ad.1 ho).1
  have ap:(ops.toList.take i).length=i:=by simp;omega
  rw[Z i,ap,AK]
  have ax:ops.toList.drop i=o::ops.toList.drop (i+1):=by
   have:=(AF.1 (hl i o ho))
   rw[Ba this.1,this.2]
  rw[ax]
  unfold jv
  rw[hq,cond_true,wy λo' ai az af=>?_]
  ·rw[hd,qt (by rw[zeb.1,hs.size];exact am)]
  ·obtain⟨m,hm,em⟩:=Cj ai
   have aa:ops[i+1+m]?=some o':=by
    have:ops.toList[i+1+m]?=some o':=by rw[<-AQ,Aq hm,em]
    exact ofL this
   have:=qw ar i (i+1+m) t ab (Ad.1 aa).1 (by rw[zl ho,hd]) (by rw[zl aa,af])
   omega
 ·obtain⟨h1,h2,h3⟩:=hf i o (hl i o ho) hq
  have ak:∀t∈tmpsOf o.op.operands.toList,zo (jv 0 ops.toList f a) t=zo (jv 0 (ops.toList.take i) f a) t:=λt ht=>by
   have ab:=(Ad.1 ho).1
   rw[Z i]
   refine wy λo' ai az af=>?_
   obtain⟨m,hm,em⟩:=Cj ai
   have aa:ops[i+m]?=some o':=by
    have:ops.toList[i+m]?=some o':=by rw[<-AQ,Aq hm,em]
    exact ofL this
   obtain⟨aA,_⟩:=jw aj i o ab ho
   have hw:=yc aA (i+m) t (Ad.1 aa).1 (by rw[zl aa,af]) ht
   obtain⟨oj,au,x,hx,hb,aC⟩:=Region.waitsFor_spec hw
   have:=qc ah i oj ab au x hx hb
   omega
  have:=h3 h' (LdOK.congr (λx hx=>(Zk ak x hx).symm) hh)
  rw[AK]at this
  rw[j8 h1 ak]
  exact this
end
section
variable {l done:List Nat} {i m n:Nat} {ops:Array Oper} {P:Program} {o:Oper} {h h0:za} {md:Bool} {e:Env} {a b:Act}
def z7z(o:Oper):Bool:=match o.op with
 |.extract _ _=>true
 |_=>false
def zof(o:Oper):Bool:=bif zf o then true else z7z o
def upL(ops:Array Oper):Nat->List Nat->List Nat
 |0,S=>S
 |k+1,S=>upL ops k (bif S.any λp=>Region.waitsFor .any ops p k then k::S else S)
theorem zlx{ops:Array Oper}{listed:Array Bool}(hc:∀i p,listed.getD i false=true->Region.waitsFor .any ops i p=true->listed.getD p false=true):∀{m:Nat} {S:List Nat},(∀j∈S,listed.getD j false=true)->∀k∈upL ops m S,listed.getD k false=true
 |0,S,h,k,hk=>h k hk
 |m+1,S,h,k,hk=>by
  unfold upL at hk
  refine zlx hc (m:=m) (λj hj=>?_) k hk
  cases ha:(S.any λp=>Region.waitsFor .any ops p m)with
  |false=>rw[ha]at hj;exact h j hj
  |true=>
   rw[ha,cond_true]at hj
   rcases Af.1 hj with rfl|hj
   ·obtain⟨p,hp,hw⟩:=DN.1 ha
    exact hc p _ (h p hp) hw
   ·exact h j hj
theorem J3(h:memN l i=true):i∈l:=by
 induction l with
 |nil=>cases h
 |cons j l ih=>
  simp only[memN]at h
  cases hb:Nat.beq i j with
  |true=>rw[Ah hb];exact Aj
  |false=>rw[hb]at h;exact Ae _ (ih h)
theorem zg3(h:i∈l):memN l i=true:=by
 cases hm:memN l i with
 |true=>rfl
 |false=>exact absurd h (Zi hm)
def qf4(ops:Array Oper)(k:Nat):Bool:=match ops[k]? with
 |some o=>!(zof o)
 |none=>false
def qh5(ops:Array Oper)(i:Nat):Bool:=(upL ops ops.size [i]).any (qf4 ops)
def gdd(o:Oper):Bool:=match o.guard with
 |none=>false
 |some _=>true
def qc2(ops:Array Oper)(t:Nat):Nat->Bool
 |0=>false
 |k+1=>bif (match ops[k]? with
  |some o=>memN (tmpsOf o.op.operands.toList) t
  |none=>false)then true else qc2 ops t k
def qf5(ops:Array Oper)(i:Nat)(o:Oper):Bool:=match o.op with
 |.assign _=>(match o.dst with
  |some t=>qc2 ops t i
  |none=>false)
 |_=>false
def Y7(ops:Array Oper)(i:Nat):Bool:=match ops[i]? with
 |some o=>bif gdd o then true else bif zof o then(bif zn o then qh5 ops i else qf5 ops i o)else true
 |none=>true
def hvL(ops:Array Oper):List Nat:=(Cb ops.size).filter (Y7 ops)
theorem zg4{j:Nat}:j∈hvL ops↔j<ops.size/\Y7 ops j=true:=by
 unfold hvL;rw[D5,Bw]
theorem zym(ops:Array Oper):(hvL ops).Nodup:=DO.filter _
def okW(ops:Array Oper)(done S:List Nat)(k:Nat):Nat->Bool
 |0=>true
 |p+1=>bif Region.waitsFor .any ops k p then(bif (bif Y7 ops p then memN done p else memN S p)then okW ops done S k p else false)else okW ops done S k p
theorem zgi{ops:Array Oper}{done S:List Nat}{k:Nat}:∀{m:Nat},okW ops done S k m=true↔∀p,p<m->Region.waitsFor .any ops k p=true->(Y7 ops p=true->p∈done)/\(Y7 ops p=false->p∈S)
 |0=>⟨λ_ p hp=>by omega,λ_=>rfl⟩
 |m+1=>by
  unfold okW
  have ih:=zgi (ops:=ops) (done:=done) (S:=S) (k:=k) (m:=m)
  constructor
  ·intro h p hp hw
   rcases A1 p m with h1|h1
   ·refine ih.1 ?_ p h1 hw
    revert h
    cases Region.waitsFor .any ops k m with
    |false=>exact id
    |true=>
     cases(bif Y7 ops m then memN done m else memN S m)with
     |false=>intro h;cases h
     |true=>exact id
   ·have:p=m:=by omega
    subst this
    rw[hw,cond_true]at h
    cases hi:Y7 ops p with
    |true=>
     rw[hi,cond_true]at h
     cases hm:memN done p with
     |false=>rw[hm]at h;cases h
     |true=>exact⟨λ_=>J3 hm,(λhc=>by cases hc)⟩
    |false=>
     rw[hi,cond_false]at h
     cases hm:memN S p with
     |false=>rw[hm]at h;cases h
     |true=>exact⟨(λhc=>by cases hc),λ_=>J3 hm⟩
  ·intro h
   have h1:=ih.2 λp hp hw=>h p (by omega) hw
   cases hw:Region.waitsFor .any ops k m with
   |false=>exact h1
   |true=>
    obtain⟨a,b⟩:=h m (by omega) hw
    rw[cond_true]
    cases hi:Y7 ops m with
    |true=>rw[cond_true,zg3 (a hi)];exact h1
    |false=>rw[cond_false,zg3 (b hi)];exact h1
def qfl(ops:Array Oper)(done S:List Nat)(k:Nat):List Nat:=bif Y7 ops k then S else(bif okW ops done S k k then k::S else S)
def Y3(ops:Array Oper)(done:List Nat):Nat->List Nat
 |0=>[]
 |k+1=>qfl ops done (Y3 ops done k) k
theorem wz{ops:Array Oper}{done:List Nat}:∀{m i:Nat},i∈Y3 ops done m->i<m/\Y7 ops i=false/\okW ops done (Y3 ops done i) i i=true
 |0,i,h=>by cases h
 |m+1,i,h=>by
  unfold Y3 qfl at h
  cases hi:Y7 ops m with
  |true=>rw[hi,cond_true]at h;have:=wz h;exact⟨by omega,this.2⟩
  |false=>
   rw[hi,cond_false]at h
   cases ho:okW ops done (Y3 ops done m) m m with
   |false=>rw[ho,cond_false]at h;have:=wz h;exact⟨by omega,this.2⟩
   |true=>
    rw[ho,cond_true]at h
    rcases Af.1 h with rfl|h
    ·exact⟨by omega,hi,ho⟩
    ·have:=wz h;exact⟨by omega,this.2⟩
theorem zg5{ops:Array Oper}{done:List Nat}{m:Nat}:∀{m' i:Nat},m<=m'->i∈Y3 ops done m->i∈Y3 ops done m'
 |0,i,h,hi=>by(have:m=0:=by omega);subst this;exact hi
 |m'+1,i,h,hi=>by
  rcases Dn h with e|e
  ·rw[<-e];exact hi
  ·have:=zg5 (m':=m') (by omega) hi
   unfold Y3 qfl
   cases Y7 ops m' with
   |true=>exact this
   |false=>
    rw[cond_false]
    cases okW ops done (Y3 ops done m') m' m' with
    |true=>exact Ae _ this
    |false=>exact this
theorem zly(hm:i<m)(h1:Y7 ops i=false)(h2:okW ops done (Y3 ops done i) i i=true):i∈Y3 ops done m:=by
 refine zg5 (m:=i+1) hm ?_
 unfold Y3 qfl
 rw[h1,h2];exact Aj
theorem ztx{m i p:Nat}(h:i∈Y3 ops done m)(hp:p<i)(hw:Region.waitsFor .any ops i p=true):(Y7 ops p=true->p∈done)/\(Y7 ops p=false->p∈Y3 ops done m):=by
 obtain⟨h1,h2,h3⟩:=wz h
 obtain⟨a,b⟩:=zgi.1 h3 p hp hw
 exact⟨a,λhi=>zg5 (by omega) (b hi)⟩
def Yp(Z aa:List Nat)(n:Nat):List Nat:=(Cb n).filter λi=>bif memN aa i then !(memN Z i)else false
theorem zke{Z aa:List Nat}:i∈Yp Z aa n↔i<n/\i∈aa/\i∉Z:=by
 unfold Yp
 rw[D5,Bw]
 constructor
 ·rintro⟨h1,h2⟩
  cases hn:memN aa i with
  |false=>rw[hn]at h2;cases h2
  |true=>
   rw[hn,cond_true]at h2
   exact⟨h1,J3 hn,λhm=>by rw[zg3 hm]at h2;cases h2⟩
 ·rintro⟨h1,h2,h3⟩
  refine⟨h1,?_⟩
  rw[zg3 h2,cond_true]
  cases hw:memN Z i with
  |false=>rfl
  |true=>exact absurd (J3 hw) h3
theorem zc4(Z aa:List Nat)(n:Nat):(Yp Z aa n).Pairwise (· < ·):=List.pairwise_lt_range.filter _
def wI(P:Program)(n:Nat)(h:za)(ld:Bool)(ops:Array Oper)(K:Env->Prop):List Nat->Env->Prop
 |[],e=>K e
 |i::l,e=>match ops[i]? with
  |some o=>bif zof o then(bif (bif ld then true else !(zn o))then(bif qk n [] o.dst then(bif we o.op then(bif known e [] o.op.operands.toList then Yh P o (rho e []) none h λv=>wI P n h ld ops K l (putO e o.dst [] v)else False)else False)else False)else False)else False
  |none=>False
def jb(ops:Array Oper)(f:Nat->Value):List Nat->Act->Act
 |[],a=>a
 |i::l,a=>jb ops f l (a.put (yn ops i) (f i))
theorem zyn(hq:zof o=true){ρ:Operand->Value}{K:Value->Prop}(H:Yh P o ρ none h K):
  ∃v,K v/\∀h',LdOK o ρ h h'->QExec P (execOp ρ o) h' (.value v):=by
 unfold zof at hq
 cases hb:zf o with
 |true=>exact zj9 hb H
 |false=>
  rw[hb,cond_false]at hq
  unfold z7z at hq
  split at hq
  ·rename_i x i ho
   unfold Yh at H;rw[ho]at H
   obtain⟨v,h1,h2⟩:=zt H none
   exact⟨v,h1,λh' _=>h2 trivial h'⟩
  ·cases hq
theorem zkf{ops:Array Oper}{f:Nat->Value}:∀{l:List Nat} {a:Act},(jb ops f l a).tmps.size=a.tmps.size/\(jb ops f l a).defers=a.defers
 |[],_=>⟨rfl,rfl⟩
 |i::l,a=>by
  unfold jb
  have:=zkf (ops:=ops) (f:=f) (l:=l) (a:=a.put (yn ops i) (f i))
  rw[this.1,this.2]
  exact⟨size_put _ _ _,qm _ _ _⟩
theorem w7{ops:Array Oper}{f:Nat->Value}{s:Nat}:∀{l:List Nat} {a:Act},(∀i∈l,yn ops i≠some s)->zo (jb ops f l a) s=zo a s
 |[],_,_=>rfl
 |i::l,a,h=>by
  unfold jb
  rw[w7 λj hj=>h j (Ae _ hj)]
  exact zr (h i Aj)
theorem zbk{ops:Array Oper}{f:Nat->Value}:∀{l m:List Nat} {a:Act},jb ops f (l++m) a=jb ops f m (jb ops f l a)
 |[],_,_=>rfl
 |i::l,m,a=>by
  rw[AE]
  show jb ops f (l++m) _=jb ops f m (jb ops f l _)
  exact zbk
theorem zlz{P:Program}{n:Nat}{h:za}{ld:Bool}{ops:Array Oper}{K:Env->Prop}(f0:Nat->Value):∀{l:List Nat} {e:Env} {a:Act},l.Nodup->wI P n h ld ops K l e->Sat n e a->∃(f:Nat->Value) (e':Env),K e'/\Sat n e' (jb ops f l a)/\(∀i,i∉l->f i=f0 i) /\
  ∀l1 i l2,l=l1++i::l2->∃o,ops[i]?=some o/\zof o=true/\(ld=false->zn o=false)/\we o.op=true/\qk n [] o.dst=true/\∀h',LdOK o (jb ops f l1 a).eval h h'->QExec P (execOp (jb ops f l1 a).eval o) h' (.value (f i))
 |[],e,a,_,H,hs=>⟨f0,e,H,hs,λ_ _=>rfl,λl1 i l2 h=>by simp at h⟩
 |i::l,e,a,hnd,H,hs=>by
  unfold wI at H
  cases ho:ops[i]? with
  |none=>rw[ho]at H;exact H.elim
  |some o=>
   rw[ho]at H
   simp only at H
   cases hq:zof o with
   |false=>rw[hq]at H;exact H.elim
   |true=>
    rw[hq,cond_true]at H
    cases hld:(bif ld then true else !(zn o))with
    |false=>rw[hld]at H;exact H.elim
    |true=>
     rw[hld,cond_true]at H
     cases hd:qk n [] o.dst with
     |false=>rw[hd]at H;exact H.elim
     |true=>
      rw[hd,cond_true]at H
      cases hns:we o.op with
      |false=>rw[hns]at H;exact H.elim
      |true=>
       rw[hns,cond_true]at H
       cases hk:known e [] o.op.operands.toList with
       |false=>rw[hk]at H;exact H.elim
       |true=>
        rw[hk,cond_true]at H
        rw[BE]at hnd
        obtain⟨v,H1,H2⟩:=zyn hq H
        have Z:yn ops i=o.dst:=zl ho
        obtain⟨f,e',g1,g2,g3,g4⟩:=zlz (λx=>if x=i then v else f0 x) (a:=a.put o.dst v) hnd.2 H1 (hs.putO hd (λ_=>rfl) λhv=>absurd (jj _) hv)
        have ab:f i=v:=by rw[g3 i hnd.1,if_pos rfl]
        have ae:jb ops f (i::l) a=jb ops f l (a.put o.dst v):=by
         show jb ops f l (a.put (yn ops i) (f i))=_
         rw[Z,ab]
        refine⟨f,e',g1,by rw[ae];exact g2,λj hj=>?_,λl1 j l2 hl=>?_⟩
        ·simp only[Af,not_or]at hj
         rw[g3 j hj.2,if_neg hj.1]
        ·cases l1 with
         |nil=>
          simp only[A8,BM]at hl
          obtain⟨rfl,rfl⟩:=hl
          refine⟨o,ho,hq,λhl=>by rw[hl]at hld;simpa using hld,hns,hd,λh' hh=>?_⟩
          show QExec P (execOp a.eval o) h' _
          rw[Jx hs (jj _) hns hk,ab]
          exact H2 h' (LdOK.congr (λx hx=>(Zg hs (jj _) hk x hx).symm) hh)
         |cons i' l1=>
          simp only[AE,BM]at hl
          obtain⟨rfl,rfl⟩:=hl
          obtain⟨o',q1,q2,q3,q4,q5,q6⟩:=g4 l1 j l2 rfl
          have aa:jb ops f (i::l1) a=jb ops f l1 (a.put o.dst v):=by
           show jb ops f l1 (a.put (yn ops i) (f i))=_
           rw[Z,ab]
          refine⟨o',q1,q2,q3,q4,q5,λh' hh=>?_⟩
          rw[aa]at hh ⊢
          exact q6 h' hh
def zyo(ops:Array Oper)(U:List Nat):Nat->Bool
 |0=>false
 |k+1=>bif (match ops[k]? with
  |some o=>bif zn o then(bif Y7 ops k then false else !(memN U k))else false
  |none=>false)then true else zyo ops U k
theorem zkg{ops:Array Oper}{U:List Nat}:∀{m:Nat},zyo ops U m=false->∀k o,k<m->ops[k]?=some o->zn o=true->Y7 ops k=false->k∈U
 |0,_,k,o,hk,_,_,_=>by omega
 |m+1,h,k,o,hk,ho,hl,hi=>by
  unfold zyo at h
  cases hb:(match ops[m]? with
   |some o=>bif zn o then(bif Y7 ops m then false else !(memN U m))else false
   |none=>false)with
  |true=>rw[hb]at h;cases h
  |false=>
   rw[hb,cond_false]at h
   rcases A1 k m with h1|h1
   ·exact zkg h k o h1 ho hl hi
   ·have:k=m:=by omega
    subst this
    rw[ho]at hb
    simp only[hl,hi,cond_true,cond_false]at hb
    exact J3 (by simpa using hb)
def zg6(ops:Array Oper)(U:List Nat)(e:Env)(h0 h':za)(K:Prop):Nat->Prop
 |0=>K
 |k+1=>match ops[k]? with
  |some o=>bif (bif zn o then(bif Y7 ops k then false else !(memN U k))else false)then(match o.op with
   |.load _ a=>bif known e [] [a]then(match rho e [] a with
    |.pointer (some p)=>h'[p.block]?=h0[p.block]?/\zg6 ops U e h0 h' K k
    |_=>False)else False
   |_=>False)else zg6 ops U e h0 h' K k
  |none=>zg6 ops U e h0 h' K k
theorem zg7{ops:Array Oper}{U:List Nat}{e:Env}{h0 h':za}{K:Prop}:∀{m:Nat},zg6 ops U e h0 h' K m->K/\∀k o,k<m->ops[k]?=some o->zn o=true->Y7 ops k=false->k∉U ->
  ∃t a p,o.op=.load t a/\known e [] [a]=true/\rho e [] a=.pointer (some p)/\h'[p.block]?=h0[p.block]?
 |0,H=>⟨H,λk o hk=>by omega⟩
 |m+1,H=>by
  unfold zg6 at H
  have step:zg6 ops U e h0 h' K m->(∀o,ops[m]?=some o->zn o=true->Y7 ops m=false->m∉U->∃t a p,o.op=.load t a/\known e [] [a]=true/\rho e [] a=.pointer (some p)/\h'[p.block]?=h0[p.block]?) ->
    K/\∀k o,k<m+1->ops[k]?=some o->zn o=true->Y7 ops k=false->k∉U->∃t a p,o.op=.load t a/\known e [] [a]=true/\rho e [] a=.pointer (some p)/\h'[p.block]?=h0[p.block]?:=λH1 H2=>by
   obtain⟨h1,h2⟩:=zg7 H1
   refine⟨h1,λk o hk ho hl hi hr=>?_⟩
   rcases A1 k m with h3|h3
   ·exact h2 k o h3 ho hl hi hr
   ·have:k=m:=by omega
    subst this
    exact H2 o ho hl hi hr
  cases ho:ops[m]? with
  |none=>rw[ho]at H;exact step H λo h1=>by rw[ho]at h1;cases h1
  |some o=>
   rw[ho]at H
   simp only at H
   have same:∀o',ops[m]?=some o'->o'=o:=λo' h1=>Au (h1.symm.trans ho)
   cases hc:(bif zn o then(bif Y7 ops m then false else !(memN U m))else false)with
   |false=>
    rw[hc]at H
    refine step H λo' h1 h2 h3 h4=>?_
    rw[same o' h1]at h2
    rw[h2,h3,cond_true,cond_false]at hc
    exact absurd (J3 (by simpa using hc)) h4
   |true=>
    rw[hc,cond_true]at H
    split at H
    ·rename_i t a Z
     cases hk:known e [] [a]with
     |false=>rw[hk]at H;exact H.elim
     |true=>
      rw[hk,cond_true]at H
      split at H
      ·rename_i p hp
       exact step H.2 λo' h1 h2 h3 h4=>⟨t,a,p,by rw[same o' h1];exact Z,hk,hp,H.1⟩
      ·exact H.elim
    ·exact H.elim
def zog(md:Bool)(ops:Array Oper)(T:List Nat)(e:Env)(h0 h':za)(K:Prop):Prop:=bif zyo ops (upL ops ops.size T) ops.size then(bif md then zg6 ops (upL ops ops.size T) e h0 h' K ops.size else Keep h0.size h0 h'/\K)else K
def z4j(ops:Array Oper)(todo:List Nat)(j:Nat):Bool:=todo.all λk=>bif Nat.beq k j then true else !(memN (upL ops ops.size [j]) k)
def wB7(P:Program)(n:Nat)(ops:Array Oper)(h0:za)(K:Env->za->Prop)(md:Bool):Nat->List Nat->List Nat->Env->za->Prop
 |_,_,[],e,h=>K (clean e) h
 |0,_,_::_,_,_=>False
 |f+1,T,j0::l0,e,h=>qfk (λj=>match ops[j]? with
  |some o=>(match Yy ops e o.guard with|some c=>bif qk n c o.dst then opW P o e c h λv h'=>wI P n h' false ops (λe'=>zog md ops (j::T) e' h0 h' (wB7 P n ops h0 K md f (j::T) (zee j (j0::l0)) e' h')) (Yp (Y3 ops T ops.size) (Y3 ops (j::T) ops.size) ops.size) (putO e o.dst c v)else False|none=>False)
  |none=>False) (zv9 (z4j ops (j0::l0)) (j0::l0))
theorem zwa{K:Env->za->Prop}{f:Nat}{T todo:List Nat}(H:wB7 P n ops h0 K md (f+1) T todo e h){j:Nat}(hj:j∈todo)(hc:z4j ops todo j=true):match ops[j]? with
  |some o=>(match Yy ops e o.guard with|some c=>bif qk n c o.dst then opW P o e c h λv h'=>wI P n h' false ops (λe'=>zog md ops (j::T) e' h0 h' (wB7 P n ops h0 K md f (j::T) (zee j todo) e' h')) (Yp (Y3 ops T ops.size) (Y3 ops (j::T) ops.size) ops.size) (putO e o.dst c v)else False|none=>False)
  |none=>False:=by
 cases todo with
 |nil=>cases hj
 |cons j0 l0=>exact zlw H j (zc3 hj hc)
def zan(ops:Array Oper)(k:Nat)(S:List Nat):Nat->Bool
 |0=>true
 |p+1=>bif (match yn ops p with
  |some t=>bif memN S t then(bif Region.waitsFor .any ops k p then true else bif Y7 ops p then Region.waitsFor .any ops p k else false)else true
  |none=>true)then zan ops k S p else false
theorem J4{ops:Array Oper}{k:Nat}{S:List Nat}:∀{m:Nat},zan ops k S m=true->∀p t,p<m->yn ops p=some t->t∈S->Region.waitsFor .any ops k p=true\/(Y7 ops p=true/\Region.waitsFor .any ops p k=true)
 |0,_,p,t,hp,_,_=>by omega
 |m+1,h,p,t,hp,hd,ht=>by
  simp only[zan]at h
  cases hb:(match yn ops m with
   |some t=>bif memN S t then(bif Region.waitsFor .any ops k m then true else bif Y7 ops m then Region.waitsFor .any ops m k else false)else true
   |none=>true)with
  |false=>rw[hb]at h;cases h
  |true=>
   rw[hb]at h
   rcases A1 p m with h1|h1
   ·exact J4 h p t h1 hd ht
   ·have:p=m:=by omega
    subst this
    rw[hd]at hb
    simp only at hb
    rw[zg3 ht,cond_true]at hb
    cases hw:Region.waitsFor .any ops k p with
    |true=>exact .inl rfl
    |false=>
     rw[hw,cond_false]at hb
     cases hh:Y7 ops p with
     |false=>rw[hh]at hb;cases hb
     |true=>rw[hh,cond_true]at hb;exact .inr ⟨rfl,hb⟩
def zao(ops:Array Oper):Nat->Bool
 |0=>true
 |k+1=>bif (match ops[k]? with
  |some o=>zan ops k (tmpsOf o.op.operands.toList) ops.size
  |none=>true)then zao ops k else false
theorem J5{ops:Array Oper}:∀{m:Nat},zao ops m=true->∀k o,k<m->ops[k]?=some o->zan ops k (tmpsOf o.op.operands.toList) ops.size=true
 |0,_,k,o,hk,_=>by omega
 |m+1,h,k,o,hk,ho=>by
  unfold zao at h
  cases hb:(match ops[m]? with
   |some o=>zan ops m (tmpsOf o.op.operands.toList) ops.size
   |none=>true)with
  |false=>rw[hb]at h;cases h
  |true=>
   rw[hb,cond_true]at h
   rcases A1 k m with h1|h1
   ·exact J5 h k o h1 ho
   ·have:k=m:=by omega
    subst this
    rw[ho]at hb;exact hb
def zwb(ops:Array Oper)(o:Oper):List Nat:=match o.guard with
 |none=>[]
 |some (j,_)=>match yn ops j with
  |some t=>[t]
  |none=>[]
def zkh(ops:Array Oper):Nat->Bool
 |0=>true
 |k+1=>bif (match ops[k]? with
  |some o=>bif we o.op then ww ops k (zwb ops o) ops.size else false
  |none=>true)then zkh ops k else false
theorem zg8{ops:Array Oper}:∀{m:Nat},zkh ops m=true->∀k o,k<m->ops[k]?=some o->we o.op=true/\ww ops k (zwb ops o) ops.size=true
 |0,_,k,o,hk,_=>by omega
 |m+1,h,k,o,hk,ho=>by
  unfold zkh at h
  cases hb:(match ops[m]? with
   |some o=>bif we o.op then ww ops m (zwb ops o) ops.size else false
   |none=>true)with
  |false=>rw[hb]at h;cases h
  |true=>
   rw[hb,cond_true]at h
   rcases A1 k m with h1|h1
   ·exact zg8 h k o h1 ho
   ·have:k=m:=by omega
    subst this
    rw[ho]at hb
    simp only at hb
    cases h2:we o.op with
    |false=>rw[h2]at hb;cases hb
    |true=>rw[h2,cond_true]at hb;exact⟨rfl,hb⟩
theorem zoh(h:∀t∈zwb ops o,zo a t=zo b t):Bu o (yielded ops a.tmps)=Bu o (yielded ops b.tmps):=by
 unfold Bu
 cases hg:o.guard with
 |none=>rfl
 |some jp=>
  obtain⟨j,p⟩:=jp
  have:yielded ops a.tmps j=yielded ops b.tmps j:=by
   unfold yielded
   cases hd:(ops[j]?).bind (·.dst)with
   |none=>rfl
   |some t=>
    have Z:yn ops j=some t:=by
     unfold yn
     cases hoj:ops[j]? with
     |none=>rw[hoj]at hd;simp at hd
     |some oj=>rw[hoj]at hd;simpa using hd
    have ht:=h t (by unfold zwb;rw[hg];simp only;rw[Z];simp)
    unfold zo at ht
    simp only[BB]at ht
    simp only[CP]
    cases h1:a.tmps[t]? <;> cases h2:b.tmps[t]? <;> rw[h1,h2]at ht <;> simp at ht <;> first|rfl|(subst ht;rfl)|(rw[<-ht];rfl)|(rw[ht];rfl)
  simp only[this]
theorem zyp(h:gdd o=false):o.guard=none:=by
 unfold gdd at h
 cases hg:o.guard with
 |none=>rfl
 |some g=>rw[hg]at h;cases h
theorem z9u(ho:ops[i]?=some o)(h:Y7 ops i=false):o.guard=none:=by
 unfold Y7 at h
 rw[ho]at h
 simp only at h
 cases hg:gdd o with
 |true=>rw[hg]at h;cases h
 |false=>exact zyp hg
def zjd(ops:Array Oper):Bool:=bif zkh ops ops.size then(bif qg ops ops.size then(bif wj ops ops.size then zao ops ops.size else false)else false)else false
theorem zki(h:zjd ops=true):zkh ops ops.size=true/\qg ops ops.size=true/\wj ops ops.size=true/\zao ops ops.size=true:=by
 unfold zjd at h
 cases h1:zkh ops ops.size <;> cases h2:qg ops ops.size <;> cases h3:wj ops ops.size <;> simp[h1,h2,h3]at h ⊢
 exact h
structure St7 (P:Program) (n:Nat) (ops:Array Oper) (h0:za) (K:Env->za->Prop) (md:Bool) (f:Nat->Value) (a0:Act) (listed:Array Bool) (a b:Act) (e:Env) (h:za) (done todo:List Nat):Prop where
 inv:HeadInv .any ops ops.size listed
 ag:∀s,(∀i o,ops[i]?=some o->Y7 ops i=false->listed.getD i false=false->o.dst≠some s)->zo a s=zo b s
 sz:a.tmps.size=n
 ad:a.defers=[]
 sb:Sat n e b
 qv:∀i o t,ops[i]?=some o->i∈Y3 ops done ops.size->o.dst=some t->zo b t=f i/\t<n
 qx:∀i o,ops[i]?=some o->i∈Y3 ops done ops.size->listed.getD i false=false->∀h',LdOK o b.eval h0 h'->QExec P (execOp b.eval o) h' (.value (f i))
 tt:∀j,j∈hvL ops->(j∈todo↔listed.getD j false=false)
 ch:∀j,j∈hvL ops->(listed.getD j false=true↔j∈done)
 dn:∀j∈done,j∈hvL ops
 th:∀j∈todo,j∈hvL ops
 nd:todo.Nodup
 wt:∃fu,todo.length<=fu/\wB7 P n ops h0 K md fu done todo e h
 kp:∀i o,ops[i]?=some o->zn o=true->Y7 ops i=false->listed.getD i false=false->LdOK o b.eval h0 h
 sm:Same (y8 ops.toList) a0 a
theorem zg9{ld:Bool}(af:qg ops ops.size=true)(ap:wj ops ops.size=true)(au:zao ops ops.size=true){f:Nat->Value}(ar:b.tmps.size=n)(ae:∀i∈l,i<ops.size)(an:∀i∈l,Y7 ops i=false)(Z:l.Pairwise (· < ·))
  (H:∀l1 i l2,l=l1++i::l2->∃o,ops[i]?=some o/\zof o=true/\(ld=false->zn o=false)/\we o.op=true/\qk n [] o.dst=true/\∀h',LdOK o (jb ops f l1 b).eval h h'->QExec P (execOp (jb ops f l1 b).eval o) h' (.value (f i))):
  ∀i o,ops[i]?=some o->i∈l->(∀t,o.dst=some t->zo (jb ops f l b) t=f i/\t<n)/\(ld=false->zn o=false)/\∀h',LdOK o (jb ops f l b).eval h h'->QExec P (execOp (jb ops f l b).eval o) h' (.value (f i)):=by
 intro i o ho hi
 obtain⟨l1,l2,rfl⟩:=List.append_of_mem hi
 obtain⟨o',q1,q2,q3,q4,q5,q6⟩:=H l1 i l2 rfl
 have:o'=o:=Au (q1.symm.trans ho)
 subst this
 have ah:i<ops.size:=ae i (by simp)
 have hs:∀j∈l2,i<j:=λj hj=>by
  rw[CE]at Z
  exact(BH.1 Z.2.1).1 j hj
 have aa:jb ops f (l1++i::l2) b=jb ops f l2 ((jb ops f l1 b).put (yn ops i) (f i)):=by rw[zbk];rfl
 have ab:yn ops i=o'.dst:=zl ho
 refine⟨λt ht=>?_,q3,λh' hh=>?_⟩
 ·have aj:t<n:=by
   rw[ht]at q5
   unfold qk at q5
   simp at q5;exact q5.2
  refine⟨?_,aj⟩
  rw[aa,w7 λj hj hd=>?_,ab,ht,qt (by rw[zkf.1,ar];exact aj)]
  have:=qw ap i j t ah (ae j (by simp[hj])) (by rw[ab,ht]) hd
  have:=hs j hj
  omega
 ·have ai:∀t∈tmpsOf o'.op.operands.toList,zo (jb ops f (l1++i::l2) b) t=zo (jb ops f l1 b) t:=λt ht=>by
   have e1:jb ops f (l1++i::l2) b=jb ops f (i::l2) (jb ops f l1 b):=zbk
   rw[e1]
   refine w7 λj hj hd=>?_
   have ak:j<ops.size:=ae j (by simp[hj])
   have hw:Region.waitsFor .any ops i j=true:=by
    rcases J4 (J5 au i o' ah ho) j t ak hd ht with h|h
    ·exact h
    ·have:=an j (by simp[hj])
     rw[h.1]at this;cases this
   obtain⟨oj,am,x,hx,hb,ax⟩:=Region.waitsFor_spec hw
   have h1:=qc af i oj ah am x hx hb
   rcases Af.1 hj with rfl|hj
   ·omega
   ·have:=hs j hj;omega
  rw[j8 q4 ai]
  exact q6 h' (LdOK.congr (λx hx=>(Zk ai x hx).symm) hh)
theorem z4k{K:Env->za->Prop}{Q:Exit->Act->World->Prop}(B:World)(hmix:zjd ops=true){a0:Act}
    (hQ:∀e' a' d' h',Sat n e' a'->Same (y8 ops.toList) a0 a'->K e' h'->Q .normal a' (mk B d' h')):
    ∀(N:Nat) (U:List Nat) (listed:Array Bool) (f:Nat->Value) (a b:Act) (e:Env) (h:za) (d:Nat) (done todo:List Nat),U.length=N->U.Nodup->(∀k,k∈U↔k<ops.size/\listed.getD k false=false) ->
      St7 P n ops h0 K md f a0 listed a b e h done todo->wpAny P .any ops Q N listed a (mk B d h):=by
  obtain⟨hng,hback,hnd,hsl⟩:=zki hmix
  have hgd:∀(i:Nat) (o:Oper),ops[i]?=some o->we o.op=true/\ww ops i (zwb ops o) ops.size=true:=λi o ho=>zg8 hng i o (Ad.1 ho).1 ho
  have hslot0:∀k o,ops[k]?=some o->∀p t,p<ops.size->yn ops p=some t->t∈tmpsOf o.op.operands.toList->Region.waitsFor .any ops k p=true\/(Y7 ops p=true/\Region.waitsFor .any ops p k=true):=λk o ho p t hp hd ht=>
    J4 (J5 hsl k o (Ad.1 ho).1 ho) p t hp hd ht
  have hbk:∀k p,Region.waitsFor .any ops k p=true->p<k:=λk p hw=>by
    obtain⟨oj,hoj,x,hx,hb,hon⟩:=Region.waitsFor_spec hw
    have:=qc hback k oj (Ad.1 hoj).1 hoj x hx hb
    omega
  have fin:∀{listed:Array Bool} {f:Nat->Value} {a b:Act} {e:Env} {h:za} {d:Nat} {done todo:List Nat},(∀k,k<ops.size->listed.getD k false=true)->St7 P n ops h0 K md f a0 listed a b e h done todo->Q .normal a (mk B d h):=by
    intro listed f a b e h d done todo hall S
    have htodo:todo=[]:=by
      cases htd:todo with
      |nil=>rfl
      |cons j l=>
        have hm:j∈todo:=by rw[htd];simp
        have hj:=S.th j hm
        have:=(S.tt j hj).1 hm
        rw[hall j (zg4.1 hj).1]at this;cases this
    obtain⟨fu,_,hw⟩:=S.wt
    rw[htodo]at hw
    have hw:K (clean e) h:=by cases fu <;> exact hw
    have hv:∀s,zo a s=zo b s:=λs=>S.ag s λi o ho hq hl=>by
      rw[hall i (Ad.1 ho).1]at hl;cases hl
    have hs:Sat n e a:=⟨S.ad,S.sz,λx hx=>by
      have:=S.sb.all x hx
      have e1:zo a=zo b:=funext hv
      rw[e1];exact this⟩
    exact hQ _ _ _ _ hs.clean S.sm hw
  intro N
  induction N with
  |zero=>
    intro U listed f a b e h d done todo hU _ hmem S
    have hUn:U=[]:=A7.1 hU
    subst hUn
    have hall:∀k,k<ops.size->listed.getD k false=true:=λk hk=>by
      cases hb:listed.getD k false with
      |true=>rfl
      |false=>exact absurd ((hmem k).2 ⟨hk,hb⟩) (by simp)
    refine⟨?_,fin hall S⟩
    rw[List.eq_nil_iff_forall_not_mem]
    intro j hj
    obtain⟨h1,o,ho,_⟩:=mem_ready.1 hj
    have hlt:=(Ad.1 ho).1
    have:=hall j hlt
    have h2:=getD_both h1
    rw[this]at h2;cases h2
  |succ N ih=>
    intro U listed f a b e h d done todo hU hdup hmem S
    have hex:∃k,k<ops.size/\listed.getD k false=false:=by
      cases U with
      |nil=>cases hU
      |cons k U=>exact⟨k,(hmem k).1 Aj⟩
    refine⟨λhr=>?_,λi hi=>?_⟩
    · exfalso
      obtain⟨k,hk1,hk2,hk3⟩:=zbj hex
      have:k∈Region.ready .any ops listed:=mem_ready.2 ⟨by rw[<-hk2];simp[S.inv.size,hk1],ops[k],A0 hk1,λx hx hb=>hk3 _ (qc hback k ops[k] hk1 (A0 hk1) x hx hb)⟩
      rw[hr]at this;cases this
    · obtain⟨hun1,o,ho,hall⟩:=mem_ready.1 hi
      have hun:listed.getD i false=false:=getD_both hun1
      have hlt:i<ops.size:=(Ad.1 ho).1
      obtain⟨hns,hgs⟩:=hgd i o ho
      have hils:i<listed.size:=by rw[S.inv.size];exact hlt
      have hU':(U.erase i).length=N:=by rw[Dd ((hmem i).2 ⟨hlt,hun⟩),hU];rfl
      have hdup':(U.erase i).Nodup:=hdup.erase i
      have hmem':∀k,k∈U.erase i↔k<ops.size/\(listed.setIfInBounds i true).getD k false=false:=λk=>by
        rw[hdup.mem_erase_iff,hmem k]
        by_cases hk:i=k
        · subst hk;simp[hils]
        · rw[getD_set_ne false hk];exact⟨λhx=>hx.2,λhx=>⟨λe=>hk e.symm,hx⟩⟩
      have inv':=S.inv.set hi hlt
      have hset:∀k,k≠i->(listed.setIfInBounds i true).getD k false=listed.getD k false:=λk hk=>getD_set_ne false (Ne.symm hk)
      have hsetI:(listed.setIfInBounds i true).getD i false=true:=by simp[hils]
      have hops:∀t∈tmpsOf o.op.operands.toList,zo a t=zo b t:=λt ht=>S.ag t λk ok hok hq hl hd=>by
        rcases hslot0 i o ho k t (Ad.1 hok).1 (by rw[zl hok,hd]) ht with hw|hw
        · rw[Zm hi hw]at hl;cases hl
        · rw[hw.1]at hq;cases hq
      have hexec:=j8 hns hops
      have hsame:∀v,Same (y8 ops.toList) a0 (a.put o.dst v):=λv=>S.sm.trans (Same.put a o.dst _ λt ht=>Yo (by
          obtain⟨hl2,e2⟩:=Ad.1 ho
          rw[<-e2];simp) t ht)
      unfold wpOp
      rw[ho]
      simp only
      have hwab:Bu o (yielded ops a.tmps)=Bu o (yielded ops b.tmps):=zoh λt ht=>S.ag t λk ok hok hq hl hd=>by
        have hw:=yc hgs k t (Ad.1 hok).1 (by rw[zl hok,hd]) ht
        rw[Zm hi hw]at hl;cases hl
      cases hq:Y7 ops i with
      |false=>
        have hwant:Bu o (yielded ops a.tmps)=true:=by unfold Bu;rw[z9u ho hq]
        rw[if_pos hwant]
        left
        unfold Oper.wp
        rw[hexec]
        have hrdyG:∀m k ok,k<m->ops[k]?=some ok->Y7 ops k=false->(∀p,Region.waitsFor .any ops k p=true->listed.getD p false=true)->k∈Y3 ops done ops.size:=by
          intro m
          induction m with
          |zero=>intro k ok hk;omega
          |succ m ihm=>
            intro k ok hk hok hkh hkw
            refine zly (Ad.1 hok).1 hkh (zgi.2 λp hp hw=>⟨λhph=>?_,λhph=>?_⟩)
            · have hpl:=hkw p hw
              exact(S.ch p (zg4.2 ⟨by have:=(Ad.1 hok).1;omega,hph⟩)).1 hpl
            · have hps:p<ops.size:=by have:=(Ad.1 hok).1;omega
              have hin:=ihm p ops[p] (by omega) (A0 hps) hph λq hq2=>yq S.inv (hkw p hw) hq2
              obtain⟨_,g2,g3⟩:=wz hin
              exact zly hp g2 g3
        have hrdy:=hrdyG (i+1) i o (by omega) ho hq λp hw=>Zm hi hw
        have hx:=S.qx i o ho hrdy hun h (by
          cases hl:zn o with
          |false=>exact .inl hl
          |true=>exact S.kp i o ho hl hq hun) B d
        rw[hx,Oper.upon_value]
        have hnot:i∉hvL ops:=λhm=>by rw[(zg4.1 hm).2]at hq;cases hq
        have hunset:∀k,(listed.setIfInBounds i true).getD k false=false->listed.getD k false=false:=λk hu=>by
          by_cases hki:k=i
          · subst hki;exact hun
          · rw[<-hset k hki];exact hu
        refine ih _ _ f _ b e h d done todo hU' hdup' hmem' { S with inv:=inv',ag:=λs hs=>?_,sz:=by rw[size_put];exact S.sz,ad:=by rw[qm];exact S.ad,tt:=λj hj=>(by have:j≠i:=λe=>hnot (e ▸ hj);rw[hset j this];exact S.tt j hj),ch:=λj hj=>?_,qx:=λk ok hok hk hu=>S.qx k ok hok hk (hunset k hu),kp:=λk ok hok hl hkh hk=>?_,sm:=hsame _ }
        · by_cases hd:o.dst=some s
          · obtain⟨hv,hsn⟩:=S.qv i o s ho hrdy hd
            rw[hd,qt (by rw[S.sz];exact hsn),hv]
          · rw[zr hd]
            refine S.ag s λk ok hok hqk hlk=>?_
            by_cases hki:k=i
            · subst hki
              have:ok=o:=Au (hok.symm.trans ho)
              subst this;exact hd
            · exact hs k ok hok hqk (by rw[hset k hki];exact hlk)
        · have:j≠i:=λe=>hnot (e ▸ hj)
          rw[hset j this];exact S.ch j hj
        · by_cases hki:k=i
          · subst hki;rw[hsetI]at hk;cases hk
          · rw[hset k hki]at hk;exact S.kp k ok hok hl hkh hk
      |true=>
        have hin:i∈hvL ops:=zg4.2 ⟨hlt,hq⟩
        have hit:i∈todo:=(S.tt i hin).2 hun
        obtain⟨fu,hfu,hW0⟩:=S.wt
        have hcl:∀p q,(listed.setIfInBounds i true).getD p false=true->Region.waitsFor .any ops p q=true->(listed.setIfInBounds i true).getD q false=true:=λp q h1 h2=>yq inv' h1 h2
        have hcand:z4j ops todo i=true:=by
          unfold z4j
          rw[AD]
          intro k hk
          cases hki:Nat.beq k i with
          |true=>rfl
          |false=>
            have hne:k≠i:=λe=>by rw[e]at hki;simp at hki
            cases hr:memN (upL ops ops.size [i]) k with
            |false=>rfl
            |true=>
              exfalso
              have:=zlx hcl (m:=ops.size) (S:=[i]) (λj hj=>by simp at hj;subst hj;exact hsetI) k (J3 hr)
              rw[hset k hne]at this
              have h2:=(S.tt k (S.th k hk)).1 hk
              rw[this]at h2;cases h2
        have hW:match ops[i]? with
            |some o=>(match Yy ops e o.guard with|some c=>bif qk n c o.dst then opW P o e c h λv h'=>wI P n h' false ops (λe'=>zog md ops (i::done) e' h0 h' (wB7 P n ops h0 K md (fu-1) (i::done) (zee i todo) e' h')) (Yp (Y3 ops done ops.size) (Y3 ops (i::done) ops.size) ops.size) (putO e o.dst c v)else False|none=>False)
            |none=>False:=by
          cases fu with
          |zero=>(have:todo.length=0:=by omega);rw[A7.1 this]at hit;cases hit
          |succ fu=>
            have:=zwa (show wB7 P n ops h0 K md (fu+1) done todo e h from hW0) hit hcand
            exact this
        rw[ho]at hW
        simp only at hW
        cases hch:Yy ops e o.guard with
        |none=>rw[hch]at hW;exact hW.elim
        |some c=>
        rw[hch]at hW
        simp only at hW
        cases hd:qk n c o.dst with
        |false=>rw[hd]at hW;exact hW.elim
        |true=>
          rw[hd,cond_true]at hW
          have hwv:=Zu S.sb hch
          have key:∀(v u:Value) (d':Nat) (h':za),(valid (zo b) c->u=v)->(¬valid (zo b) c->u=undef)->wI P n h' false ops (λe'=>zog md ops (i::done) e' h0 h' (wB7 P n ops h0 K md (fu-1) (i::done) (zee i todo) e' h')) (Yp (Y3 ops done ops.size) (Y3 ops (i::done) ops.size) ops.size) (putO e o.dst c v)->wpAny P .any ops Q N (listed.setIfInBounds i true) (a.put o.dst u) (mk B d' h'):=by
           intro v v2 d' h' hv1 hv0 hK
           have sb1:Sat n (putO e o.dst c v) (b.put o.dst v2):=S.sb.putO hd hv1 hv0
           generalize hbl:Yp (Y3 ops done ops.size) (Y3 ops (i::done) ops.size) ops.size=bl at hK
           have hbm:∀k,k∈bl↔k<ops.size/\k∈Y3 ops (i::done) ops.size/\k∉Y3 ops done ops.size:=λk=>by rw[<-hbl];exact zke
           have hbsort:bl.Pairwise (· < ·):=by rw[<-hbl];exact zc4 _ _ _
           have hbnd:bl.Nodup:=hbsort.imp λh=>by omega
           obtain⟨f',e2,HK,sb2,hf0,hfx⟩:=zlz f hbnd hK sb1
           have hbf:=zg9 hback hnd hsl (f:=f') (l:=bl) (b:=b.put o.dst v2) sb1.size (λk hk=>((hbm k).1 hk).1) (λk hk=>(wz ((hbm k).1 hk).2.1).2.1) hbsort hfx
           have hbnh:∀k∈bl,Y7 ops k=false:=λk hk=>(wz ((hbm k).1 hk).2.1).2.1
           have hlist':∀j,j∈hvL ops->((listed.setIfInBounds i true).getD j false=true↔j∈i::done):=λj hj=>by
             by_cases hji:j=i
             · subst hji;rw[hsetI];simp
             · rw[hset j hji,S.ch j hj];simp[hji]
           have hjl:∀j∈i::done,(listed.setIfInBounds i true).getD j false=true:=λj hj=>by
             rcases Af.1 hj with rfl|hj
             · exact hsetI
             · exact getD_set_true ((S.ch j (S.dn j hj)).2 hj)
           have hup:∀k,k∈upL ops ops.size (i::done)->(listed.setIfInBounds i true).getD k false=true:=λk hk=>zlx hcl hjl k hk
           have hundone:i∉done:=λhm=>by rw[(S.ch i hin).2 hm]at hun;cases hun
           have hslot1:∀k ok,ops[k]?=some ok->k∈Y3 ops done ops.size->listed.getD k false=false->∀t∈tmpsOf ok.op.operands.toList,zo (b.put o.dst v2) t=zo b t:=λk ok hok hk hu t ht=>zr λhdo=>by
             rcases hslot0 k ok hok i t hlt (by rw[zl ho,hdo]) ht with hw|hw
             · exact hundone ((ztx hk (hbk k i hw) hw).1 hq)
             · rw[Zm hi hw.2]at hu;cases hu
           have hslot2:∀k ok,ops[k]?=some ok->k∈Y3 ops done ops.size->listed.getD k false=false->∀t∈tmpsOf ok.op.operands.toList,zo (jb ops f' bl (b.put o.dst v2)) t=zo b t:=λk ok hok hk hu t ht=>by
             rw[w7 λp hp hdp=>?_]
             · exact hslot1 k ok hok hk hu t ht
             · rcases hslot0 k ok hok p t ((hbm p).1 hp).1 hdp ht with hw|hw
               · exact((hbm p).1 hp).2.2 ((ztx hk (hbk k p hw) hw).2 (hbnh p hp))
               · have:=hbnh p hp
                 rw[hw.1]at this;cases this
           have hdist:∀k ok t,ops[k]?=some ok->k≠i->ok.dst=some t->o.dst≠some t:=λk ok t hok hki hdk hdo=>by
             have:=qw hnd k i t (Ad.1 hok).1 hlt (by rw[zl hok,hdk]) (by rw[zl ho,hdo])
             exact hki this
           have hne_i:∀k,Y7 ops k=false->k≠i:=λk hk e=>by rw[e,hq]at hk;cases hk
           have hQK:wB7 P n ops h0 K md (fu-1) (i::done) (zee i todo) e2 h'/\(∀k ok,ops[k]?=some ok->zn ok=true->Y7 ops k=false->(listed.setIfInBounds i true).getD k false=false->LdOK ok (jb ops f' bl (b.put o.dst v2)).eval h0 h'):=by
             unfold zog at HK
             cases hl:zyo ops (upL ops ops.size (i::done)) ops.size with
             |false=>
               rw[hl,cond_false]at HK
               exact⟨HK,λk ok hok hlo hkh hf=>by rw[hup k (zkg hl k ok (Ad.1 hok).1 hok hlo hkh)]at hf;cases hf⟩
             |true=>
               rw[hl,cond_true]at HK
               cases md with
               |false=>exact⟨HK.2,λ_ _ _ _ _ _=>.inr (.inl HK.1)⟩
               |true=>
                 rw[cond_true]at HK
                 obtain⟨g1,g2⟩:=zg7 HK
                 refine⟨g1,λk ok hok hlo hkh hf=>.inr (.inr λt a p hop hp=>?_)⟩
                 obtain⟨t',a',p',e1,e2',e3,e4⟩:=g2 k ok (Ad.1 hok).1 hok hlo hkh (λhm=>by rw[hup k hm]at hf;cases hf)
                 rw[hop]at e1
                 injection e1 with _ e1
                 subst e1
                 have eb:(jb ops f' bl (b.put o.dst v2)).eval a=rho e2 [] a:=Zg sb2 (jj _) e2' a (by simp)
                 rw[eb,e3]at hp
                 injection hp with hp
                 injection hp with hp
                 rw[<-hp];exact e4
           have htt:∀j,j∈hvL ops->(j∈zee i todo↔(listed.setIfInBounds i true).getD j false=false):=λj hj=>by
             rw[J0]
             by_cases hji:j=i
             · subst hji;rw[hsetI];simp
             · rw[hset j hji,<-S.tt j hj];exact⟨λhx=>hx.1,λhx=>⟨hx,hji⟩⟩
           refine ih _ _ f' _ (jb ops f' bl (b.put o.dst v2)) e2 h' d' (i::done) (zee i todo) hU' hdup' hmem' ⟨inv',λs hs=>?_,by rw[size_put];exact S.sz,by rw[qm];exact S.ad,sb2,λk ok t hok hk hdk=>?_,λk ok hok hk hu h'' hh=>?_,htt,hlist',(λj hj=>by
             rcases Af.1 hj with rfl|hj
             · exact hin
             · exact S.dn j hj),(λj hj=>S.th j (J0.1 hj).1),zam S.nd,⟨fu-1,by have:=zlv hit;omega,hQK.1⟩,hQK.2,hsame _⟩
           · -- slots
             have hs':∀k ok,ops[k]?=some ok->Y7 ops k=false->listed.getD k false=false->ok.dst≠some s:=λk ok hok hqk hlk=>hs k ok hok hqk (by rw[hset k (hne_i k hqk)];exact hlk)
             have hbl:∀p∈bl,yn ops p≠some s:=λp hp hdp=>by
               have hps:=((hbm p).1 hp).1
               have hok:ops[p]?=some ops[p]:=A0 hps
               have hph:=hbnh p hp
               refine hs p _ hok hph ?_ (by rw[<-zl hok];exact hdp)
               cases hlp:(listed.setIfInBounds i true).getD p false with
               |false=>rfl
               |true=>
                 exfalso
                 rw[hset p (hne_i p hph)]at hlp
                 have:∀m q,q<m->q<ops.size->Y7 ops q=false->listed.getD q false=true->q∈Y3 ops done ops.size:=by
                   intro m
                   induction m with
                   |zero=>intro q hq;omega
                   |succ m ihm=>
                     intro q hqm hqs hqh hql
                     refine zly hqs hqh (zgi.2 λp2 hp2 hw2=>⟨λhph2=>?_,λhph2=>?_⟩)
                     · exact(S.ch p2 (zg4.2 ⟨by omega,hph2⟩)).1 (yq S.inv hql hw2)
                     · have hin2:=ihm p2 (by omega) (by omega) hph2 (yq S.inv hql hw2)
                       obtain⟨_,g2,g3⟩:=wz hin2
                       exact zly hp2 g2 g3
                 exact((hbm p).1 hp).2.2 (this (p+1) p (by omega) hps hph hlp)
             rw[w7 hbl]
             by_cases hds:o.dst=some s
             · rw[hds]
               have hsn:s<n:=by
                 rw[hds]at hd
                 unfold qk at hd
                 simp at hd;exact hd.2
               rw[qt (by rw[S.sz];exact hsn),qt (by rw[S.sb.size];exact hsn)]
             · rw[zr hds,zr hds];exact S.ag s hs'
           · by_cases hkb:k∈bl
             · exact(hbf k ok hok hkb).1 t hdk
             · have hk0:k∈Y3 ops done ops.size:=CO λhc=>hkb ((hbm k).2 ⟨(Ad.1 hok).1,hk,hc⟩)
               have hkh:=(wz hk0).2.1
               obtain⟨q1,q2⟩:=S.qv k ok t hok hk0 hdk
               refine⟨?_,q2⟩
               rw[w7 λp hp hdp=>?_,zr (hdist k ok t hok (hne_i k hkh) hdk),q1,hf0 k hkb]
               have:=qw hnd p k t ((hbm p).1 hp).1 (Ad.1 hok).1 hdp (by rw[zl hok,hdk])
               subst this;exact hkb hp
           · by_cases hkb:k∈bl
             · obtain⟨_,q2,q3⟩:=hbf k ok hok hkb
               exact q3 h'' (.inl (q2 rfl))
             · have hk0:k∈Y3 ops done ops.size:=CO λhc=>hkb ((hbm k).2 ⟨(Ad.1 hok).1,hk,hc⟩)
               have hu0:listed.getD k false=false:=by rw[<-hset k (hne_i k (wz hk0).2.1)];exact hu
               rw[j8 (b:=b) (hgd k ok hok).1 (hslot2 k ok hok hk0 hu0),hf0 k hkb]
               exact S.qx k ok hok hk0 hu0 h'' (LdOK.congr (λx hx=>(Zk (hslot2 k ok hok hk0 hu0) x hx).symm) hh)
          by_cases hv:valid (zo b) c
          · rw[if_pos (by rw[hwab];exact hwv.2 hv)]
            left
            unfold Oper.wp
            rw[hexec]
            refine zec (b:=b) S.sb.defers ?_
            refine zlu hW S.sb hv B d λv d' h' hK=>⟨by rw[qm];exact S.sb.defers,λv2 hv2=>?_⟩
            have hbv:b.put o.dst v2=b.put o.dst v:=hv2.symm
            by_cases hds:∃t,o.dst=some t
            · obtain⟨t,ht⟩:=hds
              have htn:t<n:=by
                have hd2:=hd
                rw[ht]at hd2
                unfold qk at hd2
                simp at hd2;exact hd2.2
              have:v2=v:=by
                have e1:zo (b.put o.dst v2) t=zo (b.put o.dst v) t:=by rw[hbv]
                rw[ht,qt (by rw[S.sb.size];exact htn),qt (by rw[S.sb.size];exact htn)]at e1
                exact e1
              subst this
              exact key v2 v2 d' h' (λ_=>rfl) (λhx=>absurd hv hx) hK
            · have hdn:o.dst=none:=by
                cases hdx:o.dst with
                |none=>rfl
                |some t=>exact absurd ⟨t,hdx⟩ hds
              have e1:a.put o.dst v2=a.put o.dst v:=by rw[hdn];rfl
              rw[e1]
              exact key v v d' h' (λ_=>rfl) (λhx=>absurd hv hx) hK
          · rw[if_neg (by rw[hwab];exact λhx=>hv (hwv.1 hx))]
            obtain⟨v,hK⟩:=z7y hW S.sb hv
            exact key v undef d h (λhx=>absurd hx hv) (λ_=>rfl) hK
theorem zef{K:Env->za->Prop}{Q:Exit->Act->World->Prop}(B:World)(ab:zjd ops=true)
  (H:wI P n h true ops (λe'=>wB7 P n ops h K md (hvL ops).length [] (hvL ops) e' h) (Yp [] (Y3 ops [] ops.size) ops.size) e) (hs:Sat n e a)
  (hQ:∀e' a' d' h',Sat n e' a'->Same (y8 ops.toList) a a'->K e' h'->Q .normal a' (mk B d' h')) (d:Nat):wpAny P .any ops Q ops.size (Bn ops.size false) a (mk B d h):=by
 obtain⟨az,ae,ar,ax⟩:=zki ab
 have aa:∀k,k∈Yp [] (Y3 ops [] ops.size) ops.size↔k∈Y3 ops [] ops.size:=λk=>by
  rw[zke]
  exact⟨λh=>h.2.1,λh=>⟨(wz h).1,h,by simp⟩⟩
 have Z:=zc4 [] (Y3 ops [] ops.size) ops.size
 generalize Yp [] (Y3 ops [] ops.size) ops.size=bl at H aa Z
 have ai:bl.Nodup:=Z.imp λh=>by omega
 obtain⟨f,e2,HK,an,_,am⟩:=zlz (λ_=>undef) ai H hs
 have aj:=zg9 ae ar ax (f:=f) (l:=bl) (b:=a) hs.size (λk hk=>(wz ((aa k).1 hk)).1) (λk hk=>(wz ((aa k).1 hk)).2.1) Z am
 have af:∀s,(∀i o,ops[i]?=some o->Y7 ops i=false->(Bn ops.size false).getD i false=false->o.dst≠some s)->zo a s=zo (jb ops f bl a) s:=λs au=>(w7 λp hp ak=>by
  have ap:=(wz ((aa p).1 hp)).1
  have ah:ops[p]?=some ops[p]:=A0 ap
  exact au p _ ah (wz ((aa p).1 hp)).2.1 (getD_replicate_false _ _) (by rw[<-zl ah];exact ak)).symm
 refine z4k B ab hQ ops.size (Cb ops.size) _ f a (jb ops f bl a) e2 h d [] (hvL ops) List.length_range DO (λk=>by rw[Bw,getD_replicate_false];simp) ⟨⟨by simp,λj oj _ hl=>(by rw[getD_replicate_false]at hl;cases hl),λt ht ay=>by omega⟩,af,hs.size,hs.defers,an,λi o t ho hi hd=>(aj i o ho ((aa i).2 hi)).1 t hd,λi o ho hi _=>(aj i o ho ((aa i).2 hi)).2.2,(λj hj=>by rw[getD_replicate_false];simp[hj]),(λj hj=>by rw[getD_replicate_false];simp),(λj hj=>by cases hj),(λj hj=>hj),zym ops,⟨_,Ac _,HK⟩,λ_ _ _ _ _ _=>.inr (.inl (Keep.refl _ _)),Same.refl _ _⟩
def zyq:List (Nat×Nat)->Nat->Option Nat
 |[],_=>none
 |(j,m)::l,i=>bif Nat.beq i j then some m else zyq l i
def regionF(P:Program)(n:Nat)(tl:List (Nat×Nat))(id:Nat)(ops:Array Oper)(Z:Bool)(K:Env->za->Prop)(e:Env)(h:za):Prop:=
 bif Z then(match zyq tl id with
  |none=>bif Region.lexB .any ops then wQ P n ops h true (λe'=>K (clean e') h) ops.toList e else False
  |some m=>bif Nat.beq m 2000 then(bif z4f ops then wU P n h (λe'=>wT P n ops h K false [] (zx 0 ops.toList) e' h) ops.toList e else False)else bif Nat.beq m 3000 then(bif z4f ops then wU P n h (λe'=>wT P n ops h K true [] (zx 0 ops.toList) e' h) ops.toList e else False)else bif Nat.beq m 5000 then(bif zoe ops then wU P n h (λe'=>wB P n ops h K false (zx 0 ops.toList).length [] (zx 0 ops.toList) e' h) ops.toList e else False)else bif Nat.beq m 6000 then(bif zoe ops then wU P n h (λe'=>wB P n ops h K true (zx 0 ops.toList).length [] (zx 0 ops.toList) e' h) ops.toList e else False)else bif Nat.beq m 7000 then(bif zjd ops then wI P n h true ops (λe'=>wB7 P n ops h K false (hvL ops).length [] (hvL ops) e' h) (Yp [] (Y3 ops [] ops.size) ops.size) e else False)else bif Nat.beq m 8000 then(bif zjd ops then wI P n h true ops (λe'=>wB7 P n ops h K true (hvL ops).length [] (hvL ops) e' h) (Yp [] (Y3 ops [] ops.size) ops.size) e else False)else bif Nat.beq m 1000 then(bif Region.lexB .any ops then wK P n ops h (λe'=>∀h',Keep h.size h h'->K (clean e') h') ops.toList e else False)
   else bif Region.lexTailB .any ops m then wQ P n ops h false (λe'=>wR P n ops K (ops.toList.drop m) e' h) (ops.toList.take m) e else False)
 else wR P n ops K ops.toList e h
theorem Zn(l m:List Oper):y8 (l++m)=y8 l++y8 m:=by
 induction l with
 |nil=>rfl
 |cons o l ih=>simp only[AE,y8];split <;> simp[ih]
theorem zc5(hm:P.follows .mixedOrders=true){tl:List (Nat×Nat)}{id:Nat}{Z:Bool}{K:Env->za->Prop}
  (H:regionF P n tl id ops Z K e h) (B:World) (d:Nat) (hs:Sat n e a) {Q:Exit->Act->World->Prop}
  (hQ:∀e' a' d' h',Sat n e' a'->Same (y8 ops.toList) a a'->K e' h'->Q .normal a' (mk B d' h')):(Eo id ops Z).wp P Q a (mk B d h):=by
 unfold regionF at H
 cases Z with
 |false=>exact wp_region_list (zal B _ _ _ _ _ H hs hQ)
 |true=>
  simp only[cond_true]at H
  split at H
  ·cases hB:Region.lexB .any ops with
   |false=>rw[hB]at H;exact H.elim
   |true=>
    rw[hB]at H
    refine wp_region_quiet (C:=λw=>∃d,w=mk B d h) hm hB ⟨d+1,rfl⟩ ?_
    refine ztu B _ _ _ H hs λe' a' q1 q2 q3=>?_
    rintro w' ⟨d',rfl⟩
    exact hQ _ _ _ _ q1.clean q2 q3
  ·rename_i m _
   cases hX:Nat.beq m 2000 with
   |true=>
    rw[hX]at H
    simp only[cond_true]at H
    cases hB:z4f ops with
    |false=>rw[hB]at H;exact H.elim
    |true=>
     rw[hB]at H
     exact wp_region_any hm (zoc B hB H hs hQ (d+1))
   |false=>
   rw[hX]at H
   simp only[cond_false]at H
   cases hY:Nat.beq m 3000 with
   |true=>
    rw[hY]at H
    simp only[cond_true]at H
    cases hB:z4f ops with
    |false=>rw[hB]at H;exact H.elim
    |true=>
     rw[hB]at H
     exact wp_region_any hm (zoc B hB H hs hQ (d+1))
   |false=>
   rw[hY]at H
   simp only[cond_false]at H
   cases hZ:Nat.beq m 5000 with
   |true=>
    rw[hZ]at H
    simp only[cond_true]at H
    cases hB:zoe ops with
    |false=>rw[hB]at H;exact H.elim
    |true=>
     rw[hB]at H
     exact wp_region_any hm (zkd B hB H hs hQ (d+1))
   |false=>
   rw[hZ]at H
   simp only[cond_false]at H
   cases hY6:Nat.beq m 6000 with
   |true=>
    rw[hY6]at H
    simp only[cond_true]at H
    cases hB:zoe ops with
    |false=>rw[hB]at H;exact H.elim
    |true=>
     rw[hB]at H
     exact wp_region_any hm (zkd B hB H hs hQ (d+1))
   |false=>
   rw[hY6]at H
   simp only[cond_false]at H
   cases hY7:Nat.beq m 7000 with
   |true=>
    rw[hY7]at H
    simp only[cond_true]at H
    cases hB:zjd ops with
    |false=>rw[hB]at H;exact H.elim
    |true=>
     rw[hB]at H
     exact wp_region_any hm (zef B hB H hs hQ (d+1))
   |false=>
   rw[hY7]at H
   simp only[cond_false]at H
   cases hY8:Nat.beq m 8000 with
   |true=>
    rw[hY8]at H
    simp only[cond_true]at H
    cases hB:zjd ops with
    |false=>rw[hB]at H;exact H.elim
    |true=>
     rw[hB]at H
     exact wp_region_any hm (zef B hB H hs hQ (d+1))
   |false=>
   rw[hY8]at H
   simp only[cond_false]at H
   cases hM:Nat.beq m 1000 with
   |true=>
    rw[hM]at H
    simp only[cond_true]at H
    cases hB:Region.lexB .any ops with
    |false=>rw[hB]at H;exact H.elim
    |true=>
     rw[hB]at H
     refine wp_region_quiet (C:=λw=>∃d h',Keep h.size h h'/\w=mk B d h') hm hB ⟨d+1,h,Keep.refl _ _,rfl⟩ ?_
     refine ztv B _ _ _ H hs λe' a' q1 q2 q3=>?_
     rintro w' ⟨d',h',hk,rfl⟩
     exact hQ _ _ _ _ q1.clean q2 (q3 h' hk)
   |false=>
   rw[hM]at H
   simp only[cond_false]at H
   cases hB:Region.lexTailB .any ops m with
   |false=>rw[hB]at H;exact H.elim
   |true=>
    rw[hB]at H
    have:=wp_region_still_tail (id:=id) (Q:=Q) (a:=a) (w:=mk B d h) (l:=ops.toList) m hm (by simpa using hB) (by
     simp only[Array.toArray_toList]
     refine ztw B (d+1) _ _ _ H hs λe' a' q1 q2 q3=>?_
     refine zal B _ _ _ _ (d+1) q3 q1 λab ae af ah q4 q5 q6=>hQ ab ae af ah q4 ?_ q6
     have aa:y8 ops.toList=y8 (ops.toList.take m)++y8 (ops.toList.drop m):=by rw[<-Zn,BQ]
     rw[aa]
     exact(q2.mono λx hx=>Ar _ hx).trans (q5.mono λx hx=>Ay _ hx))
    simpa using this
end
section
variable {n:Nat} {e:Env} {a:Act} {ms:List Nat} {P:Program} {h:za} {R:Value -> za -> Prop} {f:FuncId}
@[reducible] def zwc:List Atom->Type->Type
 |[],X=>X
 |t::l,X=>t.den->zwc l X
def qc3{X:Type}:(l:List Atom)->zwc l X->(List Value->X->Prop)->Prop
 |[],f,k=>k [] f
 |t::l,f,k=>∀x:t.den,qc3 l (f x) λvs y=>k (t.enc x::vs) y
def zoi{X:Type}:(l:List Atom)->List Value->zwc l X->Option X
 |[],[],f=>some f
 |t::l,v::vs,f=>match t.dec v with
  |some x=>zoi l vs (f x)
  |none=>none
 |_,_,_=>none
def mkC{X:Type}:(l:List Atom)->(List Value->X)->zwc l X
 |[],f=>f []
 |t::l,f=>λx=>mkC l λvs=>f (t.enc x::vs)
def zwd{X Y:Type}:(l:List Atom)->zwc l X->zwc l Y->zwc l (X×Y)
 |[],f,g=>(f,g)
 |_::l,f,g=>λx=>zwd l (f x) (g x)
theorem zha{X:Type}:∀{l:List Atom} {vs:List Value} {f:zwc l X} {x:X} {k:List Value->X->Prop},zoi l vs f=some x->qc3 l f k->k vs x
 |[],[],f,x,k,h,g=>by simp only[zoi,Ab]at h;subst h;exact g
 |[],_::_,f,x,k,h,g=>by simp[zoi]at h
 |_::_,[],f,x,k,h,g=>by simp[zoi]at h
 |t::l,v::vs,f,x,k,h,g=>by
  simp only[zoi]at h
  split at h
  ·rename_i y hy
   have:=zha h (g y)
   rw[Atom.enc_of_dec hy]at this
   exact this
  ·cases h
theorem zl0{X:Type}:∀{l:List Atom} {vs:List Value} {f:List Value->X} {x:X},zoi l vs (mkC l f)=some x->x=f vs
 |[],[],f,x,h=>by simp only[zoi,mkC,Ab]at h;exact h.symm
 |[],_::_,f,x,h=>by simp[zoi]at h
 |_::_,[],f,x,h=>by simp[zoi]at h
 |t::l,v::vs,f,x,h=>by
  simp only[zoi,mkC]at h
  split at h
  ·rename_i y hy
   have:=zl0 h
   rw[Atom.enc_of_dec hy]at this
   exact this
  ·cases h
theorem zl1{X:Type}:∀{l:List Atom} {f:List Value->X} {k:List Value->X->Prop},(∀vs,k vs (f vs))->qc3 l (mkC l f) k
 |[],_,_,h=>h []
 |_::_,_,_,h=>λ_=>zl1 λ_=>h _
abbrev Ann:=List (Nat×VT)
def wa:Ann->List Atom
 |[]=>[]
 |(_,.one t)::J=>t::wa J
 |(_,.agg l)::J=>l++wa J
def za1(σ:Nat->Option Value):Ann->Option (List Value)
 |[]=>some []
 |(i,.one _)::J=>match σ i,za1 σ J with
  |some v,some vs=>some (v::vs)
  |_,_=>none
 |(i,.agg l)::J=>match σ i,za1 σ J with
  |some (.agg cs),some vs=>bif Nat.beq cs.toList.length l.length then some (cs.toList++vs)else none
  |_,_=>none
def Yq:Ann->List Value->Env
 |[],_=>[]
 |(i,.one _)::J,v::vs=>(i,[],v)::Yq J vs
 |(_,.one _)::_,[]=>[]
 |(i,.agg l)::J,vs=>(i,[],.agg (vs.take l.length).toArray)::Yq J (vs.drop l.length)
def zru(e:Env)(i:Nat):Option Value:=match look e i with
 |some ([],v)=>some v
 |_=>none
theorem J6(h:Sat n e a){i:Nat}{v:Value}(hv:zru e i=some v):zo a i=v:=by
 unfold zru at hv
 split at hv
 ·rename_i u hl
  simp only[Ab]at hv
  subst hv
  exact(h.all _ (zaj hl)).1 trivial
 ·cases hv
theorem jm{n:Nat}{e:Env}{a:Act}(h:Sat n e a):∀{J:Ann} {vs:List Value},za1 (zru e) J=some vs->za1 (λi=>some (zo a i)) J=some vs
 |[],vs,hv=>hv
 |(i,.one t)::J,vs,hv=>by
  simp only[za1]at hv ⊢
  split at hv
  ·rename_i v us h1 h2
   simp only[jm h h2,J6 h h1]
   exact hv
  ·cases hv
 |(i,.agg l)::J,vs,hv=>by
  simp only[za1]at hv ⊢
  split at hv
  ·rename_i cs us h1 h2
   simp only[jm h h2,J6 h h1]
   exact hv
  ·cases hv
theorem Xp{σ:Nat->Value}:∀{J:Ann} {vs:List Value},za1 (λi=>some (σ i)) J=some vs->∀x∈Yq J vs,fact σ x
 |[],vs,_,x,hx=>by cases hx
 |(i,.one t)::J,vs,hv,x,hx=>by
  simp only[za1]at hv
  split at hv
  ·rename_i v us h1 h2
   simp only[Ab]at h1 hv
   subst hv
   simp only[Yq,Af]at hx
   rcases hx with rfl|hx
   ·exact⟨λ_=>h1,λhn=>absurd trivial hn⟩
   ·exact Xp h2 x hx
  ·cases hv
 |(i,.agg l)::J,vs,hv,x,hx=>by
  simp only[za1]at hv
  split at hv
  ·rename_i cs us h1 h2
   simp only[Ab]at h1
   cases hb:Nat.beq cs.toList.length l.length with
   |false=>rw[hb]at hv;cases hv
   |true=>
    rw[hb]at hv
    simp only[cond_true,Ab]at hv
    subst hv
    have Z:cs.toList.length=l.length:=Ah hb
    simp only[Yq,Af]at hx
    rcases hx with rfl|hx
    ·refine⟨λ_=>?_,λhn=>absurd trivial hn⟩
     simp only
     rw[h1,<-Z,CH]
    ·rw[<-Z,DD]at hx
     exact Xp h2 x hx
  ·cases hv
def Xq(ms:List Nat):Env->Env
 |[]=>[]
 |(i,[],v)::e=>bif memN ms i then Xq ms e else(i,[],v)::Xq ms e
 |(_,_::_,_)::e=>Xq ms e
theorem zyr{x:Nat×zz×Value}(h:x∈Xq ms e):x∈e/\x.2.1=[]/\x.1∉ms:=by
 induction e with
 |nil=>cases h
 |cons y e ih=>
  obtain⟨i,c,v⟩:=y
  cases c with
  |nil=>
   simp only[Xq]at h
   cases hm:memN ms i with
   |true=>rw[hm]at h;exact⟨Ae _ (ih h).1,(ih h).2⟩
   |false=>
    rw[hm]at h
    simp only[cond_false]at h
    rcases Af.1 h with rfl|h
    ·exact⟨Aj,rfl,Zi hm⟩
    ·exact⟨Ae _ (ih h).1,(ih h).2⟩
  |cons g c=>
   simp only[Xq]at h
   exact⟨Ae _ (ih h).1,(ih h).2⟩
theorem zc6{a a1:Act}(hs:Sat n e a)(hd:a1.defers=[])(hz:a1.tmps.size=n)(Z:Same ms a a1){J:Ann}{vs:List Value}
  (hv:za1 (λi=>some (zo a1 i)) J=some vs):Sat n (Yq J vs++Xq ms e) a1:=by
 refine⟨hd,hz,λx hx=>?_⟩
 rcases Aw.1 hx with hx|hx
 ·exact Xp hv x hx
 ·obtain⟨h1,h2,h3⟩:=zyr hx
  have hf:=hs.all x h1
  refine⟨λ_=>?_,λhn=>absurd (by rw[h2];trivial) hn⟩
  rw[Z _ h3]
  exact hf.1 (by rw[h2];trivial)
def jr:Code->Option Nat
 |.region id _ _=>some id
 |.seq a b=>match jr a with
  |some i=>some i
  |none=>jr b
 |.cond _ a b=>match jr a with
  |some i=>some i
  |none=>jr b
 |.block _ b=>jr b
 |.loop b=>jr b
 |_=>none
def Qg:Code->List Nat
 |.region _ ops _=>y8 ops.toList
 |.seq a b=>Qg a++Qg b
 |.cond _ a b=>Qg a++Qg b
 |.block _ b=>Qg b
 |.loop b=>Qg b
 |_=>[]
structure Plan where
 tails:List (Nat×Nat)
 loops:List (Nat×Ann)
 joins:List (Nat×Ann)
def qc4:List (Nat×Ann)->Nat->Option Ann
 |[],_=>none
 |(j,m)::l,i=>bif Nat.beq i j then some m else qc4 l i
def z4l(l:List (Nat×Ann)):Option Nat->Option Ann
 |some i=>qc4 l i
 |none=>none
abbrev zbl:=Exit->Env->za->Prop
def zrv(K:Env->za->Prop)(Q:zbl):zbl
 |.normal,e,h=>K e h
 |x,e,h=>Q x e h
def zhb(id:Nat)(Q:zbl):zbl
 |.exit i,e,h=>bif Nat.beq i id then Q .normal e h else Q (.exit i) e h
 |x,e,h=>Q x e h
def atC{X:Type}(J:Ann)(F:zwc (wa J) X)(e:Env)(k:X->Prop):Prop:=
 match za1 (zru e) J with
 |some vs=>match zoi (wa J) vs F with
  |some q=>k q
  |none=>False
 |none=>False
def qc5(J:Ann)(rest:Env->za->Prop)(F:(Env->za->Prop)->Prop)(e0:Env):Prop:=
 ∀K:zwc (wa J) (za->Prop),qc3 (wa J) K (λvs q=>∀h,rest (Yq J vs++e0) h->q h)->F λe h=>atC J K e λq=>q h
def qc6(J:Ann)(body:(Env->za->Prop)->Env->za->Prop)(e0 e:Env)(h:za):Prop:=
 ∃(I:zwc (wa J) (za->Prop)) (μ:zwc (wa J) (za->Nat)),(atC J (zwd (wa J) I μ) e λp=>p.1 h) /\
  qc3 (wa J) (zwd (wa J) I μ) λvs p=>∀h,p.1 h->body (λe' h'=>atC J (zwd (wa J) I μ) e' λq=>q.1 h'/\q.2 h'<p.2 h) (Yq J vs++e0) h
def W(P:Program)(n:Nat)(pl:Plan):Code->zbl->Env->za->Prop
 |.skip,Q,e,h=>Q .normal e h
 |.ret,Q,e,h=>Q .ret e h
 |.exit id,Q,e,h=>Q (.exit id) e h
 |.label _,Q,e,h=>Q .normal e h
 |.goto l,Q,e,h=>Q (.goto l) e h
 |.region id ops draw,Q,e,h=>regionF P n pl.tails id ops draw (λe h=>Q .normal e h) e h
 |.seq x y,Q,e,h=>match z4l pl.joins (jr y)with
  |none=>W P n pl x (zrv (λe h=>W P n pl y Q e h) Q) e h
  |some J=>qc5 J (λe h=>W P n pl y Q e h) (λK=>W P n pl x (zrv K Q) e h) (Xq (Qg x) e)
 |.cond c x y,Q,e,h=>match W9 e [] c with
  |some (.bool b)=>(b=true->W P n pl x Q e h)/\(b=false->W P n pl y Q e h)
  |_=>False
 |.block id x,Q,e,h=>W P n pl x (zhb id Q) e h
 |.loop x,Q,e,h=>match z4l pl.loops (jr x)with
  |some J=>qc6 J (λQn e h=>W P n pl x (zrv Qn Q) e h) (Xq (Qg x) e) e h
  |none=>False
 |_,_,_,_=>False
def qc7(n:Nat)(B:World)(ms:List Nat)(a0:Act)(Q:zbl):Exit->Act->World->Prop:=
 λx a w=>∃e d h,w=mk B d h/\Sat n e a/\Same ms a0 a/\Q x e h
theorem zeg{X:Type}{J:Ann}{F:zwc (wa J) X}{k:X->Prop}(h:atC J F e k):∃vs q,za1 (zru e) J=some vs/\zoi (wa J) vs F=some q/\k q:=by
 unfold atC at h
 split at h
 ·rename_i vs hv
  split at h
  ·rename_i q hq
   exact⟨vs,q,hv,hq,h⟩
  ·exact h.elim
 ·exact h.elim
theorem z9v(hm:P.follows .mixedOrders=true){pl:Plan}:∀(c:Code) (Q:zbl) (e:Env) (h:za),W P n pl c Q e h ->
  ∀(B:World) (d:Nat) (a:Act),Sat n e a->c.wp P (qc7 n B (Qg c) a Q) a (mk B d h):=by
 intro c
 induction c with
 |skip=>exact λQ e h H B d a hs=>wp_skip ⟨e,d,h,rfl,hs,Same.refl _ _,H⟩
 |ret=>exact λQ e h H B d a hs=>wp_ret ⟨e,d,h,rfl,hs,Same.refl _ _,H⟩
 |exit id=>exact λQ e h H B d a hs=>wp_exit ⟨e,d,h,rfl,hs,Same.refl _ _,H⟩
 |label l=>exact λQ e h H B d a hs=>wp_label ⟨e,d,h,rfl,hs,Same.refl _ _,H⟩
 |goto l=>exact λQ e h H B d a hs=>wp_goto ⟨e,d,h,rfl,hs,Same.refl _ _,H⟩
 |region id ops aB=>
  exact λQ e h H B d a hs=>zc5 hm H B d hs λe' a' d' h' q1 q2 q3=>⟨e',d',h',rfl,q1,q2,q3⟩
 |seq x y aa ab=>
  intro Q e h H B d a hs
  simp only[W]at H
  have hl:∀i∈Qg x,i∈Qg (x.seq y):=λi hi=>Ar _ hi
  have hr:∀i∈Qg y,i∈Qg (x.seq y):=λi hi=>Ay _ hi
  split at H
  ·refine wp_seq (wp_mono (aa _ _ _ H B d a hs) ?_)
   rintro ex a1 w1 ⟨e1,d1,h1,rfl,s1,m1,q1⟩
   cases ex with
   |normal=>
    refine wp_mono (ab _ _ _ q1 B d1 a1 s1) ?_
    rintro ex a2 w2 ⟨e2,d2,h2,rfl,s2,m2,q2⟩
    exact⟨e2,d2,h2,rfl,s2,(m1.mono hl).trans (m2.mono hr),q2⟩
   |_=>exact⟨e1,d1,h1,rfl,s1,m1.mono hl,q1⟩
  ·rename_i J hJ
   have H':=H (mkC (wa J) λvs=>λh=>W P n pl y Q (Yq J vs++Xq (Qg x) e) h) (zl1 λvs h hq=>hq)
   refine wp_seq (wp_mono (aa _ _ _ H' B d a hs) ?_)
   rintro ex a1 w1 ⟨e1,d1,h1,rfl,s1,m1,q1⟩
   cases ex with
   |normal=>
    obtain⟨vs,q,hv,hq,hk⟩:=zeg q1
    have aj:=zl0 hq
    subst aj
    have ap:Sat n (Yq J vs++Xq (Qg x) e) a1:=zc6 hs s1.defers s1.size m1 (jm s1 hv)
    refine wp_mono (ab _ _ _ hk B d1 a1 ap) ?_
    rintro ex a2 w2 ⟨e2,d2,h2,rfl,s2,m2,q2⟩
    exact⟨e2,d2,h2,rfl,s2,(m1.mono hl).trans (m2.mono hr),q2⟩
   |_=>exact⟨e1,d1,h1,rfl,s1,m1.mono hl,q1⟩
 |cond c x y aa ab=>
  intro Q e h H B d a hs
  simp only[W]at H
  have hl:∀i∈Qg x,i∈Qg (Ej c x y):=λi hi=>Ar _ hi
  have hr:∀i∈Qg y,i∈Qg (Ej c x y):=λi hi=>Ay _ hi
  split at H
  ·rename_i b hb
   refine wp_cond_split (qu hs (c:=[]) trivial hb) (λay=>?_) (λau=>?_)
   ·refine wp_mono (aa _ _ _ (H.1 ay) B d a hs) ?_
    rintro ex a2 w2 ⟨e2,d2,h2,rfl,s2,m2,q2⟩
    exact⟨e2,d2,h2,rfl,s2,m2.mono hl,q2⟩
   ·refine wp_mono (ab _ _ _ (H.2 au) B d a hs) ?_
    rintro ex a2 w2 ⟨e2,d2,h2,rfl,s2,m2,q2⟩
    exact⟨e2,d2,h2,rfl,s2,m2.mono hr,q2⟩
  ·exact H.elim
 |block id x ih=>
  intro Q e h H B d a hs
  refine wp_block (wp_mono (ih _ _ _ H B d a hs) ?_)
  rintro ex a1 w1 ⟨e1,d1,h1,rfl,s1,m1,q1⟩
  cases ex with
  |exit i=>
   simp only[zhb]at q1
   simp only[Exit.inBlock]
   by_cases hb:Nat.beq i id=true
   ·rw[if_pos (Ah hb)]
    simp only[hb,cond_true]at q1
    exact⟨e1,d1,h1,rfl,s1,m1,q1⟩
   ·rw[if_neg (λhe=>hb (by rw[he];simp))]
    simp only[hb,cond_false]at q1
    exact⟨e1,d1,h1,rfl,s1,m1,q1⟩
  |_=>exact⟨e1,d1,h1,rfl,s1,m1,q1⟩
 |loop x ih=>
  intro Q e h H B d a hs
  simp only[W]at H
  split at H
  ·rename_i J hJ
   obtain⟨I,μ,h0,ae⟩:=H
   obtain⟨ar,p0,ak,az,ax⟩:=zeg h0
   let F:=zwd (wa J) I μ
   let at_:Act->Option ((za->Prop)×(za->Nat)):=λa1=>(za1 (λi=>some (zo a1 i)) J).bind λvs=>zoi (wa J) vs F
   refine wp_loop (λa1 w1=>∃d1 h1 vs p,w1=mk B d1 h1/\a1.defers=[]/\a1.tmps.size=n/\Same (Qg x) a a1/\za1 (λi=>some (zo a1 i)) J=some vs/\zoi (wa J) vs F=some p/\p.1 h1)
    (λa1 w1=>match at_ a1 with|some p=>p.2 w1.heap|none=>0) ⟨d,h,ar,p0,rfl,hs.defers,hs.size,Same.refl _ _,jm hs ak,az,ax⟩ ?_
   rintro a1 w1 ⟨d1,h1,vs,p,rfl,ah,an,Z,hv,hp,hI⟩
   have s1:Sat n (Yq J vs++Xq (Qg x) e) a1:=zc6 hs ah an Z hv
   have hb:=zha hp ae h1 hI
   refine wp_mono (ih _ _ _ hb B d1 a1 s1) ?_
   rintro ex a2 w2 ⟨e2,d2,h2,rfl,s2,m2,q2⟩
   cases ex with
   |normal=>
    obtain⟨aA,q,af,hq,am,ai⟩:=zeg q2
    refine⟨⟨d2,h2,aA,q,rfl,s2.defers,s2.size,Z.trans m2,jm s2 af,hq,am⟩,?_⟩
    have e1:at_ a1=some p:=by simp only[at_,hv,CP];exact hp
    have e2:at_ a2=some q:=by simp only[at_,jm s2 af,CP];exact hq
    rw[e1,e2]
    exact ai
   |_=>exact⟨e2,d2,h2,rfl,s2,Z.trans m2,q2⟩
  ·exact H.elim
 |_=>exact λQ e h H=>H.elim
def zys:Nat->List Value->Env
 |_,[]=>[]
 |i,v::vs=>(i,[],v)::zys (i+1) vs
def zyt(P:Program)(h:za)(e:Env):List ResultVar->(List Value->Prop)->Prop
 |[],K=>K []
 |.tmp t::l,K=>match zru e t with
  |some v=>zyt P h e l λvs=>K (v::vs)
  |none=>False
 |.cell a t::l,K=>match zru e a with
  |some p=>zn4 P h t p none λv=>zyt P h e l λvs=>K (v::vs)
  |none=>False
def zhc:List Value->Value
 |[v]=>v
 |vs=>.tuple vs.toArray
def qfm(P:Program)(rs:List ResultVar)(R:Value->za->Prop):zbl
 |.normal,e,h=>zyt P h e rs λvs=>R (zhc vs) h
 |.ret,e,h=>zyt P h e rs λvs=>R (zhc vs) h
 |_,_,_=>False
def zhd(tmps:Array Value):ResultVar->Sem Value
 |.tmp t=>pure (tmps.getD t undef)
 |.cell a t=>do loadVar t (<-asAddr (tmps.getD a undef))
theorem zeh{P:Program}{n:Nat}{h:za}{e:Env}{a:Act}(hs:Sat n e a):∀{l:List ResultVar} {K:List Value->Prop},zyt P h e l K->∃vs,K vs/\vs.length=l.length/\QExec P (l.mapM (zhd a.tmps)) h vs
 |[],K,H=>⟨[],H,rfl,λ_ _=>by simp⟩
 |.tmp t::l,K,H=>by
  simp only[zyt]at H
  split at H
  ·rename_i v hv
   obtain⟨vs,h1,h2,h3⟩:=zeh hs H
   refine⟨v::vs,h1,by simp[h2],?_⟩
   rw[Ef]
   refine QExec.bind (x:=v) ?_ (h3.bind (QExec.pure _))
   rw[<-J6 hs hv]
   exact QExec.pure _
  ·exact H.elim
 |.cell x t::l,K,H=>by
  simp only[zyt]at H
  split at H
  ·rename_i p hp
   obtain⟨v,hK,hq⟩:=zgu H
   obtain⟨vs,h1,h2,h3⟩:=zeh hs hK
   refine⟨v::vs,h1,by simp[h2],?_⟩
   rw[Ef]
   refine QExec.bind (x:=v) ?_ (h3.bind (QExec.pure _))
   have hx:a.tmps.getD x undef=p:=J6 hs hp
   simp only[zhd,hx]
   have Z:=hq trivial
   unfold DJ at Z
   unfold zn4 at H
   split at H
   ·exact Z
   ·exact Z
   ·exact H.elim
  ·exact H.elim
theorem Qx{fn:Func}(hs:Sat n e a){rs:List ResultVar}(hr:fn.results.toList=rs)(H:zyt P h e rs λvs=>R (zhc vs) h):
  ∃v,R v h/\QExec P (results fn a.tmps) h v:=by
 obtain⟨vs,h1,h2,h3⟩:=zeh hs H
 refine⟨_,h1,?_⟩
 intro B d
 have e0:results fn a.tmps=(fn.results.mapM (zhd a.tmps) >>= λvs=>Dc (if h:vs.size=1 then vs[0]else .tuple vs)):=by
  unfold results
  congr 1
 rw[e0,Array.mapM_eq_mapM_toList,hr,Sem.run_bind,Sem.run_map,h3 B d]
 simp only[Result.andThen_ok,Sem.run_pure]
 match vs,h2 with
 |[],_=>rfl
 |[v],_=>rfl
 |v::u::vs,_=>simp[zhc]
theorem zap(args:Array Value)(k:Nat):∀(vs:List Value) (i:Nat),(∀j v,vs[j]?=some v->(args++Bn k undef).getD (i+j) undef=v) ->
  ∀x∈zys i vs,fact (λi=>(args++Bn k undef).getD i undef) x
 |[],_,_,x,hx=>by cases hx
 |v::vs,i,h,x,hx=>by
  simp only[zys,Af]at hx
  rcases hx with rfl|hx
  ·exact⟨λ_=>h 0 v rfl,λhn=>absurd trivial hn⟩
  ·exact zap args k vs (i+1) (λj u hj=>by have:=h (j+1) u (by simpa using hj);rwa[show i+(j+1)=i+1+j by omega]at this) x hx
theorem z9w(hm:P.follows .mixedOrders=true){fn:Func}{c:Code}(pl:Plan)(vs:List Value){rs:List ResultVar}(hf:P.funcs[f]?=some fn)(hb:fn.body=some c)(hr:fn.results.toList=rs)(hn:fn.ntmps=n)
  (hz:Nat.ble vs.length n=true) (H:W P n pl c (qfm P rs R) (zys 0 vs) h):XC P f vs.toArray h R:=by
 intro B d
 subst hn
 refine calls_of_wp hf hb ?_
 have aa:vs.length<=fn.ntmps:=BR hz
 have hs:Sat fn.ntmps (zys 0 vs) { tmps:=vs.toArray++Bn (fn.ntmps-vs.toArray.size) undef,defers:=[] }:=by
  refine⟨rfl,by simp;omega,?_⟩
  refine zap vs.toArray _ vs 0 λj v hj=>?_
  have Z:j<vs.length:=by
   rcases A1 j vs.length with h|h
   ·exact h
   ·rw[BS h]at hj;cases hj
  simp only[AK,BB]
  rw[CI (by simpa using Z)]
  simp[hj]
 refine wp_mono (z9v hm c _ _ _ H B d _ hs) ?_
 rintro ex a w ⟨e1,d1,h1,rfl,s1,m1,q1⟩
 cases ex with
 |normal=>
  obtain⟨v,hv,hq⟩:=Qx s1 hr q1
  exact⟨s1.defers,v,hq B d1,v,d1,h1,rfl,rfl,hv⟩
 |ret=>
  obtain⟨v,hv,hq⟩:=Qx s1 hr q1
  exact⟨s1.defers,v,hq B d1,v,d1,h1,rfl,rfl,hv⟩
 |_=>exact q1.elim
def codeOf(fn:Func):Code:=match fn.body with
 |some c=>c
 |none=>.skip
def Qy(fn:Func):Bool:=match fn.body with
 |some _=>true
 |none=>false
theorem zwe(hm:P.follows .mixedOrders=true)(pl:Plan)(vs:List Value){fn:Func}{rs:List ResultVar}(hf:P.funcs[f]?=some fn)(hb:Qy fn=true)(hr:fn.results.toList=rs)(hn:fn.ntmps=n)
  (hz:Nat.ble vs.length n=true) (H:W P n pl (codeOf fn) (qfm P rs R) (zys 0 vs) h):XC P f vs.toArray h R:=by
 have Z:fn.body=some (codeOf fn):=by
  unfold Qy at hb
  unfold codeOf
  split at hb
  ·rename_i c hc;rw[hc]
  ·cases hb
 exact z9w hm pl vs hf Z hr hn hz H
end
section
variable {n:Nat} {h h':za} {e t ty:TypeId} {s:Sl} {xs news:List Value} {P:Program} {z:Value}
theorem yb(h:za)(o:Obj):(h.push o)[h.size]?=some o:=by simp
def Arr(n:Nat)(h:za)(a:Option Addr)(cs:List Value):Prop:=
 cs=[]\/∃b o,a=some ⟨b,o,none⟩/\b<n/\∀i v,cs[i]?=some v->zc h ⟨b,o+i,none⟩=some v
theorem zu(b o i:Nat):(⟨b,o,none⟩:Addr).add i=⟨b,o+i,none⟩:=by
 unfold Ai
 split
 ·rename_i h;rw[h];rfl
 ·rfl
theorem wrap64{n:Int}(h1:-9223372036854775808<=n)(h2:n<=9223372036854775807):Aa .i64 n=n:=by
 unfold Aa
 have e:(2:Int) ^ Ak .i64=18446744073709551616:=by decide
 have e':(2:Int) ^ (Ak .i64-1)=9223372036854775808:=by decide
 simp only[e,e']
 have hs:Dj .i64=true:=rfl
 simp only[hs,BZ,decide_eq_true_eq]
 split <;> omega
theorem zyu{k:Nat}(h:k<9223372036854775807):Aa .i64 ((k:Int)+1)=((k+1:Nat):Int):=by
 rw[wrap64 (by omega) (by omega)];omega
def Owns(h:za)(base:Nat)(e:TypeId)(sz:Nat)(s:Sl)(xs:List Value):Prop:=
 (mk default 0 h).ownsRow base e sz (.slice s.a s.len s.cap) s.len xs
theorem Owns.nil(h:za)(base:Nat)(e:TypeId)(sz:Nat):Owns h base e sz ⟨none,0,0⟩ []:=World.ownsRow_nil _ _ _ _
theorem Owns.length{base:Nat}{sz:Nat}(H:Owns h base e sz s xs):xs.length=s.len*sz:=H.1
theorem Owns.arr{base:Nat}{sz:Nat}(H:Owns h base e sz s xs):Arr h.size h s.a xs:=by
 rcases H.2 with⟨hv,h0⟩|⟨g,cap,ab,hv,hb,hg,ae,hm,af,ht⟩
 ·have hl:=H.1
  rw[h0]at hl
  exact .inl (by simpa using hl)
 ·simp only[AX]at hv
  have aa:g<h.size:=(Ad.1 hg).1
  refine .inr ⟨g,0,hv.1,aa,λi v hi=>?_⟩
  have Z:h[g]?=some (.cells ab e (0,0)):=hg
  unfold zc
  simp only[Z,AK,Option.isSome_none,A5,if_false]
  rw[<-ht,AL]at hi
  split at hi
  ·simpa using hi
  ·cases hi
theorem Owns.base_le{base:Nat}{sz:Nat}(H:Owns h base e sz s xs):∀p,s.a=some p->base<=p.block/\p.block<h.size:=by
 intro p hp
 exact World.ownsRow.lt H p.block (by simp[Value.ownBlock,hp])
theorem Owns.keep{base:Nat}{sz:Nat}(H:Owns h base e sz s xs)(k:∀p,s.a=some p->h'[p.block]?=h[p.block]?):Owns h' base e sz s xs:=by
 refine⟨H.1,?_⟩
 rcases H.2 with hn|⟨g,cap,Z,hv,hb,hg,rest⟩
 ·exact .inl hn
 ·simp only[AX]at hv
  refine .inr ⟨g,cap,Z,by simp[hv],hb,?_,rest⟩
  have:=k _ hv.1
  exact this.trans hg
theorem Owns.keepN{base:Nat}{sz:Nat}(H:Owns h base e sz s xs)(k:Keep h.size h h'):Owns h' base e sz s xs:=
 H.keep λp hp=>k.get _ (H.base_le p hp).2
structure ElemT (P:Program) (t e:TypeId) (z:Value) (sz bytes:Nat):Prop where
 slice:P.underlying t=some (.slice e)
 info:∃i,P.info? e=some i/\i.zero=some z/\i.size=sz/\i.bytes=bytes
 zero:z.cells.size=sz
 pos:0<sz
theorem zfh{w:World}{i:TypeInfo}{sz bytes base:Nat}(ht:P.underlying t=some (.slice e))(hi:P.info? e=some i)(hz:i.zero=some z)(ak:i.size=sz)(am:i.bytes=bytes)
  {v:Value} (af:w.ownsRow base e sz v n xs) {a:Addr} {m c:Nat} (hl:news.length=m*sz) (aa:∀j u,news[j]?=some u->w.cell? (a.add j)=some u) (h1:∀u∈news,u.oneCell'=true)
  (au:n+m<=4611686018427387904) (ab:(n+m)*bytes<=140737488355328) {v':Value} {w':World} (r1:(AB #[t,t] ty #[v,.slice (some a) m c]).run P w=.ok v' w'):
  ∀p' l c',v'=.slice (some p') l c'->(∃p l0 c0,v=.slice (some p) l0 c0/\p'.block=p.block)\/p'.block=w.heap.size:=by
 subst ak am
 intro p' l c' Z
 rcases af.2 with⟨rfl,rfl⟩|⟨g,cap,aj,rfl,ar,hg,ax,ay,an,ap⟩
 ·by_cases hm:m=0
  ·subst hm
   have hn:news=[]:=AO (by simpa using hl)
   subst hn
   have hr:(AB #[t,t] ty #[.slice none 0 0,.slice (some a) 0 c]).run P w=.ok (.slice none 0 0) w:=by
    simp[AB,run_underlying ht,sizeOf,typeInfo,hi,Builtin.lenOf,CQ,loadCells,loadCellsFrom]
   rw[hr]at r1
   simp only[Er]at r1
   rw[<-r1.1]at Z;cases Z
  ·have hr:=run_append_nil (P:=P) (ty:=ty) w t e i z ht hi hz a m c news hl aa (by omega) (by omega) (by have hb:=ab;simp only[AK]at hb;omega)
   rw[hr]at r1
   simp only[Er]at r1
   rw[<-r1.1]at Z
   simp only[AX,Ab]at Z
   exact .inr (by rw[<-Z.1])
 ·by_cases ae:n+m<=cap
  ·have ai:n*i.size+news.length<=aj.size:=by rw[hl,an,<-BU];exact AP _ ae
   have hr:=run_append_room (P:=P) (ty:=ty) w t e i ht hi g n cap aj hg a m c news hl aa h1 ae ai
   rw[hr]at r1
   simp only[Er]at r1
   rw[<-r1.1]at Z
   simp only[AX,Ab]at Z
   exact .inl ⟨_,_,_,rfl,by rw[<-Z.1]⟩
  ·have ah:∀j u,xs[j]?=some u->w.cell? ((⟨g,0,none⟩:Addr).add j)=some u:=af.cells (g:=g) rfl
   have hr:=run_append_grow (P:=P) (ty:=ty) w t e i z ht hi hz ⟨g,0,none⟩ n cap xs af.1 ah a m c news hl aa (by omega) (by omega) (growslice_fits (by omega) ab)
   rw[hr]at r1
   simp only[Er]at r1
   rw[<-r1.1]at Z
   simp only[AX,Ab]at Z
   exact .inr (by rw[<-Z.1])
theorem zei{sz bytes:Nat}(T:ElemT P t e z sz bytes){base:Nat}(H:Owns h base e sz s xs)
  {src:Sl} (hs:Arr n h src.a news) (hl:news.length=src.len*sz) (h1:∀u∈news,u.oneCell'=true)
  (Z:(s.len+src.len)*bytes<=140737488355328) (af:s.len+src.len<=4611686018427387904) (ae:base<=h.size) {K:Value->za->Prop}
  (hK:∀(s':Sl) (h':za),s'.len=s.len+src.len->Owns h' base e sz s' (xs++news)->(∀i,i<h.size->(∀p,s.a=some p->i≠p.block)->h'[i]?=h[i]?)->h.size<=h'.size->(∀p',s'.a=some p'->(∃p,s.a=some p/\p'.block=p.block)\/p'.block=h.size)->K (.slice s'.a s'.len s'.cap) h'):
  Z5 P (AB #[t,t] ty #[.slice s.a s.len s.cap,.slice src.a src.len src.cap]) h K:=by
 intro B d
 obtain⟨i,hi,hz,ah,ai⟩:=T.info
 have key:∃v' w',(AB #[t,t] ty #[.slice s.a s.len s.cap,.slice src.a src.len src.cap]).run P (mk B d h)=.ok v' w'/\w'.ownsRow base e sz v' (s.len+src.len) (xs++news)/\(mk B d h).grownBy w' (Value.ownBlock (.slice s.a s.len s.cap)) /\
   ∀p' l c',v'=.slice (some p') l c'->(∃p,s.a=some p/\p'.block=p.block)\/p'.block=h.size:=by
  have aa:(mk B d h).ownsRow base e sz (.slice s.a s.len s.cap) s.len xs:=H
  rcases hs with e0|⟨b,o,e0,hb,hc⟩
  ·subst e0
   have h0:src.len=0:=by
    rcases Do src.len with h0|h0
    ·exact h0
    ·have:=Nat.mul_pos h0 T.pos;simp at hl;omega
   rw[h0]
   have ha:∃q,q=src.a:=⟨_,rfl⟩
   obtain⟨q,hq⟩:=ha
   rw[<-hq]
   cases q with
   |none=>
    refine⟨_,mk B d h,?_,by simpa using aa,⟨rfl,rfl,rfl,Ac _,λ_ _ _=>rfl⟩,λp' l c' ab=>.inl ⟨p',by simp only[AX]at ab;exact ab.1,rfl⟩⟩
    have hT:=T.slice
    have an:s.len<=s.cap:=by
     rcases aa.2 with⟨e1,e2⟩|⟨g,cap,am,e1,_,_,au,_⟩
     ·omega
     ·simp only[AX]at e1;omega
    generalize s.a=sa at *
    cases sa <;> simp[AB,run_underlying hT,sizeOf,typeInfo,hi,Builtin.lenOf,CQ,an,storeCells]
   |some p=>
    obtain⟨v',w',r1,r2,r3,_⟩:=run_append_own (P:=P) (w:=mk B d h) base t ty e i z sz bytes T.slice hi hz ah ai T.zero T.pos (.slice s.a s.len s.cap) s.len xs aa p 0 src.cap [] (by simp) (by simp) (by simp) (by unfold maxLen;omega) (by rw[h0]at Z;exact Z) ae
    refine⟨v',w',r1,r2,r3,λp' l c' ab=>?_⟩
    rcases zfh T.slice hi hz ah ai aa (news:=[]) (by simp) (by simp) (by simp) (by rw[h0]at af;exact af) (by rw[h0]at Z;exact Z) r1 p' l c' ab with⟨q,l0,c0,hq,hb⟩|hb
    ·simp only[AX]at hq;exact .inl ⟨q,hq.1,hb⟩
    ·exact .inr hb
  ·rw[e0]
   obtain⟨v',w',r1,r2,r3,_⟩:=run_append_own (P:=P) (w:=mk B d h) base t ty e i z sz bytes T.slice hi hz ah ai T.zero T.pos (.slice s.a s.len s.cap) s.len xs aa ⟨b,o,none⟩ src.len src.cap news hl
    (λj u hu=>by rw[zu];exact hc j u hu) h1 (by unfold maxLen;omega) Z ae
   refine⟨v',w',r1,r2,r3,λp' l c' ab=>?_⟩
   rcases zfh T.slice hi hz ah ai aa hl (λj u hu=>by rw[zu];exact hc j u hu) h1 af Z r1 p' l c' ab with⟨q,l0,c0,hq,ak⟩|ak
   ·simp only[AX]at hq;exact .inl ⟨q,hq.1,ak⟩
   ·exact .inr ak
 obtain⟨v',w',r1,r2,r3,r4⟩:=key
 have hw:w'=mk B w'.drawn w'.heap:=by
  have e1:=r3.os;have e2:=r3.tape;have e3:=r3.output
  cases w';simp only[mk]at *;subst e1;subst e2;subst e3;rfl
 rw[hw]at r1
 have hv:∃s':Sl,v'=.slice s'.a s'.len s'.cap/\s'.len=s.len+src.len:=by
  rcases r2.2 with⟨e1,e2⟩|⟨g,cap,am,e1,_⟩
  ·exact⟨⟨none,0,0⟩,e1,e2.symm⟩
  ·exact⟨⟨some ⟨g,0,none⟩,s.len+src.len,cap⟩,e1,rfl⟩
 obtain⟨s',rfl,aj⟩:=hv
 refine⟨_,_,_,r1,hK s' w'.heap aj ?_ ?_ r3.size λp' ap=>r4 p' s'.len s'.cap (by rw[ap])⟩
 ·rw[<-aj]at r2;exact r2
 ·intro j hj ar
  refine r3.block j hj λhe=>?_
  cases ha:s.a with
  |none=>rw[ha]at he;cases he
  |some p=>
   rw[ha]at he
   simp only[Value.ownBlock,Ab]at he
   exact ar p ha he
end
section
variable {h:za} {m:Nat} {P:Program} {kt t et:TypeId} {z:Value}
def zi8(l:List (Bt×Value))(k:Bt):Option Value:=match l with
 |[]=>none
 |p::l=>if p.1=k then some p.2 else zi8 l k
def zyv(l:List (Bt×Value))(k:Bt)(v:Value):List (Bt×Value):=match l with
 |[]=>[(k,v)]
 |p::l=>if p.1=k then(k,v)::l else p::zyv l k v
theorem zoj(l:List (Bt×Value))(k k':Bt)(v:Value):zi8 (zyv l k v) k'=if k=k' then some v else zi8 l k':=by
 induction l with
 |nil=>simp[zyv,zi8]
 |cons p l ih=>
  simp only[zyv]
  split
  ·rename_i h
   simp only[zi8]
   split <;> rename_i h2
   ·rfl
   ·rw[h];simp[h2]
  ·rename_i h
   simp only[zi8,ih]
   split <;> rename_i h2
   ·rw[if_neg (λe=>h (h2.trans e.symm))]
   ·rfl
def MapAt(h:za)(m:Nat)(l:List (Bt×Value)):Prop:=∃es Z,h[m]?=some (.map es Z)/\es.toList.map (λe=>(e.key,e.val))=l.map λp=>(Bl p.1,p.2)
theorem MapAt.keep{h h':za}{l:List (Bt×Value)}(H:MapAt h m l)(k:h'[m]?=h[m]?):MapAt h' m l:=by
 obtain⟨es,c,h1,h2⟩:=H;exact⟨es,c,k.trans h1,h2⟩
theorem MapAt.lt{l:List (Bt×Value)}(H:MapAt h m l):m<h.size:=by
 obtain⟨es,c,h1,h2⟩:=H;exact(Ad.1 h1).1
theorem MapAt.new(h:za):MapAt (h.push (.map #[] 0)) h.size []:=⟨#[],0,yb _ _,rfl⟩
structure MapT (P:Program) (t kt et:TypeId) (z:Value):Prop where
 map:P.underlying t=some (.map kt et)
 key:P.underlying kt=some .string
 zero:∃i,P.info? et=some i/\i.zero=some z
theorem zkj(a b:Bt):(a==b)=decide (a=b):=by
 show ByteArray.beq a b=_
 cases a;cases b
 rw[AJ]
 simp[ByteArray.beq]
instance lawfulBA:LawfulBEq Bt where
 eq_of_beq:=λ {a b} h=>by rw[zkj]at h;simpa using h
 rfl:=λ {a}=>by rw[zkj];simp
theorem J7(k:Bt):∀(es:List MapEntry) (l:List (Bt×Value)) (i:Nat),es.map (λe=>(e.key,e.val))=l.map (λp=>(Bl p.1,p.2)) ->
  (zi8 l k=none/\D3 .string (.string k) es i=some none)\/(∃j v e,zi8 l k=some v/\es[j]?=some e/\e.key=.string k/\e.val=v/\D3 .string (.string k) es i=some (some (i+j,v)) /\
   ∀w,(es.modify j λe=>{ e with key:=.string k,val:=w }).map (λe=>(e.key,e.val))=(zyv l k w).map λp=>(Bl p.1,p.2))
 |[],l,i,h=>by
  have:l=[]:=by cases l <;> simp_all
  subst this
  exact .inl ⟨rfl,rfl⟩
 |e::es,l,i,h=>by
  cases l with
  |nil=>simp at h
  |cons p l=>
   simp only[Az,BM,Be]at h
   obtain⟨⟨h1,h2⟩,h3⟩:=h
   by_cases hk:p.1=k
   ·refine .inr ⟨0,p.2,e,by simp[zi8,hk],rfl,by rw[h1,hk],h2,?_,λw=>?_⟩
    ·have Z:(k==p.1)=true:=by rw[zkj];simpa using hk.symm
     simp[D3,Instr.sameNow,h1,h2,Z]
    ·simp[zyv,hk,h3]
   ·have Z:(k==p.1)=false:=by rw[zkj];simpa using λe=>hk e.symm
    rcases J7 k es l (i+1) h3 with⟨g1,g2⟩|⟨j,v,e',g1,g2,g3,g4,g5,g6⟩
    ·refine .inl ⟨by simp[zi8,hk,g1],?_⟩
     simp[D3,Instr.sameNow,h1,Z,g2]
    ·refine .inr ⟨j+1,v,e',by simp[zi8,hk,g1],by simpa using g2,g3,g4,?_,λw=>?_⟩
     ·simp[D3,Instr.sameNow,h1,Z,g5];omega
     ·simp[zyv,hk,h1,h2,g6 w]
theorem Xr(hk:P.underlying kt=some .string)(b:Bool)(k:Bt)(h:za):QExec P (Instr.checkKey b 10000 kt (.string k)) h ():=by
 intro B d
 have hq:=QExec.underlying (h:=h) hk B d
 unfold Instr.checkKey
 rw[Sem.run_bind,hq]
 rfl
theorem Zo(hk:P.underlying kt=some .string)(k:Bt)(es:List MapEntry)(r:Option (Nat×Value))(h:za)(hf:D3 .string (.string k) es 0=some r):
  QExec P (Instr.findKey kt (.string k) es) h r:=by
 intro B d
 have hq:=QExec.underlying (h:=h) hk B d
 unfold Instr.findKey
 rw[Sem.run_bind,hq]
 simp only[Result.andThen_ok,hf]
 rfl
theorem zaq{es:Array MapEntry}{c:Nat}(hm:h[m]?=some (.map es c)):QExec P (getObj m) h (.map es c):=by
 intro B d
 have:(mk B d h).heap[m]?=some (.map es c):=hm
 simp[getObj,Sem.run,this]
theorem z4m(hz:∃i,P.info? t=some i/\i.zero=some z):QExec P (zeroValue t) h z:=by
 obtain⟨i,h1,h2⟩:=hz
 intro B d
 simp[zeroValue,typeInfo,program,h1,h2,Sem.run]
def zyw(l:List (Bt×Value))(k:Bt)(z:Value):Value:=(zi8 l k).getD z
theorem zbm(T:MapT P t kt et z){l:List (Bt×Value)}(H:MapAt h m l)(k:Bt)(ok:Bool):
  QExec P (Ed t (.map (some m)) (.string k) ok) h (if ok then .tuple #[zyw l k z,.bool (zi8 l k).isSome]else zyw l k z):=by
 obtain⟨es,c,h1,h2⟩:=H
 intro B d
 have hu:=QExec.underlying (h:=h) T.map B d
 have hg:=zaq (P:=P) h1 B d
 have hc:=Xr T.key es.isEmpty k h B d
 unfold Ed
 rw[Sem.run_bind,hu]
 simp only[Result.andThen_ok,Sem.run_bind,hg,Sem.run_pure,hc]
 rcases J7 k es.toList l 0 h2 with⟨g1,g2⟩|⟨j,v,e,g1,g2,g3,g4,g5,_⟩
 ·rw[Zo T.key k es.toList none h g2 B d]
  have hz:=z4m (h:=h) T.zero B d
  simp only[Result.andThen_ok,Sem.run_bind,hz,Sem.run_pure,zyw,g1]
  cases ok <;> rfl
 ·rw[Zo T.key k es.toList _ h g5 B d]
  simp only[Result.andThen_ok,zyw,g1]
  cases ok <;> rfl
theorem zbn{l:List (Bt×Value)}{k:Bt}{v:Value}(g:zi8 l k=none):zyv l k v=l++[(k,v)]:=by
 induction l with
 |nil=>rfl
 |cons p l ih=>
  simp only[zi8]at g
  split at g
  ·cases g
  ·rename_i hp
   simp[zyv,hp,ih g]
theorem zok(T:MapT P t kt et z){l:List (Bt×Value)}(H:MapAt h m l)(k:Bt)(v:Value){K:za->Prop}
  (hK:∀h':za,MapAt h' m (zyv l k v)->h'.size=h.size->(∀i,i≠m->h'[i]?=h[i]?)->K h'):zk P (CN t (.map (some m)) (.string k) v) h K:=by
 have ab:=H.lt
 obtain⟨es,c,h1,h2⟩:=H
 intro B d
 have hu:=QExec.underlying (h:=h) T.map B d
 have hg:=zaq (P:=P) h1 B d
 have hc:=Xr T.key false k h B d
 have Z:∀o:Obj,(setObj m o).run P (mk B d h)=.ok () (mk B d (h.setIfInBounds m o)):=by
  intro o
  have:(mk B d h).heap[m]?=some (.map es c):=h1
  simp[setObj,Sem.run,this]
  rfl
 unfold CN
 rcases J7 k es.toList l 0 h2 with⟨g1,g2⟩|⟨j,v0,e,g1,g2,g3,g4,g5,g6⟩
 ·refine⟨d,h.setIfInBounds m (.map (es.push { key:=.string k,val:=v,born:=c }) (c+1)),?_,hK _ ⟨es.push { key:=.string k,val:=v,born:=c },c+1,by simp[ab],?_⟩ (by simp) (λi hi=>by rw[AC (Ne.symm hi)])⟩
  ·rw[Sem.run_bind,hu]
   simp only[Result.andThen_ok,Sem.run_bind,hg,hc]
   rw[Zo T.key k es.toList none h g2 B d]
   simp only[Result.andThen_ok]
   exact Z _
  ·rw[zbn g1]
   simp[h2]
 ·have ae:j<es.size:=by
   have:=(AF.1 g2).1
   simpa using this
  refine⟨d,_,?_,hK (h.setIfInBounds m (.map (es.modify j λe=>{ e with key:=.string k,val:=v }) c)) ⟨es.modify j λe=>{ e with key:=.string k,val:=v },c,by simp[ab],?_⟩ (by simp) (λi hi=>by rw[AC (Ne.symm hi)])⟩
  ·rw[Sem.run_bind,hu]
   simp only[Result.andThen_ok,Sem.run_bind,hg,hc]
   rw[Zo T.key k es.toList _ h g5 B d]
   simp only[Result.andThen_ok,AK]
   have aa:((es[j]?).map (·.key)).getD (.string k)=.string k:=by
    have:es[j]?=some e:=by simpa using g2
    rw[this];exact g3
   rw[aa]
   have hs:Eb (.string k) (.string k)=pure (.string k):=by
    unfold Eb
    rw[if_pos (by show(k==k)=true;rw[zkj];simp)]
   rw[hs]
   exact Z _
  ·have:=g6 v
   simpa using this
end
section
variable {h h':za} {b n o:Nat} {cs:Array Value} {v:Value} {P:Program}
def Blk(h:za)(b:Nat)(cs:Array Value):Prop:=∃T,h[b]?=some (.cells cs T (0,0))
theorem Blk.keep(H:Blk h b cs)(k:h'[b]?=h[b]?):Blk h' b cs:=by
 obtain⟨T,e⟩:=H;exact⟨T,k.trans e⟩
theorem Blk.keepN(H:Blk h b cs)(k:Keep n h h')(hb:b<n):Blk h' b cs:=H.keep (k.get b hb)
theorem Blk.new(h:za)(cs:Array Value)(T:TypeId):Blk (h.push (.cells cs T)) h.size cs:=⟨T,yb _ _⟩
theorem Blk.lt(H:Blk h b cs):b<h.size:=by
 obtain⟨T,e⟩:=H;exact(Ad.1 e).1
theorem Blk.cell(H:Blk h b cs)(hv:cs[o]?=some v):zc h ⟨b,o,none⟩=some v:=by
 obtain⟨T,e⟩:=H
 unfold zc
 simp[e,hv]
theorem Blk.cellAdd{b o k:Nat}(H:Blk h b cs)(hv:cs[o+k]?=some v):zc h ((⟨b,o,none⟩:Addr).add k)=some v:=by
 rw[zu];exact H.cell hv
theorem Blk.ld{cs:List Value}(H:Blk h b cs.toArray):zd h ⟨b,0,none⟩ 0 cs:=by
 have key:∀(l:List Value) (i:Nat),(∀j v,l[j]?=some v->cs[i+j]?=some v)->zd h ⟨b,0,none⟩ i l:=by
  intro l
  induction l with
  |nil=>intro i _;trivial
  |cons v l ih=>
   intro i hi
   refine⟨?_,ih (i+1) λj u hu=>?_⟩
   ·rw[zu,AK]
    exact H.cell (by have:=hi 0 v rfl;simpa using this)
   ·have:=hi (j+1) u (by simpa using hu)
    rwa[show i+(j+1)=i+1+j by omega]at this
 exact key cs 0 λj v hv=>by simpa using hv
theorem Keep.setBlk(o:Obj)(hb:n<=b):Keep n h (h.setIfInBounds b o):=
 ⟨by simp,λi hi=>by rw[AC (by omega)]⟩
theorem zej(H:Blk h b cs)(B:World)(d:Nat):(mk B d h).frozen? ⟨b,o,none⟩=false:=by
 obtain⟨T,e⟩:=H
 have:(mk B d h).heap[b]?=some (.cells cs T (0,0)):=e
 simp[World.frozen?,this]
theorem zc7{T:TypeId}(e:h[b]?=some (.cells cs T (0,0)))(ho:o<cs.size)(hv:v.oneCell'=true)(B:World)(d:Nat):
  (store ⟨b,o,none⟩ v).run P (mk B d h)=.ok () (mk B d (h.setIfInBounds b (.cells (cs.setIfInBounds o v) T (0,0)))):=by
 have hc:(mk B d h).cell? ⟨b,o,none⟩=some cs[o]:=Blk.cell (h:=h) ⟨T,e⟩ (by simp[ho])
 have hf:=zej (o:=o) (⟨T,e⟩:Blk h b cs) B d
 have Z:(mk B d h).setCell ⟨b,o,none⟩ v=mk B d (h.setIfInBounds b (.cells (cs.setIfInBounds o v) T (0,0))):=by
  unfold World.setCell mk
  simp only
  congr 1
  have hb:b<h.size:=(Ad.1 e).1
  apply Array.ext_getElem?
  intro i
  rw[Array.getElem?_modify]
  by_cases hi:i=b
  ·subst hi
   have e':h[i]=.cells cs T (0,0):=by
    have:=A0 hb
    rw[e]at this
    exact(Au this).symm
   simp[hb,e']
  ·rw[if_neg (Ne.symm hi),AC (Ne.symm hi)]
 cases v with
 |agg x=>simp[Value.oneCell']at hv
 |tuple x=>simp[Value.oneCell']at hv
 |_=>simp only[store,Sem.run,hc,hf,A5,if_false,Z]
theorem cells_one(hv:v.oneCell'=true):v.cells=#[v]:=by
 cases v <;> first|rfl|simp[Value.oneCell']at hv
theorem wb{t:TypeId}(hi:qd P t=true)(hs:qn P t=1)(H:Blk h b cs)(ho:o<cs.size)(hv:v.oneCell'=true){K:za->Prop}
  (hK:∀h':za,Blk h' b (cs.setIfInBounds o v)->h'.size=h.size->(∀i,i≠b->h'[i]?=h[i]?)->K h'):zk P (An t (.pointer (some ⟨b,o,none⟩)) v) h K:=by
 obtain⟨T,e⟩:=H
 have hb:b<h.size:=(Ad.1 e).1
 intro B d
 refine⟨d,_,?_,hK (h.setIfInBounds b (.cells (cs.setIfInBounds o v) T (0,0))) ⟨T,by simp[hb]⟩ (by simp) λi hi=>by rw[AC (Ne.symm hi)]⟩
 have hz:=QExec.sizeOf (P:=P) (h:=h) (yw hi).choose_spec B d
 unfold An Dh
 simp only[Sem.run_bind,Sem.run_pure,Result.andThen_ok]
 unfold storeVar
 rw[Sem.run_bind,hz]
 simp only[Result.andThen_ok]
 rw[hs,cells_one hv]
 simp only[Dx,Ap,AZ,AK,ne_eq,not_true_eq_false,if_false]
 show Sem.run P (storeCells ⟨b,o,none⟩ [v]) _=_
 unfold storeCells
 rw[Sem.run_bind]
 have ha:(⟨b,o,none⟩:Addr).add 0=⟨b,o,none⟩:=by rw[zu];rfl
 rw[ha,zc7 e ho hv B d]
 rfl
theorem Zt{P:Program}{b:Nat}{T:TypeId}(B:World)(d:Nat):∀(vs:List Value) (i:Nat) (h:za) (cs:Array Value),h[b]?=some (.cells cs T (0,0))->i+vs.length<=cs.size->(∀v∈vs,v.oneCell'=true) ->
  ∃h',(storeCells ⟨b,0,none⟩ vs i).run P (mk B d h)=.ok () (mk B d h')/\h'[b]?=some (.cells (cs.toList.take i++vs++cs.toList.drop (i+vs.length)).toArray T (0,0))/\h'.size=h.size/\∀j,j≠b->h'[j]?=h[j]?
 |[],i,h,cs,e,_,_=>⟨h,rfl,by simpa using e,rfl,λ_ _=>rfl⟩
 |v::vs,i,h,cs,e,hl,hv=>by
  have hb:b<h.size:=(Ad.1 e).1
  simp only[Ap]at hl
  have h1:=zc7 (P:=P) e (o:=i) (by omega) (hv v Aj) B d
  have e':(h.setIfInBounds b (.cells (cs.setIfInBounds i v) T (0,0)))[b]?=some (.cells (cs.setIfInBounds i v) T (0,0)):=by simp[hb]
  have Z:i+1+vs.length<=(cs.setIfInBounds i v).size:=by rw[AU];omega
  obtain⟨h',r1,r2,r3,r4⟩:=Zt (P:=P) B d vs (i+1) (h.setIfInBounds b (.cells (cs.setIfInBounds i v) T (0,0))) (cs.setIfInBounds i v) e' Z λu hu=>hv u (Ae _ hu)
  refine⟨h',?_,?_,by rw[r3];simp,λj hj=>by rw[r4 j hj,AC (Ne.symm hj)]⟩
  ·unfold storeCells
   rw[Sem.run_bind,zu,AK,h1]
   simp only[Result.andThen_ok]
   exact r1
  ·rw[r2]
   congr 3
   have hi:i<cs.toList.length:=by simp;omega
   simp only[Array.toList_setIfInBounds,Ap]
   rw[List.take_set,List.drop_set_of_lt (by omega)]
   have e2:(cs.toList.take (i+1)).set i v=cs.toList.take i++[v]:=by
    rw[Av hi,List.set_append_right _ _ (by simp;omega)]
    have:i-(cs.toList.take i).length=0:=by simp;omega
    rw[this];rfl
   rw[e2,show i+(vs.length+1)=i+1+vs.length by omega]
   simp
theorem Owns.base{h:za}{base Z:Nat}{e:TypeId}{sz:Nat}{s:Sl}{xs:List Value}(H:Owns h base e sz s xs)(hb:Z<=base):Owns h Z e sz s xs:=by
 refine⟨H.1,?_⟩
 rcases H.2 with hn|⟨g,cap,aa,hv,ab,rest⟩
 ·exact .inl hn
 ·exact .inr ⟨g,cap,aa,hv,by omega,rest⟩
end
end Go.X
end
section
namespace Go.X
variable {cs:List Value}
inductive Tr where
 |mk (kind:Int) (text:Bt) (keys:List Bt) (items:List Tr)
namespace Tr
@[reducible] def kind:Tr->Int|mk k _ _ _=>k
@[reducible] def text:Tr->Bt|mk _ s _ _=>s
@[reducible] def keys:Tr->List Bt|mk _ _ ks _=>ks
@[reducible] def items:Tr->List Tr|mk _ _ _ xs=>xs
@[simp] theorem eta(t:Tr):mk t.kind t.text t.keys t.items=t:=by cases t;rfl
instance:Inhabited Tr:=⟨mk 0 ⟨#[]⟩ [] []⟩
end Tr
inductive Ty where
 |int (k:IntKind)|bool|str|row (t:Ty)|tree|unit|pair (a b:Ty)|ptr (t:Ty)|iter|err
 deriving DecidableEq
@[reducible] def El:Ty->Type
 |.int _=>Int
 |.bool=>Bool
 |.str=>Bt
 |.row t=>List (El t)
 |.tree=>Tr
 |.unit=>Unit
 |.pair a b=>El a×El b
 |.ptr t=>El t
 |.iter=>Bt×Nat
 |.err=>Bool
def qc8:(t:Ty)->El t
 |.int _=>(0:Int)
 |.bool=>false
 |.str=>(⟨#[]⟩:Bt)
 |.row _=>[]
 |.tree=>default
 |.unit=>()
 |.pair a b=>(qc8 a,qc8 b)
 |.ptr t=>qc8 t
 |.iter=>(⟨#[]⟩,0)
 |.err=>true
def sz:Ty->Nat
 |.tree=>4
 |.unit=>0
 |.pair a b=>sz a+sz b
 |_=>1
abbrev Fr:=Nat->Option (Array Value)
def Fr.le(M M':Fr):Prop:=∀b cs,M b=some cs->M' b=some cs
theorem Fr.le.refl(M:Fr):Fr.le M M:=λ_ _ h=>h
theorem Fr.le.trans{a b c:Fr}(h:Fr.le a b)(k:Fr.le b c):Fr.le a c:=λ_ _ e=>k _ _ (h _ _ e)
def cut(cs:Array Value)(o n:Nat):List Value:=(cs.toList.drop o).take n
def RowAt(M:Fr){α:Type}(R:α->List Value->Prop)(z:Nat)(xs:List α)(v:Value):Prop:=
 ∃a c,v=.slice a xs.length c/\(xs.length<=140737488355328/\xs.length<=c)/\(xs=[]\/∃b o cs,a=some ⟨b,o,none⟩/\M b=some cs/\∀i (h:i<xs.length),R xs[i] (cut cs (o+i*z) z))
inductive TrRd (M:Fr):Tr->List Value->Prop where
 |mk {k:Int} {s:Bt} {ks:List Bt} {xs:List Tr} {vk:Value} {a:Option Addr} {c b o:Nat} {cs:Array Value}
  (hk:RowAt M (λs cs=>cs=[.string s]) 1 ks vk) (hn:xs.length<=140737488355328/\xs.length<=c) (hz:xs=[]\/(a=some ⟨b,o,none⟩/\M b=some cs))
  (hi:∀i (h:i<xs.length),TrRd M xs[i] (cut cs (o+i*4) 4)):TrRd M (.mk k s ks xs) [.int .i64 k,.string s,vk,.slice a xs.length c]
def Zp(s:Bt)(p:Nat):Value:=.iface 0 (.agg #[.string s,.int .i64 p])
def Rd(M:Fr):(t:Ty)->El t->List Value->Prop
 |.int k,i,cs=>cs=[.int k i]
 |.bool,b,cs=>cs=[.bool b]
 |.str,s,cs=>cs=[.string s]
 |.row t,xs,cs=>∃v,cs=[v]/\RowAt M (Rd M t) (sz t) xs v
 |.tree,t,cs=>TrRd M t cs
 |.unit,_,cs=>cs=[]
 |.pair a b,x,cs=>∃c1 c2,cs=c1++c2/\Rd M a x.1 c1/\Rd M b x.2 c2
 |.ptr t,x,cs=>∃b o cc,cs=[.pointer (some ⟨b,o,none⟩)]/\M b=some cc/\Rd M t x (cut cc o (sz t))
 |.iter,x,cs=>cs=[Zp x.1 x.2]
 |.err,b,cs=>∃v,cs=[v]/\((b=true/\v=.nilIface)\/(b=false/\∃t u,v=.iface t u))
theorem RowAt.mono{M M':Fr}(hM:Fr.le M M'){α:Type}{R R':α->List Value->Prop}{z:Nat}{xs:List α}{v:Value}(H:RowAt M R z xs v)(hR:∀x∈xs,∀cs,R x cs->R' x cs):RowAt M' R' z xs v:=by
 obtain⟨a,c,e,hn,h⟩:=H
 refine⟨a,c,e,hn,h.imp id ?_⟩
 rintro⟨b,o,cs,e1,e2,h3⟩
 exact⟨b,o,cs,e1,hM _ _ e2,λi h=>hR _ (AN _) _ (h3 i h)⟩
theorem TrRd.mono{M M':Fr}(hM:Fr.le M M'){t:Tr}(H:TrRd M t cs):TrRd M' t cs:=by
 induction H with
 |mk hk hn hz _ ih=>exact .mk (hk.mono hM λ_ _ _ h=>h) hn (hz.imp id λh=>⟨h.1,hM _ _ h.2⟩) ih
theorem Rd.mono{M M':Fr}(hM:Fr.le M M'):∀{t:Ty} {x:El t} {cs:List Value},Rd M t x cs->Rd M' t x cs
 |.int _,_,_,h=>h
 |.bool,_,_,h=>h
 |.str,_,_,h=>h
 |.row _,_,_,⟨v,e,h⟩=>⟨v,e,h.mono hM λ_ _ _ h=>Rd.mono hM h⟩
 |.tree,_,_,h=>TrRd.mono hM h
 |.unit,_,_,h=>h
 |.pair _ _,_,_,⟨c1,c2,e,h1,h2⟩=>⟨c1,c2,e,Rd.mono hM h1,Rd.mono hM h2⟩
 |.ptr _,_,_,⟨b,o,cc,e,h1,h2⟩=>⟨b,o,cc,e,hM _ _ h1,Rd.mono hM h2⟩
 |.iter,_,_,h=>h
 |.err,_,_,h=>h
theorem Rd.len{M:Fr}:∀{t:Ty} {x:El t} {cs:List Value},Rd M t x cs->cs.length=sz t
 |.int _,_,_,h=>by rw[h];rfl
 |.bool,_,_,h=>by rw[h];rfl
 |.str,_,_,h=>by rw[h];rfl
 |.row t,_,_,⟨v,e,_⟩=>by rw[e];rfl
 |.tree,_,_,h=>by cases h;rfl
 |.unit,_,_,h=>by rw[h];rfl
 |.pair _ _,_,_,⟨c1,c2,e,h1,h2⟩=>by rw[e,Ag,Rd.len h1,Rd.len h2];rfl
 |.ptr _,_,_,⟨b,o,cc,e,_⟩=>by rw[e];rfl
 |.iter,_,_,h=>by rw[h];rfl
 |.err,_,_,⟨v,e,_⟩=>by rw[e];rfl
theorem Rd.one{M:Fr}:∀{t:Ty} {x:El t} {cs:List Value},Rd M t x cs->∀v∈cs,v.oneCell'=true
 |.int _,_,_,h=>by rw[h];simp[Value.oneCell']
 |.bool,_,_,h=>by rw[h];simp[Value.oneCell']
 |.str,_,_,h=>by rw[h];simp[Value.oneCell']
 |.row t,_,_,⟨v,e,a,c,e2,_⟩=>by rw[e,e2];simp[Value.oneCell']
 |.tree,_,_,h=>by
  cases h with
  |mk hk _ _ _=>obtain⟨a,c,e,_⟩:=hk;rw[e];simp[Value.oneCell']
 |.unit,_,_,h=>by rw[h];simp
 |.pair _ _,_,_,⟨c1,c2,e,h1,h2⟩=>by
  intro v hv
  rw[e]at hv
  rcases Aw.1 hv with hv|hv
  ·exact Rd.one h1 v hv
  ·exact Rd.one h2 v hv
 |.ptr _,_,_,⟨b,o,cc,e,_⟩=>by rw[e];simp[Value.oneCell']
 |.iter,_,_,h=>by rw[h];simp[Value.oneCell',Zp]
 |.err,_,_,⟨v,e,h⟩=>by
  rw[e]
  rcases h with⟨_,rfl⟩|⟨_,t,u,rfl⟩ <;> simp[Value.oneCell']
theorem TrRd.keys{M:Fr}{t:Tr}(H:TrRd M t cs):∃vk vi,cs=[.int .i64 t.kind,.string t.text,vk,vi]/\Rd M (.row .str) t.keys [vk]/\Rd M (.row .tree) t.items [vi]:=by
 cases H with
 | @mk k s ks xs vk a c b o cs hk hn hz hi=>
  exact⟨vk,_,rfl,⟨vk,rfl,hk⟩,⟨_,rfl,a,c,rfl,hn,hz.imp id λh=>⟨b,o,cs,h.1,h.2,hi⟩⟩⟩
theorem TrRd.of{M:Fr}{k:Int}{s:Bt}{ks:List Bt}{xs:List Tr}{vk vi:Value}(h1:Rd M (.row .str) ks [vk])(h2:Rd M (.row .tree) xs [vi]):TrRd M (.mk k s ks xs) [.int .i64 k,.string s,vk,vi]:=by
 obtain⟨v,e,h1⟩:=h1
 obtain⟨v',e',a,c,e2,hn,h2⟩:=h2
 cases e;cases e';subst e2
 rcases h2 with rfl|⟨b,o,cs,e1,e2,h3⟩
 ·exact .mk (b:=0) (o:=0) (cs:=#[]) h1 hn (.inl rfl) λi h=>absurd h (by simp)
 ·exact .mk h1 hn (.inr ⟨e1,e2⟩) h3
def Bd:(t:Ty)->El t->Prop
 |.row _,xs=>xs.length<=140737488355328
 |.tree,t=>t.keys.length<=140737488355328/\t.items.length<=140737488355328
 |.pair a b,x=>Bd a x.1/\Bd b x.2
 |_,_=>True
theorem Rd.bd{M:Fr}:∀{t:Ty} {x:El t} {cs:List Value},Rd M t x cs->Bd t x
 |.int _,_,_,_=>trivial
 |.bool,_,_,_=>trivial
 |.str,_,_,_=>trivial
 |.row t,_,_,⟨v,_,a,c,_,h,_⟩=>h.1
 |.tree,_,_,h=>by
  cases h with
  |mk hk hn _ _=>obtain⟨a,c,e,h,_⟩:=hk;exact⟨h.1,hn.1⟩
 |.unit,_,_,_=>trivial
 |.pair _ _,_,_,⟨_,_,_,h1,h2⟩=>⟨Rd.bd h1,Rd.bd h2⟩
 |.ptr _,_,_,_=>trivial
 |.iter,_,_,_=>trivial
 |.err,_,_,_=>trivial
inductive AA where
 |v (x:Value)
 |d (t:Ty) (x:El t)
 |box (c o:Nat)
 |own (c:Nat)
 |oelt (c z:Nat) (i:Nat) (o:Nat)
 |elt (t:Ty) (x:El t) (o:Nat)
 |dc (t:Ty) (xs:List (El t))
inductive AG where
 |a (x:AA)
 |agg (l:List AA)
inductive AV where
 |g (x:AG)
 |tup (l:List AG)
 |nx (b:Bool) (p:Int) (c:Int)
structure Gh where
 M:Fr
 β:Nat->Nat
 σ:Nat->Sl
def All2{α β:Type}(R:α->β->Prop):List α->List β->Prop
 |[],[]=>True
 |x::xs,y::ys=>R x y/\All2 R xs ys
 |_,_=>False
def slV(s:Sl):Value:=.slice s.a s.len s.cap
def DenA(γ:Gh):AA->Value->Prop
 |.v x,u=>u=x
 |.d t x,u=>Rd γ.M t x [u]
 |.box c o,u=>u=.pointer (some ⟨γ.β c,o,none⟩)
 |.own c,u=>u=slV (γ.σ c)
 |.oelt c z i o,u=>∃g,(γ.σ c).a=some ⟨g,0,none⟩/\u=.pointer (some ⟨g,i*z+o,none⟩)
 |.elt t x o,u=>∃b f cs,u=.pointer (some ⟨b,f+o,none⟩)/\γ.M b=some cs/\Rd γ.M t x (cut cs f (sz t))
 |.dc t xs,u=>∃s:Sl,u=slV s/\s.cap=s.len/\Rd γ.M (.row t) xs [u]
def DenG(γ:Gh):AG->Value->Prop
 |.a x,u=>DenA γ x u
 |.agg l,u=>∃us,u=.agg us.toArray/\All2 (DenA γ) l us
def DenV(γ:Gh):AV->Value->Prop
 |.g x,u=>DenG γ x u
 |.tup l,u=>∃us,u=.tuple us.toArray/\All2 (DenG γ) l us
 |.nx b p c,u=>(b=true->u=.tuple #[.bool true,.int .i64 p,.int .i32 c])/\(b=false->u=.tuple #[.bool false])
theorem All2.length{α β:Type}{R:α->β->Prop}:∀{l:List α} {m:List β},All2 R l m->l.length=m.length
 |[],[],_=>rfl
 |[],_::_,h=>h.elim
 |_::_,[],h=>h.elim
 |_::_,_::_,h=>by simp[All2.length h.2]
theorem All2.imp{α β:Type}{R R':α->β->Prop}:∀{l:List α} {m:List β},All2 R l m->(∀x∈l,∀y,R x y->R' x y)->All2 R' l m
 |[],[],_,_=>trivial
 |[],_::_,h,_=>h.elim
 |_::_,[],h,_=>h.elim
 |_::_,_::_,h,k=>⟨k _ Aj _ h.1,All2.imp h.2 λx hx y hy=>k x (Ae _ hx) y hy⟩
theorem All2.append{α β:Type}{R:α->β->Prop}:∀{l l':List α} {m m':List β},All2 R l m->All2 R l' m'->All2 R (l++l') (m++m')
 |[],_,[],_,_,h=>h
 |[],_,_::_,_,h,_=>h.elim
 |_::_,_,[],_,h,_=>h.elim
 |_::_,_,_::_,_,h,k=>⟨h.1,All2.append h.2 k⟩
theorem All2.take{α β:Type}{R:α->β->Prop}:∀(n:Nat) {l:List α} {m:List β},All2 R l m->All2 R (l.take n) (m.take n)
 |0,_,_,_=>by simp[All2]
 |_+1,[],[],_=>trivial
 |_+1,[],_::_,h=>h.elim
 |_+1,_::_,[],h=>h.elim
 |n+1,_::_,_::_,h=>⟨h.1,All2.take n h.2⟩
theorem All2.drop{α β:Type}{R:α->β->Prop}:∀(n:Nat) {l:List α} {m:List β},All2 R l m->All2 R (l.drop n) (m.drop n)
 |0,_,_,h=>by simpa using h
 |_+1,[],[],_=>trivial
 |_+1,[],_::_,h=>h.elim
 |_+1,_::_,[],h=>h.elim
 |n+1,_::_,_::_,h=>by simpa using All2.drop n h.2
theorem All2.get{α β:Type}{R:α->β->Prop}:∀{l:List α} {m:List β} {i:Nat} {x:α},All2 R l m->l[i]?=some x->∃y,m[i]?=some y/\R x y
 |[],[],_,_,_,h=>by simp at h
 |[],_::_,_,_,h,_=>h.elim
 |_::_,[],_,_,h,_=>h.elim
 |_::_,y::_,0,_,h,e=>by simp at e;subst e;exact⟨y,rfl,h.1⟩
 |_::_,_::_,i+1,_,h,e=>by simpa using All2.get h.2 (by simpa using e)
def Y8:(t:Ty)->El t->List AA
 |.int k,i=>[.v (.int k i)]
 |.bool,b=>[.v (.bool b)]
 |.str,s=>[.v (.string s)]
 |.row t,xs=>[.d (.row t) xs]
 |.tree,t=>[.v (.int .i64 t.kind),.v (.string t.text),.d (.row .str) t.keys,.d (.row .tree) t.items]
 |.unit,_=>[]
 |.pair a b,x=>Y8 a x.1++Y8 b x.2
 |.ptr t,x=>[.elt t x 0]
 |.iter,x=>[.d .iter x]
 |.err,x=>[.d .err x]
theorem xb{γ:Gh}:∀{t:Ty} {x:El t} {cs:List Value},Rd γ.M t x cs->All2 (DenA γ) (Y8 t x) cs
 |.int _,_,_,h=>by rw[h];exact⟨rfl,trivial⟩
 |.bool,_,_,h=>by rw[h];exact⟨rfl,trivial⟩
 |.str,_,_,h=>by rw[h];exact⟨rfl,trivial⟩
 |.row t,_,_,⟨v,e,h⟩=>by rw[e];exact⟨⟨v,rfl,h⟩,trivial⟩
 |.tree,_,_,h=>by
  obtain⟨vk,vi,e,h1,h2⟩:=TrRd.keys h
  rw[e];exact⟨rfl,rfl,h1,h2,trivial⟩
 |.unit,_,_,h=>by rw[h];trivial
 |.pair _ _,_,_,⟨c1,c2,e,h1,h2⟩=>by rw[e];exact(xb h1).append (xb h2)
 |.ptr t,x,_,⟨b,o,cc,e,h1,h2⟩=>by rw[e];exact⟨⟨b,o,cc,rfl,h1,h2⟩,trivial⟩
 |.iter,x,_,h=>by rw[h];exact⟨rfl,trivial⟩
 |.err,x,_,⟨v,e,h⟩=>by rw[e];exact⟨⟨v,rfl,h⟩,trivial⟩
def zrw:Ty->Bool
 |.iter=>true
 |.err=>true
 |.pair a b=>bif zrw a then true else zrw b
 |_=>false
theorem Rd.noIt{M:Fr}:∀{t:Ty} {x:El t} {cs:List Value},zrw t=false->Rd M t x cs->∀s p,Zp s p∉cs
 |.int _,_,_,_,h,s,p=>by rw[h];simp[Zp]
 |.bool,_,_,_,h,s,p=>by rw[h];simp[Zp]
 |.str,_,_,_,h,s,p=>by rw[h];simp[Zp]
 |.row t,_,_,_,⟨v,e,a,c,e2,_⟩,s,p=>by rw[e,e2];simp[Zp]
 |.tree,_,_,_,h,s,p=>by
  cases h with
  |mk hk _ _ _=>obtain⟨a,c,e,_⟩:=hk;rw[e];simp[Zp]
 |.unit,_,_,_,h,s,p=>by rw[h];simp
 |.pair a b,_,_,hi,⟨c1,c2,e,h1,h2⟩,s,p=>by
  simp only[zrw]at hi
  cases ha:zrw a with
  |true=>rw[ha]at hi;cases hi
  |false=>
   rw[ha]at hi
   rw[e]
   intro hm
   rcases Aw.1 hm with hm|hm
   ·exact Rd.noIt ha h1 s p hm
   ·exact Rd.noIt hi h2 s p hm
 |.ptr _,_,_,_,⟨b,o,cc,e,_⟩,s,p=>by rw[e];simp[Zp]
 |.iter,_,_,hi,_,_,_=>by cases hi
 |.err,_,_,hi,_,_,_=>by cases hi
def itB:List AA->Bool
 |[.d t _]=>zrw t
 |[.v (.iface _ _)]=>true
 |_=>false
theorem zty{γ:Gh}{l:List AA}{us:List Value}(h:itB l=false)(hd:All2 (DenA γ) l us)(s:Bt)(p:Nat):us≠[Zp s p]:=by
 intro e
 subst e
 match l,hd with
 |[x],hd=>
  cases x with
  |v y=>rw[<-show Zp s p=y from hd.1]at h;simp[itB,Zp]at h
  |d t y=>exact Rd.noIt (show zrw t=false from h) (show Rd γ.M t y [Zp s p]from hd.1) s p (by simp)
  |box c o=>have:Zp s p=_:=hd.1;simp[Zp]at this
  |own c=>have:Zp s p=_:=hd.1;simp[Zp,slV]at this
  |oelt c z i o=>obtain⟨g,_,e⟩:=hd.1;simp[Zp]at e
  |elt t y o=>obtain⟨b,f,cs,e,_⟩:=hd.1;simp[Zp]at e
  |dc t xs=>obtain⟨s',e,_⟩:=hd.1;simp[Zp,slV]at e
 |[],hd=>exact hd.elim
 |_::_::_,hd=>exact hd.2.elim
inductive Ch where
 |box (l:List AA)
 |row (e:TypeId) (t:Ty) (xs:List (El t))
 |fz (t:Ty) (xs:List (El t))
abbrev CS:=List (Nat×Ch)
def Qz:CS->Nat->Option Ch
 |[],_=>none
 |(j,k)::l,i=>bif Nat.beq i j then some k else Qz l i
theorem qb{l:CS}{i:Nat}{k:Ch}(h:Qz l i=some k):(i,k)∈l:=by
 induction l with
 |nil=>cases h
 |cons x l ih=>
  obtain⟨j,k'⟩:=x
  simp only[Qz]at h
  by_cases hb:Nat.beq i j=true
  ·simp only[hb,cond_true,Ab]at h
   subst h
   rw[Ah hb];exact Aj
  ·simp only[hb,cond_false]at h
   exact Ae _ (ih h)
def Z9(t t':Ty)(x:El t):Option (El t'):=if h:t=t' then some (h ▸ x)else none
theorem J8{M:Fr}{t t':Ty}{x:El t}{y:El t'}(h:Z9 t t' x=some y)(r:Rd M t x cs):Rd M t' y cs:=by
 unfold Z9 at h
 split at h
 ·rename_i e
  subst e
  simp only[Ab]at h
  subst h;exact r
 ·cases h
def zje(cs:CS):(t:Ty)->AA->Option (El t)
 |.int k,.v (.int k' i)=>if k=k' then some i else none
 |.bool,.v (.bool b)=>some b
 |.str,.v (.string s)=>some s
 |.row t,.v (.slice none 0 0)=>some ([]:List (El t))
 |.row t,.d t' x=>Z9 t' (.row t) x
 |.row t,.dc t' x=>Z9 (.row t') (.row t) x
 |.row t,.own c=>match Qz cs c with
  |some (.fz t' xs)=>Z9 (.row t') (.row t) xs
  |_=>none
 |.ptr t,.elt t' x 0=>Z9 t' t x
 |.ptr t,.d t' x=>Z9 t' (.ptr t) x
 |.iter,.d t' x=>Z9 t' .iter x
 |.err,.d t' x=>Z9 t' .err x
 |.err,.v .nilIface=>some true
 |.err,.v (.iface _ _)=>some false
 |_,_=>none
def collect(cs:CS):(t:Ty)->List AA->Option (El t×List AA)
 |.unit,l=>some ((),l)
 |.pair a b,l=>match collect cs a l with
  |some (x,l')=>match collect cs b l' with
   |some (y,l'')=>some ((x,y),l'')
   |none=>none
  |none=>none
 |.tree,k::s::ks::xs::l=>match zje cs (.int .i64) k,zje cs .str s,zje cs (.row .str) ks,zje cs (.row .tree) xs with
  |some k,some s,some ks,some xs=>some (Tr.mk k s ks xs,l)
  |_,_,_,_=>none
 |.tree,_=>none
 |t,x::l=>match zje cs t x with
  |some y=>some (y,l)
  |none=>none
 |_,[]=>none
def z3x(γ:Gh)(cs:CS):Prop:=∀c t xs,(c,Ch.fz t xs)∈cs->Rd γ.M (.row t) xs [slV (γ.σ c)]
theorem js{γ:Gh}{cs:CS}(hf:z3x γ cs){t:Ty}{x:AA}{y:El t}(h:zje cs t x=some y){u:Value}(hd:DenA γ x u):Rd γ.M t y [u]:=by
 unfold zje at h
 split at h
 ·split at h
  ·rename_i hk;simp only[Ab]at h;subst h;subst hk;exact congrArg (λu=>[u]) hd
  ·cases h
 ·simp only[Ab]at h;subst h;exact congrArg (λu=>[u]) hd
 ·simp only[Ab]at h;subst h;exact congrArg (λu=>[u]) hd
 ·simp only[Ab]at h;subst h
  exact⟨u,rfl,none,0,hd,by simp,.inl rfl⟩
 ·exact J8 h hd
 ·obtain⟨s,_,_,hd⟩:=hd
  exact J8 h hd
 ·split at h
  ·rename_i t' xs Z
   rw[show u=_ from hd]
   exact J8 h (hf _ _ _ (qb Z))
  ·cases h
 ·rename_i t t' x
  obtain⟨b,f,cs',e,h1,h2⟩:=hd
  exact⟨b,f,cs',by rw[e];rfl,h1,by
   unfold Z9 at h
   split at h
   ·rename_i e;subst e;simp only[Ab]at h;subst h;exact h2
   ·cases h⟩
 ·exact J8 h hd
 ·exact J8 h hd
 ·exact J8 h hd
 ·simp only[Ab]at h;subst h;exact⟨u,rfl,.inl ⟨rfl,hd⟩⟩
 ·rename_i t' x';simp only[Ab]at h;subst h;exact⟨u,rfl,.inr ⟨rfl,_,_,hd⟩⟩
 ·cases h
theorem Y9{γ:Gh}{cs:CS}(hf:z3x γ cs):∀{t:Ty} {l l':List AA} {y:El t},collect cs t l=some (y,l')->∀{us:List Value},All2 (DenA γ) l us->∃c1 c2,us=c1++c2/\Rd γ.M t y c1/\All2 (DenA γ) l' c2
 |.unit,l,l',y,h,us,hu=>by
  simp only[collect,Ab,Be]at h
  obtain⟨_,rfl⟩:=h
  exact⟨[],us,rfl,rfl,hu⟩
 |.pair a b,l,l',y,h,us,hu=>by
  simp only[collect]at h
  split at h
  ·rename_i x l1 h1
   split at h
   ·rename_i z l2 h2
    simp only[Ab,Be]at h
    obtain⟨rfl,rfl⟩:=h
    obtain⟨c1,c2,rfl,r1,r2⟩:=Y9 hf h1 hu
    obtain⟨c3,c4,rfl,r3,r4⟩:=Y9 hf h2 r2
    exact⟨c1++c3,c4,by simp,⟨c1,c3,rfl,r1,r3⟩,r4⟩
   ·cases h
  ·cases h
 |.tree,l,l',y,h,us,hu=>by
  match l,us,hu,h with
  |k::s::ks::xs::l,u1::u2::u3::u4::us,hu,h=>
   simp only[collect]at h
   split at h
   ·rename_i k' s' aa Z h1 h2 h3 h4
    simp only[Ab,Be]at h
    obtain⟨rfl,rfl⟩:=h
    obtain⟨d1,d2,d3,d4,d5⟩:=hu
    have r1:=js hf h1 d1
    have r2:=js hf h2 d2
    have r3:=js hf h3 d3
    have r4:=js hf h4 d4
    refine⟨[u1,u2,u3,u4],us,rfl,?_,d5⟩
    have e1:[u1]=[Ey .i64 k']:=r1
    have e2:[u2]=[Bl s']:=r2
    cases e1;cases e2
    exact TrRd.of r3 r4
   ·cases h
  |[],_,_,h=>simp[collect]at h
  |[_],_,_,h=>simp[collect]at h
  |[_,_],_,_,h=>simp[collect]at h
  |[_,_,_],_,_,h=>simp[collect]at h
  |_::_::_::_::_,[],hu,_=>exact hu.elim
  |_::_::_::_::_,[_],hu,_=>exact hu.2.elim
  |_::_::_::_::_,[_,_],hu,_=>exact hu.2.2.elim
  |_::_::_::_::_,[_,_,_],hu,_=>exact hu.2.2.2.elim
 |.int k,x::l,l',y,h,u::us,hu=>by
  simp only[collect]at h
  split at h
  ·rename_i z hz;simp only[Ab,Be]at h;obtain⟨rfl,rfl⟩:=h
   exact⟨[u],us,rfl,js hf hz hu.1,hu.2⟩
  ·cases h
 |.bool,x::l,l',y,h,u::us,hu=>by
  simp only[collect]at h
  split at h
  ·rename_i z hz;simp only[Ab,Be]at h;obtain⟨rfl,rfl⟩:=h
   exact⟨[u],us,rfl,js hf hz hu.1,hu.2⟩
  ·cases h
 |.str,x::l,l',y,h,u::us,hu=>by
  simp only[collect]at h
  split at h
  ·rename_i z hz;simp only[Ab,Be]at h;obtain⟨rfl,rfl⟩:=h
   exact⟨[u],us,rfl,js hf hz hu.1,hu.2⟩
  ·cases h
 |.row _,x::l,l',y,h,u::us,hu=>by
  simp only[collect]at h
  split at h
  ·rename_i z hz;simp only[Ab,Be]at h;obtain⟨rfl,rfl⟩:=h
   exact⟨[u],us,rfl,js hf hz hu.1,hu.2⟩
  ·cases h
 |.ptr _,x::l,l',y,h,u::us,hu=>by
  simp only[collect]at h
  split at h
  ·rename_i z hz;simp only[Ab,Be]at h;obtain⟨rfl,rfl⟩:=h
   exact⟨[u],us,rfl,js hf hz hu.1,hu.2⟩
  ·cases h
 |.iter,x::l,l',y,h,u::us,hu=>by
  simp only[collect]at h
  split at h
  ·rename_i z hz;simp only[Ab,Be]at h;obtain⟨rfl,rfl⟩:=h
   exact⟨[u],us,rfl,js hf hz hu.1,hu.2⟩
  ·cases h
 |.iter,_::_,_,_,_,[],hu=>hu.elim
 |.iter,[],_,_,h,_,_=>by simp[collect]at h
 |.err,x::l,l',y,h,u::us,hu=>by
  simp only[collect]at h
  split at h
  ·rename_i z hz;simp only[Ab,Be]at h;obtain⟨rfl,rfl⟩:=h
   exact⟨[u],us,rfl,js hf hz hu.1,hu.2⟩
  ·cases h
 |.err,_::_,_,_,_,[],hu=>hu.elim
 |.err,[],_,_,h,_,_=>by simp[collect]at h
 |.int _,_::_,_,_,_,[],hu=>hu.elim
 |.bool,_::_,_,_,_,[],hu=>hu.elim
 |.str,_::_,_,_,_,[],hu=>hu.elim
 |.row _,_::_,_,_,_,[],hu=>hu.elim
 |.ptr _,_::_,_,_,_,[],hu=>hu.elim
 |.int _,[],_,_,h,_,_=>by simp[collect]at h
 |.bool,[],_,_,h,_,_=>by simp[collect]at h
 |.str,[],_,_,h,_,_=>by simp[collect]at h
 |.row _,[],_,_,h,_,_=>by simp[collect]at h
 |.ptr _,[],_,_,h,_,_=>by simp[collect]at h
end Go.X
end
