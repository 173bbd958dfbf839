/- A part of the proof: nothing is stated here for its own sake. -/
import Derived.Deep.Quiet
import Derived.StillTail
import Derived.Laws.Strings
import Derived.Laws.Cover3
import Derived.Laws.Pointers
import Derived.Laws.OwnMore
open _root_.Go.Addr renaming add->Ae
open _root_.Array renaming getD_eq_getD_getElem?->BC,getElem?_append_left->Cn,getElem?_eq_getElem->AI,getElem?_eq_some_iff->Ad,getElem?_push->B6,getElem?_setIfInBounds_ne->AN,getElem?_toList->Bw,replicate->Bf,size_setIfInBounds->A7
open _root_.Bool renaming and_eq_true->AK,eq_iff_iff->AB,false_eq_true->Bi,false_or->Dk,not_eq_true'->C3,true_and->Cf
open _root_.Go.Builtin renaming append_->AD,len_->Dw
open _root_.Classical renaming byContradiction->CB
open _root_.Go.Code renaming cond->DV,region->DY
open _root_.Go.Deferred renaming ofValue->Dx
open _root_.Go.Instr renaming findNow->DG,indexAt->DW,loadAt->Dv,mapUpdate->DJ,sliceAt->DF,storeAt->Aj,sureAddr->Dp
open _root_.Go.IntKind renaming bits->An,signed->C9,wrap->Aa
open _root_.List renaming all_eq_true->Ba,cons_append->Br,drop_eq_getElem_cons->Ay,eq_nil_iff_forall_not_mem->CF,getElem?_append_right->A6,getElem?_drop->AE,getElem?_eq_getElem->Ak,getElem?_eq_none->BO,getElem?_eq_some_iff->Aw,getElem?_take->AC,getElem_mem->AP,getElem_of_mem->AY,length_append->Ar,length_cons->AH,length_eq_zero_iff->AU,length_erase_of_mem->CH,length_nil->CP,length_range->Dm,mapM_cons->DR,map_cons->BZ,mem_append->Av,mem_append_left->Ao,mem_append_right->Au,mem_cons->Ai,mem_cons_of_mem->Ag,mem_cons_self->Am,mem_of_getElem?->Bb,mem_range->BL,nil_append->Ct,nodup_append->BH,nodup_cons->DK,nodup_range->C8,pairwise_append->Ck,pairwise_cons->BJ,range->BI,take_append_drop->Ce,take_left->Dq,take_succ_cons->Cd,take_succ_eq_append_getElem->AL,take_zero->DO
open _root_.List.cons renaming injEq->BP
open _root_.Nat renaming add_sub_cancel_left->C7,add_zero->CG,blt_eq->Cj,eq_of_beq_eq_true->Ah,eq_or_lt_of_le->Dg,le_of_ble_eq_true->BN,le_refl->Ac,le_trans->DN,lt_of_lt_of_le->De,lt_or_ge->AF,sub_zero->CU,zero_add->Az,zero_le->CK
open _root_.Go.Next renaming value->Df
open _root_.Go.Op renaming equal->D5
open _root_.Option renaming bind_some->CE
open _root_.Option.some renaming inj->Aq,injEq->Ab
open _root_.Prod.mk renaming injEq->Bq
open _root_.Pure renaming pure->CZ
open _root_.Go.Region renaming wanted->Bm
open _root_.Go.Value renaming int->D4,string->Dh
open _root_.Go.Value.slice renaming injEq->A9
set_option linter.unusedVariables false
set_option maxRecDepth 100000
namespace Go.X
end Go.X
namespace Go.Proofs
end Go.Proofs
open Go Go.X Go.Proofs
section
namespace Go.X
section
abbrev Bt:= ByteArray
variable {i n m:Nat} {v u:Value} {a:Act} {o:Oper}
abbrev za:=Array Obj
abbrev zx:=List (Nat×Bool)
abbrev Env:=List (Nat×zx×Value)
def mk(B:World)(d:Nat)(h:za):World:={ B with heap:=h,drawn:=d }
def look:Env->Nat->Option (zx×Value)
 |[],_=>none
 |(j,c,v)::e,i=>bif Nat.beq i j then some (c,v)else look e i
def valid(σ:Nat->Value):zx->Prop
 |[]=>True
 |(g,p)::c=>σ g=.bool p/\valid σ c
def zm(a:Act)(i:Nat):Value:=a.tmps.getD i undef
def fact(σ:Nat->Value)(x:Nat×zx×Value):Prop:=(valid σ x.2.1->σ x.1=x.2.2)/\(¬valid σ x.2.1->σ x.1=undef)
structure Sat (n:Nat) (e:Env) (a:Act):Prop where
 defers:a.defers=[]
 size:a.tmps.size=n
 all:∀x∈e,fact (zm a) x
def mentions:zx->Nat->Bool
 |[],_=>false
 |(g,_)::c,i=>bif Nat.beq i g then true else mentions c i
def del:Env->Nat->Env
 |[],_=>[]
 |(j,c,v)::e,i=>bif (bif Nat.beq i j then true else mentions c i)then del e i else(j,c,v)::del e i
def put(e:Env)(i:Nat)(c:zx)(v:Value):Env:=(i,c,v)::del e i
def putO(e:Env):Option Nat->zx->Value->Env
 |none,_,_=>e
 |some d,c,v=>put e d c v
def clean:Env->Env
 |[]=>[]
 |(j,[],v)::e=>(j,[],v)::clean e
 |(_,_::_,_)::e=>clean e
theorem Wy{e:Env}{c:zx}(h:look e i=some (c,v)):(i,c,v)∈e:=by
 induction e with
 |nil=>cases h
 |cons x e ih=>
  obtain⟨j,cj,vj⟩:=x
  simp only[look]at h
  by_cases hb:Nat.beq i j=true
  ·simp only[hb,cond_true,Ab,Bq]at h
   obtain⟨rfl,rfl⟩:=h
   rw[Ah hb]
   exact Am
  ·simp only[hb,cond_false]at h
   exact Ag _ (ih h)
theorem z0o{e:Env}{x:Nat×zx×Value}(h:x∈del e i):x∈e/\x.1≠i/\mentions x.2.1 i=false:=by
 induction e with
 |nil=>cases h
 |cons y e ih=>
  obtain⟨j,cj,vj⟩:=y
  simp only[del]at h
  by_cases hb:Nat.beq i j=true
  ·simp only[hb,cond_true]at h
   exact⟨Ag _ (ih h).1,(ih h).2⟩
  ·have ab:Nat.beq i j=false:=Bool.eq_false_iff.2 hb
   simp only[ab,cond_false]at h
   by_cases hm:mentions cj i=true
   ·simp only[hm,cond_true]at h
    exact⟨Ag _ (ih h).1,(ih h).2⟩
   ·have Z:mentions cj i=false:=by simpa using hm
    simp only[Z,cond_false]at h
    rcases Ai.1 h with rfl|h
    ·refine⟨Am,λaa=>?_,Z⟩
     simp only at aa
     rw[aa]at hb
     exact hb (by simp)
    ·exact⟨Ag _ (ih h).1,(ih h).2⟩
theorem ztm{e:Env}{x:Nat×zx×Value}(h:x∈clean e):x∈e/\x.2.1=[]:=by
 induction e with
 |nil=>cases h
 |cons y e ih=>
  obtain⟨j,cj,vj⟩:=y
  cases cj with
  |nil=>
   simp only[clean]at h
   rcases Ai.1 h with rfl|h
   ·exact⟨Am,rfl⟩
   ·exact⟨Ag _ (ih h).1,(ih h).2⟩
  |cons c cs=>
   simp only[clean]at h
   exact⟨Ag _ (ih h).1,(ih h).2⟩
theorem Sat.sub{e e':Env}(h:Sat n e a)(hs:∀x∈e',x∈e):Sat n e' a:=⟨h.defers,h.size,λx hx=>h.all x (hs x hx)⟩
theorem Sat.clean{n:Nat}{e:Env}{a:Act}(h:Sat n e a):Sat n (clean e) a:=h.sub λ_ hx=>(ztm hx).1
theorem w9{σ τ:Nat->Value}{c:zx}(hm:mentions c i=false)(h:∀j,j≠i->σ j=τ j):valid σ c↔valid τ c:=by
 induction c with
 |nil=>exact Iff.rfl
 |cons x c ih=>
  obtain⟨g,p⟩:=x
  simp only[mentions]at hm
  by_cases hb:Nat.beq i g=true
  ·simp[hb]at hm
  ·simp only[hb,cond_false]at hm
   have hg:g≠i:=λe=>hb (by rw[e];simp)
   simp only[valid,h g hg,ih hm]
theorem qj(hi:i<a.tmps.size):zm (a.put (some i) u) i=u:=by
 simp[zm,Act.put,hi]
theorem qe{i j:Nat}(h:j≠i):zm (a.put (some i) u) j=zm a j:=by
 simp[zm,Act.put,AN (Ne.symm h)]
theorem size_put(a:Act)(d:Option Nat)(u:Value):(a.put d u).tmps.size=a.tmps.size:=by
 cases d <;> simp[Act.put]
theorem zy(a:Act)(d:Option Nat)(u:Value):(a.put d u).defers=a.defers:=by
 cases d <;> simp[Act.put]
theorem Sat.put{n:Nat}{e:Env}{a:Act}(h:Sat n e a){i:Nat}{c:zx}{v u:Value}(hi:i<n)(hm:mentions c i=false)
  (hy:valid (zm a) c->u=v) (hn:¬valid (zm a) c->u=undef):Sat n (put e i c v) (a.put (some i) u):=by
 refine⟨by rw[zy];exact h.defers,by rw[size_put];exact h.size,λx hx=>?_⟩
 have aa:i<a.tmps.size:=by rw[h.size];exact hi
 rcases Ai.1 hx with rfl|hx
 ·have hv:=w9 (σ:=zm (a.put (some i) u)) (τ:=zm a) hm (λj hj=>qe hj)
  refine⟨λhc=>?_,λhc=>?_⟩
  ·exact(qj aa).trans (hy (hv.1 hc))
  ·exact(qj aa).trans (hn (λZ=>hc (hv.2 Z)))
 ·obtain⟨h1,h2,h3⟩:=z0o hx
  have hv:=w9 (σ:=zm (a.put (some i) u)) (τ:=zm a) h3 (λj hj=>qe hj)
  have hf:=h.all x h1
  refine⟨λhc=>?_,λhc=>?_⟩
  ·exact(qe h2).trans (hf.1 (hv.1 hc))
  ·exact(qe h2).trans (hf.2 (λZ=>hc (hv.2 Z)))
def qk(n:Nat)(c:zx):Option Nat->Bool
 |none=>true
 |some d=>bif mentions c d then false else Nat.blt d n
theorem Sat.putO{n:Nat}{e:Env}{a:Act}(h:Sat n e a){d:Option Nat}{c:zx}{v u:Value}(hd:qk n c d=true)
  (hy:valid (zm a) c->u=v) (hn:¬valid (zm a) c->u=undef):Sat n (putO e d c v) (a.put d u):=by
 cases d with
 |none=>exact h
 |some i=>
  simp only[qk]at hd
  by_cases hm:mentions c i=true
  ·simp[hm]at hd
  ·have Z:mentions c i=false:=by simpa using hm
   simp only[Z,cond_false]at hd
   exact h.put (by simpa[Cj]using hd) Z hy hn
def xb:zx->zx->Bool
 |[],[]=>true
 |(g,p)::c,(g',p')::c'=>bif Nat.beq g g' then(bif p then(bif p' then xb c c' else false)else(bif p' then false else xb c c'))else false
 |_,_=>false
theorem Q5:∀{c c':zx},xb c c'=true->c=c'
 |[],[],_=>rfl
 |[],_::_,h=>by simp[xb]at h
 |_::_,[],h=>by simp[xb]at h
 |(g,p)::c,(g',p')::c',h=>by
  simp only[xb]at h
  by_cases hb:Nat.beq g g'=true
  ·simp only[hb,cond_true]at h
   have e1:=Ah hb
   cases p <;> cases p' <;> simp at h <;> rw[e1,Q5 h]
  ·simp[hb]at h
def suf(cs:zx):zx->Bool
 |[]=>xb cs []
 |x::c=>bif xb cs (x::c)then true else suf cs c
theorem Q6{σ:Nat->Value}{cs:zx}:∀{c:zx},suf cs c=true->valid σ c->valid σ cs
 |[],h,_=>by rw[Q5 h];trivial
 |x::c,h,hv=>by
  simp only[suf]at h
  by_cases hb:xb cs (x::c)=true
  ·rw[Q5 hb];exact hv
  ·simp only[hb,cond_false]at h
   exact Q6 h hv.2
def Yu(e:Env)(c:zx):Operand->Option Value
 |.tmp t=>match look e t with
  |some (cs,v)=>bif suf cs c then some v else none
  |none=>none
 |.const v=>some v
 |.global g=>some (.pointer (some ⟨g,0,none⟩))
 |.func f=>some (.func (.func f) #[] #[])
theorem yb{e:Env}(h:Sat n e a){c:zx}(hc:valid (zm a) c){x:Operand}(hx:Yu e c x=some v):a.eval x=v:=by
 cases x with
 |tmp t=>
  simp only[Yu]at hx
  split at hx
  ·rename_i cs u hl
   by_cases hs:suf cs c=true
   ·simp only[hs,cond_true,Ab]at hx
    subst hx
    exact(h.all _ (Wy hl)).1 (Q6 hs hc)
   ·simp[hs]at hx
  ·cases hx
 |const u=>simp only[Yu,Ab]at hx;exact hx
 |global g=>simp only[Yu,Ab]at hx;exact hx
 |func f=>simp only[Yu,Ab]at hx;exact hx
def rho(e:Env)(c:zx)(x:Operand):Value:=match Yu e c x with
 |some v=>v
 |none=>undef
def known(e:Env)(c:zx):List Operand->Bool
 |[]=>true
 |x::l=>match Yu e c x with
  |some _=>known e c l
  |none=>false
theorem j8{e:Env}(h:Sat n e a){c:zx}(hc:valid (zm a) c){l:List Operand}(hk:known e c l=true):∀x∈l,a.eval x=rho e c x:=by
 induction l with
 |nil=>intro x hx;cases hx
 |cons y l ih=>
  intro x hx
  simp only[known]at hk
  split at hk
  ·rename_i v hv
   rcases Ai.1 hx with rfl|hx
   ·rw[yb h hc hv];simp[rho,hv]
   ·exact ih hk x hx
  ·cases hk
def jc:Op->Bool
 |.select _ _=>false
 |_=>true
theorem Qj{e:Env}(h:Sat n e a){c:zx}(hc:valid (zm a) c)(hs:jc o.op=true)(hk:known e c o.op.operands.toList=true):
  execOp a.eval o=execOp (rho e c) o:=
 execOp_congr o (λcs b hb=>by rw[hb]at hs;cases hs) λx hx=>j8 h hc hk x (by simpa using hx)
def yh(ops:Array Oper)(j:Nat):Option Nat:=match ops[j]? with
 |some o=>o.dst
 |none=>none
def Qv(ops:Array Oper)(e:Env):Option (Nat×Bool)->Option zx
 |none=>some []
 |some (j,p)=>match yh ops j with
  |some g=>match look e g with
   |some (cg,.bool _)=>some ((g,p)::cg)
   |_=>none
  |none=>none
def ztn(e:Env):zx->Option Bool
 |[]=>some true
 |(g,p)::c=>match look e g with
  |some (cg,.bool b)=>bif xb cg c then(match ztn e c with
    |some cb=>some (cb&&(bif p then b else !b))
    |none=>none)else none
  |_=>none
theorem zbb{b:Bool}:undef≠.bool b:=by simp[undef]
theorem X0{n:Nat}{e:Env}{a:Act}(h:Sat n e a):∀{c:zx} {b:Bool},ztn e c=some b->(b=true↔valid (zm a) c)
 |[],b,hb=>by simp only[ztn,Ab]at hb;simp[<-hb,valid]
 |(g,p)::c,b,hb=>by
  simp only[ztn]at hb
  split at hb
  ·rename_i cg bg hl
   by_cases hq:xb cg c=true
   ·simp only[hq,cond_true]at hb
    split at hb
    ·rename_i cb Z
     simp only[Ab]at hb
     have ih:=X0 h Z
     have hf:=h.all _ (Wy hl)
     rw[Q5 hq]at hf
     by_cases hv:valid (zm a) c
     ·have h1:zm a g=.bool bg:=hf.1 hv
      have h2:=ih.2 hv
      subst hb
      simp only[valid,h1,hv,h2,Cf,and_true,Value.bool.injEq]
      cases p <;> cases bg <;> simp
     ·have h1:cb=false:=by cases cb with|false=>rfl|true=>exact absurd (ih.1 rfl) hv
      subst hb
      simp[valid,hv,h1]
    ·cases hb
   ·simp[hq]at hb
  ·cases hb
theorem xr{ops:Array Oper}{e:Env}(h:Sat n e a){c:zx}(hc:Qv ops e o.guard=some c):
  Bm o (yielded ops a.tmps)=true↔valid (zm a) c:=by
 unfold Bm
 cases hg:o.guard with
 |none=>rw[hg]at hc;simp only[Qv,Ab]at hc;simp[<-hc,valid]
 |some jp=>
  obtain⟨j,p⟩:=jp
  rw[hg]at hc
  simp only[Qv]at hc
  split at hc
  ·rename_i g hd
   split at hc
   ·rename_i cg b hl
    simp only[Ab]at hc
    subst hc
    have aa:((ops[j]?).bind (·.dst))=some g:=by
     simp only[yh]at hd
     split at hd
     ·rename_i o' Z;simp[Z,hd]
     ·cases hd
    have hf:=h.all _ (Wy hl)
    have hy:yielded ops a.tmps j=some p↔zm a g=.bool p:=by
     unfold yielded zm
     rw[aa]
     simp only[CE]
     cases ht:a.tmps[g]? with
     |none=>simp[BC,ht,undef]
     |some v=>cases v <;> simp[BC,ht]
    simp only[beq_iff_eq,hy,valid]
    constructor
    ·intro h1
     refine⟨h1,?_⟩
     by_cases hv:valid (zm a) cg
     ·exact hv
     ·have:=hf.2 hv
      simp only at this
      rw[h1]at this
      exact absurd this.symm zbb
    ·exact λh1=>h1.1
   ·cases hc
  ·cases hc
structure Keep (n:Nat) (h h':za):Prop where
 size:h.size<=h'.size
 get:∀i,i<n->h'[i]?=h[i]?
theorem Keep.refl(n:Nat)(h:za):Keep n h h:=⟨Ac _,λ_ _=>rfl⟩
theorem Keep.trans{a b c:za}(h:Keep n a b)(k:Keep m b c)(hm:n<=m):Keep n a c:=
 ⟨DN h.size k.size,λi hi=>(k.get i (De hi hm)).trans (h.get i hi)⟩
theorem Keep.mono{a b:za}(h:Keep n a b)(hm:m<=n):Keep m a b:=⟨h.size,λi hi=>h.get i (De hi hm)⟩
theorem Keep.push(h:za)(o:Obj)(hn:n<=h.size):Keep n h (h.push o):=
 ⟨by simp,λi hi=>by rw[B6,if_neg (by omega)]⟩
end
section
variable {P:Program} {α:Type} {h:za} {v x i:Value} {t:TypeId} {g:Option Bool} {n l r:Int}
def zc(h:za)(a:Addr):Option Value:=
 match h[a.block]? with
 |some (.cells c _ _)=>if a.spot.isSome then none else c[a.off]?
 |_=>none
theorem zto(B:World)(d:Nat)(h:za)(a:Addr):(mk B d h).cell? a=zc h a:=rfl
def Zk(P:Program){α:Type}:Sem α->Option α
 |.pure a=>some a
 |.program k=>Zk P (k P)
 |.mark _ k=>Zk P k
 |_=>none
def QExec(P:Program){α:Type}(s:Sem α)(h:za)(x:α):Prop:=∀B d,s.run P (mk B d h)=.ok x (mk B d h)
theorem J6{s:Sem α}{x:α}(h:Zk P s=some x)(w:World):s.run P w=.ok x w:=by
 induction s with
 |pure a=>simp only[Zk,Ab]at h;subst h;rfl
 |program k ih=>exact ih P h
 |mark m k ih=>exact ih h
 |_=>simp[Zk]at h
theorem zgp{s:Sem α}{x:α}(h:Zk P s=some x)(hp:za):QExec P s hp x:=λ_ _=>J6 h _
theorem QExec.bind{α β:Type}{s:Sem α}{f:α->Sem β}{x:α}{y:β}(h1:QExec P s h x)(h2:QExec P (f x) h y):QExec P (s >>= f) h y:=by
 intro B d
 rw[Sem.run_bind,h1 B d]
 exact h2 B d
theorem QExec.pure(x:α):QExec P (CZ x) h x:=λ_ _=>rfl
theorem QExec.val{s:Sem Value}(h1:QExec P s h v):QExec P (s >>= λx=>CZ (Df x)) h (Df v):=h1.bind (QExec.pure _)
theorem QExec.underlying{d:TypeDesc}(hd:P.underlying t=some d):QExec P (Go.underlying t) h d:=by
 intro B e
 simp[Go.underlying,program,hd,Sem.run]
def qw(P:Program)(t:TypeId):Nat:=match P.info? t with
 |some i=>i.size
 |none=>0
theorem QExec.sizeOf{i:TypeInfo}(hi:P.info? t=some i):QExec P (Go.sizeOf t) h (qw P t):=by
 intro B d
 simp[Go.sizeOf,typeInfo,program,hi,Sem.run,qw]
theorem info_of_underlying{d:TypeDesc}(hd:P.underlying t=some d):∃i,P.info? t=some i:=by
 unfold Program.underlying at hd
 cases h:P.info? t with
 |none=>rw[h]at hd;cases hd
 |some i=>exact⟨i,rfl⟩
inductive Atom where
 |int (k:IntKind)|bool|str|sl|mp|ptr|raw|ad
structure Sl where
 a:Option Addr
 len:Nat
 cap:Nat
@[reducible] def Atom.den:Atom->Type
 |.int _=>Int | .bool=>Bool | .str=>Bt | .sl=>Sl | .mp=>Option Nat | .ptr=>Option Addr | .raw=>Value | .ad=>Addr
def Atom.enc:(t:Atom)->t.den->Value
 |.int k,n=>.int k n
 |.bool,b=>.bool b
 |.str,s=>.string s
 |.sl,s=>.slice s.a s.len s.cap
 |.mp,m=>.map m
 |.ptr,p=>.pointer p
 |.raw,v=>v
 |.ad,p=>.pointer (some p)
def Atom.dec:(t:Atom)->Value->Option t.den
 |.int k,.int k' n=>if k=k' then some n else none
 |.bool,.bool b=>some b
 |.str,.string s=>some s
 |.sl,.slice a l c=>some ⟨a,l,c⟩
 |.mp,.map m=>some m
 |.ptr,.pointer p=>some p
 |.raw,v=>some v
 |.ad,.pointer (some p)=>some p
 |_,_=>none
theorem Atom.enc_of_dec{t:Atom}{x:t.den}(h:t.dec v=some x):t.enc x=v:=by
 cases t with
 |ad=>
  cases v with
  |pointer p=>
   cases p with
   |none=>simp[Atom.dec]at h
   |some a=>simp[Atom.dec]at h;rw[h];rfl
  |_=>simp[Atom.dec]at h
 |_=>cases v <;> simp_all[Atom.dec,Atom.enc] <;> (subst h;first|rfl|exact⟨rfl,rfl,rfl⟩)
inductive VT where
 |one (t:Atom)
 |agg (l:List Atom)
inductive RT where
 |one (v:VT)
 |tup (l:List VT)
def zir:List Atom->(List Value->Prop)->Prop
 |[],F=>F []
 |t::l,F=>∃x:t.den,zir l λvs=>F (t.enc x::vs)
def z8i:VT->(Value->Prop)->Prop
 |.one t,F=>∃x:t.den,F (t.enc x)
 |.agg l,F=>zir l λvs=>F (.agg vs.toArray)
def z0p:List VT->(List Value->Prop)->Prop
 |[],F=>F []
 |t::l,F=>z8i t λv=>z0p l λvs=>F (v::vs)
def zxr:RT->(Value->Prop)->Prop
 |.one v,F=>z8i v F
 |.tup l,F=>z0p l λvs=>F (.tuple vs.toArray)
def zbc:List Atom->(List Value->Prop)->Prop
 |[],F=>F []
 |t::l,F=>∀x:t.den,zbc l λvs=>F (t.enc x::vs)
def ztp:VT->(Value->Prop)->Prop
 |.one t,F=>∀x:t.den,F (t.enc x)
 |.agg l,F=>zbc l λvs=>F (.agg vs.toArray)
def zg7:List VT->(List Value->Prop)->Prop
 |[],F=>F []
 |t::l,F=>ztp t λv=>zg7 l λvs=>F (v::vs)
def z4j:RT->(Value->Prop)->Prop
 |.one v,F=>ztp v F
 |.tup l,F=>zg7 l λvs=>F (.tuple vs.toArray)
theorem Zs:∀{l:List Atom} {F G:List Value->Prop},zir l F->zbc l G->∃vs,vs.length=l.length/\F vs/\G vs
 |[],_,_,h,g=>⟨[],rfl,h,g⟩
 |_::_,_,_,⟨x,h⟩,g=>let ⟨vs,h0,h1,h2⟩:=Zs h (g x);⟨_,by simp[h0],h1,h2⟩
theorem je:∀(l:List Atom),zbc l λ_=>True
 |[]=>trivial
 |_::l=>λ_=>je l
theorem znh{v:VT}{F G:Value->Prop}(h:z8i v F)(g:ztp v G):∃u,F u/\G u:=by
 cases v with
 |one t=>obtain⟨x,h⟩:=h;exact⟨_,h,g x⟩
 |agg l=>obtain⟨vs,_,h1,h2⟩:=Zs h g;exact⟨_,h1,h2⟩
theorem zni(v:VT):ztp v λ_=>True:=by
 cases v with
 |one t=>exact λ_=>trivial
 |agg l=>exact je l
theorem zis:∀{l:List VT} {F G:List Value->Prop},z0p l F->zg7 l G->∃vs,F vs/\G vs
 |[],_,_,h,g=>⟨[],h,g⟩
 |_::_,_,_,h,g=>let ⟨_,h1,h2⟩:=znh h g;let ⟨_,h3,h4⟩:=zis h1 h2;⟨_,h3,h4⟩
theorem zdx:∀(l:List VT),zg7 l λ_=>True
 |[]=>trivial
 |v::l=>by
  have h:=zdx l
  simp only[zg7]
  cases v with
  |one t=>exact λ_=>h
  |agg l'=>
   simp only[ztp]
   have key:∀(l':List Atom) (f:List Value->List Value),zbc l' λ_=>zg7 l λ_=>True:=λl' _=>by
    induction l' with
    |nil=>exact h
    |cons t l' ih=>exact λ_=>ih
   exact key l' id
theorem ztq{r:RT}{F G:Value->Prop}(h:zxr r F)(g:z4j r G):∃v,F v/\G v:=by
 cases r with
 |one v=>exact znh h g
 |tup l=>obtain⟨vs,h1,h2⟩:=zis h g;exact⟨_,h1,h2⟩
theorem ze0{r:RT}{F:Value->Prop}(h:zxr r F):∃v,F v:=by
 cases r with
 |one v=>obtain⟨u,h1,_⟩:=znh h (zni v);exact⟨u,h1⟩
 |tup l=>obtain⟨vs,h1,_⟩:=zis h (zdx l);exact⟨_,h1⟩
def zzv:TypeDesc->Atom
 |.int k=>.int k
 |.bool=>.bool
 |.string=>.str
 |.slice _=>.sl
 |.map _ _=>.mp
 |.pointer _=>.ptr
 |_=>.raw
def zit(P:Program):Nat->TypeId->Option (List Atom)
 |0,_=>none
 |n+1,t=>match P.underlying t with
  |some (.struct fs)=>fs.toList.foldr (λf l=>match zit P n f.type,l with
    |some x,some y=>some (x++y)
    |_,_=>none) (some [])
  |some (.array m e)=>match zit P n e with
    |some x=>some (List.replicate m x).flatten
    |none=>none
  |some d=>some [zzv d]
  |none=>none
def zti(P:Program)(t:TypeId):Option VT:=match P.underlying t with
 |some (.struct _)|some (.array _ _)=>match zit P 8 t with
  |some l=>bif Nat.beq l.length (qw P t)then some (.agg l)else none
  |none=>none
 |some d=>some (.one (zzv d))
 |none=>none
def z4k(P:Program):List TypeId->Option (List VT)
 |[]=>some []
 |t::l=>match zti P t,z4k P l with
  |some x,some y=>some (x::y)
  |_,_=>none
def z4b(P:Program)(t:TypeId):Option RT:=match P.underlying t with
 |some (.tuple ts)=>match z4k P ts.toList with
  |some l=>some (.tup l)
  |none=>none
 |_=>match zti P t with
  |some v=>some (.one v)
  |none=>none
def req:Option Bool->Prop->Prop
 |none,p=>p
 |some b,p=>b=true->p
def gok:Option Bool->Prop
 |none=>True
 |some b=>b=true
theorem req.out{p:Prop}(h:req g p)(hg:gok g):p:=by
 cases g with
 |none=>exact h
 |some b=>exact h hg
def zf(h:za)(p:Addr):Nat->List Value->Prop
 |_,[]=>True
 |i,v::vs=>zc h (p.add i)=some v/\zf h p (i+1) vs
def ld(h:za)(p:Addr):Value->Prop
 |.agg vs=>zf h p 0 vs.toList
 |v=>zc h p=some v
def ziu(P:Program)(h:za)(t:TypeId)(p:Value)(g:Option Bool)(K:Value->Prop):Prop:=
 match p,zti P t with
 |.pointer (some p),some (.one a)=>∃x:a.den,req g (zc h p=some (a.enc x))/\K (a.enc x)
 |.pointer (some p),some (.agg l)=>zir l λvs=>req g (zf h p 0 vs)/\K (.agg vs.toArray)
 |_,_=>False
theorem J7{P:Program}{h:za}{p:Addr}:∀(vs:List Value) (i:Nat) (acc:Array Value),zf h p i vs->QExec P (loadCellsFrom p i vs.length acc) h (acc++vs.toArray)
 |[],i,acc,_=>by intro B d;simp[loadCellsFrom]
 |v::vs,i,acc,⟨h1,h2⟩=>by
  have ih:=J7 (P:=P) vs (i+1) (acc.push v) h2
  intro B d
  simp only[AH,loadCellsFrom,Sem.run_bind,run_load]
  rw[zto,h1]
  simp only[Result.andThen_ok]
  rw[ih B d]
  simp
theorem zbd{a:Atom}{p:Addr}(ht:zti P t=some (.one a))(hc:zc h p=some v):QExec P (loadVar t p) h v:=by
 unfold zti at ht
 cases hu:P.underlying t with
 |none=>rw[hu]at ht;cases ht
 |some d=>
  rw[hu]at ht
  intro B e
  have hq:=QExec.underlying (h:=h) hu B e
  have Z:(isAgg t).run P (mk B e h)=.ok false (mk B e h):=by
   unfold isAgg
   rw[Sem.run_bind,hq]
   cases d <;> first|rfl|(exfalso;revert ht;dsimp only;split <;> first|(intro h;cases h;done)|(cases hb:Nat.beq _ _ <;> intro h <;> cases h))
  unfold loadVar
  rw[Sem.run_bind,Z]
  simp only[Result.andThen_ok,Bi,if_false,run_load]
  rw[zto,hc]
theorem zbe{l:List Atom}{p:Addr}{vs:List Value}(ht:zti P t=some (.agg l))(hl:vs.length=l.length)(hc:zf h p 0 vs):QExec P (loadVar t p) h (.agg vs.toArray):=by
 unfold zti at ht
 cases hu:P.underlying t with
 |none=>rw[hu]at ht;cases ht
 |some d=>
  rw[hu]at ht
  obtain⟨i,hi⟩:=info_of_underlying hu
  have Z:(∃fs,d=.struct fs)\/(∃n e,d=.array n e):=by
   cases d <;> first|exact Or.inl ⟨_,rfl⟩|exact Or.inr ⟨_,_,rfl⟩|(simp at ht)
  have aa:qw P t=l.length:=by
   have hm:(match zit P 8 t with
     |some l=>bif Nat.beq l.length (qw P t)then some (VT.agg l)else none
     |none=>none)=some (.agg l):=by
    rcases Z with⟨fs,rfl⟩|⟨n,e,rfl⟩ <;> exact ht
   split at hm
   ·rename_i l' _
    cases hb:Nat.beq l'.length (qw P t)with
    |false=>rw[hb]at hm;cases hm
    |true=>
     rw[hb]at hm
     simp only[cond_true,Ab,VT.agg.injEq]at hm
     rw[<-hm];exact(Ah hb).symm
   ·cases hm
  intro B e
  have hq:=QExec.underlying (h:=h) hu B e
  have hA:(isAgg t).run P (mk B e h)=.ok true (mk B e h):=by
   unfold isAgg
   rw[Sem.run_bind,hq]
   rcases Z with⟨fs,rfl⟩|⟨n,e',rfl⟩ <;> rfl
  have hS:=QExec.sizeOf (h:=h) hi B e
  unfold loadVar
  rw[Sem.run_bind,hA]
  simp only[Result.andThen_ok,if_true]
  rw[Sem.run_bind,hS]
  simp only[Result.andThen_ok]
  have hL:=J7 (P:=P) vs 0 #[] hc B e
  unfold loadCells
  rw[Sem.run_bind,aa,<-hl,hL]
  simp
theorem ze1{p:Value}{K:Value->Prop}(H:ziu P h t p g K):
  ∃v,K v/\(gok g->QExec P (Dv t p) h v):=by
 unfold ziu at H
 split at H
 ·rename_i q a hv
  obtain⟨x,h1,h2⟩:=H
  exact⟨_,h2,λhg=>zbd hv (h1.out hg)⟩
 ·rename_i q l hv
  obtain⟨vs,h0,⟨h1,h2⟩,_⟩:=Zs H (je l)
  exact⟨_,h2,λhg=>zbe hv h0 (h1.out hg)⟩
 ·exact H.elim
def zkq(P:Program)(t:TypeId)(x i:Value)(g:Option Bool)(K:Value->Prop):Prop:=
 match P.underlying t with
 |some (.slice el)=>match x,i with
  |.slice base len _,.int _ n=>∃a:Addr,req g (base=some a/\0<=n/\n<(len:Int))/\K (.pointer (some (a.add (n.toNat*qw P el))))
  |_,_=>False
 |some (.array len el)=>match x,i with
  |.pointer base,.int _ n=>∃a:Addr,req g (base=some a/\0<=n/\n<(len:Int))/\K (.pointer (some (a.add (n.toNat*qw P el))))
  |_,_=>False
 |_=>False
def qf(P:Program)(t:TypeId):Bool:=match P.info? t with
 |some _=>true
 |none=>false
theorem y8(h:qf P t=true):∃i,P.info? t=some i:=by
 unfold qf at h
 split at h
 ·exact⟨_,by assumption⟩
 ·cases h
theorem j5(t:TypeId)(B:World)(d:Nat):(∃i,P.info? t=some i)->(Go.sizeOf t).run P (mk B d h)=.ok (qw P t) (mk B d h):=λ⟨_,hi⟩=>QExec.sizeOf hi B d
theorem wb{K:Value->Prop}
  (Z:∀el,(P.underlying t=some (.slice el)\/∃n,P.underlying t=some (.array n el))->∃i,P.info? el=some i) (H:zkq P t x i g K):
  ∃v,K v/\(gok g->∀h:za,QExec P (DW t x i) h v):=by
 unfold zkq at H
 split at H
 ·rename_i el hu
  split at H
  ·rename_i base len cap k n
   obtain⟨a,h1,h2⟩:=H
   refine⟨_,h2,λhg=>?_⟩
   obtain⟨rfl,h3,h4⟩:=h1.out hg
   intro h B d
   have hq:=QExec.underlying (h:=h) hu B d
   have hs:=j5 (h:=h) el B d (Z el (Or.inl hu))
   unfold DW
   simp[asIntOf,Sem.run_bind,hq,hs,h3,h4]
  ·exact H.elim
 ·rename_i len el hu
  split at H
  ·rename_i base k n
   obtain⟨a,h1,h2⟩:=H
   refine⟨_,h2,λhg=>?_⟩
   obtain⟨rfl,h3,h4⟩:=h1.out hg
   intro h B d
   have hq:=QExec.underlying (h:=h) hu B d
   have hs:=j5 (h:=h) el B d (Z el (Or.inr ⟨_,hu⟩))
   unfold DW
   simp[asIntOf,Sem.run_bind,hq,hs,h3,h4,Dp]
  ·exact H.elim
 ·exact H.elim
def zb(s:Bt)(i:Nat):Int:=((s.data[i]?.getD 0).toNat:Int)
def ze2(x i:Value)(g:Option Bool)(K:Value->Prop):Prop:=
 match x,i with
 |.string s,.int _ n=>req g (0<=n/\n<(s.size:Int))/\K (.int .u8 (zb s n.toNat))
 |_,_=>False
theorem z4l(s:Bt)(i:Nat)(h:i<s.size):s[i]?=some (s.data[i]?.getD 0):=by
 have h':i<s.data.size:=h
 rw[getElem?_pos s i h]
 simp[AI h']
 rfl
theorem J8{K:Value->Prop}(hu:P.underlying t=some .string)(H:ze2 x i g K):
  ∃v,K v/\(gok g->∀h:za,QExec P (Instr.index t x i) h v):=by
 unfold ze2 at H
 split at H
 ·rename_i s k n
  obtain⟨h1,h2⟩:=H
  refine⟨_,h2,λhg=>?_⟩
  obtain⟨h3,h4⟩:=h1.out hg
  intro h B d
  have hq:=QExec.underlying (h:=h) hu B d
  unfold Instr.index
  have hb:=z4l s n.toNat (by omega)
  simp only[asIntOf,Sem.run_bind,hq,Sem.run_pure,Result.andThen_ok,h3,if_true,hb,zb]
 ·exact H.elim
def zpl(a:Option Addr)(sz l m:Nat):Option Addr:=if m=l then a else a.map (·.add (l*sz))
def yq:Option Value->Int->Option Int
 |none,d=>some d
 |some (.int _ n),_=>some n
 |some _,_=>none
def zpm(P:Program)(t:TypeId)(x:Value)(lo hi mx:Option Value)(g:Option Bool)(K:Value->Prop):Prop:=
 match P.underlying t with
 |some .string=>match x,mx with
  |.string s,none=>match yq lo 0,yq hi (s.size:Int)with
   |some l,some r=>req g (0<=l/\l<=r/\r<=(s.size:Int))/\K (.string (s.extract l.toNat r.toNat))
   |_,_=>False
  |_,_=>False
 |some (.slice el)=>match x with
  |.slice a len cap=>match yq lo 0,yq hi (len:Int),yq mx (cap:Int)with
   |some l,some r,some m=>(mx=none\/∃v,hi=some v)/\req g (0<=l/\l<=r/\r<=m/\m<=(cap:Int))/\K (.slice (zpl a (qw P el) l.toNat m.toNat) (r.toNat-l.toNat) (m.toNat-l.toNat))
   |_,_,_=>False
  |_=>False
 |some (.array n el)=>match x,mx with
  |.pointer (some a),none=>match yq lo 0,yq hi (n:Int)with
   |some l,some r=>req g (0<=l/\l<=r/\r<=(n:Int))/\K (.slice (zpl (some a) (qw P el) l.toNat n) (r.toNat-l.toNat) (n-l.toNat))
   |_,_=>False
  |_,_=>False
 |_=>False
theorem y9{v:Option Value}{d n:Int}(h:yq v d=some n):(v=none/\n=d)\/∃k,v=some (.int k n):=by
 unfold yq at h
 split at h
 ·exact Or.inl ⟨rfl,by simpa using h.symm⟩
 ·simp only[Ab]at h
  exact Or.inr ⟨_,by rw[h]⟩
 ·cases h
theorem yv{k:IntKind}{y:Nat}{c:BoundsCode}(h0:0<=n)(h1:n<=(y:Int)):QExec P (Instr.sliceBound (.int k n) y c) h n.toNat:=by
 intro B d
 simp[Instr.sliceBound,asIntOf,h0,h1]
theorem zg8{n:Nat}{lo hi:Option Value}(hl:yq lo 0=some l)(hr:yq hi (n:Int)=some r)(h3:0<=l)(h4:l<=r)(h5:r<=(n:Int)):
  QExec P (Instr.sliceBounds false n n lo hi none) h (l.toNat,r.toNat,n):=by
 have e:(r.toNat:Int)=r:=Int.toNat_of_nonneg (by omega)
 rcases y9 hl with⟨rfl,rfl⟩|⟨k,rfl⟩ <;> rcases y9 hr with⟨rfl,rfl⟩|⟨k',rfl⟩
 ·exact QExec.pure _
 ·exact QExec.bind (QExec.pure n) (QExec.bind (yv (by omega) h5) (QExec.pure _))
 ·exact QExec.bind (QExec.pure n) (QExec.bind (QExec.pure n) (QExec.bind (yv h3 h4) (QExec.pure _)))
 ·exact QExec.bind (QExec.pure n) (QExec.bind (yv (by omega) h5) (QExec.bind (yv h3 (by omega)) (QExec.pure _)))
theorem zkr{len cap:Nat}{lo hi mx:Option Value}{l r m:Int}(hl:yq lo 0=some l)(hr:yq hi (len:Int)=some r)(hm:yq mx (cap:Int)=some m)
  (h0:mx=none\/∃v,hi=some v) (h3:0<=l) (h4:l<=r) (h5:r<=m) (h6:m<=(cap:Int)):
  QExec P (Instr.sliceBounds true len cap lo hi mx) h (l.toNat,r.toNat,m.toNat):=by
 have e:(r.toNat:Int)=r:=Int.toNat_of_nonneg (by omega)
 have e2:(m.toNat:Int)=m:=Int.toNat_of_nonneg (by omega)
 rcases y9 hm with⟨rfl,rfl⟩|⟨km,rfl⟩
 ·rcases y9 hl with⟨rfl,rfl⟩|⟨k,rfl⟩ <;> rcases y9 hr with⟨rfl,rfl⟩|⟨k',rfl⟩
  ·exact QExec.pure _
  ·exact QExec.bind (QExec.pure cap) (QExec.bind (yv (by omega) h5) (QExec.pure _))
  ·exact QExec.bind (QExec.pure cap) (QExec.bind (QExec.pure len) (QExec.bind (yv h3 h4) (QExec.pure _)))
  ·exact QExec.bind (QExec.pure cap) (QExec.bind (yv (by omega) h5) (QExec.bind (yv h3 (by omega)) (QExec.pure _)))
 ·rcases h0 with h0|⟨v,rfl⟩
  ·cases h0
  ·rcases y9 hr with⟨h9,_⟩|⟨k',h9⟩
   ·cases h9
   ·cases h9
    rcases y9 hl with⟨rfl,rfl⟩|⟨k,rfl⟩
    ·exact QExec.bind (x:=m.toNat) (yv (by omega) h6) (QExec.bind (yv (by omega) (by omega)) (QExec.pure _))
    ·exact QExec.bind (x:=m.toNat) (yv (by omega) h6) (QExec.bind (yv (by omega) (by omega)) (QExec.bind (yv h3 (by omega)) (QExec.pure _)))
theorem Qk{lo hi mx:Option Value}{K:Value->Prop}
  (Z:∀el,(P.underlying t=some (.slice el)\/∃n,P.underlying t=some (.array n el))->∃i,P.info? el=some i) (H:zpm P t x lo hi mx g K):
  ∃v,K v/\(gok g->∀h:za,QExec P (DF t x lo hi mx) h v):=by
 unfold zpm at H
 split at H
 ·rename_i hu
  split at H
  ·rename_i s
   split at H
   ·rename_i l r hl hr
    obtain⟨h1,h2⟩:=H
    refine⟨_,h2,λhg=>?_⟩
    obtain⟨h3,h4,h5⟩:=h1.out hg
    intro h B d
    have hq:=QExec.underlying (h:=h) hu B d
    have bb:=zg8 (P:=P) (h:=h) hl hr h3 h4 h5 B d
    unfold DF
    rw[Sem.run_bind,hq]
    simp only[Result.andThen_ok]
    unfold Instr.slice
    rw[Sem.run_bind,hq]
    simp[bb]
   ·exact H.elim
  ·exact H.elim
 ·rename_i el hu
  split at H
  ·rename_i a len cap
   split at H
   ·rename_i l r m hl hr hm
    obtain⟨h0,h1,h2⟩:=H
    refine⟨_,h2,λhg=>?_⟩
    obtain⟨h3,h4,h5,h6⟩:=h1.out hg
    intro h B d
    have hq:=QExec.underlying (h:=h) hu B d
    have hs:=j5 (h:=h) el B d (Z el (.inl hu))
    have bb:=zkr (P:=P) (h:=h) hl hr hm h0 h3 h4 h5 h6 B d
    unfold DF
    rw[Sem.run_bind,hq]
    simp only[Result.andThen_ok]
    unfold Instr.slice
    rw[Sem.run_bind,hq]
    simp[bb,hs,zpl]
   ·exact H.elim
  ·exact H.elim
 ·rename_i n el hu
  split at H
  ·rename_i a
   split at H
   ·rename_i l r hl hr
    obtain⟨h1,h2⟩:=H
    refine⟨_,h2,λhg=>?_⟩
    obtain⟨h3,h4,h5⟩:=h1.out hg
    intro h B d
    have hq:=QExec.underlying (h:=h) hu B d
    have hs:=j5 (h:=h) el B d (Z el (.inr ⟨n,hu⟩))
    have bb:=zg8 (P:=P) (h:=h) hl hr h3 h4 h5 B d
    unfold DF
    rw[Sem.run_bind,hq]
    simp only[Result.andThen_ok,Dp,Sem.run_bind,Sem.run_pure,bb,hs]
    unfold zpl
    split <;> rfl
   ·exact H.elim
  ·exact H.elim
 ·exact H.elim
end
section
variable {P:Program} {f:FuncId} {h:za} {K:Value -> za -> Prop} {t ty t':TypeId} {g:Option Bool} {w w':World} {v:Value} {o:Oper} {ρ:Operand -> Value} {a:Act}
def XC(P:Program)(f:FuncId)(args:Array Value)(h:za)(R:Value->za->Prop):Prop:=
 ∀B d,Calls P f args (mk B d h) λe w'=>∃v d' h',e=.returned v/\w'=mk B d' h'/\R v h'
theorem XC.mono{args:Array Value}{R R':Value->za->Prop}(H:XC P f args h R)(hR:∀v h',R v h'->R' v h'):XC P f args h R':=
 λB d=>(H B d).mono λ_ _ ⟨v,d',h',e1,e2,r⟩=>⟨v,d',h',e1,e2,hR _ _ r⟩
def XRun(P:Program)(s:Sem Value)(h:za)(K:Value->za->Prop):Prop:=∀B d,∃v d' h',s.run P (mk B d h)=.ok v (mk B d' h')/\K v h'
def XRunU(P:Program)(s:Sem Unit)(h:za)(K:za->Prop):Prop:=∀B d,∃d' h',s.run P (mk B d h)=.ok () (mk B d' h')/\K h'
theorem XRun.mono{s:Sem Value}{K K':Value->za->Prop}(H:XRun P s h K)(hK:∀v h',K v h'->K' v h'):XRun P s h K':=
 λB d=>let ⟨v,d',h',e,k⟩:=H B d;⟨v,d',h',e,hK _ _ k⟩
theorem XRunU.mono{s:Sem Unit}{K K':za->Prop}(H:XRunU P s h K)(hK:∀h',K h'->K' h'):XRunU P s h K':=
 λB d=>let ⟨d',h',e,k⟩:=H B d;⟨d',h',e,hK _ k⟩
def ju(n:Nat):Prop:=n<=9223372036854775807
def zcq(P:Program)(s:Sem Next)(K:Value->Prop):Prop:=match Zk P s with
 |some (.value v)=>K v
 |_=>False
def zxs(P:Program)(ty:TypeId)(s:Sem Value)(g:Option Bool)(h:za)(K:Value->Prop):Prop:=match z4b P ty with
 |some rt=>zxr rt λv=>req g (QExec P s h v)/\K v
 |none=>False
def zri(P:Program)(t:TypeId):Bool:=match P.underlying t with
 |some (.slice _)=>true
 |_=>false
def zrj(P:Program)(t:TypeId):Bool:=match P.underlying t with
 |some (.pointer e)=>Nat.beq e (P.pointee t)
 |_=>false
theorem zpn(h:zrj P t=true):P.underlying t=some (.pointer (P.pointee t)):=by
 unfold zrj at h
 split at h
 ·rename_i e hu;rw[hu,Ah h]
 ·cases h
def z7n(P:Program)(t:TypeId)(s:Sem Next)(op:BinOp)(x y:Value)(g:Option Bool)(K:Value->Prop):Prop:=
 match op,x,y with
 |.eql,.slice a _ _,.slice none 0 0=>bif zri P t then K (.bool a.isNone)else zcq P s K
 |.neq,.slice a _ _,.slice none 0 0=>bif zri P t then K (.bool (!a.isNone))else zcq P s K
 |.eql,.pointer a,.pointer none=>bif zrj P t then K (.bool a.isNone)else zcq P s K
 |.neq,.pointer a,.pointer none=>bif zrj P t then K (.bool (!a.isNone))else zcq P s K
 |.quo,.int k a,.int k' b=>k=k'/\req g (b≠0)/\K (.int k (k.wrap (a.tdiv b)))
 |.rem,.int k a,.int k' b=>k=k'/\req g (b≠0)/\K (.int k (a.tmod b))
 |.add,.string a,.string b=>req g (ju (a.size+b.size))/\K (.string (a++b))
 |_,_,_=>zcq P s K
def z0q(op:BinOp)(y:Operand):Bool:=match y with
 |.const _=>false
 |_=>match op with
  |.shl | .shr=>true
  |_=>false
def shF(op:BinOp)(x y:Value)(g:Option Bool)(K:Value->Prop):Prop:=
 match x,y with
 |.int k a,.int _ b=>match op with
  |.shl=>req g (0<=b)/\K (.int k (k.wrap (a*2 ^ (min b.toNat k.bits))))
  |.shr=>req g (0<=b)/\K (.int k (a.fdiv (2 ^ (min b.toNat k.bits))))
  |_=>False
 |_,_=>False
def z4m(P:Program)(t:TypeId)(y:Operand):Bool:=match y with
 |.const .nilIface=>match P.underlying t with
  |some (.interface _)=>true
  |_=>false
 |_=>false
def ifc:Value->Bool
 |.nilIface=>true
 |.iface _ _=>true
 |_=>false
def z4n:Value->Bool
 |.nilIface=>true
 |_=>false
def nvF(op:BinOp)(x y:Value)(g:Option Bool)(K:Value->Prop):Prop:=match y with
 |.nilIface=>match op with
  |.eql=>req g (ifc x=true)/\K (.bool (z4n x))
  |.neq=>req g (ifc x=true)/\K (.bool (!z4n x))
  |_=>False
 |_=>False
def zg9(b:Builtin)(Z:Array TypeId)(aa:TypeId)(args:Array Value):Option (Sem Value):=
 match b with
 |.append=>some (AD Z aa args)
 |.copy=>some (Builtin.copy_ Z aa args)
 |.clear=>some (Builtin.clear_ Z aa args)
 |.delete=>some (Builtin.delete_ Z aa args)
 |.len=>some (Dw Z aa args)
 |_=>none
def z8j(P:Program)(s:Sem Next)(ty:TypeId)(Z:Array TypeId)(args:Array Value)(g:Option Bool)(h:za)(K:Value->Prop):Prop:=
 match (args[0]?:Option Value)with
 |some (Value.map _)=>zxs P ty (Dw Z ty args) g h K
 |_=>zcq P s K
def J9(P:Program)(t:TypeId):Bool:=match P.underlying t with
 |some (.slice el)=>qf P el
 |some (.array _ el)=>qf P el
 |_=>true
theorem j9(h:J9 P t=true):∀el,(P.underlying t=some (.slice el)\/∃n,P.underlying t=some (.array n el))->∃i,P.info? el=some i:=by
 intro el Z
 unfold J9 at h
 rcases Z with Z|⟨n,Z⟩ <;> rw[Z]at h <;> exact y8 h
def zks(P:Program)(t:TypeId):Bool:=match P.underlying t with
 |some .string=>true
 |_=>false
theorem zkt(h:zks P t=true):P.underlying t=some .string:=by
 unfold zks at h
 split at h
 ·assumption
 ·cases h
def z7o(P:Program)(s:Sem Next)(x:Value)(g:Option Bool)(K:Value->Prop):Prop:=match x with
 |.pointer p=>∃a:Addr,req g (p=some a)/\K (.pointer (some a))
 |_=>zcq P s K
def w7(P:Program)(o:Oper)(ρ:Operand->Value)(g:Option Bool)(h:za)(K:Value->Prop):Prop:=
 match o.op with
 |.load t a=>ziu P h t (ρ a) g K
 |.indexAddr t x i=>bif J9 P t then zkq P t (ρ x) (ρ i) g K else False
 |.index t x i=>bif zks P t then ze2 (ρ x) (ρ i) g K else zcq P (execOp ρ o) K
 |.slice t x lo hi mx=>bif J9 P t then zpm P t (ρ x) (lo.map ρ) (hi.map ρ) (mx.map ρ) g K else False
 |.binOp op t x y _=>bif z0q op y then shF op (ρ x) (ρ y) g K else bif z4m P t y then nvF op (ρ x) (ρ y) g K else z7n P t (execOp ρ o) op (ρ x) (ρ y) g K
 |.lookup t m k ok=>zxs P o.type (Instr.lookup t (ρ m) (ρ k) ok) g h K
 |.nilCheck x=>z7o P (execOp ρ o) (ρ x) g K
 |.call c=>match c.callee with
  |.builtin .len=>z8j P (execOp ρ o) o.type c.argTypes (c.args.map ρ) g h K
  |_=>zcq P (execOp ρ o) K
 |_=>zcq P (execOp ρ o) K
theorem zn{s:Sem Next}{K:Value->Prop}(H:zcq P s K)(g:Option Bool):∃v,K v/\(gok g->∀h:za,QExec P s h (.value v)):=by
 unfold zcq at H
 split at H
 ·rename_i v hv
  exact⟨v,H,λ_ h=>zgp hv h⟩
 ·exact H.elim
theorem ze3{s:Sem Value}{K:Value->Prop}(H:zxs P ty s g h K):∃v,K v/\(gok g->QExec P s h v):=by
 unfold zxs at H
 split at H
 ·obtain⟨v,h1,h2⟩:=ze0 H
  exact⟨v,h2,λhg=>h1.out hg⟩
 ·exact H.elim
theorem wo{op:BinOp}(t:TypeId)(x y:Operand)(a b:Value)(h1:(op matches .eql | .neq)=false):eqGuard op t x y a b=pure ():=by
 unfold eqGuard
 cases op <;> simp at h1 <;> rfl
theorem zpo{s:Sem Value}(h:s.run P w=.ok v w'):(s >>= λx=>(CZ (Df x):Sem Next)).run P w=.ok (.value v) w':=by
 rw[Sem.run_bind,h];rfl
theorem zha{s:Sem Next}{K:Value->Prop}(h:za)(H:∃v,K v/\(gok g->∀h:za,QExec P s h (.value v))):∃v,K v/\(gok g->QExec P s h (.value v)):=
 let ⟨v,h1,h2⟩:=H;⟨v,h1,λhg=>h2 hg h⟩
theorem zxt{op:BinOp}{x y:Operand}(ho:o.op=.binOp op t x y t'){K:Value->Prop}
  (H:z7n P t (execOp ρ o) op (ρ x) (ρ y) g K):∃v,K v/\(gok g->∀h:za,QExec P (execOp ρ o) h (.value v)):=by
 have aa:∀(op:BinOp) (x y:Operand) (a b:Option Addr) (l c l' c':Nat) (w:World),(eqGuard op t x y (.slice a l c) (.slice b l' c')).run P w=.ok () w:=λop x y a b l c l' c' w=>by
  unfold eqGuard;cases op <;> rfl
 have Z:∀(op:BinOp) (x y:Operand) (a b:Option Addr) (w:World),(eqGuard op t x y (.pointer a) (.pointer b)).run P w=.ok () w:=λop x y a b w=>by
  unfold eqGuard;cases op <;> rfl
 unfold z7n at H
 split at H
 ·rename_i a l c hx hy
  cases hs:zri P t with
  |false=>rw[hs]at H;exact zn H g
  |true=>
   rw[hs,cond_true]at H
   refine⟨_,H,λhg h B d=>?_⟩
   have hu:∃el,P.underlying t=some (.slice el):=by
    unfold zri at hs
    split at hs
    ·rename_i el hu;exact⟨el,hu⟩
    ·cases hs
   obtain⟨el,hu⟩:=hu
   simp only[execOp,ho,hx,hy]
   refine zpo ?_
   rw[Sem.run_bind,aa]
   simp only[Result.andThen_ok,binOp,Sem.run_bind,run_equal_slice_nil _ t _ _ _ _ hu];rfl
 ·rename_i a l c hx hy
  cases hs:zri P t with
  |false=>rw[hs]at H;exact zn H g
  |true=>
   rw[hs,cond_true]at H
   refine⟨_,H,λhg h B d=>?_⟩
   have hu:∃el,P.underlying t=some (.slice el):=by
    unfold zri at hs
    split at hs
    ·rename_i el hu;exact⟨el,hu⟩
    ·cases hs
   obtain⟨el,hu⟩:=hu
   simp only[execOp,ho,hx,hy]
   refine zpo ?_
   rw[Sem.run_bind,aa]
   simp only[Result.andThen_ok,binOp,Sem.run_bind,run_equal_slice_nil _ t _ _ _ _ hu];rfl
 ·rename_i a hx hy
  cases hs:zrj P t with
  |false=>rw[hs]at H;exact zn H g
  |true=>
   rw[hs,cond_true]at H
   refine⟨_,H,λhg h B d=>?_⟩
   have hu:=zpn hs
   simp only[execOp,ho,hx,hy]
   refine zpo ?_
   rw[Sem.run_bind,Z]
   simp only[Result.andThen_ok,binOp,Sem.run_bind,run_equal_pointer_nil _ t _ hu];rfl
 ·rename_i a hx hy
  cases hs:zrj P t with
  |false=>rw[hs]at H;exact zn H g
  |true=>
   rw[hs,cond_true]at H
   refine⟨_,H,λhg h B d=>?_⟩
   have hu:=zpn hs
   simp only[execOp,ho,hx,hy]
   refine zpo ?_
   rw[Sem.run_bind,Z]
   simp only[Result.andThen_ok,binOp,Sem.run_bind,run_equal_pointer_nil _ t _ hu];rfl
 ·rename_i k a k' b hx hy
  obtain⟨rfl,h1,h2⟩:=H
  refine⟨_,h2,λhg=>?_⟩
  have hb:=h1.out hg
  intro h B d
  simp only[execOp,ho,hx,hy]
  rw[wo _ _ _ _ _ rfl]
  simp[binOp,Op.intDiv,hb]
 ·rename_i k a k' b hx hy
  obtain⟨rfl,h1,h2⟩:=H
  refine⟨_,h2,λhg=>?_⟩
  have hb:=h1.out hg
  intro h B d
  simp only[execOp,ho,hx,hy]
  rw[wo _ _ _ _ _ rfl]
  simp[binOp,Op.intDiv,hb]
 ·rename_i a b hx hy
  obtain⟨h1,h2⟩:=H
  refine⟨_,h2,λhg=>?_⟩
  have hb:=h1.out hg
  intro h B d
  simp only[execOp,ho,hx,hy]
  rw[wo _ _ _ _ _ rfl]
  have hm:¬((a.size+b.size:Nat):Int)>IntKind.i64.max:=by
   unfold ju at hb
   have:IntKind.i64.max=9223372036854775807:=by decide
   omega
  simp only[binOp,Op.stringOp,if_neg hm]
  rfl
 ·exact zn H g
theorem z0r{op:BinOp}{x y:Operand}(ho:o.op=.binOp op t x y t'){K:Value->Prop}
  (H:shF op (ρ x) (ρ y) g K):∃v,K v/\(gok g->∀h:za,QExec P (execOp ρ o) h (.value v)):=by
 unfold shF at H
 split at H
 ·rename_i k a k' b hx hy
  split at H
  ·obtain⟨h1,h2⟩:=H
   refine⟨_,h2,λhg h B d=>?_⟩
   have hb:=h1.out hg
   simp only[execOp,ho,hx,hy]
   rw[wo _ _ _ _ _ rfl]
   simp only[binOp,Op.shift,if_neg (show¬b<0 by omega)];rfl
  ·obtain⟨h1,h2⟩:=H
   refine⟨_,h2,λhg h B d=>?_⟩
   have hb:=h1.out hg
   simp only[execOp,ho,hx,hy]
   rw[wo _ _ _ _ _ rfl]
   simp only[binOp,Op.shift,if_neg (show¬b<0 by omega)];rfl
  ·exact H.elim
 ·exact H.elim
theorem z0s{op:BinOp}{x y:Operand}(ho:o.op=.binOp op t x y t'){K:Value->Prop}
  (hb:z4m P t y=true) (H:nvF op (ρ x) (ρ y) g K):∃v,K v/\(gok g->∀h:za,QExec P (execOp ρ o) h (.value v)):=by
 have hu:∃ms,P.underlying t=some (.interface ms)/\y=.const .nilIface:=by
  unfold z4m at hb
  split at hb
  ·split at hb
   ·rename_i ms hu;exact⟨ms,hu,rfl⟩
   ·cases hb
  ·cases hb
 obtain⟨ms,hu,rfl⟩:=hu
 have key:∀{u:Value} (h:za),ifc u=true->QExec P (D5 t u .nilIface) h (z4n u):=by
  intro u h hi B d
  have hq:=QExec.underlying (h:=h) hu B d
  unfold D5 Op.maxDepth
  cases u <;> first|(cases hi;done)|(unfold Op.equalIn;rw[Sem.run_bind,hq];rfl)
 have hg:∀op u (h:za),ifc u=true->QExec P (eqGuard op t x (.const .nilIface) u .nilIface) h ():=by
  intro op u h hi B d
  unfold eqGuard
  cases u <;> first|(cases hi;done)|(cases op <;> simp)
 have Z:∀op u,ifc u=true->(binOp op t u .nilIface=match op with | .eql=>(do pure (.bool (<-D5 t u .nilIface))) | .neq=>(do pure (.bool (!(<-D5 t u .nilIface))))|_=>binOp op t u .nilIface):=by
  intro op u hi
  cases u <;> first|(cases hi;done)|(cases op <;> rfl)
 unfold nvF at H
 split at H
 ·rename_i hy
  split at H
  ·refine⟨_,H.2,λaa h=>?_⟩
   have hi:=H.1.out aa
   simp only[execOp,ho,hy]
   refine QExec.val ((hg _ _ h hi).bind ?_)
   rw[Z _ _ hi]
   exact(key h hi).bind (QExec.pure _)
  ·refine⟨_,H.2,λaa h=>?_⟩
   have hi:=H.1.out aa
   simp only[execOp,ho,hy]
   refine QExec.val ((hg _ _ h hi).bind ?_)
   rw[Z _ _ hi]
   exact(key h hi).bind (QExec.pure _)
  ·exact H.elim
 ·exact H.elim
theorem ziv{op:BinOp}{x y:Operand}(ho:o.op=.binOp op t x y t'){K:Value->Prop}
  (H:bif z0q op y then shF op (ρ x) (ρ y) g K else bif z4m P t y then nvF op (ρ x) (ρ y) g K else z7n P t (execOp ρ o) op (ρ x) (ρ y) g K):∃v,K v/\(gok g->∀h:za,QExec P (execOp ρ o) h (.value v)):=by
 cases hb:z0q op y with
 |true=>rw[hb]at H;exact z0r ho H
 |false=>
  rw[hb]at H
  cases hn:z4m P t y with
  |true=>rw[hn]at H;exact z0s ho hn H
  |false=>rw[hn]at H;exact zxt ho H
theorem zrk{c:Call}(ho:o.op=.call c)(hc:c.callee=.builtin .len){K:Value->Prop}
  (H:z8j P (execOp ρ o) o.type c.argTypes (c.args.map ρ) g h K):∃v,K v/\(gok g->QExec P (execOp ρ o) h (.value v)):=by
 unfold z8j at H
 split at H
 ·obtain⟨v,h1,h2⟩:=ze3 H
  refine⟨v,h1,λhg=>?_⟩
  have:=h2 hg
  intro B d
  simp only[execOp,ho,resolve,hc,Sem.run_bind,Sem.run_pure,Result.andThen_ok,invoke,builtin]
  rw[this B d]
  rfl
 ·exact zha h (zn H g)
theorem X1{K:Value->Prop}(H:w7 P o ρ g h K):∃v,K v/\(gok g->QExec P (execOp ρ o) h (.value v)):=by
 unfold w7 at H
 split at H
 ·rename_i t a ho
  obtain⟨v,h1,h2⟩:=ze1 H
  refine⟨v,h1,λhg=>?_⟩
  simp only[execOp,ho]
  exact(h2 hg).val
 ·rename_i t x i ho
  cases he:J9 P t with
  |false=>rw[he]at H;exact H.elim
  |true=>
   rw[he]at H
   obtain⟨v,h1,h2⟩:=wb (j9 he) H
   refine⟨v,h1,λhg=>?_⟩
   simp only[execOp,ho]
   exact(h2 hg h).val
 ·rename_i t x i ho
  cases he:zks P t with
  |false=>rw[he]at H;exact zha h (zn H g)
  |true=>
   rw[he]at H
   obtain⟨v,h1,h2⟩:=J8 (zkt he) H
   refine⟨v,h1,λhg=>?_⟩
   simp only[execOp,ho]
   exact(h2 hg h).val
 ·rename_i t x lo hi mx ho
  cases he:J9 P t with
  |false=>rw[he]at H;exact H.elim
  |true=>
   rw[he]at H
   obtain⟨v,h1,h2⟩:=Qk (j9 he) H
   refine⟨v,h1,λhg=>?_⟩
   simp only[execOp,ho]
   exact(h2 hg h).val
 ·rename_i op t x y t' ho
  exact zha h (ziv ho H)
 ·rename_i t m k ok ho
  obtain⟨v,h1,h2⟩:=ze3 H
  refine⟨v,h1,λhg=>?_⟩
  simp only[execOp,ho]
  exact(h2 hg).val
 ·rename_i x ho
  unfold z7o at H
  split at H
  ·rename_i p hx
   obtain⟨a,h1,h2⟩:=H
   refine⟨_,h2,λhg=>?_⟩
   have hp:=h1.out hg
   subst hp
   intro B d
   simp only[execOp,ho,hx]
   rfl
  ·exact zha h (zn H g)
 ·rename_i c ho
  split at H
  ·rename_i hc
   exact zrk ho hc H
  ·exact zha h (zn H g)
 ·exact zha h (zn H g)
def zd8(o:Oper):Bool:=match o.op with
 |.lookup .. => false
 |.call c=>match c.callee with
  |.builtin .len=>false
  |_=>true
 |_=>true
theorem zxu{p:Addr}(H:zc h p=some v):p.block<h.size:=by
 unfold zc at H
 cases e:h[p.block]? with
 |none=>simp[e]at H
 |some o=>exact(Ad.1 e).1
theorem ze4{h h':za}(k:Keep h.size h h'){p:Addr}(H:zc h p=some v):zc h' p=some v:=by
 have:=zxu H
 unfold zc at H ⊢
 rw[k.get _ this];exact H
theorem ze5{h h':za}(k:Keep h.size h h'){p:Addr}:∀{vs:List Value} {i:Nat},zf h p i vs->zf h' p i vs
 |[],_,_=>trivial
 |_::_,_,⟨h1,h2⟩=>⟨ze4 k h1,ze5 k h2⟩
theorem Wz{K:Value->Prop}(hf:zd8 o=true)(H:w7 P o ρ g h K):∃v,K v/\(gok g->∀h',Keep h.size h h'->QExec P (execOp ρ o) h' (.value v)):=by
 unfold w7 at H
 split at H
 ·rename_i t a ho
  unfold ziu at H
  split at H
  ·rename_i q b hp hv
   obtain⟨x,h1,h2⟩:=H
   refine⟨_,h2,λhg h' hk=>?_⟩
   simp only[execOp,ho,hp]
   exact(zbd hv (ze4 hk (h1.out hg))).val
  ·rename_i q l hp hv
   obtain⟨vs,h0,⟨h1,h2⟩,_⟩:=Zs H (je l)
   refine⟨_,h2,λhg h' hk=>?_⟩
   simp only[execOp,ho,hp]
   exact(zbe hv h0 (ze5 hk (h1.out hg))).val
  ·exact H.elim
 ·rename_i t x i ho
  cases he:J9 P t with
  |false=>rw[he]at H;exact H.elim
  |true=>
   rw[he]at H
   obtain⟨v,h1,h2⟩:=wb (j9 he) H
   refine⟨v,h1,λhg h' _=>?_⟩
   simp only[execOp,ho]
   exact(h2 hg h').val
 ·rename_i t x i ho
  cases he:zks P t with
  |false=>
   rw[he]at H
   obtain⟨v,h1,h2⟩:=zn H g
   exact⟨v,h1,λhg h' _=>h2 hg h'⟩
  |true=>
   rw[he]at H
   obtain⟨v,h1,h2⟩:=J8 (zkt he) H
   refine⟨v,h1,λhg h' _=>?_⟩
   simp only[execOp,ho]
   exact(h2 hg h').val
 ·rename_i t x lo hi mx ho
  cases he:J9 P t with
  |false=>rw[he]at H;exact H.elim
  |true=>
   rw[he]at H
   obtain⟨v,h1,h2⟩:=Qk (j9 he) H
   refine⟨v,h1,λhg h' _=>?_⟩
   simp only[execOp,ho]
   exact(h2 hg h').val
 ·rename_i op t x y t' ho
  obtain⟨v,h1,h2⟩:=ziv ho H
  exact⟨v,h1,λhg h' _=>h2 hg h'⟩
 ·rename_i t m k ok ho
  simp[zd8,ho]at hf
 ·rename_i x ho
  unfold z7o at H
  split at H
  ·rename_i p hx
   obtain⟨a,h1,h2⟩:=H
   refine⟨_,h2,λhg h' _=>?_⟩
   have hp:=h1.out hg
   subst hp
   intro B d
   simp only[execOp,ho,hx]
   rfl
  ·obtain⟨v,h1,h2⟩:=zn H g
   exact⟨v,h1,λhg h' _=>h2 hg h'⟩
 ·rename_i c ho
  split at H
  ·rename_i hc
   simp[zd8,ho,hc]at hf
  ·obtain⟨v,h1,h2⟩:=zn H g
   exact⟨v,h1,λhg h' _=>h2 hg h'⟩
 ·obtain⟨v,h1,h2⟩:=zn H g
  exact⟨v,h1,λhg h' _=>h2 hg h'⟩
def wpN(P:Program){α:Type}:Sem α->za->(α->za->Prop)->Prop
 |.pure a,h,K=>K a h
 |.program k,h,K=>wpN P (k P) h K
 |.mark _ k,h,K=>wpN P k h K
 |.new o k,h,K=>wpN P (k h.size) (h.push o) K
 |_,_,_=>False
theorem ze6{α:Type}{s:Sem α}{K:α->za->Prop}(H:wpN P s h K)(B:World)(d:Nat):∃x h',s.run P (mk B d h)=.ok x (mk B d h')/\K x h':=by
 induction s generalizing h with
 |pure a=>exact⟨a,h,rfl,H⟩
 |program k ih=>exact ih P H
 |mark m k ih=>exact ih H
 |new o k ih=>
  obtain⟨x,h',h1,h2⟩:=ih h.size H
  exact⟨x,h',h1,h2⟩
 |_=>exact H.elim
def typed(P:Program)(ty:TypeId)(v:Value)(K:Value->Prop):Prop:=match z4b P ty with
 |some rt=>zxr rt λv'=>v=v'/\K v'
 |none=>False
theorem wq{K:Value->Prop}(H:typed P ty v K):K v:=by
 unfold typed at H
 split at H
 ·obtain⟨v',h1,h2⟩:=ze0 H;rw[h1];exact h2
 ·exact H.elim
def qa(P:Program)(f:FuncId):Bool:=match P.funcs[f]? with
 |some fn=>(match fn.body with
  |some _=>true
  | none => false) && !(fn.name == "runtime.NumGoroutine")
 |none=>false
theorem Wa(h:qa P f=true)(args:Array Value)(w:World):(callFunc f args).run P w=.ok (.enter f args) w:=by
 unfold qa at h
 split at h
 ·rename_i fn hf
  simp only[AK,C3]at h
  obtain⟨h1,h2⟩:=h
  unfold callFunc
  simp only[program,Sem.run_bind,Sem.run,Result.andThen_ok,hf]
  split at h1
  ·rename_i b hb
   simp[h2,hb]
  ·cases h1
 ·cases h
def z7p(P:Program)(v:Value)(args:Array Value)(K:FuncId->Array Value->Prop):Prop:=match v with
 |.func (.func f) first cap=>qa P f=true/\K f (first++args++cap)
 |_=>False
theorem zhb{c:Call}{x:Operand}(ho:o.op=.call c)(hc:c.callee=.value x){K:FuncId->Array Value->Prop}(H:z7p P (ρ x) (c.args.map ρ) K):
  ∃f args,K f args/\∀w,(execOp ρ o).run P w=.ok (.enter f args) w:=by
 unfold z7p at H
 split at H
 ·rename_i f first cap hv
  obtain⟨h1,h2⟩:=H
  refine⟨_,_,h2,λw=>?_⟩
  simp only[execOp,ho,resolve,hc,hv,Dx,Sem.run_bind,Sem.run_pure,Result.andThen_ok,invoke]
  exact Wa h1 _ w
 ·exact H.elim
def Yv:Operand->Bool
 |.func _=>true
 |_=>false
def z8k(P:Program)(f:FuncId):Bool:=match P.funcs[f]? with
 |some fn=>(match fn.body with
  |some _=>false
  |none=>true)
 |none=>false
def qaz(P:Program)(f:FuncId)(args:Array Value)(h:za)(K:Value->za->Prop):Prop:=∀B d,∃v d' h',(callFunc f args).run P (mk B d h)=.ok (.value v) (mk B d' h')/\K v h'
def zzw(P:Program):Operand->Bool
 |.func f=>z8k P f
 |_=>false
def z8l(P:Program)(v:Value)(args:Array Value)(h:za)(K:Value->za->Prop):Prop:=match v with
 |.func (.func f) first cap=>qaz P f (first++args++cap) h K
 |_=>False
theorem zrl{c:Call}{x:Operand}(ho:o.op=.call c)(hc:c.callee=.value x)(H:z8l P (ρ x) (c.args.map ρ) h K)(B:World)(d:Nat):
  ∃v d' h',(execOp ρ o).run P (mk B d h)=.ok (.value v) (mk B d' h')/\K v h':=by
 unfold z8l at H
 split at H
 ·rename_i f first cap hv
  obtain⟨v,d',h',h1,h2⟩:=H B d
  refine⟨v,d',h',?_,h2⟩
  simp only[execOp,ho,resolve,hc,hv,Dx,Sem.run_bind,Sem.run_pure,Result.andThen_ok,invoke]
  exact h1
 ·exact H.elim
def z4o(P:Program)(t:TypeId):Bool:=match P.underlying t with
 |some (.map _ _)=>true
 |_=>false
def zpp(P:Program)(o:Oper)(ρ:Operand->Value)(h:za)(K:Value->za->Prop):Prop:=
 match o.op with
 |.store t a x=>XRunU P (Aj t (ρ a) (ρ x)) h λh'=>K undef h'
 |.mapUpdate t m k x=>XRunU P (DJ t (ρ m) (ρ k) (ρ x)) h λh'=>K undef h'
 |.insert t m k x=>XRunU P (DJ t (ρ m) (ρ k) (ρ x)) h λh'=>K undef h'
 |.entryStore t m s x=>XRunU P (Instr.entryStore t (ρ m) (ρ s) (ρ x)) h λh'=>K undef h'
 |.mapEntry t m k=>XRun P (Instr.mapEntry t (ρ m) (ρ k)) h λv h'=>typed P o.type v λv'=>K v' h'
 |.makeSlice t l c=>XRun P (Instr.makeSlice t (ρ l) (ρ c)) h λv h'=>typed P o.type v λv'=>K v' h'
 |.convert s t x=>XRun P (convert s t (ρ x)) h λv h'=>typed P o.type v λv'=>K v' h'
 |.typeAssert x t t' ok=>XRun P (Instr.typeAssert (ρ x) t t' ok) h λv h'=>typed P o.type v λv'=>K v' h'
 |.range t x=>bif z4o P t then XRun P (Instr.range t (ρ x)) h λv h'=>∃q:Option Addr,v=.pointer q/\K (.pointer q) h' else wpN P (execOp ρ o) h λnx h'=>match nx with
   |.value v=>K v h'
   |.skip=>K undef h'
   |_=>False
 |.next x s=>bif s then XRun P (Instr.next (ρ x) s o.type) h λv h'=>(v=.tuple #[.bool false]/\K (.tuple #[.bool false]) h')\/∃k u:Int,v=.tuple #[.bool true,.int .i64 k,.int .i32 u]/\K (.tuple #[.bool true,.int .i64 k,.int .i32 u]) h'
  else XRun P (Instr.next (ρ x) s o.type) h λv h'=>(v=.tuple #[.bool false]/\K (.tuple #[.bool false]) h')\/∃k u:Value,v=.tuple #[.bool true,k,u]/\K (.tuple #[.bool true,k,u]) h'
 |.entry x=>XRun P (Instr.entry (ρ x)) h λv h'=>∃k u:Value,v=.tuple #[k,u]/\K (.tuple #[k,u]) h'
 |.call c=>match c.callee with
  |.builtin b=>match zg9 b c.argTypes o.type (c.args.map ρ)with
   |some s=>XRun P s h λv h'=>typed P o.type v λv'=>K v' h'
   |none=>False
  |.value x=>bif zzw P x then z8l P (ρ x) (c.args.map ρ) h (λv h'=>typed P o.type v λv'=>K v' h')else bif Yv x then(wpN P (execOp ρ o) h λnx h'=>match nx with
   |.enter f args=>XC P f args h' λv Z=>typed P o.type v λv'=>K v' Z
   |.value v=>K v h'
   |_=>False)else z7p P (ρ x) (c.args.map ρ) λf args=>XC P f args h λv Z=>typed P o.type v λv'=>K v' Z
  |_=>False
 |_=>wpN P (execOp ρ o) h λnx h'=>match nx with
   |.value v=>K v h'
   |.skip=>K undef h'
   |_=>False
def z4p:Builtin->Bool
 |.append | .copy | .clear | .delete=>true
 |_=>false
def ztr(P:Program)(s t:TypeId):Bool:=match P.underlying s,P.underlying t with
 |some (.int _),some (.int _)=>true
 |some .string,some .string=>true
 |_,_=>false
def isQ(P:Program)(o:Oper):Bool:=
 match o.op with
 |.load _ _ | .indexAddr _ _ _ | .index _ _ _ | .slice _ _ _ _ _ | .binOp _ _ _ _ _ | .lookup _ _ _ _ | .nilCheck _=>true
 |.move _ | .assign _ | .unOp _ _ _ | .build _ _ | .makeFunc _ _ _ | .makeInterface _ _ | .extract _ _ | .field _ _ _ | .fieldAddr _ _ _=>true
 |.convert s t _=>ztr P s t
 |.call c=>match c.callee with
  |.builtin b=>!z4p b
  |_=>false
 |_=>false
def zts(P:Program)(o:Oper)(ρ:Operand->Value)(b:Bool)(h:za)(K:Value->za->Prop):Prop:=
 match z4b P o.type with
 |some rt=>∃J:Value->za->Prop,(b=true->zpp P o ρ h J)/\(b=false->zxr rt λv=>J v h)/\(b=true->∀v h',J v h'->zxr rt λv'=>v=v')/\z4j rt λv=>∀h',J v h'->K v h'
 |none=>False
def stepW(P:Program)(o:Oper)(ρ:Operand->Value)(g:Option Bool)(h:za)(K:Value->za->Prop):Prop:=
 bif isQ P o then w7 P o ρ g h (λv=>K v h)else match g with
  |none=>zpp P o ρ h K
  |some b=>zts P o ρ b h K
theorem upon_value{next:Act->World->Prop}{Q:Exit->Act->World->Prop}{s:Sem Next}(h:s.run P w=.ok (.value v) w')(hn:next (a.put o.dst v) w'):
  o.upon P a next Q (s.run P w):=by rw[h];exact hn
theorem upon_skip{next:Act->World->Prop}{Q:Exit->Act->World->Prop}{s:Sem Next}(h:s.run P w=.ok .skip w')(hn:next (a.put o.dst undef) w'):
  o.upon P a next Q (s.run P w):=by rw[h];exact hn
theorem Qe{s:Sem Value}(h:s.run P w=.ok v w'):(s >>= λx=>(CZ (Df x):Sem Next)).run P w=.ok (.value v) w':=by
 rw[Sem.run_bind,h];rfl
theorem zrm{s:Sem Unit}(h:s.run P w=.ok () w'):(s >>= λ_=>(CZ Next.skip:Sem Next)).run P w=.ok .skip w':=by
 rw[Sem.run_bind,h];rfl
theorem zdy(H:zpp P o ρ h K)(B:World)(d:Nat){next:Act->World->Prop}{Q:Exit->Act->World->Prop}
  (hn:∀v d' h',K v h'->next (a.put o.dst v) (mk B d' h')):o.upon P a next Q ((execOp ρ o).run P (mk B d h)):=by
 unfold zpp at H
 split at H
 case h_1 t x y ho=>
  obtain⟨d',h',h1,h2⟩:=H B d
  exact upon_skip (by simp only[execOp,ho];exact zrm h1) (hn _ _ _ h2)
 case h_2 t m k x ho=>
  obtain⟨d',h',h1,h2⟩:=H B d
  exact upon_skip (by simp only[execOp,ho];exact zrm h1) (hn _ _ _ h2)
 case h_3 t m k x ho=>
  obtain⟨d',h',h1,h2⟩:=H B d
  exact upon_skip (by simp only[execOp,ho];exact zrm h1) (hn _ _ _ h2)
 case h_4 t m s x ho=>
  obtain⟨d',h',h1,h2⟩:=H B d
  exact upon_skip (by simp only[execOp,ho];exact zrm h1) (hn _ _ _ h2)
 case h_5 t m k ho=>
  obtain⟨v,d',h',h1,h2⟩:=H B d
  exact upon_value (by simp only[execOp,ho];exact Qe h1) (hn _ _ _ (wq h2))
 case h_6 t l c ho=>
  obtain⟨v,d',h',h1,h2⟩:=H B d
  exact upon_value (by simp only[execOp,ho];exact Qe h1) (hn _ _ _ (wq h2))
 case h_7 s t x ho=>
  obtain⟨v,d',h',h1,h2⟩:=H B d
  exact upon_value (by simp only[execOp,ho];exact Qe h1) (hn _ _ _ (wq h2))
 case h_8 x t t' ok ho=>
  obtain⟨v,d',h',h1,h2⟩:=H B d
  exact upon_value (by simp only[execOp,ho];exact Qe h1) (hn _ _ _ (wq h2))
 case h_9 t x ho=>
  cases hm:z4o P t with
  |true=>
   rw[hm]at H
   obtain⟨v,d',h',h1,q,rfl,h2⟩:=H B d
   exact upon_value (by simp only[execOp,ho];exact Qe h1) (hn _ _ _ h2)
  |false=>
   rw[hm]at H
   obtain⟨nx,h',h1,h2⟩:=ze6 H B d
   cases nx with
   |value v=>exact upon_value h1 (hn _ _ _ h2)
   |skip=>exact upon_skip h1 (hn _ _ _ h2)
   |_=>exact h2.elim
 case h_10 x s ho=>
  cases s with
  |true=>
   simp only[cond_true]at H
   obtain⟨v,d',h',h1,h2⟩:=H B d
   refine upon_value (v:=v) (w':=mk B d' h') (by simp only[execOp,ho];exact Qe h1) (hn _ _ _ ?_)
   rcases h2 with⟨rfl,h2⟩|⟨k,u,rfl,h2⟩ <;> exact h2
  |false=>
   simp only[cond_false]at H
   obtain⟨v,d',h',h1,h2⟩:=H B d
   refine upon_value (v:=v) (w':=mk B d' h') (by simp only[execOp,ho];exact Qe h1) (hn _ _ _ ?_)
   rcases h2 with⟨rfl,h2⟩|⟨k,u,rfl,h2⟩ <;> exact h2
 case h_11 x ho=>
  obtain⟨v,d',h',h1,k,u,rfl,h2⟩:=H B d
  exact upon_value (by simp only[execOp,ho];exact Qe h1) (hn _ _ _ h2)
 case h_12 c ho=>
  split at H
  ·rename_i b hb
   split at H
   ·rename_i s hs
    obtain⟨v,d',h',h1,h2⟩:=H B d
    refine upon_value (w':=mk B d' h') ?_ (hn _ _ _ (wq h2))
    have key:execOp ρ o=s >>= λx=>(CZ (Df x):Sem Next):=by
     simp only[execOp,ho,resolve,hb]
     unfold zg9 at hs
     split at hs <;> first
      |(simp only[Ab]at hs;subst hs;rfl)
      |cases hs
    rw[key]
    exact Qe h1
   ·exact H.elim
  ·rename_i x hx
   cases hex:zzw P x with
   |true=>
    rw[hex]at H
    obtain⟨v,d',h',h1,h2⟩:=zrl ho hx H B d
    exact upon_value h1 (hn _ _ _ (wq h2))
   |false=>
   rw[hex]at H
   simp only[cond_false]at H
   cases hst:Yv x with
   |true=>
    rw[hst]at H
    obtain⟨nx,h',h1,h2⟩:=ze6 H B d
    cases nx with
    |enter f args=>
     rw[h1]
     refine(h2 B d).mono ?_
     rintro e w' ⟨v,d',Z,rfl,rfl,h3⟩
     exact hn _ _ _ (wq h3)
    |value v=>exact upon_value h1 (hn _ _ _ h2)
    |_=>exact h2.elim
   |false=>
    rw[hst]at H
    simp only[cond_false]at H
    obtain⟨f,args,h1,h2⟩:=zhb ho hx H
    rw[h2]
    refine(h1 B d).mono ?_
    rintro e w' ⟨v,d',Z,rfl,rfl,h3⟩
    exact hn _ _ _ (wq h3)
  ·exact H.elim
 case h_13=>
  obtain⟨nx,h',h1,h2⟩:=ze6 H B d
  cases nx with
  |value v=>exact upon_value h1 (hn _ _ _ h2)
  |skip=>exact upon_skip h1 (hn _ _ _ h2)
  |_=>exact h2.elim
theorem znj(H:stepW P o ρ g h K)(hg:gok g)(B:World)(d:Nat){next:Act->World->Prop}{Q:Exit->Act->World->Prop}
  (hn:∀v d' h',K v h'->next (a.put o.dst v) (mk B d' h')):o.upon P a next Q ((execOp ρ o).run P (mk B d h)):=by
 unfold stepW at H
 cases hq:isQ P o with
 |true=>
  rw[hq]at H
  obtain⟨v,h1,h2⟩:=X1 H
  exact upon_value (h2 hg B d) (hn _ _ _ h1)
 |false=>
  rw[hq]at H
  cases g with
  |none=>exact zdy H B d hn
  |some b=>
   have hb:b=true:=hg
   subst hb
   simp only[cond_false]at H
   unfold zts at H
   split at H
   ·rename_i rt Z
    obtain⟨J,h1,_,h3,h4⟩:=H
    refine zdy (h1 rfl) B d λv d' h' hJ=>?_
    obtain⟨v',e1,e2⟩:=ztq (h3 rfl v h' hJ) h4
    subst e1
    exact hn _ _ _ (e2 _ hJ)
   ·exact H.elim
theorem znk(H:stepW P o ρ (some false) h K):∃v,K v h:=by
 unfold stepW at H
 cases hq:isQ P o with
 |true=>
  rw[hq]at H
  obtain⟨v,h1,_⟩:=X1 H
  exact⟨v,h1⟩
 |false=>
  rw[hq]at H
  simp only[cond_false]at H
  unfold zts at H
  split at H
  ·obtain⟨J,_,h2,_,h4⟩:=H
   obtain⟨v,e1,e2⟩:=ztq (h2 rfl) h4
   exact⟨v,e2 _ e1⟩
  ·exact H.elim
end
section
variable {n:Nat} {e:Env} {a b:Act} {c:zx} {g:Option Bool} {P:Program} {o:Oper} {h:za} {K:Value -> za -> Prop} {ms:List Nat} {ρ:Operand -> Value}
def X3(e:Env):zx->Option (Option Bool)
 |[]=>some none
 |c=>match ztn e c with
  |some b=>some (some b)
  |none=>none
theorem Zw(hs:Sat n e a)(h:X3 e c=some g)(hv:valid (zm a) c):gok g:=by
 unfold X3 at h
 split at h
 ·simp only[Ab]at h;subst h;trivial
 ·split at h
  ·rename_i b hb
   simp only[Ab]at h
   subst h
   exact(X0 hs hb).2 hv
  ·cases h
theorem zrn(hs:Sat n e a)(h:X3 e c=some g)(hv:¬valid (zm a) c):g=some false:=by
 unfold X3 at h
 split at h
 ·exact absurd trivial hv
 ·split at h
  ·rename_i b hb
   simp only[Ab]at h
   subst h
   cases b with
   |false=>rfl
   |true=>exact absurd ((X0 hs hb).1 rfl) hv
  ·cases h
def ztt(b:Bool):Value->Value->Value
 |.bool x,.bool y=>.bool (bif b then x else y)
 |x,y=>bif b then x else y
theorem zpq(b:Bool)(x y:Value):ztt b x y=if b=true then x else y:=by
 unfold ztt
 split <;> cases b <;> rfl
def orV:Option Value->Option Value->Option Value
 |some v,_=>some v
 |none,w=>w
def ztu(e:Env)(c:zx)(x a b:Operand)(K:Value->Prop):Prop:=
 match x with
 |.tmp s=>match look e s with
  |some (cs,.bool t)=>bif suf cs c then(match orV (Yu e c a) (Yu e ((s,true)::cs) a),orV (Yu e c b) (Yu e ((s,false)::cs) b)with
    |some va,some vb=>K (ztt t va vb)
    |_,_=>False)else False
  |_=>False
 |_=>False
theorem Yw{Z:Act}(hs:Sat n e Z){x a b:Operand}{K:Value->Prop}(H:ztu e c x a b K):
  ∃v,K v/\(valid (zm Z) c->∃t,Z.eval x=.bool t/\(if t=true then Z.eval a else Z.eval b)=v):=by
 unfold ztu at H
 split at H
 ·rename_i s
  split at H
  ·rename_i cs t hl
   cases hsf:suf cs c with
   |false=>rw[hsf]at H;exact H.elim
   |true=>
    rw[hsf]at H
    simp only[cond_true]at H
    split at H
    ·rename_i va vb ha hb
     refine⟨_,H,λhv=>⟨t,?_,?_⟩⟩
     ·exact(hs.all _ (Wy hl)).1 (Q6 hsf hv)
     ·have aa:=Q6 hsf hv
      have hx:zm Z s=.bool t:=(hs.all _ (Wy hl)).1 aa
      rw[zpq]
      cases t with
      |true=>
       simp only[if_true]
       unfold orV at ha
       split at ha
       ·rename_i v _ h1
        simp only[Ab]at ha
        subst ha
        exact yb hs hv h1
       ·exact yb hs (c:=(s,true)::cs) ⟨hx,aa⟩ ha
      |false=>
       simp only[Bi,if_false]
       unfold orV at hb
       split at hb
       ·rename_i v _ h1
        simp only[Ab]at hb
        subst hb
        exact yb hs hv h1
       ·exact yb hs (c:=(s,false)::cs) ⟨hx,aa⟩ hb
    ·exact H.elim
  ·exact H.elim
 ·exact H.elim
def opW(P:Program)(o:Oper)(e:Env)(c:zx)(h:za)(K:Value->za->Prop):Prop:=
 match o.op with
 |.pick x a b=>ztu e c x a b λv=>K v h
 |_=>bif jc o.op then(bif known e c o.op.operands.toList then(match X3 e c with
   |some g=>stepW P o (rho e c) g h K
   |none=>False)else False)else False
def wR(P:Program)(n:Nat)(ops:Array Oper)(K:Env->za->Prop):List Oper->Env->za->Prop
 |[],e,h=>K (clean e) h
 |o::rest,e,h=>match Qv ops e o.guard with
  |some c=>bif qk n c o.dst then opW P o e c h λv h'=>wR P n ops K rest (putO e o.dst c v) h' else False
  |none=>False
theorem ze7(H:opW P o e c h K)(hs:Sat n e a)(hv:valid (zm a) c)(B:World)(d:Nat)
  {next:Act->World->Prop} {Q:Exit->Act->World->Prop} (hn:∀v d' h',K v h'->next (a.put o.dst v) (mk B d' h')):o.wp P a (mk B d h) next Q:=by
 unfold opW at H
 unfold Oper.wp
 split at H
 ·rename_i x y z ho
  obtain⟨v,h1,h2⟩:=Yw hs H
  obtain⟨t,h3,h4⟩:=h2 hv
  refine upon_value (w':=mk B d h) (v:=v) ?_ (hn _ _ _ h1)
  simp only[execOp,ho,h3,asBool,Sem.run_bind,Sem.run_pure,Result.andThen_ok]
  rw[h4]
 ·cases hns:jc o.op with
  |false=>rw[hns]at H;exact H.elim
  |true=>
   rw[hns]at H
   cases hk:known e c o.op.operands.toList with
   |false=>rw[hk]at H;exact H.elim
   |true=>
    rw[hk]at H
    simp only[cond_true]at H
    split at H
    ·rename_i g hg
     rw[Qj hs hv hns hk]
     exact znj H (Zw hs hg hv) B d hn
    ·exact H.elim
theorem zzx(H:opW P o e c h K)(hs:Sat n e a)(hv:¬valid (zm a) c):∃v,K v h:=by
 unfold opW at H
 split at H
 ·obtain⟨v,h1,_⟩:=Yw hs H
  exact⟨v,h1⟩
 ·cases hns:jc o.op with
  |false=>rw[hns]at H;exact H.elim
  |true=>
   rw[hns]at H
   cases hk:known e c o.op.operands.toList with
   |false=>rw[hk]at H;exact H.elim
   |true=>
    rw[hk]at H
    simp only[cond_true]at H
    split at H
    ·rename_i g hg
     rw[zrn hs hg hv]at H
     exact znk H
    ·exact H.elim
def yn:List Oper->List Nat
 |[]=>[]
 |o::l=>match o.dst with
  |some d=>d::yn l
  |none=>yn l
def Same(ms:List Nat)(a b:Act):Prop:=∀i,i∉ms->zm b i=zm a i
theorem Same.refl(ms:List Nat)(a:Act):Same ms a a:=λ_ _=>rfl
theorem Same.trans{a b c:Act}(h:Same ms a b)(k:Same ms b c):Same ms a c:=λi hi=>(k i hi).trans (h i hi)
theorem Same.mono{ms Z:List Nat}(h:Same ms a b)(hs:∀x∈ms,x∈Z):Same Z a b:=λi hi=>h i λhm=>hi (hs i hm)
theorem Same.put(a:Act)(d:Option Nat)(v:Value)(h:∀i,d=some i->i∈ms):Same ms a (a.put d v):=by
 intro i hi
 cases d with
 |none=>rfl
 |some j=>exact qe λe=>hi (e ▸ h j rfl)
theorem W0{P:Program}{n:Nat}{ops:Array Oper}{K:Env->za->Prop}{Q:Exit->Act->World->Prop}(B:World):
  ∀(l:List Oper) (e:Env) (h:za) (a:Act) (d:Nat),wR P n ops K l e h->Sat n e a->(∀e' a' d' h',Sat n e' a'->Same (yn l) a a'->K e' h'->Q .normal a' (mk B d' h'))->wpList P ops Q l a (mk B d h)
 |[],e,h,a,d,H,hs,hQ=>hQ _ _ _ _ hs.clean (Same.refl _ _) H
 |o::rest,e,h,a,d,H,hs,hQ=>by
  unfold wR at H
  split at H
  ·rename_i c hc
   cases hd:qk n c o.dst with
   |false=>rw[hd]at H;exact H.elim
   |true=>
    rw[hd]at H
    simp only[cond_true]at H
    have hw:=xr hs hc
    have ae:∀i,o.dst=some i->i∈yn (o::rest):=λi hi=>by simp[yn,hi]
    have ab:∀x∈yn rest,x∈yn (o::rest):=λx hx=>by
     unfold yn
     split
     ·exact Ag _ hx
     ·exact hx
    have Z:∀v u d' h',(valid (zm a) c->u=v)->(¬valid (zm a) c->u=undef)->wR P n ops K rest (putO e o.dst c v) h'->wpList P ops Q rest (a.put o.dst u) (mk B d' h'):=λv u d' h' h1 h2 h3=>
     W0 B rest _ _ _ _ h3 (hs.putO hd h1 h2) λe' a' af ah q1 q2 q3=>hQ e' a' af ah q1 ((Same.put a o.dst u ae).trans (q2.mono ab)) q3
    unfold wpList
    by_cases hv:valid (zm a) c
    ·rw[if_pos (hw.2 hv)]
     exact .inl (ze7 H hs hv B d λv d' h' hK=>Z v v d' h' (λ_=>rfl) (λaa=>absurd hv aa) hK)
    ·rw[if_neg (λhx=>hv (hw.1 hx))]
     obtain⟨v,hK⟩:=zzx H hs hv
     exact Z v undef d h (λaa=>absurd aa hv) (λ_=>rfl) hK
  ·exact H.elim
def z0t(P:Program)(o:Oper)(ρ:Operand->Value)(g:Option Bool)(h:za)(K:Value->Prop):Prop:=
 match o.op with
 |.call c=>match c.callee with
  |.value x=>bif Yv x then(match Zk P (execOp ρ o)with
    |some (.enter f args)=>match z4b P o.type with
     |some rt=>zxr rt λv=>req g (XC P f args h λv' h'=>v'=v/\h'=h)/\K v
     |none=>False
    |_=>False)else(match z4b P o.type with
     |some rt=>zxr rt λv=>req g (z7p P (ρ x) (c.args.map ρ) λf args=>XC P f args h λv' h'=>v'=v/\h'=h)/\K v
     |none=>False)
  |_=>False
 |_=>False
theorem znl{K:Value->Prop}(H:z0t P o ρ g h K):
  ∃v,K v/\(gok g->∃f args,(∀w,(execOp ρ o).run P w=.ok (.enter f args) w)/\XC P f args h λv' h'=>v'=v/\h'=h):=by
 unfold z0t at H
 split at H
 ·rename_i c ho
  split at H
  ·rename_i x hx
   cases hst:Yv x with
   |true=>
    rw[hst]at H
    simp only[cond_true]at H
    split at H
    ·rename_i f args he
     split at H
     ·obtain⟨v,h1,h2⟩:=ze0 H
      exact⟨v,h2,λhg=>⟨f,args,λw=>J6 he w,h1.out hg⟩⟩
     ·exact H.elim
    ·exact H.elim
   |false=>
    rw[hst]at H
    simp only[cond_false]at H
    split at H
    ·obtain⟨v,h1,h2⟩:=ze0 H
     refine⟨v,h2,λhg=>?_⟩
     obtain⟨f,args,h3,h4⟩:=zhb ho hx (h1.out hg)
     exact⟨f,args,h4,h3⟩
    ·exact H.elim
  ·exact H.elim
 ·exact H.elim
def ze8(o:Oper):Bool:=match o.op with
 |.call c=>match c.callee with
  |.builtin _=>false
  |_=>true
 |_=>false
def opQ(P:Program)(o:Oper)(e:Env)(c:zx)(h:za)(Z:Bool)(K:Value->Prop):Prop:=
 match o.op with
 |.pick x a b=>ztu e c x a b K
 |_=>bif jc o.op then(bif known e c o.op.operands.toList then(match X3 e c with
   |some g=>bif ze8 o then(bif Z then z0t P o (rho e c) g h K else False)else w7 P o (rho e c) g h K
   |none=>False)else False)else False
def wQ(P:Program)(n:Nat)(ops:Array Oper)(h:za)(Z:Bool)(K:Env->Prop):List Oper->Env->Prop
 |[],e=>K e
 |o::rest,e=>match Qv ops e o.guard with
  |some c=>bif qk n c o.dst then opQ P o e c h Z λv=>wQ P n ops h Z K rest (putO e o.dst c v)else False
  |none=>False
def YQ(P:Program)(o:Oper)(a:Act)(B:World)(h:za)(Z:Bool)(v:Value):Prop:=
 (∀d,(execOp a.eval o).run P (mk B d h)=.ok (.value v) (mk B d h)) \/
 (Z=true/\∃f args,(∀d,(execOp a.eval o).run P (mk B d h)=.ok (.enter f args) (mk B d h))/\XC P f args h λv' h'=>v'=v/\h'=h)
theorem zku{Z:Bool}{K:Value->Prop}(H:opQ P o e c h Z K)(hs:Sat n e a)(B:World):
  ∃v,K v/\(valid (zm a) c->YQ P o a B h Z v):=by
 unfold opQ at H
 split at H
 ·rename_i x y z ho
  obtain⟨v,h1,h2⟩:=Yw hs H
  refine⟨v,h1,λhv=>?_⟩
  obtain⟨t,h3,h4⟩:=h2 hv
  refine .inl λd=>?_
  simp only[execOp,ho,h3,asBool,Sem.run_bind,Sem.run_pure,Result.andThen_ok]
  rw[h4]
 ·cases hns:jc o.op with
  |false=>rw[hns]at H;exact H.elim
  |true=>
   rw[hns]at H
   cases hk:known e c o.op.operands.toList with
   |false=>rw[hk]at H;exact H.elim
   |true=>
    rw[hk]at H
    simp only[cond_true]at H
    split at H
    ·rename_i g hg
     cases hc:ze8 o with
     |false=>
      rw[hc]at H
      obtain⟨v,h1,h2⟩:=X1 H
      refine⟨v,h1,λhv=>.inl λd=>?_⟩
      rw[Qj hs hv hns hk]
      exact h2 (Zw hs hg hv) B d
     |true=>
      rw[hc]at H
      cases Z with
      |false=>exact H.elim
      |true=>
       simp only[cond_true]at H
       obtain⟨v,h1,h2⟩:=znl H
       refine⟨v,h1,λhv=>?_⟩
       obtain⟨f,args,h3,h4⟩:=h2 (Zw hs hg hv)
       refine .inr ⟨rfl,f,args,λd=>?_,h4⟩
       rw[Qj hs hv hns hk]
       exact h3 _
    ·exact H.elim
theorem zpr{P:Program}{n:Nat}{ops:Array Oper}{h:za}{ae:Bool}{K:Env->Prop}{Q:Act->Prop}(B:World):
  ∀(l:List Oper) (e:Env) (a:Act),wQ P n ops h ae K l e->Sat n e a->(∀e' a',Sat n e' a'->Same (yn l) a a'->K e'->Q a')->wpQuiet P ops (λw=>∃d,w=mk B d h) Q l a
 |[],e,a,H,hs,hQ=>hQ _ _ hs (Same.refl _ _) H
 |o::rest,e,a,H,hs,hQ=>by
  unfold wQ at H
  split at H
  ·rename_i c hc
   cases hd:qk n c o.dst with
   |false=>rw[hd]at H;exact H.elim
   |true=>
    rw[hd]at H
    simp only[cond_true]at H
    have hw:=xr hs hc
    have af:∀i,o.dst=some i->i∈yn (o::rest):=λi hi=>by simp[yn,hi]
    have ab:∀x∈yn rest,x∈yn (o::rest):=λx hx=>by
     unfold yn
     split
     ·exact Ag _ hx
     ·exact hx
    obtain⟨v,hK,hy⟩:=zku H hs B
    have Z:∀u,(valid (zm a) c->u=v)->(¬valid (zm a) c->u=undef)->wpQuiet P ops (λw=>∃d,w=mk B d h) Q rest (a.put o.dst u):=λu h1 h2=>
     zpr B rest _ _ hK (hs.putO hd h1 h2) λe' a' q1 q2 q3=>hQ e' a' q1 ((Same.put a o.dst u af).trans (q2.mono ab)) q3
    unfold wpQuiet
    by_cases hv:valid (zm a) c
    ·rw[if_pos (hw.2 hv)]
     refine⟨v,?_,Z v (λ_=>rfl) (λaa=>absurd hv aa)⟩
     rintro w ⟨d,rfl⟩
     unfold Oper.quietAt
     rcases hy hv with h1|⟨_,f,args,h1,h2⟩
     ·rw[h1 d];exact⟨rfl,rfl⟩
     ·rw[h1 d]
      refine⟨rfl,(h2 B d).mono ?_⟩
      rintro e' w'' ⟨v',d',h',rfl,rfl,rfl,rfl⟩
      exact⟨rfl,d',rfl⟩
    ·rw[if_neg (λhx=>hv (hw.1 hx))]
     exact Z undef (λaa=>absurd aa hv) (λ_=>rfl)
  ·exact H.elim
def z0u(P:Program)(o:Oper)(ρ:Operand->Value)(g:Option Bool)(h:za)(K:Value->Prop):Prop:=
 match o.op with
 |.call c=>match c.callee with
  |.value x=>bif Yv x then(match Zk P (execOp ρ o)with
    |some (.enter f args)=>match z4b P o.type with
     |some rt=>zxr rt λv=>req g (∀h1,Keep h.size h h1->XC P f args h1 λv' h'=>v'=v/\Keep h1.size h1 h')/\K v
     |none=>False
    |_=>False)else False
  |_=>False
 |_=>False
theorem znm{K:Value->Prop}(H:z0u P o ρ g h K):
  ∃v,K v/\(gok g->∃f args,(∀w,(execOp ρ o).run P w=.ok (.enter f args) w)/\∀h1,Keep h.size h h1->XC P f args h1 λv' h'=>v'=v/\Keep h1.size h1 h'):=by
 unfold z0u at H
 split at H
 ·split at H
  ·rename_i x _
   cases hx:Yv x with
   |false=>rw[hx]at H;exact H.elim
   |true=>
    rw[hx]at H
    simp only[cond_true]at H
    split at H
    ·rename_i f args hv
     split at H
     ·obtain⟨v,h1,h2⟩:=ze0 H
      exact⟨v,h2,λhg=>⟨f,args,λw=>J6 hv w,h1.out hg⟩⟩
     ·exact H.elim
    ·exact H.elim
  ·exact H.elim
 ·exact H.elim
def opK(P:Program)(o:Oper)(e:Env)(c:zx)(h:za)(K:Value->Prop):Prop:=
 match o.op with
 |.pick x a b=>ztu e c x a b K
 |_=>bif jc o.op then(bif known e c o.op.operands.toList then(match X3 e c with
   |some g=>bif ze8 o then z0u P o (rho e c) g h K else bif zd8 o then w7 P o (rho e c) g h K else False
   |none=>False)else False)else False
def wK(P:Program)(n:Nat)(ops:Array Oper)(h:za)(K:Env->Prop):List Oper->Env->Prop
 |[],e=>K e
 |o::rest,e=>match Qv ops e o.guard with
  |some c=>bif qk n c o.dst then opK P o e c h λv=>wK P n ops h K rest (putO e o.dst c v)else False
  |none=>False
def YK(P:Program)(o:Oper)(a:Act)(B:World)(h:za)(v:Value):Prop:=
 (∀d h',Keep h.size h h'->(execOp a.eval o).run P (mk B d h')=.ok (.value v) (mk B d h')) \/
 (∃f args,(∀d h',(execOp a.eval o).run P (mk B d h')=.ok (.enter f args) (mk B d h'))/\∀h1,Keep h.size h h1->XC P f args h1 λv' h'=>v'=v/\Keep h1.size h1 h')
theorem ztv{K:Value->Prop}(H:opK P o e c h K)(hs:Sat n e a)(B:World):
  ∃v,K v/\(valid (zm a) c->YK P o a B h v):=by
 unfold opK at H
 split at H
 ·rename_i x y z ho
  obtain⟨v,h1,h2⟩:=Yw hs H
  refine⟨v,h1,λhv=>?_⟩
  obtain⟨t,h3,h4⟩:=h2 hv
  refine .inl λd h' _=>?_
  simp only[execOp,ho,h3,asBool,Sem.run_bind,Sem.run_pure,Result.andThen_ok]
  rw[h4]
 ·cases hns:jc o.op with
  |false=>rw[hns]at H;exact H.elim
  |true=>
   rw[hns]at H
   cases hk:known e c o.op.operands.toList with
   |false=>rw[hk]at H;exact H.elim
   |true=>
    rw[hk]at H
    simp only[cond_true]at H
    split at H
    ·rename_i g hg
     cases hc:ze8 o with
     |false=>
      rw[hc]at H
      cases hf:zd8 o with
      |false=>rw[hf]at H;exact H.elim
      |true=>
       rw[hf]at H
       obtain⟨v,h1,h2⟩:=Wz hf H
       refine⟨v,h1,λhv=>.inl λd h' Z=>?_⟩
       rw[Qj hs hv hns hk]
       exact h2 (Zw hs hg hv) h' Z B d
     |true=>
      rw[hc]at H
      obtain⟨v,h1,h2⟩:=znm H
      refine⟨v,h1,λhv=>?_⟩
      obtain⟨f,args,h3,h4⟩:=h2 (Zw hs hg hv)
      refine .inr ⟨f,args,λd h'=>?_,h4⟩
      rw[Qj hs hv hns hk]
      exact h3 _
    ·exact H.elim
theorem zps{P:Program}{n:Nat}{ops:Array Oper}{h:za}{K:Env->Prop}{Q:Act->Prop}(B:World):
  ∀(l:List Oper) (e:Env) (a:Act),wK P n ops h K l e->Sat n e a->(∀e' a',Sat n e' a'->Same (yn l) a a'->K e'->Q a')->wpQuiet P ops (λw=>∃d h',Keep h.size h h'/\w=mk B d h') Q l a
 |[],e,a,H,hs,hQ=>hQ _ _ hs (Same.refl _ _) H
 |o::rest,e,a,H,hs,hQ=>by
  unfold wK at H
  split at H
  ·rename_i c hc
   cases hd:qk n c o.dst with
   |false=>rw[hd]at H;exact H.elim
   |true=>
    rw[hd]at H
    simp only[cond_true]at H
    have hw:=xr hs hc
    have af:∀i,o.dst=some i->i∈yn (o::rest):=λi hi=>by simp[yn,hi]
    have ae:∀x∈yn rest,x∈yn (o::rest):=λx hx=>by
     unfold yn
     split
     ·exact Ag _ hx
     ·exact hx
    obtain⟨v,hK,hy⟩:=ztv H hs B
    have aa:∀u,(valid (zm a) c->u=v)->(¬valid (zm a) c->u=undef)->wpQuiet P ops (λw=>∃d h',Keep h.size h h'/\w=mk B d h') Q rest (a.put o.dst u):=λu h1 h2=>
     zps B rest _ _ hK (hs.putO hd h1 h2) λe' a' q1 q2 q3=>hQ e' a' q1 ((Same.put a o.dst u af).trans (q2.mono ae)) q3
    unfold wpQuiet
    by_cases hv:valid (zm a) c
    ·rw[if_pos (hw.2 hv)]
     refine⟨v,?_,aa v (λ_=>rfl) (λab=>absurd hv ab)⟩
     rintro w ⟨d,h0,Z,rfl⟩
     unfold Oper.quietAt
     rcases hy hv with h1|⟨f,args,h1,h2⟩
     ·rw[h1 d h0 Z];exact⟨rfl,rfl⟩
     ·rw[h1 d h0]
      refine⟨rfl,(h2 h0 Z B d).mono ?_⟩
      rintro e' w'' ⟨v',d',h',rfl,rfl,rfl,ah⟩
      exact⟨rfl,d',h',Z.trans ah Z.size,rfl⟩
    ·rw[if_neg (λhx=>hv (hw.1 hx))]
     exact aa undef (λab=>absurd ab hv) (λ_=>rfl)
  ·exact H.elim
theorem zpt{P:Program}{n:Nat}{ops:Array Oper}{h:za}{K:Env->Prop}{Q:Act->Prop}(B:World)(d:Nat):
  ∀(l:List Oper) (e:Env) (a:Act),wQ P n ops h false K l e->Sat n e a->(∀e' a',Sat n e' a'->Same (yn l) a a'->K e'->Q a')->wpStill P ops (mk B d h) Q l a
 |[],e,a,H,hs,hQ=>hQ _ _ hs (Same.refl _ _) H
 |o::rest,e,a,H,hs,hQ=>by
  unfold wQ at H
  split at H
  ·rename_i c hc
   cases hd:qk n c o.dst with
   |false=>rw[hd]at H;exact H.elim
   |true=>
    rw[hd]at H
    simp only[cond_true]at H
    have hw:=xr hs hc
    have ae:∀i,o.dst=some i->i∈yn (o::rest):=λi hi=>by simp[yn,hi]
    have ab:∀x∈yn rest,x∈yn (o::rest):=λx hx=>by
     unfold yn
     split
     ·exact Ag _ hx
     ·exact hx
    obtain⟨v,hK,hy⟩:=zku H hs B
    have Z:∀u,(valid (zm a) c->u=v)->(¬valid (zm a) c->u=undef)->wpStill P ops (mk B d h) Q rest (a.put o.dst u):=λu h1 h2=>
     zpt B d rest _ _ hK (hs.putO hd h1 h2) λe' a' q1 q2 q3=>hQ e' a' q1 ((Same.put a o.dst u ae).trans (q2.mono ab)) q3
    unfold wpStill
    by_cases hv:valid (zm a) c
    ·rw[if_pos (hw.2 hv)]
     unfold Oper.still
     rcases hy hv with h1|⟨h0,_⟩
     ·rw[h1 d,Oper.stillUpon_value];exact Z v (λ_=>rfl) (λaa=>absurd hv aa)
     ·cases h0
    ·rw[if_neg (λhx=>hv (hw.1 hx))]
     exact Z undef (λaa=>absurd aa hv) (λ_=>rfl)
  ·exact H.elim
end
section
variable {i n:Nat} {a b a0:Act} {o:Oper} {h h' h0:za} {P:Program} {ρ:Operand -> Value} {ops:Array Oper} {listed:Array Bool} {tr md:Bool} {e:Env}
def memN:List Nat->Nat->Bool
 |[],_=>false
 |j::l,i=>bif Nat.beq i j then true else memN l i
theorem we{l:List Nat}(h:memN l i=false):i∉l:=by
 induction l with
 |nil=>simp
 |cons j l ih=>
  simp only[memN]at h
  by_cases hb:Nat.beq i j=true
  ·simp[hb]at h
  ·simp only[hb,cond_false]at h
   simp only[Ai,not_or]
   exact⟨λe=>hb (by rw[e];simp),ih h⟩
def tmpsOf:List Operand->List Nat
 |[]=>[]
 |.tmp t::l=>t::tmpsOf l
 |_::l=>tmpsOf l
def xd(ops:Array Oper)(o:Oper):List Nat:=(match o.guard with
 |some (j,_)=>match yh ops j with
  |some g=>[g]
  |none=>[]
 |none=>[])++tmpsOf o.op.operands.toList
def yw(ops:Array Oper)(k:Nat)(S:List Nat):Nat->Bool
 |0=>true
 |p+1=>bif (match yh ops p with
  |some t=>bif memN S t then Region.waitsFor .any ops k p else true
  |none=>true)then yw ops k S p else false
theorem zz{ops:Array Oper}{k:Nat}{S:List Nat}:∀{m:Nat},yw ops k S m=true->∀p t,p<m->yh ops p=some t->t∈S->Region.waitsFor .any ops k p=true
 |0,_,p,t,hp,_,_=>by omega
 |m+1,h,p,t,hp,hd,ht=>by
  simp only[yw]at h
  cases hb:(match yh ops m with
   |some t=>bif memN S t then Region.waitsFor .any ops k m else true
   |none=>true)with
  |false=>rw[hb]at h;cases h
  |true=>
   rw[hb]at h
   rcases AF p m with h1|h1
   ·exact zz h p t h1 hd ht
   ·have:p=m:=by omega
    subst this
    rw[hd]at hb
    simp only at hb
    cases hm:memN S t with
    |false=>exact absurd ht (we hm)
    |true=>rw[hm]at hb;exact hb
def qd(ops:Array Oper):Nat->Bool
 |0=>true
 |j+1=>bif (match ops[j]? with
  |some o=>o.after.toList.all λe=>!(Region.binds .any e)||Nat.blt e.on j
  |none=>true)then qd ops j else false
theorem zu{ops:Array Oper}:∀{n:Nat},qd ops n=true->∀j o,j<n->ops[j]?=some o->∀e∈o.after,Region.binds .any e=true->e.on<j
 |0,_,j,_,hj,_,_,_,_=>by omega
 |n+1,h,j,o,hj,ho,e,he,hb=>by
  simp only[qd]at h
  cases hc:(match ops[n]? with
   |some o=>o.after.toList.all λe=>!(Region.binds .any e)||Nat.blt e.on n
   |none=>true)with
  |false=>rw[hc]at h;cases h
  |true=>
   rw[hc]at h
   rcases AF j n with h1|h1
   ·exact zu h j o h1 ho e he hb
   ·have:j=n:=by omega
    subst this
    rw[ho]at hc
    have:=Ba.1 hc e (by simpa using he)
    rw[hb]at this
    simpa[Cj]using this
def ztw(ops:Array Oper)(d:Nat):Nat->Bool
 |0=>false
 |p+1=>bif (match yh ops p with
  |some t=>Nat.beq t d
  |none=>false)then true else ztw ops d p
def jl(ops:Array Oper):Nat->Bool
 |0=>true
 |p+1=>bif (match yh ops p with
  |some t=>!(ztw ops t p)
  |none=>true)then jl ops p else false
theorem zcr{ops:Array Oper}{d:Nat}:∀{m:Nat},ztw ops d m=false->∀p,p<m->yh ops p≠some d
 |0,_,p,hp=>by omega
 |m+1,h,p,hp=>by
  simp only[ztw]at h
  cases hb:(match yh ops m with
   |some t=>Nat.beq t d
   |none=>false)with
  |true=>rw[hb]at h;cases h
  |false=>
   rw[hb]at h
   rcases AF p m with h1|h1
   ·exact zcr h p h1
   ·have:p=m:=by omega
    subst this
    intro e
    rw[e]at hb
    simp at hb
theorem ql{ops:Array Oper}:∀{m:Nat},jl ops m=true->∀p q t,p<m->q<m->yh ops p=some t->yh ops q=some t->p=q
 |0,_,p,q,t,hp,_,_,_=>by omega
 |m+1,h,p,q,t,hp,hq,e1,e2=>by
  simp only[jl]at h
  cases hb:(match yh ops m with
   |some t=>!(ztw ops t m)
   |none=>true)with
  |false=>rw[hb]at h;cases h
  |true=>
   rw[hb]at h
   rcases AF p m with h1|h1 <;> rcases AF q m with h2|h2
   ·exact ql h p q t h1 h2 e1 e2
   ·have:q=m:=by omega
    subst this
    rw[e2]at hb
    simp only[C3]at hb
    exact absurd e1 (zcr hb p h1)
   ·have:p=m:=by omega
    subst this
    rw[e1]at hb
    simp only[C3]at hb
    exact absurd e2 (zcr hb q h2)
   ·omega
def Xs(o:Oper):Option Bool:=match o.op with
 |.fieldAddr _ _ _=>some true
 |.indexAddr _ _ _=>some true
 |.move _=>some true
 |.assign _=>match o.after.toList with
  |[]=>some true
  |_=>none
 |.nilCheck _=>some true
 |.slice _ _ _ _ _=>some true
 |.binOp _ _ _ _ _=>some true
 |.load _ _=>some false
 |_=>none
def ze(o:Oper):Bool:=match Xs o with
 |some _=>true
 |none=>false
def zj(o:Oper):Bool:=match Xs o with
 |some b=>!b
 |none=>false
def zl:Nat->List Oper->List Nat
 |_,[]=>[]
 |k,o::l=>bif ze o then zl (k+1) l else k::zl (k+1) l
def Q7(ops:Array Oper):List Nat->Bool
 |[]=>true
 |[_]=>true
 |i::j::l=>bif Region.waitsFor .any ops j i then Q7 ops (j::l)else false
def jg(ops:Array Oper)(i:Nat):List Nat->Bool
 |[]=>false
 |j::l=>bif Region.waitsFor .any ops j i then true else jg ops i l
def ze9(ops:Array Oper)(T:List Nat):Nat->Bool
 |0=>false
 |k+1=>bif (match ops[k]? with
  |some o=>bif zj o then !(jg ops k T)else false
  |none=>false)then true else ze9 ops T k
def w8(ops:Array Oper)(T:List Nat):Nat->Nat->Bool
 |0,k=>memN T k
 |f+1,k=>bif memN T k then true else(BI ops.size).any λp=>bif Region.waitsFor .any ops p k then w8 ops T f p else false
def zxv(ops:Array Oper)(T:List Nat):Nat->Bool
 |0=>false
 |k+1=>bif (match ops[k]? with
  |some o=>bif zj o then !(w8 ops T ops.size k)else false
  |none=>false)then true else zxv ops T k
def zkv(tr:Bool)(ops:Array Oper)(T:List Nat)(m:Nat):Bool:=bif tr then zxv ops T m else ze9 ops T m
def j6(l:List Oper):Bool:=l.all λo=>match o.guard with
 |none=>jc o.op
 |some _=>false
def Q8(ops:Array Oper):Nat->Bool
 |0=>true
 |k+1=>bif (match ops[k]? with
  |some o=>bif yw ops k (tmpsOf o.op.operands.toList) ops.size then(bif ze o then(zl 0 ops.toList).all λj=>!(Region.waitsFor .any ops k j)||(match yh ops j with
   |some t=>!(memN (tmpsOf o.op.operands.toList) t)
   |none=>true)else true)else false
  |none=>true)then Q8 ops k else false
def zro(ops:Array Oper):Bool:=bif j6 ops.toList then(bif qd ops ops.size then(bif jl ops ops.size then(bif Q7 ops (zl 0 ops.toList)then Q8 ops ops.size else false)else false)else false)else false
def wU(P:Program)(n:Nat)(h:za)(K:Env->Prop):List Oper->Env->Prop
 |[],e=>K e
 |o::l,e=>bif ze o then(bif qk n [] o.dst then(bif jc o.op then(bif known e [] o.op.operands.toList then w7 P o (rho e []) none h λv=>wU P n h K l (putO e o.dst [] v)else False)else False)else False)else wU P n h K l e
def wT(P:Program)(n:Nat)(ops:Array Oper)(h0:za)(K:Env->za->Prop)(tr:Bool):List Nat->List Nat->Env->za->Prop
 |_,[],e,h=>K (clean e) h
 |T,j::l,e,h=>match ops[j]? with
  |some o=>bif qk n [] o.dst then opW P o e [] h λv h'=>(bif zkv tr ops (j::T) ops.size then Keep h0.size h0 h'/\wT P n ops h0 K tr (j::T) l (putO e o.dst [] v) h' else wT P n ops h0 K tr (j::T) l (putO e o.dst [] v) h')else False
  |none=>False
def qg:Nat->List Oper->(Nat->Value)->Act->Act
 |_,[],_,a=>a
 |k,o::l,f,a=>qg (k+1) l f (bif ze o then a.put o.dst (f k)else a)
theorem yi{a b:Act}:∀{l:List Operand},(∀t∈tmpsOf l,zm a t=zm b t)->∀x∈l,a.eval x=b.eval x
 |[],_,x,hx=>by cases hx
 |y::l,h,x,hx=>by
  rcases Ai.1 hx with rfl|hx
  ·cases x with
   |tmp t=>exact h t (by simp[tmpsOf])
   |const v=>rfl
   |global g=>rfl
   |func f=>rfl
  ·refine yi (l:=l) (λt ht=>h t ?_) x hx
   cases y <;> simp[tmpsOf,ht]
theorem yj(hs:jc o.op=true)(h:∀t∈tmpsOf o.op.operands.toList,zm a t=zm b t):execOp a.eval o=execOp b.eval o:=
 execOp_congr o (λcs b hb=>by rw[hb]at hs;cases hs) λx hx=>yi h x (by simpa using hx)
theorem znn{p:Addr}(e:h'[p.block]?=h[p.block]?)(i:Nat):zc h' (p.add i)=zc h (p.add i):=by
 have hb:(p.add i).block=p.block:=by unfold Ae;split <;> rfl
 unfold zc;rw[hb,e]
theorem zbf{h h':za}{p:Addr}(e:h'[p.block]?=h[p.block]?):∀{vs:List Value} {i:Nat},zf h p i vs->zf h' p i vs
 |[],_,_=>trivial
 |v::vs,i,⟨h1,h2⟩=>⟨(znn e i).trans h1,zbf e h2⟩
theorem zno{t:TypeId}{x:Value}{K:Value->Prop}(H:ziu P h t x none K):∃v p,x=.pointer (some p)/\K v/\∀h',h'[p.block]?=h[p.block]?->QExec P (Dv t x) h' v:=by
 unfold ziu at H
 split at H
 ·rename_i q a hv
  obtain⟨x,h1,h2⟩:=H
  refine⟨_,q,rfl,h2,λh' e=>zbd hv ?_⟩
  have h1:zc h q=some _:=h1
  unfold zc at h1 ⊢
  rw[e];exact h1
 ·rename_i q l hv
  obtain⟨vs,h0,⟨h1,h2⟩,_⟩:=Zs H (je l)
  exact⟨_,q,rfl,h2,λh' e=>zbe hv h0 (zbf e h1)⟩
 ·exact H.elim
def LdOK(o:Oper)(ρ:Operand->Value)(h h':za):Prop:=zj o=false\/Keep h.size h h'\/∀t a p,o.op=.load t a->ρ a=.pointer (some p)->h'[p.block]?=h[p.block]?
theorem LdOK.congr{ρ ρ':Operand->Value}(e:∀x∈o.op.operands.toList,ρ' x=ρ x)(H:LdOK o ρ h h'):LdOK o ρ' h h':=by
 rcases H with H|H|H
 ·exact .inl H
 ·exact .inr (.inl H)
 ·refine .inr (.inr λt a p ho hp=>H t a p ho ?_)
  rw[<-e a (by rw[ho];simp[Op.operands])];exact hp
theorem W4(hq:ze o=true){K:Value->Prop}(H:w7 P o ρ none h K):
  ∃v,K v/\∀h',LdOK o ρ h h'->QExec P (execOp ρ o) h' (.value v):=by
 cases ho:o.op with
 |load t x=>
  have Z:zd8 o=true:=by unfold zd8;rw[ho]
  obtain⟨v1,k1,k2⟩:=Wz Z H
  unfold w7 at H;rw[ho]at H
  simp only at H
  obtain⟨v,p,hx,h1,h2⟩:=zno H
  have hv:v1=v:=by
   have a1:=k2 trivial h (Keep.refl _ _) default 0
   have a2:QExec P (execOp ρ o) h (.value v):=by simp only[execOp,ho];exact(h2 h rfl).val
   have a2:=a2 default 0
   rw[a1]at a2
   injection a2 with a2 _
   injection a2
  subst hv
  refine⟨v1,k1,λh' hk=>?_⟩
  rcases hk with hk|hk|hk
  ·unfold zj Xs at hk;rw[ho]at hk;cases hk
  ·exact k2 trivial h' hk
  ·have:=h2 h' (hk t x p ho hx)
   simp only[execOp,ho]
   exact this.val
 |fieldAddr t x i=>
  unfold w7 at H;rw[ho]at H
  obtain⟨v,h1,h2⟩:=zn H none
  exact⟨v,h1,λh' _=>h2 trivial h'⟩
 |indexAddr t x i=>
  unfold w7 at H;rw[ho]at H
  simp only at H
  cases he:J9 P t with
  |false=>rw[he]at H;exact H.elim
  |true=>
   rw[he]at H
   obtain⟨v,h1,h2⟩:=wb (j9 he) H
   refine⟨v,h1,λh' _=>?_⟩
   simp only[execOp,ho]
   exact(h2 trivial h').val
 |move x=>
  unfold w7 at H;rw[ho]at H
  obtain⟨v,h1,h2⟩:=zn H none
  exact⟨v,h1,λh' _=>h2 trivial h'⟩
 |assign x=>
  unfold w7 at H;rw[ho]at H
  obtain⟨v,h1,h2⟩:=zn H none
  exact⟨v,h1,λh' _=>h2 trivial h'⟩
 |slice t x lo hi mx=>
  unfold w7 at H;rw[ho]at H
  simp only at H
  cases he:J9 P t with
  |false=>rw[he]at H;exact H.elim
  |true=>
   rw[he]at H
   obtain⟨v,h1,h2⟩:=Qk (j9 he) H
   refine⟨v,h1,λh' _=>?_⟩
   simp only[execOp,ho]
   exact(h2 (show gok none from trivial) h').val
 |binOp op t x y t'=>
  unfold w7 at H;rw[ho]at H
  obtain⟨v,h1,h2⟩:=ziv ho H
  exact⟨v,h1,λh' _=>h2 trivial h'⟩
 |nilCheck x=>
  unfold w7 at H;rw[ho]at H
  simp only at H
  unfold z7o at H
  split at H
  ·rename_i p hx
   obtain⟨a,h1,h2⟩:=H
   have hp:=h1.out (g:=none) trivial
   subst hp
   refine⟨_,h2,λh' _ B d=>?_⟩
   simp only[execOp,ho,hx]
   rfl
  ·obtain⟨v,h1,h2⟩:=zn H none
   exact⟨v,h1,λh' _=>h2 trivial h'⟩
 |_=>unfold ze Xs at hq;rw[ho]at hq;cases hq
theorem qh(σ:Nat->Value):valid σ []:=by unfold valid;trivial
theorem Zt:∀{l:List Oper} {k:Nat} {f:Nat->Value} {a:Act},(qg k l f a).tmps.size=a.tmps.size/\(qg k l f a).defers=a.defers
 |[],_,_,_=>⟨rfl,rfl⟩
 |o::l,k,f,a=>by
  unfold qg
  have:=Zt (l:=l) (k:=k+1) (f:=f) (a:=bif ze o then a.put o.dst (f k)else a)
  rw[this.1,this.2]
  cases ze o with
  |true=>exact⟨size_put _ _ _,zy _ _ _⟩
  |false=>exact⟨rfl,rfl⟩
theorem zk{d:Option Nat}{u:Value}{s:Nat}(h:d≠some s):zm (a.put d u) s=zm a s:=by
 cases d with
 |none=>rfl
 |some t=>exact qe λe=>h (by rw[e])
theorem yc{s:Nat}:∀{l:List Oper} {k:Nat} {f:Nat->Value} {a:Act},(∀o∈l,ze o=true->o.dst≠some s)->zm (qg k l f a) s=zm a s
 |[],_,_,_,_=>rfl
 |o::l,k,f,a,h=>by
  unfold qg
  rw[yc λo' Z=>h o' (Ag _ Z)]
  cases hq:ze o with
  |true=>exact zk (h o Am hq)
  |false=>rfl
theorem Ql{P:Program}{n:Nat}{h:za}{K:Env->Prop}:∀{l:List Oper} {k:Nat} {e:Env} {a:Act},wU P n h K l e->Sat n e a->∃(f:Nat->Value) (e':Env),K e'/\Sat n e' (qg k l f a) /\
  ∀i o,l[i]?=some o->ze o=true->jc o.op=true/\qk n [] o.dst=true/\∀h',LdOK o (qg k (l.take i) f a).eval h h'->QExec P (execOp (qg k (l.take i) f a).eval o) h' (.value (f (k+i)))
 |[],k,e,a,H,hs=>⟨λ_=>undef,e,H,hs,λi o h=>by simp at h⟩
 |o::l,k,e,a,H,hs=>by
  unfold wU at H
  cases hq:ze o with
  |false=>
   rw[hq]at H
   obtain⟨f,e',h1,h2,h3⟩:=Ql (k:=k+1) H hs
   refine⟨f,e',h1,by unfold qg;rw[hq];exact h2,λi o' hi Z=>?_⟩
   cases i with
   |zero=>simp at hi;subst hi;rw[hq]at Z;cases Z
   |succ i=>
    have:=h3 i o' (by simpa using hi) Z
    rw[Cd]
    unfold qg
    rw[hq,show k+(i+1)=k+1+i by omega];exact this
  |true=>
   rw[hq]at H
   simp only[cond_true]at H
   cases hd:qk n [] o.dst with
   |false=>rw[hd]at H;exact H.elim
   |true=>
    rw[hd]at H
    simp only[cond_true]at H
    cases hns:jc o.op with
    |false=>rw[hns]at H;exact H.elim
    |true=>
     rw[hns]at H
     simp only[cond_true]at H
     cases hk:known e [] o.op.operands.toList with
     |false=>rw[hk]at H;exact H.elim
     |true=>
      rw[hk]at H
      simp only[cond_true]at H
      obtain⟨v,H1,H2⟩:=W4 hq H
      obtain⟨f,e',h1,h2,h3⟩:=Ql (k:=k+1) (a:=a.put o.dst v) H1 (hs.putO hd (λ_=>rfl) λhv=>absurd (qh _) hv)
      have hf:∀(m:List Oper) (j:Nat) (b:Act),qg (k+1+j) m (λx=>if x=k then v else f x) b=qg (k+1+j) m f b:=by
       intro m
       induction m with
       |nil=>intro j b;rfl
       |cons o' m ih=>
        intro j b
        unfold qg
        dsimp only
        rw[if_neg (show¬k+1+j=k by omega),show k+1+j+1=k+1+(j+1)by omega,ih]
      refine⟨λx=>if x=k then v else f x,e',h1,?_,λi o' hi Z=>?_⟩
      ·unfold qg
       rw[hq,cond_true]
       dsimp only
       rw[if_pos rfl]
       have:=hf l 0 (a.put o.dst v)
       rw[CG]at this
       rw[this];exact h2
      ·cases i with
       |zero=>
        simp at hi;subst hi
        rw[DO,CG]
        dsimp only
        rw[if_pos rfl]
        refine⟨hns,hd,λh' hh=>?_⟩
        show QExec P (execOp a.eval o) h' _
        rw[Qj hs (qh _) hns hk]
        exact H2 h' (LdOK.congr (λx hx=>(j8 hs (qh _) hk x hx).symm) hh)
       |succ i=>
        have:=h3 i o' (by simpa using hi) Z
        rw[Cd]
        unfold qg
        rw[hq,cond_true]
        dsimp only
        rw[if_pos rfl]
        have e2:=hf (l.take i) 0 (a.put o.dst v)
        rw[CG]at e2
        rw[e2,if_neg (show¬k+(i+1)=k by omega),show k+(i+1)=k+1+i by omega]
        exact this
theorem Q9{next:Act->World->Prop}{Q:Exit->Act->World->Prop}{r:Result Next}(hb:b.defers=[])
  (H:o.upon P b (λc w=>c.defers=[]/\∀v,c=b.put o.dst v->next (a.put o.dst v) w) (λ_ _ _=>False) r):o.upon P a next Q r:=by
 have lo:¬LetsOut (λ(_:Exit) (_:Act) (_:World)=>False):=λh=>by
  obtain⟨_,_,h⟩:=h
  exact h
 cases r with
 |ok x w=>
  cases x with
  |value v=>exact H.2 v rfl
  |skip=>exact H.2 undef rfl
  |defer d=>
   have:=H.1
   rw[zy]at this;cases this
  |enter f args=>
   refine Calls.mono (show Calls P f args w _ from H) λe w' he=>?_
   cases e with
   |returned v=>exact he.2 v rfl
   |panicked c=>exact he.elim
   |outgrown=>exact absurd he lo
  |row row args=>exact Rows.mono (show Rows P row args w _ from H) λv w' he=>he.2 v rfl
  |_=>exact H
 |halt x w=>cases x <;> first|exact H.elim|exact H
theorem qo{j:Nat}:∀{l:List Oper} {k:Nat},j∈zl k l↔k<=j/\∃o,l[j-k]?=some o/\ze o=false
 |[],k=>by simp[zl]
 |o::l,k=>by
  unfold zl
  cases hq:ze o with
  |true=>
   rw[cond_true,qo (l:=l)]
   constructor
   ·rintro⟨h1,o',h2,h3⟩
    exact⟨by omega,o',by rw[show j-k=(j-(k+1))+1 by omega];simpa using h2,h3⟩
   ·rintro⟨h1,o',h2,h3⟩
    rcases Dg h1 with e|e
    ·subst e
     simp at h2;subst h2;rw[hq]at h3;cases h3
    ·exact⟨by omega,o',by rw[show j-k=(j-(k+1))+1 by omega]at h2;simpa using h2,h3⟩
  |false=>
   rw[cond_false,Ai,qo (l:=l)]
   constructor
   ·rintro(rfl|⟨h1,o',h2,h3⟩)
    ·exact⟨Ac _,o,by simp,hq⟩
    ·exact⟨by omega,o',by rw[show j-k=(j-(k+1))+1 by omega];simpa using h2,h3⟩
   ·rintro⟨h1,o',h2,h3⟩
    rcases Dg h1 with e|e
    ·exact .inl e.symm
    ·exact .inr ⟨by omega,o',by rw[show j-k=(j-(k+1))+1 by omega]at h2;simpa using h2,h3⟩
theorem yf:∀{l:List Oper} {k:Nat},(zl k l).Nodup
 |[],_=>List.nodup_nil
 |o::l,k=>by
  unfold zl
  cases ze o with
  |true=>exact yf
  |false=>exact DK.2 ⟨λh=>by have:=(qo.1 h).1;omega,yf⟩
theorem qm{ops:Array Oper}:∀{m:Nat},Q8 ops m=true->∀k o,k<m->ops[k]?=some o->yw ops k (tmpsOf o.op.operands.toList) ops.size=true/\(ze o=true->∀j∈zl 0 ops.toList,Region.waitsFor .any ops k j=true->∀t,yh ops j=some t->t∉tmpsOf o.op.operands.toList)
 |0,_,k,o,hk,_=>by omega
 |m+1,h,k,o,hk,ho=>by
  unfold Q8 at h
  split at h
  ·rename_i o' Z
   cases hs:yw ops m (tmpsOf o'.op.operands.toList) ops.size with
   |false=>rw[hs]at h;cases h
   |true=>
    rw[hs,cond_true]at h
    rcases AF k m with h1|h1
    ·refine qm (m:=m) ?_ k o h1 ho
     revert h
     cases(bif ze o' then(zl 0 ops.toList).all λj=>!(Region.waitsFor .any ops m j)||(match yh ops j with
      |some t=>!(memN (tmpsOf o'.op.operands.toList) t)
      |none=>true)else true) <;> intro h <;> first|exact h|cases h
    ·have:k=m:=by omega
     subst this
     have:o'=o:=Aq (Z.symm.trans ho)
     subst this
     refine⟨hs,λhq j hj hw t ht=>?_⟩
     rw[hq,cond_true]at h
     cases hall:(zl 0 ops.toList).all λj=>!(Region.waitsFor .any ops k j)||(match yh ops j with
      |some t=>!(memN (tmpsOf o'.op.operands.toList) t)
      |none=>true)with
     |false=>rw[hall]at h;cases h
     |true=>
      have:=Ba.1 hall j hj
      rw[hw,ht]at this
      simp only[Bool.not_true,Dk,C3]at this
      exact we this
  ·rename_i Z
   rw[cond_true]at h
   rcases AF k m with h1|h1
   ·exact qm h k o h1 ho
   ·have:k=m:=by omega
    subst this
    rw[Z]at ho;cases ho
theorem Zx{ops:Array Oper}:∀{l:List Nat},Q7 ops l=true->∀q i j,l[q]?=some i->l[q+1]?=some j->Region.waitsFor .any ops j i=true
 |[],_,q,i,j,h,_=>by simp at h
 |[_],_,q,i,j,_,h=>by simp at h
 |a::b::l,h,q,i,j,h1,h2=>by
  unfold Q7 at h
  cases hw:Region.waitsFor .any ops b a with
  |false=>rw[hw]at h;cases h
  |true=>
   rw[hw,cond_true]at h
   cases q with
   |zero=>simp at h1 h2;subst h1;subst h2;exact hw
   |succ q=>exact Zx h q i j (by simpa using h1) (by simpa using h2)
theorem wh{ops:Array Oper}{i:Nat}:∀{l:List Nat},jg ops i l=true->∃j∈l,Region.waitsFor .any ops j i=true
 |[],h=>by cases h
 |j::l,h=>by
  unfold jg at h
  cases hw:Region.waitsFor .any ops j i with
  |true=>exact⟨j,Am,hw⟩
  |false=>
   rw[hw,cond_false]at h
   obtain⟨j',h1,h2⟩:=wh h
   exact⟨j',Ag _ h1,h2⟩
theorem Ya{ops:Array Oper}{T:List Nat}:∀{m:Nat},ze9 ops T m=false->∀k o,k<m->ops[k]?=some o->zj o=true->jg ops k T=true
 |0,_,k,o,hk,_,_=>by omega
 |m+1,h,k,o,hk,ho,hl=>by
  unfold ze9 at h
  cases hb:(match ops[m]? with
   |some o=>bif zj o then !(jg ops m T)else false
   |none=>false)with
  |true=>rw[hb]at h;cases h
  |false=>
   rw[hb,cond_false]at h
   rcases AF k m with h1|h1
   ·exact Ya h k o h1 ho hl
   ·have:k=m:=by omega
    subst this
    rw[ho]at hb
    simp only[hl,cond_true,Bool.not_eq_false']at hb
    exact hb
theorem xe{ops:Array Oper}{T:List Nat}:∀{f k:Nat},w8 ops T f k=true->∀{listed:Array Bool},(∀i p,listed.getD i false=true->Region.waitsFor .any ops i p=true->listed.getD p false=true)->(∀j∈T,listed.getD j false=true)->listed.getD k false=true
 |0,k,h,_,_,hT=>by
  have hm:k∈T:=by
   unfold w8 at h
   exact CB λhc=>by
    have:memN T k=false:=by
     clear h hT
     induction T with
     |nil=>rfl
     |cons x T ih=>
      simp only[Ai,not_or]at hc
      simp only[memN]
      have:Nat.beq k x=false:=by
       cases hb:Nat.beq k x with
       |false=>rfl
       |true=>exact absurd (Ah hb) hc.1
      rw[this,cond_false];exact ih hc.2
    rw[this]at h;cases h
  exact hT k hm
 |f+1,k,h,listed,hc,hT=>by
  unfold w8 at h
  cases hm:memN T k with
  |true=>exact xe (f:=0) (k:=k) (by unfold w8;exact hm) hc hT
  |false=>
   rw[hm,cond_false,List.any_eq_true]at h
   obtain⟨p,_,hp⟩:=h
   cases hw:Region.waitsFor .any ops p k with
   |false=>rw[hw]at hp;cases hp
   |true=>rw[hw,cond_true]at hp;exact hc p k (xe hp hc hT) hw
theorem zcs{ops:Array Oper}{T:List Nat}:∀{m:Nat},zxv ops T m=false->∀k o,k<m->ops[k]?=some o->zj o=true->w8 ops T ops.size k=true
 |0,_,k,o,hk,_,_=>by omega
 |m+1,h,k,o,hk,ho,hl=>by
  unfold zxv at h
  cases hb:(match ops[m]? with
   |some o=>bif zj o then !(w8 ops T ops.size m)else false
   |none=>false)with
  |true=>rw[hb]at h;cases h
  |false=>
   rw[hb,cond_false]at h
   rcases AF k m with h1|h1
   ·exact zcs h k o h1 ho hl
   ·have:k=m:=by omega
    subst this
    rw[ho]at hb
    simp only[hl,cond_true]at hb
    simpa using hb
theorem jm{i p:Nat}(hi:i∈Region.ready .any ops listed)(hw:Region.waitsFor .any ops i p=true):listed.getD p false=true:=by
 obtain⟨oj,ab,e,he,hb,aa⟩:=Region.waitsFor_spec hw
 obtain⟨_,o,ho,Z⟩:=mem_ready.1 hi
 have:oj=o:=Aq (ab.symm.trans ho)
 subst this
 rw[<-aa];exact Z e he hb
theorem qp(inv:HeadInv .any ops n listed){i p:Nat}(hi:listed.getD i false=true)(hw:Region.waitsFor .any ops i p=true):listed.getD p false=true:=by
 obtain⟨oj,aa,e,he,hb,Z⟩:=Region.waitsFor_spec hw
 rw[<-Z];exact inv.closed i oj aa hi e he hb
theorem Zy{p:Nat->Bool}{N:Nat}(h:∃k,k<N/\p k=false):∃k,k<N/\p k=false/\∀j,j<k->p j=true:=by
 obtain⟨k,h1,h2⟩:=h
 induction k using Nat.strongRecOn with
 |_ k ih=>
  by_cases hm:∃j,j<k/\p j=false
  ·obtain⟨j,h3,h4⟩:=hm
   exact ih j h3 (by omega) h4
  ·exact⟨k,h1,h2,λj hj=>by
    cases hb:p j with
    |true=>rfl
    |false=>exact absurd ⟨j,hj,hb⟩ hm⟩
theorem Wb(h:zro ops=true):j6 ops.toList=true/\qd ops ops.size=true/\jl ops ops.size=true/\Q7 ops (zl 0 ops.toList)=true/\Q8 ops ops.size=true:=by
 unfold zro at h
 cases h1:j6 ops.toList <;> cases h2:qd ops ops.size <;> cases h3:jl ops ops.size <;> cases h4:Q7 ops (zl 0 ops.toList) <;> simp[h1,h2,h3,h4]at h ⊢
 exact h
theorem Zl{l:List Oper}(h:j6 l=true):∀o∈l,o.guard=none/\jc o.op=true:=by
 intro o ho
 have:=Ba.1 h o ho
 cases hg:o.guard with
 |none=>rw[hg]at this;exact⟨rfl,this⟩
 |some g=>rw[hg]at this;cases this
theorem wj:∀{l m:List Oper} {k:Nat} {f:Nat->Value} {a:Act},qg k (l++m) f a=qg (k+l.length) m f (qg k l f a)
 |[],m,k,f,a=>rfl
 |o::l,m,k,f,a=>by
  have e:∀l',qg k (o::l') f a=qg (k+1) l' f (bif ze o then a.put o.dst (f k)else a):=λ_=>rfl
  rw[Br,e,e,wj,show k+1+l.length=k+(o::l).length by simp;omega]
theorem toL(ho:ops[i]?=some o):ops.toList[i]?=some o:=by rw[Bw];exact ho
theorem ofL(ho:ops.toList[i]?=some o):ops[i]?=some o:=by rw[Bw]at ho;exact ho
structure StM (P:Program) (n:Nat) (ops:Array Oper) (h0:za) (K:Env->za->Prop) (tr:Bool) (f:Nat->Value) (a0:Act) (listed:Array Bool) (a b:Act) (e:Env) (h:za) (done todo:List Nat):Prop where
 inv:HeadInv .any ops ops.size listed
 ag:∀s,(∀i o,ops[i]?=some o->ze o=true->listed.getD i false=false->o.dst≠some s)->zm a s=zm b s
 sz:a.tmps.size=n
 ad:a.defers=[]
 sb:Sat n e b
 qv:∀i o t,ops[i]?=some o->ze o=true->o.dst=some t->zm b t=f i/\t<n
 qx:∀i o,ops[i]?=some o->ze o=true->∀h',(zj o=false\/Keep h0.size h0 h')->QExec P (execOp b.eval o) h' (.value (f i))
 tt:zl 0 ops.toList=done.reverse++todo
 ch:∀j,j∈zl 0 ops.toList->(listed.getD j false=true↔j∈done)
 wt:wT P n ops h0 K tr done todo e h
 kp:∀i o,ops[i]?=some o->zj o=true->listed.getD i false=false->Keep h0.size h0 h
 sm:Same (yn ops.toList) a0 a
theorem xo{o:Oper}:∀{l:List Oper},o∈l->∀i,o.dst=some i->i∈yn l
 |[],h,_,_=>by cases h
 |x::l,h,i,hi=>by
  unfold yn
  rcases Ai.1 h with rfl|h
  ·rw[hi];exact Am
  ·have:=xo h i hi
   split
   ·exact Ag _ this
   ·exact this
theorem zh{k:Nat}(h:ops[k]?=some o):yh ops k=o.dst:=by simp[yh,h]
theorem znp{K:Env->za->Prop}{Q:Exit->Act->World->Prop}(B:World)(bm:zro ops=true){f:Nat->Value}
  (hQ:∀e' a' d' h',Sat n e' a'->Same (yn ops.toList) a0 a'->K e' h'->Q .normal a' (mk B d' h')):
  ∀(N:Nat) (U:List Nat) (listed:Array Bool) (a b:Act) (e:Env) (h:za) (d:Nat) (done todo:List Nat),U.length=N->U.Nodup->(∀k,k∈U↔k<ops.size/\listed.getD k false=false) ->
   StM P n ops h0 K tr f a0 listed a b e h done todo->wpAny P .any ops Q N listed a (mk B d h):=by
 obtain⟨bH,aM,bG,aA,ar⟩:=Wb bm
 have aZ:∀(i:Nat) (o:Oper),ops[i]?=some o->o.guard=none/\jc o.op=true:=λi o ho=>Zl bH o (by
  obtain⟨ab,e⟩:=Ad.1 ho
  rw[<-e];simp)
 have bD:∀{listed:Array Bool} {a b:Act} {e:Env} {h:za} {d:Nat} {done todo:List Nat},(∀k,k<ops.size->listed.getD k false=true)->StM P n ops h0 K tr f a0 listed a b e h done todo->Q .normal a (mk B d h):=by
  intro listed a b e h d done todo ae S
  have ak:todo=[]:=by
   cases todo with
   |nil=>rfl
   |cons j l=>
    have hj:j∈zl 0 ops.toList:=by rw[S.tt];simp
    have ab:j<ops.size:=by
     obtain⟨_,o,ho,_⟩:=qo.1 hj
     have:=(Aw.1 ho).1
     simpa using this
    have hd:=(S.ch j hj).1 (ae j ab)
    have hn:=yf (l:=ops.toList) (k:=0)
    rw[S.tt,BH]at hn
    exact absurd rfl (hn.2.2 j (by simpa using hd) j (by simp))
  have hw:=S.wt
  rw[ak]at hw
  unfold wT at hw
  have hv:∀s,zm a s=zm b s:=λs=>S.ag s λi o ho hq hl=>by
   rw[ae i (Ad.1 ho).1]at hl;cases hl
  have hs:Sat n e a:=⟨S.ad,S.sz,λx hx=>by
   have:=S.sb.all x hx
   have e1:zm a=zm b:=funext hv
   rw[e1];exact this⟩
  exact hQ _ _ _ _ hs.clean S.sm hw
 intro N
 induction N with
 |zero=>
  intro U listed a b e h d done todo hU _ ah S
  have bo:U=[]:=AU.1 hU
  subst bo
  have ae:∀k,k<ops.size->listed.getD k false=true:=λk hk=>by
   cases hb:listed.getD k false with
   |true=>rfl
   |false=>exact absurd ((ah k).2 ⟨hk,hb⟩) (by simp)
  refine⟨?_,bD ae S⟩
  rw[CF]
  intro j hj
  obtain⟨h1,o,ho,_⟩:=mem_ready.1 hj
  have ab:=(Ad.1 ho).1
  have:=ae j ab
  have h2:=getD_both h1
  rw[this]at h2;cases h2
 |succ N ih=>
  intro U listed a b e h d done todo hU aH ah S
  have bE:∃k,k<ops.size/\listed.getD k false=false:=by
   cases U with
   |nil=>cases hU
   |cons k U=>exact⟨k,(ah k).1 Am⟩
  refine⟨λhr=>?_,λi hi=>?_⟩
  ·exfalso
   obtain⟨k,au,aP,bC⟩:=Zy bE
   have:k∈Region.ready .any ops listed:=mem_ready.2 ⟨by rw[<-aP];simp[S.inv.size,au],ops[k],AI au,λx hx hb=>bC _ (zu aM k ops[k] au (AI au) x hx hb)⟩
   rw[hr]at this;cases this
  ·obtain⟨bg,o,ho,ae⟩:=mem_ready.1 hi
   have aE:listed.getD i false=false:=getD_both bg
   have ab:i<ops.size:=(Ad.1 ho).1
   obtain⟨hg,bI⟩:=aZ i o ho
   have aI:i<listed.size:=by rw[S.inv.size];exact ab
   have a8:(U.erase i).length=N:=by rw[CH ((ah i).2 ⟨ab,aE⟩),hU];rfl
   have ap:(U.erase i).Nodup:=aH.erase i
   have an:∀k,k∈U.erase i↔k<ops.size/\(listed.setIfInBounds i true).getD k false=false:=λk=>by
    rw[aH.mem_erase_iff,ah k]
    by_cases hk:i=k
    ·subst hk;simp[aI]
    ·rw[getD_set_ne false hk];exact⟨λhx=>hx.2,λhx=>⟨λe=>hk e.symm,hx⟩⟩
   have am:=S.inv.set hi ab
   have af:∀k,k≠i->(listed.setIfInBounds i true).getD k false=listed.getD k false:=λk hk=>getD_set_ne false (Ne.symm hk)
   have aj:(listed.setIfInBounds i true).getD i false=true:=by simp[aI]
   obtain⟨az,bL⟩:=qm ar i o ab ho
   have a7:∀t∈tmpsOf o.op.operands.toList,zm a t=zm b t:=λt ht=>S.ag t λk ok Z hq hl hd=>by
    have hw:=zz az k t (Ad.1 Z).1 (by rw[zh Z,hd]) ht
    rw[jm hi hw]at hl;cases hl
   have aU:=yj bI a7
   unfold wpOp
   rw[ho]
   simp only
   have aY:Bm o (yielded ops a.tmps)=true:=by unfold Bm;rw[hg]
   rw[if_pos aY]
   left
   unfold Oper.wp
   rw[aU]
   cases hq:ze o with
   |true=>
    have hx:=S.qx i o ho hq h (by
     cases hl:zj o with
     |false=>exact .inl rfl
     |true=>exact .inr (S.kp i o ho hl aE)) B d
    rw[hx,Oper.upon_value]
    have bh:i∉zl 0 ops.toList:=λhm=>by
     obtain⟨_,o',be,bj⟩:=qo.1 hm
     rw[CU]at be
     have:o'=o:=by
      have h2:ops[i]?=some o':=ofL be
      exact Aq (h2.symm.trans ho)
     subst this;rw[hq]at bj;cases bj
    refine ih _ _ _ b e h d done todo a8 ap an { S with inv:=am,ag:=λs hs=>?_,sz:=by rw[size_put];exact S.sz,ad:=by rw[zy];exact S.ad,ch:=λj hj=>?_,kp:=λk ok Z hl hk=>?_,sm:=S.sm.trans (Same.put a o.dst _ λt ht=>xo (by
     obtain⟨bz,e2⟩:=Ad.1 ho
     rw[<-e2];simp) t ht) }
    ·by_cases hd:o.dst=some s
     ·obtain⟨hv,ax⟩:=S.qv i o s ho hq hd
      rw[hd,qj (by rw[S.sz];exact ax),hv]
     ·rw[zk hd]
      refine S.ag s λk ok Z aa aQ=>?_
      by_cases ai:k=i
      ·subst ai
       have:ok=o:=Aq (Z.symm.trans ho)
       subst this;exact hd
      ·exact hs k ok Z aa (by rw[af k ai];exact aQ)
    ·have:j≠i:=λe=>bh (e ▸ hj)
     rw[af j this];exact S.ch j hj
    ·by_cases ai:k=i
     ·subst ai;rw[aj]at hk;cases hk
     ·rw[af k ai]at hk;exact S.kp k ok Z hl hk
   |false=>
    have aN:i∈zl 0 ops.toList:=qo.2 ⟨CK _,o,by rw[CU];exact toL ho,hq⟩
    have aL:=yf (l:=ops.toList) (k:=0)
    have ay:i∉done:=λhd=>by rw[(S.ch i aN).2 hd]at aE;cases aE
    have ak:∃rest,todo=i::rest:=by
     have a1:i∈todo:=by
      have:=aN
      rw[S.tt,Av]at this
      rcases this with h1|h1
      ·exact absurd (by simpa using h1) ay
      ·exact h1
     cases todo with
     |nil=>cases a1
     |cons j rest=>
      rcases Ai.1 a1 with rfl|hr
      ·exact⟨rest,rfl⟩
      ·exfalso
       obtain⟨m,hm,em⟩:=AY hr
       have hp:∃pr,(j::rest)[m]?=some pr:=⟨_,Ak (by simp;omega)⟩
       obtain⟨pr,ba⟩:=hp
       have hw:=Zx aA (done.reverse.length+m) pr i (by rw[S.tt,A6 (by omega),C7];exact ba) (by
        rw[S.tt,A6 (by omega),show done.reverse.length+m+1-done.reverse.length=m+1 by omega,List.getElem?_cons_succ,Ak hm,em])
       have aJ:pr∈j::rest:=Bb ba
       have bn:pr∈zl 0 ops.toList:=by rw[S.tt];exact Au _ aJ
       have hd:=(S.ch pr bn).1 (jm hi hw)
       rw[S.tt,BH]at aL
       exact aL.2.2 pr (by simpa using hd) pr aJ rfl
    obtain⟨rest,rfl⟩:=ak
    have hW:=S.wt
    unfold wT at hW
    rw[ho]at hW
    simp only at hW
    cases hd:qk n [] o.dst with
    |false=>rw[hd]at hW;exact hW.elim
    |true=>
     rw[hd,cond_true]at hW
     refine Q9 (b:=b) S.sb.defers ?_
     refine ze7 hW S.sb (qh _) B d λv d' h' hK=>⟨by rw[zy];exact S.sb.defers,λv2 br=>?_⟩
     have bJ:b.put o.dst v2=b.put o.dst v:=br.symm
     have aG:∀j,j∈zl 0 ops.toList->((listed.setIfInBounds i true).getD j false=true↔j∈i::done):=λj hj=>by
      by_cases aT:j=i
      ·subst aT;rw[aj];simp
      ·rw[af j aT,S.ch j hj];simp[aT]
     have aV:zkv tr ops (i::done) ops.size=false->∀k ok,ops[k]?=some ok->zj ok=true->(listed.setIfInBounds i true).getD k false=true:=λhl k ok Z aF=>by
      have a6:∀j∈i::done,(listed.setIfInBounds i true).getD j false=true:=λj hj=>by
       rcases Ai.1 hj with rfl|hj
       ·exact aj
       ·exact getD_set_true ((S.ch j (by rw[S.tt];simp[hj])).2 hj)
      cases tr with
      |false=>
       obtain⟨j,hj,hw⟩:=wh (Ya hl k ok (Ad.1 Z).1 Z aF)
       exact qp am (a6 j hj) hw
      |true=>exact xe (zcs hl k ok (Ad.1 Z).1 Z aF) (λi p h1 h2=>qp am h1 h2) a6
     have bi:wT P n ops h0 K tr (i::done) rest (putO e o.dst [] v) h'/\(∀k ok,ops[k]?=some ok->zj ok=true->(listed.setIfInBounds i true).getD k false=false->Keep h0.size h0 h'):=by
      cases hl:zkv tr ops (i::done) ops.size with
      |true=>rw[hl,cond_true]at hK;exact⟨hK.2,λ_ _ _ _ _=>hK.1⟩
      |false=>rw[hl,cond_false]at hK;exact⟨hK,λk ok Z aF hf=>by rw[aV hl k ok Z aF]at hf;cases hf⟩
     have aS:∀k ok t,ops[k]?=some ok->ze ok=true->ok.dst=some t->o.dst≠some t:=λk ok t Z aa aB aC=>by
      have:=ql bG k i t (Ad.1 Z).1 ab (by rw[zh Z,aB]) (by rw[zh ho,aC])
      subst this
      have:ok=o:=Aq (Z.symm.trans ho)
      subst this;rw[hq]at aa;cases aa
     refine ih _ _ _ (b.put o.dst v) (putO e o.dst [] v) h' d' (i::done) rest a8 ap an ⟨am,λs hs=>?_,by rw[size_put];exact S.sz,by rw[zy];exact S.ad,S.sb.putO hd (λ_=>rfl) λhv=>absurd (qh _) hv,λk ok t Z aa aB=>?_,λk ok Z aa bB hh=>?_,by rw[S.tt];simp,aG,bi.1,bi.2,S.sm.trans (Same.put a o.dst _ λt ht=>xo (by
      obtain⟨bz,e2⟩:=Ad.1 ho
      rw[<-e2];simp) t ht)⟩
     ·have bF:∀u,(∀k ok,ops[k]?=some ok->ze ok=true->listed.getD k false=false->ok.dst≠some s)->o.dst≠some s->zm (a.put o.dst u) s=zm (b.put o.dst v) s:=λu h1 h2=>by
       rw[zk h2,zk h2];exact S.ag s h1
      have bq:∀k ok,ops[k]?=some ok->ze ok=true->listed.getD k false=false->ok.dst≠some s:=λk ok Z aa aQ=>by
       by_cases ai:k=i
       ·subst ai
        have:ok=o:=Aq (Z.symm.trans ho)
        subst this;rw[hq]at aa;cases aa
       ·exact hs k ok Z aa (by rw[af k ai];exact aQ)
      by_cases aO:o.dst=some s
      ·rw[<-bJ,aO]
       have ax:s<n:=by
        rw[aO]at hd
        unfold qk at hd
        simp at hd;exact hd.2
       rw[qj (by rw[S.sz];exact ax),qj (by rw[S.sb.size];exact ax)]
      ·exact bF v2 bq aO
     ·have:=S.qv k ok t Z aa aB
      rw[zk (aS k ok t Z aa aB)];exact this
     ·have aP:=aZ k ok Z
      rw[yj (b:=b) aP.2 λt ht=>?_]
      ·exact S.qx k ok Z aa bB hh
      ·refine zk λaC=>?_
       obtain⟨bA,bu⟩:=qm ar k ok (Ad.1 Z).1 Z
       have hw:=zz bA i t ab (by rw[zh ho,aC]) ht
       exact bu aa i aN hw t (by rw[zh ho,aC]) ht
theorem zfa{K:Env->za->Prop}{Q:Exit->Act->World->Prop}(B:World)(ae:zro ops=true)
  (H:wU P n h (λe'=>wT P n ops h K tr [] (zl 0 ops.toList) e' h) ops.toList e) (hs:Sat n e a)
  (hQ:∀e' a' d' h',Sat n e' a'->Same (yn ops.toList) a a'->K e' h'->Q .normal a' (mk B d' h')) (d:Nat):wpAny P .any ops Q ops.size (Bf ops.size false) a (mk B d h):=by
 obtain⟨aC,ah,au,ap,ai⟩:=Wb ae
 obtain⟨f,e1,HT,am,hf⟩:=Ql (k:=0) H hs
 have hl:∀(i:Nat) (o:Oper),ops[i]?=some o->ops.toList[i]?=some o:=λi o ho=>toL ho
 have Z:∀i,qg 0 ops.toList f a=qg (0+(ops.toList.take i).length) (ops.toList.drop i) f (qg 0 (ops.toList.take i) f a):=λi=>by
  rw[<-wj,Ce]
 refine znp B ae (f:=f) hQ ops.size (BI ops.size) _ a (qg 0 ops.toList f a) e1 h d [] (zl 0 ops.toList) Dm C8 (λk=>by rw[BL,getD_replicate_false];simp) ⟨⟨by simp,λj oj _ hl=>(by rw[getD_replicate_false]at hl;cases hl),λt ht aB=>by omega⟩,λs ar=>?_,hs.size,hs.defers,am,λi o t ho hq hd=>?_,λi o ho hq h' hh=>?_,by simp,λj hj=>by rw[getD_replicate_false];simp,HT,λ_ _ _ _ _=>Keep.refl _ _,Same.refl _ _⟩
 ·refine(yc λo ho hq=>?_).symm
  obtain⟨i,hi,e⟩:=AY ho
  exact ar i o (ofL (by rw[Ak hi,e])) hq (getD_replicate_false _ _)
 ·obtain⟨h1,h2,h3⟩:=hf i o (hl i o ho) hq
  have ak:t<n:=by
   rw[hd]at h2
   unfold qk at h2
   simp at h2;exact h2.2
  refine⟨?_,ak⟩
  have ab:=(Ad.1 ho).1
  have an:(ops.toList.take i).length=i:=by simp;omega
  rw[Z i,an,Az]
  have ax:ops.toList.drop i=o::ops.toList.drop (i+1):=by
   have:=(Aw.1 (hl i o ho))
   rw[Ay this.1,this.2]
  rw[ax]
  unfold qg
  rw[hq,cond_true,yc λo' af az aj=>?_]
  ·rw[hd,qj (by rw[Zt.1,hs.size];exact ak)]
  ·obtain⟨m,hm,em⟩:=AY af
   have aa:ops[i+1+m]?=some o':=by
    have:ops.toList[i+1+m]?=some o':=by rw[<-AE,Ak hm,em]
    exact ofL this
   have:=ql au i (i+1+m) t ab (Ad.1 aa).1 (by rw[zh ho,hd]) (by rw[zh aa,aj])
   omega
 ·obtain⟨h1,h2,h3⟩:=hf i o (hl i o ho) hq
  have:=h3 h' (hh.imp id Or.inl)
  rw[Az]at this
  rw[yj h1 λt ht=>?_]
  ·exact this
  ·have ab:=(Ad.1 ho).1
   rw[Z i]
   refine yc λo' af az aj=>?_
   obtain⟨m,hm,em⟩:=AY af
   have aa:ops[i+m]?=some o':=by
    have:ops.toList[i+m]?=some o':=by rw[<-AE,Ak hm,em]
    exact ofL this
   obtain⟨ay,_⟩:=qm ai i o ab ho
   have hw:=zz ay (i+m) t (Ad.1 aa).1 (by rw[zh aa,aj]) ht
   obtain⟨oj,aA,x,hx,hb,aE⟩:=Region.waitsFor_spec hw
   have:=zu ah i oj ab aA x hx hb
   omega
def zct(j:Nat):List Nat->List Nat
 |[]=>[]
 |k::l=>bif Nat.beq k j then zct j l else k::zct j l
theorem Yx{j x:Nat}:∀{l:List Nat},x∈zct j l↔x∈l/\x≠j
 |[]=>by simp[zct]
 |k::l=>by
  simp only[zct]
  cases hb:Nat.beq k j with
  |true=>
   have:=Ah hb
   subst this
   rw[cond_true,Yx,Ai]
   exact⟨λh=>⟨.inr h.1,h.2⟩,λh=>⟨h.1.resolve_left h.2,h.2⟩⟩
  |false=>
   have Z:k≠j:=λe=>by rw[e]at hb;simp at hb
   rw[cond_false,Ai,Ai,Yx]
   constructor
   ·rintro(rfl|h)
    ·exact⟨.inl rfl,Z⟩
    ·exact⟨.inr h.1,h.2⟩
   ·rintro⟨rfl|h,h2⟩
    ·exact .inl rfl
    ·exact .inr ⟨h,h2⟩
theorem W5{j:Nat}:∀{l:List Nat},l.Nodup->(zct j l).Nodup
 |[],h=>h
 |k::l,h=>by
  simp only[zct]
  rw[DK]at h
  cases Nat.beq k j with
  |true=>exact W5 h.2
  |false=>
   rw[cond_false,DK]
   exact⟨λhm=>h.1 (Yx.1 hm).1,W5 h.2⟩
theorem ztx{j:Nat}:∀{l:List Nat},(zct j l).length<=l.length
 |[]=>Ac _
 |k::l=>by
  simp only[zct]
  have:=ztx (j:=j) (l:=l)
  cases Nat.beq k j with
  |true=>rw[cond_true,AH];omega
  |false=>rw[cond_false,AH,AH];omega
theorem ziw{j:Nat}:∀{l:List Nat},j∈l->(zct j l).length+1<=l.length
 |[],h=>by cases h
 |k::l,h=>by
  simp only[zct]
  cases hb:Nat.beq k j with
  |true=>
   have:=ztx (j:=j) (l:=l)
   rw[cond_true,AH];omega
  |false=>
   have Z:k≠j:=λe=>by rw[e]at hb;simp at hb
   have:=ziw (j:=j) (l:=l) (by
    rcases Ai.1 h with rfl|h
    ·exact absurd rfl Z
    ·exact h)
   rw[cond_false,AH,AH];omega
def zxw(ops:Array Oper)(todo:List Nat)(j:Nat):Bool:=todo.all λk=>bif Nat.beq k j then true else !(w8 ops [j] ops.size k)
def z7q(p:Nat->Prop):List Nat->Prop
 |[]=>True
 |[j]=>p j
 |j::k::l=>p j/\z7q p (k::l)
theorem zix{p:Nat->Prop}:∀{l:List Nat},z7q p l->∀j∈l,p j
 |[],_,j,h=>by cases h
 |[k],H,j,h=>by simp at h;subst h;exact H
 |k::k2::l,H,j,h=>by
  rcases Ai.1 h with rfl|h
  ·exact H.1
  ·exact zix H.2 j h
def zrp(p:Nat->Bool):List Nat->List Nat
 |[]=>[]
 |j::l=>bif p j then j::zrp p l else zrp p l
theorem zbg{p:Nat->Bool}{j:Nat}:∀{l:List Nat},j∈l->p j=true->j∈zrp p l
 |[],h,_=>by cases h
 |k::l,h,hp=>by
  simp only[zrp]
  rcases Ai.1 h with rfl|h
  ·rw[hp];exact Am
  ·cases p k with
   |true=>exact Ag _ (zbg h hp)
   |false=>exact zbg h hp
def zkw(ops:Array Oper)(T:List Nat)(e:Env)(h0 h':za)(K:Prop):Nat->Prop
 |0=>K
 |k+1=>match ops[k]? with
  |some o=>bif zj o then(bif w8 ops T ops.size k then zkw ops T e h0 h' K k else match o.op with
   |.load _ a=>bif known e [] [a]then(match rho e [] a with
    |.pointer (some p)=>h'[p.block]?=h0[p.block]?/\zkw ops T e h0 h' K k
    |_=>False)else False
   |_=>False)else zkw ops T e h0 h' K k
  |none=>zkw ops T e h0 h' K k
theorem zhc{ops:Array Oper}{T:List Nat}{e:Env}{h0 h':za}{K:Prop}:∀{m:Nat},zkw ops T e h0 h' K m->K/\∀k o,k<m->ops[k]?=some o->zj o=true->w8 ops T ops.size k=false ->
  ∃t a p,o.op=.load t a/\known e [] [a]=true/\rho e [] a=.pointer (some p)/\h'[p.block]?=h0[p.block]?
 |0,H=>⟨H,λk o hk=>by omega⟩
 |m+1,H=>by
  unfold zkw at H
  have step:zkw ops T e h0 h' K m->(∀o,ops[m]?=some o->zj o=true->w8 ops T ops.size m=false->∃t a p,o.op=.load t a/\known e [] [a]=true/\rho e [] a=.pointer (some p)/\h'[p.block]?=h0[p.block]?) ->
    K/\∀k o,k<m+1->ops[k]?=some o->zj o=true->w8 ops T ops.size k=false->∃t a p,o.op=.load t a/\known e [] [a]=true/\rho e [] a=.pointer (some p)/\h'[p.block]?=h0[p.block]?:=λH1 H2=>by
   obtain⟨h1,h2⟩:=zhc H1
   refine⟨h1,λk o hk ho hl hr=>?_⟩
   rcases AF k m with h3|h3
   ·exact h2 k o h3 ho hl hr
   ·have:k=m:=by omega
    subst this
    exact H2 o ho hl hr
  cases ho:ops[m]? with
  |none=>rw[ho]at H;exact step H λo h1=>by rw[ho]at h1;cases h1
  |some o=>
   rw[ho]at H
   simp only at H
   have same:∀o',ops[m]?=some o'->o'=o:=λo' h1=>Aq (h1.symm.trans ho)
   cases hl:zj o with
   |false=>rw[hl]at H;exact step H λo' h1 h2=>by rw[same o' h1,hl]at h2;cases h2
   |true=>
    rw[hl,cond_true]at H
    cases hr:w8 ops T ops.size m with
    |true=>rw[hr]at H;exact step H λo' h1 h2 h3=>by rw[hr]at h3;cases h3
    |false=>
     rw[hr,cond_false]at H
     split at H
     ·rename_i t a Z
      cases hk:known e [] [a]with
      |false=>rw[hk]at H;exact H.elim
      |true=>
       rw[hk,cond_true]at H
       split at H
       ·rename_i p hp
        exact step H.2 λo' h1 h2 h3=>⟨t,a,p,by rw[same o' h1];exact Z,hk,hp,H.1⟩
       ·exact H.elim
     ·exact H.elim
def zxx(md:Bool)(ops:Array Oper)(T:List Nat)(e:Env)(h0 h':za)(K:Prop):Prop:=bif md then zkw ops T e h0 h' K ops.size else Keep h0.size h0 h'/\K
def wB(P:Program)(n:Nat)(ops:Array Oper)(h0:za)(K:Env->za->Prop)(md:Bool):Nat->List Nat->List Nat->Env->za->Prop
 |_,_,[],e,h=>K (clean e) h
 |0,_,_::_,_,_=>False
 |f+1,T,j0::l0,e,h=>z7q (λj=>match ops[j]? with
  |some o=>bif qk n [] o.dst then opW P o e [] h λv h'=>(bif zkv true ops (j::T) ops.size then zxx md ops (j::T) e h0 h' (wB P n ops h0 K md f (j::T) (zct j (j0::l0)) (putO e o.dst [] v) h')else wB P n ops h0 K md f (j::T) (zct j (j0::l0)) (putO e o.dst [] v) h')else False
  |none=>False) (zrp (zxw ops (j0::l0)) (j0::l0))
theorem zty{K:Env->za->Prop}{f:Nat}{T todo:List Nat}(H:wB P n ops h0 K md (f+1) T todo e h){j:Nat}(hj:j∈todo)(hc:zxw ops todo j=true):match ops[j]? with
  |some o=>bif qk n [] o.dst then opW P o e [] h λv h'=>(bif zkv true ops (j::T) ops.size then zxx md ops (j::T) e h0 h' (wB P n ops h0 K md f (j::T) (zct j todo) (putO e o.dst [] v) h')else wB P n ops h0 K md f (j::T) (zct j todo) (putO e o.dst [] v) h')else False
  |none=>False:=by
 cases todo with
 |nil=>cases hj
 |cons j0 l0=>exact zix H j (zbg hj hc)
def zkx(ops:Array Oper):Bool:=bif j6 ops.toList then(bif qd ops ops.size then(bif jl ops ops.size then Q8 ops ops.size else false)else false)else false
theorem zhd(h:zkx ops=true):j6 ops.toList=true/\qd ops ops.size=true/\jl ops ops.size=true/\Q8 ops ops.size=true:=by
 unfold zkx at h
 cases h1:j6 ops.toList <;> cases h2:qd ops ops.size <;> cases h3:jl ops ops.size <;> simp[h1,h2,h3]at h ⊢
 exact h
structure StB (P:Program) (n:Nat) (ops:Array Oper) (h0:za) (K:Env->za->Prop) (md:Bool) (f:Nat->Value) (a0:Act) (listed:Array Bool) (a b:Act) (e:Env) (h:za) (done todo:List Nat):Prop where
 inv:HeadInv .any ops ops.size listed
 ag:∀s,(∀i o,ops[i]?=some o->ze o=true->listed.getD i false=false->o.dst≠some s)->zm a s=zm b s
 sz:a.tmps.size=n
 ad:a.defers=[]
 sb:Sat n e b
 qv:∀i o t,ops[i]?=some o->ze o=true->o.dst=some t->zm b t=f i/\t<n
 qx:∀i o,ops[i]?=some o->ze o=true->∀h',LdOK o b.eval h0 h'->QExec P (execOp b.eval o) h' (.value (f i))
 tt:∀j,j∈zl 0 ops.toList->(j∈todo↔listed.getD j false=false)
 ch:∀j,j∈zl 0 ops.toList->(listed.getD j false=true↔j∈done)
 dn:∀j∈done,j∈zl 0 ops.toList
 th:∀j∈todo,j∈zl 0 ops.toList
 nd:todo.Nodup
 wt:∃fu,todo.length<=fu/\wB P n ops h0 K md fu done todo e h
 kp:∀i o,ops[i]?=some o->zj o=true->listed.getD i false=false->LdOK o b.eval h0 h
 sm:Same (yn ops.toList) a0 a
theorem zxy{K:Env->za->Prop}{Q:Exit->Act->World->Prop}(B:World)(bj:zkx ops=true){f:Nat->Value}
  (hQ:∀e' a' d' h',Sat n e' a'->Same (yn ops.toList) a0 a'->K e' h'->Q .normal a' (mk B d' h')):
  ∀(N:Nat) (U:List Nat) (listed:Array Bool) (a b:Act) (e:Env) (h:za) (d:Nat) (done todo:List Nat),U.length=N->U.Nodup->(∀k,k∈U↔k<ops.size/\listed.getD k false=false) ->
   StB P n ops h0 K md f a0 listed a b e h done todo->wpAny P .any ops Q N listed a (mk B d h):=by
 obtain⟨bF,aL,bD,ax⟩:=zhd bj
 have a6:∀(i:Nat) (o:Oper),ops[i]?=some o->o.guard=none/\jc o.op=true:=λi o ho=>Zl bF o (by
  obtain⟨af,e⟩:=Ad.1 ho
  rw[<-e];simp)
 have bA:∀{listed:Array Bool} {a b:Act} {e:Env} {h:za} {d:Nat} {done todo:List Nat},(∀k,k<ops.size->listed.getD k false=true)->StB P n ops h0 K md f a0 listed a b e h done todo->Q .normal a (mk B d h):=by
  intro listed a b e h d done todo aj S
  have aP:todo=[]:=by
   cases htd:todo with
   |nil=>rfl
   |cons j l=>
    have hm:j∈todo:=by rw[htd];simp
    have hj:j∈zl 0 ops.toList:=S.th j hm
    have af:j<ops.size:=by
     obtain⟨_,o,ho,_⟩:=qo.1 hj
     have:=(Aw.1 ho).1
     simpa using this
    have:=(S.tt j hj).1 hm
    rw[aj j af]at this;cases this
  obtain⟨fu,_,hw⟩:=S.wt
  rw[aP]at hw
  have hw:K (clean e) h:=by cases fu <;> exact hw
  have hv:∀s,zm a s=zm b s:=λs=>S.ag s λi o ho hq hl=>by
   rw[aj i (Ad.1 ho).1]at hl;cases hl
  have hs:Sat n e a:=⟨S.ad,S.sz,λx hx=>by
   have:=S.sb.all x hx
   have e1:zm a=zm b:=funext hv
   rw[e1];exact this⟩
  exact hQ _ _ _ _ hs.clean S.sm hw
 intro N
 induction N with
 |zero=>
  intro U listed a b e h d done todo hU _ ah S
  have bm:U=[]:=AU.1 hU
  subst bm
  have aj:∀k,k<ops.size->listed.getD k false=true:=λk hk=>by
   cases hb:listed.getD k false with
   |true=>rfl
   |false=>exact absurd ((ah k).2 ⟨hk,hb⟩) (by simp)
  refine⟨?_,bA aj S⟩
  rw[CF]
  intro j hj
  obtain⟨h1,o,ho,_⟩:=mem_ready.1 hj
  have af:=(Ad.1 ho).1
  have:=aj j af
  have h2:=getD_both h1
  rw[this]at h2;cases h2
 |succ N ih=>
  intro U listed a b e h d done todo hU aH ah S
  have bC:∃k,k<ops.size/\listed.getD k false=false:=by
   cases U with
   |nil=>cases hU
   |cons k U=>exact⟨k,(ah k).1 Am⟩
  refine⟨λhr=>?_,λi hi=>?_⟩
  ·exfalso
   obtain⟨k,ay,aO,bz⟩:=Zy bC
   have:k∈Region.ready .any ops listed:=mem_ready.2 ⟨by rw[<-aO];simp[S.inv.size,ay],ops[k],AI ay,λx hx hb=>bz _ (zu aL k ops[k] ay (AI ay) x hx hb)⟩
   rw[hr]at this;cases this
  ·obtain⟨bg,o,ho,aj⟩:=mem_ready.1 hi
   have aT:listed.getD i false=false:=getD_both bg
   have af:i<ops.size:=(Ad.1 ho).1
   obtain⟨hg,bG⟩:=a6 i o ho
   have aI:i<listed.size:=by rw[S.inv.size];exact af
   have ba:(U.erase i).length=N:=by rw[CH ((ah i).2 ⟨af,aT⟩),hU];rfl
   have au:(U.erase i).Nodup:=aH.erase i
   have ar:∀k,k∈U.erase i↔k<ops.size/\(listed.setIfInBounds i true).getD k false=false:=λk=>by
    rw[aH.mem_erase_iff,ah k]
    by_cases hk:i=k
    ·subst hk;simp[aI]
    ·rw[getD_set_ne false hk];exact⟨λhx=>hx.2,λhx=>⟨λe=>hk e.symm,hx⟩⟩
   have ak:=S.inv.set hi af
   have ae:∀k,k≠i->(listed.setIfInBounds i true).getD k false=listed.getD k false:=λk hk=>getD_set_ne false (Ne.symm hk)
   have ab:(listed.setIfInBounds i true).getD i false=true:=by simp[aI]
   obtain⟨aC,bM⟩:=qm ax i o af ho
   have a8:∀t∈tmpsOf o.op.operands.toList,zm a t=zm b t:=λt ht=>S.ag t λk ok Z hq hl hd=>by
    have hw:=zz aC k t (Ad.1 Z).1 (by rw[zh Z,hd]) ht
    rw[jm hi hw]at hl;cases hl
   have aV:=yj bG a8
   unfold wpOp
   rw[ho]
   simp only
   have a1:Bm o (yielded ops a.tmps)=true:=by unfold Bm;rw[hg]
   rw[if_pos a1]
   left
   unfold Oper.wp
   rw[aV]
   cases hq:ze o with
   |true=>
    have hx:=S.qx i o ho hq h (by
     cases hl:zj o with
     |false=>exact .inl hl
     |true=>exact S.kp i o ho hl aT) B d
    rw[hx,Oper.upon_value]
    have aJ:i∉zl 0 ops.toList:=λhm=>by
     obtain⟨_,o',be,bi⟩:=qo.1 hm
     rw[CU]at be
     have:o'=o:=by
      have h2:ops[i]?=some o':=ofL be
      exact Aq (h2.symm.trans ho)
     subst this;rw[hq]at bi;cases bi
    refine ih _ _ _ b e h d done todo ba au ar { S with inv:=ak,ag:=λs hs=>?_,sz:=by rw[size_put];exact S.sz,ad:=by rw[zy];exact S.ad,tt:=λj hj=>(by have:j≠i:=λe=>aJ (e ▸ hj);rw[ae j this];exact S.tt j hj),ch:=λj hj=>?_,kp:=λk ok Z hl hk=>?_,sm:=S.sm.trans (Same.put a o.dst _ λt ht=>xo (by
     obtain⟨bq,e2⟩:=Ad.1 ho
     rw[<-e2];simp) t ht) }
    ·by_cases hd:o.dst=some s
     ·obtain⟨hv,az⟩:=S.qv i o s ho hq hd
      rw[hd,qj (by rw[S.sz];exact az),hv]
     ·rw[zk hd]
      refine S.ag s λk ok Z aa aQ=>?_
      by_cases ai:k=i
      ·subst ai
       have:ok=o:=Aq (Z.symm.trans ho)
       subst this;exact hd
      ·exact hs k ok Z aa (by rw[ae k ai];exact aQ)
    ·have:j≠i:=λe=>aJ (e ▸ hj)
     rw[ae j this];exact S.ch j hj
    ·by_cases ai:k=i
     ·subst ai;rw[ab]at hk;cases hk
     ·rw[ae k ai]at hk;exact S.kp k ok Z hl hk
   |false=>
    have aM:i∈zl 0 ops.toList:=qo.2 ⟨CK _,o,by rw[CU];exact toL ho,hq⟩
    have aA:i∈todo:=(S.tt i aM).2 aT
    obtain⟨fu,bL,bB⟩:=S.wt
    have aS:zxw ops todo i=true:=by
     unfold zxw
     rw[Ba]
     intro k hk
     cases ai:Nat.beq k i with
     |true=>rfl
     |false=>
      have aU:k≠i:=λe=>by rw[e]at ai;simp at ai
      cases hr:w8 ops [i] ops.size k with
      |false=>rfl
      |true=>
       exfalso
       have:=xe hr (listed:=listed.setIfInBounds i true) (λp q h1 h2=>qp ak h1 h2) (λj hj=>by simp at hj;subst hj;exact ab)
       rw[ae k aU]at this
       have h2:=(S.tt k (S.th k hk)).1 hk
       rw[this]at h2;cases h2
    have hW:match ops[i]? with
      |some o=>bif qk n [] o.dst then opW P o e [] h λv h'=>(bif zkv true ops (i::done) ops.size then zxx md ops (i::done) e h0 h' (wB P n ops h0 K md (fu-1) (i::done) (zct i todo) (putO e o.dst [] v) h')else wB P n ops h0 K md (fu-1) (i::done) (zct i todo) (putO e o.dst [] v) h')else False
      |none=>False:=by
     cases fu with
     |zero=>(have:todo.length=0:=by omega);rw[AU.1 this]at aA;cases aA
     |succ fu=>
      have:=zty (show wB P n ops h0 K md (fu+1) done todo e h from bB) aA aS
      exact this
    rw[ho]at hW
    simp only at hW
    cases hd:qk n [] o.dst with
    |false=>rw[hd]at hW;exact hW.elim
    |true=>
     rw[hd,cond_true]at hW
     refine Q9 (b:=b) S.sb.defers ?_
     refine ze7 hW S.sb (qh _) B d λv d' h' hK=>⟨by rw[zy];exact S.sb.defers,λv2 bn=>?_⟩
     have bH:b.put o.dst v2=b.put o.dst v:=bn.symm
     have aG:∀j,j∈zl 0 ops.toList->((listed.setIfInBounds i true).getD j false=true↔j∈i::done):=λj hj=>by
      by_cases ap:j=i
      ·subst ap;rw[ab];simp
      ·rw[ae j ap,S.ch j hj];simp[ap]
     have aY:zkv true ops (i::done) ops.size=false->∀k ok,ops[k]?=some ok->zj ok=true->(listed.setIfInBounds i true).getD k false=true:=λhl k ok Z am=>by
      have bJ:∀j∈i::done,(listed.setIfInBounds i true).getD j false=true:=λj hj=>by
       rcases Ai.1 hj with rfl|hj
       ·exact ab
       ·exact getD_set_true ((S.ch j (S.dn j hj)).2 hj)
      exact xe (zcs hl k ok (Ad.1 Z).1 Z am) (λi p h1 h2=>qp ak h1 h2) bJ
     have an:∀k ok,ops[k]?=some ok->ze ok=true->∀t∈tmpsOf ok.op.operands.toList,zm (b.put o.dst v) t=zm b t:=λk ok Z aa t ht=>zk λaF=>by
      obtain⟨br,bo⟩:=qm ax k ok (Ad.1 Z).1 Z
      have hw:=zz br i t af (by rw[zh ho,aF]) ht
      exact bo aa i aM hw t (by rw[zh ho,aF]) ht
     have aB:∀k,w8 ops (i::done) ops.size k=true->(listed.setIfInBounds i true).getD k false=true:=λk hr=>xe hr (λi p h1 h2=>qp ak h1 h2) λj hj=>by
      rcases Ai.1 hj with rfl|hj
      ·exact ab
      ·exact getD_set_true ((S.ch j (S.dn j hj)).2 hj)
     have bh:wB P n ops h0 K md (fu-1) (i::done) (zct i todo) (putO e o.dst [] v) h'/\(∀k ok,ops[k]?=some ok->zj ok=true->(listed.setIfInBounds i true).getD k false=false->LdOK ok (b.put o.dst v).eval h0 h'):=by
      cases hl:zkv true ops (i::done) ops.size with
      |false=>rw[hl,cond_false]at hK;exact⟨hK,λk ok Z am hf=>by rw[aY hl k ok Z am]at hf;cases hf⟩
      |true=>
       rw[hl,cond_true]at hK
       unfold zxx at hK
       cases md with
       |false=>exact⟨hK.2,λ_ _ _ _ _=>.inr (.inl hK.1)⟩
       |true=>
        rw[cond_true]at hK
        obtain⟨g1,g2⟩:=zhc hK
        refine⟨g1,λk ok Z am hf=>.inr (.inr λt a p a7 hp=>?_)⟩
        have hr:w8 ops (i::done) ops.size k=false:=by
         cases hr:w8 ops (i::done) ops.size k with
         |false=>rfl
         |true=>rw[aB k hr]at hf;cases hf
        obtain⟨t',a',p',e1,e2,e3,e4⟩:=g2 k ok (Ad.1 Z).1 Z am hr
        rw[a7]at e1
        injection e1 with _ e1
        subst e1
        have aa:ze ok=true:=by
         unfold zj at am
         unfold ze
         split at am
         ·rfl
         ·cases am
        have ah:a∈ok.op.operands.toList:=by rw[a7];simp[Op.operands]
        have ea:=yi (an k ok Z aa) a ah
        have eb:b.eval a=rho e [] a:=j8 S.sb (qh _) e2 a (by simp)
        rw[ea,eb,e3]at hp
        injection hp with hp
        injection hp with hp
        rw[<-hp];exact e4
     have bI:∀j,j∈zl 0 ops.toList->(j∈zct i todo↔(listed.setIfInBounds i true).getD j false=false):=λj hj=>by
      rw[Yx]
      by_cases ap:j=i
      ·subst ap;rw[ab];simp
      ·rw[ae j ap,<-S.tt j hj];exact⟨λhx=>hx.1,λhx=>⟨hx,ap⟩⟩
     have aZ:∀k ok t,ops[k]?=some ok->ze ok=true->ok.dst=some t->o.dst≠some t:=λk ok t Z aa aE aF=>by
      have:=ql bD k i t (Ad.1 Z).1 af (by rw[zh Z,aE]) (by rw[zh ho,aF])
      subst this
      have:ok=o:=Aq (Z.symm.trans ho)
      subst this;rw[hq]at aa;cases aa
     refine ih _ _ _ (b.put o.dst v) (putO e o.dst [] v) h' d' (i::done) (zct i todo) ba au ar ⟨ak,λs hs=>?_,by rw[size_put];exact S.sz,by rw[zy];exact S.ad,S.sb.putO hd (λ_=>rfl) λhv=>absurd (qh _) hv,λk ok t Z aa aE=>?_,λk ok Z aa bu hh=>?_,bI,aG,(λj hj=>by
      rcases Ai.1 hj with rfl|hj
      ·exact aM
      ·exact S.dn j hj),(λj hj=>S.th j (Yx.1 hj).1),W5 S.nd,⟨fu-1,by have:=ziw aA;omega,bh.1⟩,bh.2,S.sm.trans (Same.put a o.dst _ λt ht=>xo (by
      obtain⟨bq,e2⟩:=Ad.1 ho
      rw[<-e2];simp) t ht)⟩
     ·have aU:∀u,(∀k ok,ops[k]?=some ok->ze ok=true->listed.getD k false=false->ok.dst≠some s)->o.dst≠some s->zm (a.put o.dst u) s=zm (b.put o.dst v) s:=λu h1 h2=>by
       rw[zk h2,zk h2];exact S.ag s h1
      have bE:∀k ok,ops[k]?=some ok->ze ok=true->listed.getD k false=false->ok.dst≠some s:=λk ok Z aa aQ=>by
       by_cases ai:k=i
       ·subst ai
        have:ok=o:=Aq (Z.symm.trans ho)
        subst this;rw[hq]at aa;cases aa
       ·exact hs k ok Z aa (by rw[ae k ai];exact aQ)
      by_cases aN:o.dst=some s
      ·rw[<-bH,aN]
       have az:s<n:=by
        rw[aN]at hd
        unfold qk at hd
        simp at hd;exact hd.2
       rw[qj (by rw[S.sz];exact az),qj (by rw[S.sb.size];exact az)]
      ·exact aU v2 bE aN
     ·have:=S.qv k ok t Z aa aE
      rw[zk (aZ k ok t Z aa aE)];exact this
     ·have aO:=a6 k ok Z
      rw[yj (b:=b) aO.2 (an k ok Z aa)]
      exact S.qx k ok Z aa bu (LdOK.congr (λx hx=>(yi (an k ok Z aa) x hx).symm) hh)
theorem zhe{K:Env->za->Prop}{Q:Exit->Act->World->Prop}(B:World)(ae:zkx ops=true)
  (H:wU P n h (λe'=>wB P n ops h K md (zl 0 ops.toList).length [] (zl 0 ops.toList) e' h) ops.toList e) (hs:Sat n e a)
  (hQ:∀e' a' d' h',Sat n e' a'->Same (yn ops.toList) a a'->K e' h'->Q .normal a' (mk B d' h')) (d:Nat):wpAny P .any ops Q ops.size (Bf ops.size false) a (mk B d h):=by
 obtain⟨aC,ah,au,ai⟩:=zhd ae
 obtain⟨f,e1,HT,am,hf⟩:=Ql (k:=0) H hs
 have hl:∀(i:Nat) (o:Oper),ops[i]?=some o->ops.toList[i]?=some o:=λi o ho=>toL ho
 have Z:∀i,qg 0 ops.toList f a=qg (0+(ops.toList.take i).length) (ops.toList.drop i) f (qg 0 (ops.toList.take i) f a):=λi=>by
  rw[<-wj,Ce]
 refine zxy B ae (f:=f) hQ ops.size (BI ops.size) _ a (qg 0 ops.toList f a) e1 h d [] (zl 0 ops.toList) Dm C8 (λk=>by rw[BL,getD_replicate_false];simp) ⟨⟨by simp,λj oj _ hl=>(by rw[getD_replicate_false]at hl;cases hl),λt ht aB=>by omega⟩,λs ar=>?_,hs.size,hs.defers,am,λi o t ho hq hd=>?_,λi o ho hq h' hh=>?_,(λj hj=>by rw[getD_replicate_false];simp[hj]),(λj hj=>by rw[getD_replicate_false];simp),(λj hj=>by cases hj),(λj hj=>hj),yf,⟨_,Ac _,HT⟩,λ_ _ _ _ _=>.inr (.inl (Keep.refl _ _)),Same.refl _ _⟩
 ·refine(yc λo ho hq=>?_).symm
  obtain⟨i,hi,e⟩:=AY ho
  exact ar i o (ofL (by rw[Ak hi,e])) hq (getD_replicate_false _ _)
 ·obtain⟨h1,h2,h3⟩:=hf i o (hl i o ho) hq
  have ak:t<n:=by
   rw[hd]at h2
   unfold qk at h2
   simp at h2;exact h2.2
  refine⟨?_,ak⟩
  have ab:=(Ad.1 ho).1
  have ap:(ops.toList.take i).length=i:=by simp;omega
  rw[Z i,ap,Az]
  have ax:ops.toList.drop i=o::ops.toList.drop (i+1):=by
   have:=(Aw.1 (hl i o ho))
   rw[Ay this.1,this.2]
  rw[ax]
  unfold qg
  rw[hq,cond_true,yc λo' af az aj=>?_]
  ·rw[hd,qj (by rw[Zt.1,hs.size];exact ak)]
  ·obtain⟨m,hm,em⟩:=AY af
   have aa:ops[i+1+m]?=some o':=by
    have:ops.toList[i+1+m]?=some o':=by rw[<-AE,Ak hm,em]
    exact ofL this
   have:=ql au i (i+1+m) t ab (Ad.1 aa).1 (by rw[zh ho,hd]) (by rw[zh aa,aj])
   omega
 ·obtain⟨h1,h2,h3⟩:=hf i o (hl i o ho) hq
  have an:∀t∈tmpsOf o.op.operands.toList,zm (qg 0 ops.toList f a) t=zm (qg 0 (ops.toList.take i) f a) t:=λt ht=>by
   have ab:=(Ad.1 ho).1
   rw[Z i]
   refine yc λo' af az aj=>?_
   obtain⟨m,hm,em⟩:=AY af
   have aa:ops[i+m]?=some o':=by
    have:ops.toList[i+m]?=some o':=by rw[<-AE,Ak hm,em]
    exact ofL this
   obtain⟨ay,_⟩:=qm ai i o ab ho
   have hw:=zz ay (i+m) t (Ad.1 aa).1 (by rw[zh aa,aj]) ht
   obtain⟨oj,aA,x,hx,hb,aE⟩:=Region.waitsFor_spec hw
   have:=zu ah i oj ab aA x hx hb
   omega
  have:=h3 h' (LdOK.congr (λx hx=>(yi an x hx).symm) hh)
  rw[Az]at this
  rw[yj h1 an]
  exact this
end
section
variable {l done:List Nat} {i m n:Nat} {ops:Array Oper} {P:Program} {o:Oper} {h h0:za} {md:Bool} {e:Env} {a b:Act}
def zzy(o:Oper):Bool:=match o.op with
 |.extract _ _=>true
 |_=>false
def zky(o:Oper):Bool:=bif ze o then true else zzy o
def upL(ops:Array Oper):Nat->List Nat->List Nat
 |0,S=>S
 |k+1,S=>upL ops k (bif S.any λp=>Region.waitsFor .any ops p k then k::S else S)
theorem ziy{ops:Array Oper}{listed:Array Bool}(hc:∀i p,listed.getD i false=true->Region.waitsFor .any ops i p=true->listed.getD p false=true):∀{m:Nat} {S:List Nat},(∀j∈S,listed.getD j false=true)->∀k∈upL ops m S,listed.getD k false=true
 |0,S,h,k,hk=>h k hk
 |m+1,S,h,k,hk=>by
  unfold upL at hk
  refine ziy hc (m:=m) (λj hj=>?_) k hk
  cases ha:(S.any λp=>Region.waitsFor .any ops p m)with
  |false=>rw[ha]at hj;exact h j hj
  |true=>
   rw[ha,cond_true]at hj
   rcases Ai.1 hj with rfl|hj
   ·obtain⟨p,hp,hw⟩:=List.any_eq_true.1 ha
    exact hc p _ (h p hp) hw
   ·exact h j hj
theorem Yy(h:memN l i=true):i∈l:=by
 induction l with
 |nil=>cases h
 |cons j l ih=>
  simp only[memN]at h
  cases hb:Nat.beq i j with
  |true=>rw[Ah hb];exact Am
  |false=>rw[hb]at h;exact Ag _ (ih h)
theorem ziz(h:i∈l):memN l i=true:=by
 cases hm:memN l i with
 |true=>rfl
 |false=>exact absurd h (we hm)
def z8m(ops:Array Oper)(k:Nat):Bool:=match ops[k]? with
 |some o=>!(zky o)
 |none=>false
def qa0(ops:Array Oper)(i:Nat):Bool:=(upL ops ops.size [i]).any (z8m ops)
def gdd(o:Oper):Bool:=match o.guard with
 |none=>false
 |some _=>true
def J4(ops:Array Oper)(i:Nat):Bool:=match ops[i]? with
 |some o=>bif gdd o then true else bif zky o then(bif zj o then qa0 ops i else false)else true
 |none=>true
def hvL(ops:Array Oper):List Nat:=(BI ops.size).filter (J4 ops)
theorem zfb{j:Nat}:j∈hvL ops↔j<ops.size/\J4 ops j=true:=by
 unfold hvL;rw[List.mem_filter,BL]
theorem ztz(ops:Array Oper):(hvL ops).Nodup:=C8.filter _
def okW(ops:Array Oper)(done S:List Nat)(k:Nat):Nat->Bool
 |0=>true
 |p+1=>bif Region.waitsFor .any ops k p then(bif (bif J4 ops p then memN done p else memN S p)then okW ops done S k p else false)else okW ops done S k p
theorem zem{ops:Array Oper}{done S:List Nat}{k:Nat}:∀{m:Nat},okW ops done S k m=true↔∀p,p<m->Region.waitsFor .any ops k p=true->(J4 ops p=true->p∈done)/\(J4 ops p=false->p∈S)
 |0=>⟨λ_ p hp=>by omega,λ_=>rfl⟩
 |m+1=>by
  unfold okW
  have ih:=zem (ops:=ops) (done:=done) (S:=S) (k:=k) (m:=m)
  constructor
  ·intro h p hp hw
   rcases AF p m with h1|h1
   ·refine ih.1 ?_ p h1 hw
    revert h
    cases Region.waitsFor .any ops k m with
    |false=>exact id
    |true=>
     cases(bif J4 ops m then memN done m else memN S m)with
     |false=>intro h;cases h
     |true=>exact id
   ·have:p=m:=by omega
    subst this
    rw[hw,cond_true]at h
    cases hi:J4 ops p with
    |true=>
     rw[hi,cond_true]at h
     cases hm:memN done p with
     |false=>rw[hm]at h;cases h
     |true=>exact⟨λ_=>Yy hm,(λhc=>by cases hc)⟩
    |false=>
     rw[hi,cond_false]at h
     cases hm:memN S p with
     |false=>rw[hm]at h;cases h
     |true=>exact⟨(λhc=>by cases hc),λ_=>Yy hm⟩
  ·intro h
   have h1:=ih.2 λp hp hw=>h p (by omega) hw
   cases hw:Region.waitsFor .any ops k m with
   |false=>exact h1
   |true=>
    obtain⟨a,b⟩:=h m (by omega) hw
    rw[cond_true]
    cases hi:J4 ops m with
    |true=>rw[cond_true,ziz (a hi)];exact h1
    |false=>rw[cond_false,ziz (b hi)];exact h1
def z7r(ops:Array Oper)(done S:List Nat)(k:Nat):List Nat:=bif J4 ops k then S else(bif okW ops done S k k then k::S else S)
def Qw(ops:Array Oper)(done:List Nat):Nat->List Nat
 |0=>[]
 |k+1=>z7r ops done (Qw ops done k) k
theorem x7{ops:Array Oper}{done:List Nat}:∀{m i:Nat},i∈Qw ops done m->i<m/\J4 ops i=false/\okW ops done (Qw ops done i) i i=true
 |0,i,h=>by cases h
 |m+1,i,h=>by
  unfold Qw z7r at h
  cases hi:J4 ops m with
  |true=>rw[hi,cond_true]at h;have:=x7 h;exact⟨by omega,this.2⟩
  |false=>
   rw[hi,cond_false]at h
   cases ho:okW ops done (Qw ops done m) m m with
   |false=>rw[ho,cond_false]at h;have:=x7 h;exact⟨by omega,this.2⟩
   |true=>
    rw[ho,cond_true]at h
    rcases Ai.1 h with rfl|h
    ·exact⟨by omega,hi,ho⟩
    ·have:=x7 h;exact⟨by omega,this.2⟩
theorem zfc{ops:Array Oper}{done:List Nat}{m:Nat}:∀{m' i:Nat},m<=m'->i∈Qw ops done m->i∈Qw ops done m'
 |0,i,h,hi=>by(have:m=0:=by omega);subst this;exact hi
 |m'+1,i,h,hi=>by
  rcases Dg h with e|e
  ·rw[<-e];exact hi
  ·have:=zfc (m':=m') (by omega) hi
   unfold Qw z7r
   cases J4 ops m' with
   |true=>exact this
   |false=>
    rw[cond_false]
    cases okW ops done (Qw ops done m') m' m' with
    |true=>exact Ag _ this
    |false=>exact this
theorem zi0(hm:i<m)(h1:J4 ops i=false)(h2:okW ops done (Qw ops done i) i i=true):i∈Qw ops done m:=by
 refine zfc (m:=i+1) hm ?_
 unfold Qw z7r
 rw[h1,h2];exact Am
theorem zpu{m i p:Nat}(h:i∈Qw ops done m)(hp:p<i)(hw:Region.waitsFor .any ops i p=true):(J4 ops p=true->p∈done)/\(J4 ops p=false->p∈Qw ops done m):=by
 obtain⟨h1,h2,h3⟩:=x7 h
 obtain⟨a,b⟩:=zem.1 h3 p hp hw
 exact⟨a,λhi=>zfc (by omega) (b hi)⟩
def Qm(Z aa:List Nat)(n:Nat):List Nat:=(BI n).filter λi=>bif memN aa i then !(memN Z i)else false
theorem zhf{Z aa:List Nat}:i∈Qm Z aa n↔i<n/\i∈aa/\i∉Z:=by
 unfold Qm
 rw[List.mem_filter,BL]
 constructor
 ·rintro⟨h1,h2⟩
  cases hn:memN aa i with
  |false=>rw[hn]at h2;cases h2
  |true=>
   rw[hn,cond_true]at h2
   exact⟨h1,Yy hn,λhm=>by rw[ziz hm]at h2;cases h2⟩
 ·rintro⟨h1,h2,h3⟩
  refine⟨h1,?_⟩
  rw[ziz h2,cond_true]
  cases hw:memN Z i with
  |false=>rfl
  |true=>exact absurd (Yy hw) h3
theorem zbh(Z aa:List Nat)(n:Nat):(Qm Z aa n).Pairwise (· < ·):=List.pairwise_lt_range.filter _
def wI(P:Program)(n:Nat)(h:za)(ld:Bool)(ops:Array Oper)(K:Env->Prop):List Nat->Env->Prop
 |[],e=>K e
 |i::l,e=>match ops[i]? with
  |some o=>bif zky o then(bif (bif ld then true else !(zj o))then(bif qk n [] o.dst then(bif jc o.op then(bif known e [] o.op.operands.toList then w7 P o (rho e []) none h λv=>wI P n h ld ops K l (putO e o.dst [] v)else False)else False)else False)else False)else False
  |none=>False
def yx(ops:Array Oper)(f:Nat->Value):List Nat->Act->Act
 |[],a=>a
 |i::l,a=>yx ops f l (a.put (yh ops i) (f i))
theorem zt0(hq:zky o=true){ρ:Operand->Value}{K:Value->Prop}(H:w7 P o ρ none h K):
  ∃v,K v/\∀h',LdOK o ρ h h'->QExec P (execOp ρ o) h' (.value v):=by
 unfold zky at hq
 cases hb:ze o with
 |true=>exact W4 hb H
 |false=>
  rw[hb,cond_false]at hq
  unfold zzy at hq
  split at hq
  ·rename_i x i ho
   unfold w7 at H;rw[ho]at H
   obtain⟨v,h1,h2⟩:=zn H none
   exact⟨v,h1,λh' _=>h2 trivial h'⟩
  ·cases hq
theorem zhg{ops:Array Oper}{f:Nat->Value}:∀{l:List Nat} {a:Act},(yx ops f l a).tmps.size=a.tmps.size/\(yx ops f l a).defers=a.defers
 |[],_=>⟨rfl,rfl⟩
 |i::l,a=>by
  unfold yx
  have:=zhg (ops:=ops) (f:=f) (l:=l) (a:=a.put (yh ops i) (f i))
  rw[this.1,this.2]
  exact⟨size_put _ _ _,zy _ _ _⟩
theorem wa{ops:Array Oper}{f:Nat->Value}{s:Nat}:∀{l:List Nat} {a:Act},(∀i∈l,yh ops i≠some s)->zm (yx ops f l a) s=zm a s
 |[],_,_=>rfl
 |i::l,a,h=>by
  unfold yx
  rw[wa λj hj=>h j (Ag _ hj)]
  exact zk (h i Am)
theorem X4{ops:Array Oper}{f:Nat->Value}:∀{l m:List Nat} {a:Act},yx ops f (l++m) a=yx ops f m (yx ops f l a)
 |[],_,_=>rfl
 |i::l,m,a=>by
  rw[Br]
  show yx ops f (l++m) _=yx ops f m (yx ops f l _)
  exact X4
theorem zi1{P:Program}{n:Nat}{h:za}{ld:Bool}{ops:Array Oper}{K:Env->Prop}(f0:Nat->Value):∀{l:List Nat} {e:Env} {a:Act},l.Nodup->wI P n h ld ops K l e->Sat n e a->∃(f:Nat->Value) (e':Env),K e'/\Sat n e' (yx ops f l a)/\(∀i,i∉l->f i=f0 i) /\
  ∀l1 i l2,l=l1++i::l2->∃o,ops[i]?=some o/\zky o=true/\(ld=false->zj o=false)/\jc o.op=true/\qk n [] o.dst=true/\∀h',LdOK o (yx ops f l1 a).eval h h'->QExec P (execOp (yx ops f l1 a).eval o) h' (.value (f i))
 |[],e,a,_,H,hs=>⟨f0,e,H,hs,λ_ _=>rfl,λl1 i l2 h=>by simp at h⟩
 |i::l,e,a,hnd,H,hs=>by
  unfold wI at H
  cases ho:ops[i]? with
  |none=>rw[ho]at H;exact H.elim
  |some o=>
   rw[ho]at H
   simp only at H
   cases hq:zky o with
   |false=>rw[hq]at H;exact H.elim
   |true=>
    rw[hq,cond_true]at H
    cases hld:(bif ld then true else !(zj o))with
    |false=>rw[hld]at H;exact H.elim
    |true=>
     rw[hld,cond_true]at H
     cases hd:qk n [] o.dst with
     |false=>rw[hd]at H;exact H.elim
     |true=>
      rw[hd,cond_true]at H
      cases hns:jc o.op with
      |false=>rw[hns]at H;exact H.elim
      |true=>
       rw[hns,cond_true]at H
       cases hk:known e [] o.op.operands.toList with
       |false=>rw[hk]at H;exact H.elim
       |true=>
        rw[hk,cond_true]at H
        rw[DK]at hnd
        obtain⟨v,H1,H2⟩:=zt0 hq H
        have Z:yh ops i=o.dst:=zh ho
        obtain⟨f,e',g1,g2,g3,g4⟩:=zi1 (λx=>if x=i then v else f0 x) (a:=a.put o.dst v) hnd.2 H1 (hs.putO hd (λ_=>rfl) λhv=>absurd (qh _) hv)
        have ab:f i=v:=by rw[g3 i hnd.1,if_pos rfl]
        have ae:yx ops f (i::l) a=yx ops f l (a.put o.dst v):=by
         show yx ops f l (a.put (yh ops i) (f i))=_
         rw[Z,ab]
        refine⟨f,e',g1,by rw[ae];exact g2,λj hj=>?_,λl1 j l2 hl=>?_⟩
        ·simp only[Ai,not_or]at hj
         rw[g3 j hj.2,if_neg hj.1]
        ·cases l1 with
         |nil=>
          simp only[Ct,BP]at hl
          obtain⟨rfl,rfl⟩:=hl
          refine⟨o,ho,hq,λhl=>by rw[hl]at hld;simpa using hld,hns,hd,λh' hh=>?_⟩
          show QExec P (execOp a.eval o) h' _
          rw[Qj hs (qh _) hns hk,ab]
          exact H2 h' (LdOK.congr (λx hx=>(j8 hs (qh _) hk x hx).symm) hh)
         |cons i' l1=>
          simp only[Br,BP]at hl
          obtain⟨rfl,rfl⟩:=hl
          obtain⟨o',q1,q2,q3,q4,q5,q6⟩:=g4 l1 j l2 rfl
          have aa:yx ops f (i::l1) a=yx ops f l1 (a.put o.dst v):=by
           show yx ops f l1 (a.put (yh ops i) (f i))=_
           rw[Z,ab]
          refine⟨o',q1,q2,q3,q4,q5,λh' hh=>?_⟩
          rw[aa]at hh ⊢
          exact q6 h' hh
def zt1(ops:Array Oper)(U:List Nat):Nat->Bool
 |0=>false
 |k+1=>bif (match ops[k]? with
  |some o=>bif zj o then(bif J4 ops k then false else !(memN U k))else false
  |none=>false)then true else zt1 ops U k
theorem zhh{ops:Array Oper}{U:List Nat}:∀{m:Nat},zt1 ops U m=false->∀k o,k<m->ops[k]?=some o->zj o=true->J4 ops k=false->k∈U
 |0,_,k,o,hk,_,_,_=>by omega
 |m+1,h,k,o,hk,ho,hl,hi=>by
  unfold zt1 at h
  cases hb:(match ops[m]? with
   |some o=>bif zj o then(bif J4 ops m then false else !(memN U m))else false
   |none=>false)with
  |true=>rw[hb]at h;cases h
  |false=>
   rw[hb,cond_false]at h
   rcases AF k m with h1|h1
   ·exact zhh h k o h1 ho hl hi
   ·have:k=m:=by omega
    subst this
    rw[ho]at hb
    simp only[hl,hi,cond_true,cond_false]at hb
    exact Yy (by simpa using hb)
def zfd(ops:Array Oper)(U:List Nat)(e:Env)(h0 h':za)(K:Prop):Nat->Prop
 |0=>K
 |k+1=>match ops[k]? with
  |some o=>bif (bif zj o then(bif J4 ops k then false else !(memN U k))else false)then(match o.op with
   |.load _ a=>bif known e [] [a]then(match rho e [] a with
    |.pointer (some p)=>h'[p.block]?=h0[p.block]?/\zfd ops U e h0 h' K k
    |_=>False)else False
   |_=>False)else zfd ops U e h0 h' K k
  |none=>zfd ops U e h0 h' K k
theorem zfe{ops:Array Oper}{U:List Nat}{e:Env}{h0 h':za}{K:Prop}:∀{m:Nat},zfd ops U e h0 h' K m->K/\∀k o,k<m->ops[k]?=some o->zj o=true->J4 ops k=false->k∉U ->
  ∃t a p,o.op=.load t a/\known e [] [a]=true/\rho e [] a=.pointer (some p)/\h'[p.block]?=h0[p.block]?
 |0,H=>⟨H,λk o hk=>by omega⟩
 |m+1,H=>by
  unfold zfd at H
  have step:zfd ops U e h0 h' K m->(∀o,ops[m]?=some o->zj o=true->J4 ops m=false->m∉U->∃t a p,o.op=.load t a/\known e [] [a]=true/\rho e [] a=.pointer (some p)/\h'[p.block]?=h0[p.block]?) ->
    K/\∀k o,k<m+1->ops[k]?=some o->zj o=true->J4 ops k=false->k∉U->∃t a p,o.op=.load t a/\known e [] [a]=true/\rho e [] a=.pointer (some p)/\h'[p.block]?=h0[p.block]?:=λH1 H2=>by
   obtain⟨h1,h2⟩:=zfe H1
   refine⟨h1,λk o hk ho hl hi hr=>?_⟩
   rcases AF k m with h3|h3
   ·exact h2 k o h3 ho hl hi hr
   ·have:k=m:=by omega
    subst this
    exact H2 o ho hl hi hr
  cases ho:ops[m]? with
  |none=>rw[ho]at H;exact step H λo h1=>by rw[ho]at h1;cases h1
  |some o=>
   rw[ho]at H
   simp only at H
   have same:∀o',ops[m]?=some o'->o'=o:=λo' h1=>Aq (h1.symm.trans ho)
   cases hc:(bif zj o then(bif J4 ops m then false else !(memN U m))else false)with
   |false=>
    rw[hc]at H
    refine step H λo' h1 h2 h3 h4=>?_
    rw[same o' h1]at h2
    rw[h2,h3,cond_true,cond_false]at hc
    exact absurd (Yy (by simpa using hc)) h4
   |true=>
    rw[hc,cond_true]at H
    split at H
    ·rename_i t a Z
     cases hk:known e [] [a]with
     |false=>rw[hk]at H;exact H.elim
     |true=>
      rw[hk,cond_true]at H
      split at H
      ·rename_i p hp
       exact step H.2 λo' h1 h2 h3 h4=>⟨t,a,p,by rw[same o' h1];exact Z,hk,hp,H.1⟩
      ·exact H.elim
    ·exact H.elim
def zkz(md:Bool)(ops:Array Oper)(T:List Nat)(e:Env)(h0 h':za)(K:Prop):Prop:=bif zt1 ops (upL ops ops.size T) ops.size then(bif md then zfd ops (upL ops ops.size T) e h0 h' K ops.size else Keep h0.size h0 h'/\K)else K
def zxz(ops:Array Oper)(todo:List Nat)(j:Nat):Bool:=todo.all λk=>bif Nat.beq k j then true else !(memN (upL ops ops.size [j]) k)
def wB7(P:Program)(n:Nat)(ops:Array Oper)(h0:za)(K:Env->za->Prop)(md:Bool):Nat->List Nat->List Nat->Env->za->Prop
 |_,_,[],e,h=>K (clean e) h
 |0,_,_::_,_,_=>False
 |f+1,T,j0::l0,e,h=>z7q (λj=>match ops[j]? with
  |some o=>(match Qv ops e o.guard with|some c=>bif qk n c o.dst then opW P o e c h λv h'=>wI P n h' false ops (λe'=>zkz md ops (j::T) e' h0 h' (wB7 P n ops h0 K md f (j::T) (zct j (j0::l0)) e' h')) (Qm (Qw ops T ops.size) (Qw ops (j::T) ops.size) ops.size) (putO e o.dst c v)else False|none=>False)
  |none=>False) (zrp (zxz ops (j0::l0)) (j0::l0))
theorem zrq{K:Env->za->Prop}{f:Nat}{T todo:List Nat}(H:wB7 P n ops h0 K md (f+1) T todo e h){j:Nat}(hj:j∈todo)(hc:zxz ops todo j=true):match ops[j]? with
  |some o=>(match Qv ops e o.guard with|some c=>bif qk n c o.dst then opW P o e c h λv h'=>wI P n h' false ops (λe'=>zkz md ops (j::T) e' h0 h' (wB7 P n ops h0 K md f (j::T) (zct j todo) e' h')) (Qm (Qw ops T ops.size) (Qw ops (j::T) ops.size) ops.size) (putO e o.dst c v)else False|none=>False)
  |none=>False:=by
 cases todo with
 |nil=>cases hj
 |cons j0 l0=>exact zix H j (zbg hj hc)
def W6(ops:Array Oper):Nat->Bool
 |0=>true
 |k+1=>bif (match ops[k]? with
  |some o=>yw ops k (tmpsOf o.op.operands.toList) ops.size
  |none=>true)then W6 ops k else false
theorem Yz{ops:Array Oper}:∀{m:Nat},W6 ops m=true->∀k o,k<m->ops[k]?=some o->yw ops k (tmpsOf o.op.operands.toList) ops.size=true
 |0,_,k,o,hk,_=>by omega
 |m+1,h,k,o,hk,ho=>by
  unfold W6 at h
  cases hb:(match ops[m]? with
   |some o=>yw ops m (tmpsOf o.op.operands.toList) ops.size
   |none=>true)with
  |false=>rw[hb]at h;cases h
  |true=>
   rw[hb,cond_true]at h
   rcases AF k m with h1|h1
   ·exact Yz h k o h1 ho
   ·have:k=m:=by omega
    subst this
    rw[ho]at hb;exact hb
def zrr(ops:Array Oper)(o:Oper):List Nat:=match o.guard with
 |none=>[]
 |some (j,_)=>match yh ops j with
  |some t=>[t]
  |none=>[]
def zhi(ops:Array Oper):Nat->Bool
 |0=>true
 |k+1=>bif (match ops[k]? with
  |some o=>bif jc o.op then yw ops k (zrr ops o) ops.size else false
  |none=>true)then zhi ops k else false
theorem zff{ops:Array Oper}:∀{m:Nat},zhi ops m=true->∀k o,k<m->ops[k]?=some o->jc o.op=true/\yw ops k (zrr ops o) ops.size=true
 |0,_,k,o,hk,_=>by omega
 |m+1,h,k,o,hk,ho=>by
  unfold zhi at h
  cases hb:(match ops[m]? with
   |some o=>bif jc o.op then yw ops m (zrr ops o) ops.size else false
   |none=>true)with
  |false=>rw[hb]at h;cases h
  |true=>
   rw[hb,cond_true]at h
   rcases AF k m with h1|h1
   ·exact zff h k o h1 ho
   ·have:k=m:=by omega
    subst this
    rw[ho]at hb
    simp only at hb
    cases h2:jc o.op with
    |false=>rw[h2]at hb;cases hb
    |true=>rw[h2,cond_true]at hb;exact⟨rfl,hb⟩
theorem zk0(h:∀t∈zrr ops o,zm a t=zm b t):Bm o (yielded ops a.tmps)=Bm o (yielded ops b.tmps):=by
 unfold Bm
 cases hg:o.guard with
 |none=>rfl
 |some jp=>
  obtain⟨j,p⟩:=jp
  have:yielded ops a.tmps j=yielded ops b.tmps j:=by
   unfold yielded
   cases hd:(ops[j]?).bind (·.dst)with
   |none=>rfl
   |some t=>
    have Z:yh ops j=some t:=by
     unfold yh
     cases hoj:ops[j]? with
     |none=>rw[hoj]at hd;simp at hd
     |some oj=>rw[hoj]at hd;simpa using hd
    have ht:=h t (by unfold zrr;rw[hg];simp only;rw[Z];simp)
    unfold zm at ht
    simp only[BC]at ht
    simp only[CE]
    cases h1:a.tmps[t]? <;> cases h2:b.tmps[t]? <;> rw[h1,h2]at ht <;> simp at ht <;> first|rfl|(subst ht;rfl)|(rw[<-ht];rfl)|(rw[ht];rfl)
  simp only[this]
theorem zt2(h:gdd o=false):o.guard=none:=by
 unfold gdd at h
 cases hg:o.guard with
 |none=>rfl
 |some g=>rw[hg]at h;cases h
theorem z0v(ho:ops[i]?=some o)(h:J4 ops i=false):o.guard=none:=by
 unfold J4 at h
 rw[ho]at h
 simp only at h
 cases hg:gdd o with
 |true=>rw[hg]at h;cases h
 |false=>exact zt2 hg
def zgq(ops:Array Oper):Bool:=bif zhi ops ops.size then(bif qd ops ops.size then(bif jl ops ops.size then W6 ops ops.size else false)else false)else false
theorem zhj(h:zgq ops=true):zhi ops ops.size=true/\qd ops ops.size=true/\jl ops ops.size=true/\W6 ops ops.size=true:=by
 unfold zgq at h
 cases h1:zhi ops ops.size <;> cases h2:qd ops ops.size <;> cases h3:jl ops ops.size <;> simp[h1,h2,h3]at h ⊢
 exact h
structure St7 (P:Program) (n:Nat) (ops:Array Oper) (h0:za) (K:Env->za->Prop) (md:Bool) (f:Nat->Value) (a0:Act) (listed:Array Bool) (a b:Act) (e:Env) (h:za) (done todo:List Nat):Prop where
 inv:HeadInv .any ops ops.size listed
 ag:∀s,(∀i o,ops[i]?=some o->J4 ops i=false->listed.getD i false=false->o.dst≠some s)->zm a s=zm b s
 sz:a.tmps.size=n
 ad:a.defers=[]
 sb:Sat n e b
 qv:∀i o t,ops[i]?=some o->i∈Qw ops done ops.size->o.dst=some t->zm b t=f i/\t<n
 qx:∀i o,ops[i]?=some o->i∈Qw ops done ops.size->∀h',LdOK o b.eval h0 h'->QExec P (execOp b.eval o) h' (.value (f i))
 tt:∀j,j∈hvL ops->(j∈todo↔listed.getD j false=false)
 ch:∀j,j∈hvL ops->(listed.getD j false=true↔j∈done)
 dn:∀j∈done,j∈hvL ops
 th:∀j∈todo,j∈hvL ops
 nd:todo.Nodup
 wt:∃fu,todo.length<=fu/\wB7 P n ops h0 K md fu done todo e h
 kp:∀i o,ops[i]?=some o->zj o=true->J4 ops i=false->listed.getD i false=false->LdOK o b.eval h0 h
 sm:Same (yn ops.toList) a0 a
theorem zfg{ld:Bool}(ae:qd ops ops.size=true)(ap:jl ops ops.size=true)(an:W6 ops ops.size=true){f:Nat->Value}(ak:b.tmps.size=n)(af:∀i∈l,i<ops.size)(Z:l.Pairwise (· < ·))
  (H:∀l1 i l2,l=l1++i::l2->∃o,ops[i]?=some o/\zky o=true/\(ld=false->zj o=false)/\jc o.op=true/\qk n [] o.dst=true/\∀h',LdOK o (yx ops f l1 b).eval h h'->QExec P (execOp (yx ops f l1 b).eval o) h' (.value (f i))):
  ∀i o,ops[i]?=some o->i∈l->(∀t,o.dst=some t->zm (yx ops f l b) t=f i/\t<n)/\(ld=false->zj o=false)/\∀h',LdOK o (yx ops f l b).eval h h'->QExec P (execOp (yx ops f l b).eval o) h' (.value (f i)):=by
 intro i o ho hi
 obtain⟨l1,l2,rfl⟩:=List.append_of_mem hi
 obtain⟨o',q1,q2,q3,q4,q5,q6⟩:=H l1 i l2 rfl
 have:o'=o:=Aq (q1.symm.trans ho)
 subst this
 have ah:i<ops.size:=af i (by simp)
 have hs:∀j∈l2,i<j:=λj hj=>by
  rw[Ck]at Z
  exact(BJ.1 Z.2.1).1 j hj
 have aa:yx ops f (l1++i::l2) b=yx ops f l2 ((yx ops f l1 b).put (yh ops i) (f i)):=by rw[X4];rfl
 have ab:yh ops i=o'.dst:=zh ho
 refine⟨λt ht=>?_,q3,λh' hh=>?_⟩
 ·have ai:t<n:=by
   rw[ht]at q5
   unfold qk at q5
   simp at q5;exact q5.2
  refine⟨?_,ai⟩
  rw[aa,wa λj hj hd=>?_,ab,ht,qj (by rw[zhg.1,ak];exact ai)]
  have:=ql ap i j t ah (af j (by simp[hj])) (by rw[ab,ht]) hd
  have:=hs j hj
  omega
 ·have aj:∀t∈tmpsOf o'.op.operands.toList,zm (yx ops f (l1++i::l2) b) t=zm (yx ops f l1 b) t:=λt ht=>by
   have e1:yx ops f (l1++i::l2) b=yx ops f (i::l2) (yx ops f l1 b):=X4
   rw[e1]
   refine wa λj hj hd=>?_
   have ar:j<ops.size:=af j (by simp[hj])
   have hw:=zz (Yz an i o' ah ho) j t ar hd ht
   obtain⟨oj,am,x,hx,hb,au⟩:=Region.waitsFor_spec hw
   have h1:=zu ae i oj ah am x hx hb
   rcases Ai.1 hj with rfl|hj
   ·omega
   ·have:=hs j hj;omega
  rw[yj q4 aj]
  exact q6 h' (LdOK.congr (λx hx=>(yi aj x hx).symm) hh)
theorem zx0{K:Env->za->Prop}{Q:Exit->Act->World->Prop}(B:World)(hmix:zgq ops=true){a0:Act}
    (hQ:∀e' a' d' h',Sat n e' a'->Same (yn ops.toList) a0 a'->K e' h'->Q .normal a' (mk B d' h')):
    ∀(N:Nat) (U:List Nat) (listed:Array Bool) (f:Nat->Value) (a b:Act) (e:Env) (h:za) (d:Nat) (done todo:List Nat),U.length=N->U.Nodup->(∀k,k∈U↔k<ops.size/\listed.getD k false=false) ->
      St7 P n ops h0 K md f a0 listed a b e h done todo->wpAny P .any ops Q N listed a (mk B d h):=by
  obtain⟨hng,hback,hnd,hsl⟩:=zhj hmix
  have hgd:∀(i:Nat) (o:Oper),ops[i]?=some o->jc o.op=true/\yw ops i (zrr ops o) ops.size=true:=λi o ho=>zff hng i o (Ad.1 ho).1 ho
  have hslot0:∀k o,ops[k]?=some o->∀p t,p<ops.size->yh ops p=some t->t∈tmpsOf o.op.operands.toList->Region.waitsFor .any ops k p=true:=λk o ho p t hp hd ht=>
    zz (Yz hsl k o (Ad.1 ho).1 ho) p t hp hd ht
  have hbk:∀k p,Region.waitsFor .any ops k p=true->p<k:=λk p hw=>by
    obtain⟨oj,hoj,x,hx,hb,hon⟩:=Region.waitsFor_spec hw
    have:=zu hback k oj (Ad.1 hoj).1 hoj x hx hb
    omega
  have fin:∀{listed:Array Bool} {f:Nat->Value} {a b:Act} {e:Env} {h:za} {d:Nat} {done todo:List Nat},(∀k,k<ops.size->listed.getD k false=true)->St7 P n ops h0 K md f a0 listed a b e h done todo->Q .normal a (mk B d h):=by
    intro listed f a b e h d done todo hall S
    have htodo:todo=[]:=by
      cases htd:todo with
      |nil=>rfl
      |cons j l=>
        have hm:j∈todo:=by rw[htd];simp
        have hj:=S.th j hm
        have:=(S.tt j hj).1 hm
        rw[hall j (zfb.1 hj).1]at this;cases this
    obtain⟨fu,_,hw⟩:=S.wt
    rw[htodo]at hw
    have hw:K (clean e) h:=by cases fu <;> exact hw
    have hv:∀s,zm a s=zm b s:=λs=>S.ag s λi o ho hq hl=>by
      rw[hall i (Ad.1 ho).1]at hl;cases hl
    have hs:Sat n e a:=⟨S.ad,S.sz,λx hx=>by
      have:=S.sb.all x hx
      have e1:zm a=zm b:=funext hv
      rw[e1];exact this⟩
    exact hQ _ _ _ _ hs.clean S.sm hw
  intro N
  induction N with
  |zero=>
    intro U listed f a b e h d done todo hU _ hmem S
    have hUn:U=[]:=AU.1 hU
    subst hUn
    have hall:∀k,k<ops.size->listed.getD k false=true:=λk hk=>by
      cases hb:listed.getD k false with
      |true=>rfl
      |false=>exact absurd ((hmem k).2 ⟨hk,hb⟩) (by simp)
    refine⟨?_,fin hall S⟩
    rw[CF]
    intro j hj
    obtain⟨h1,o,ho,_⟩:=mem_ready.1 hj
    have hlt:=(Ad.1 ho).1
    have:=hall j hlt
    have h2:=getD_both h1
    rw[this]at h2;cases h2
  |succ N ih=>
    intro U listed f a b e h d done todo hU hdup hmem S
    have hex:∃k,k<ops.size/\listed.getD k false=false:=by
      cases U with
      |nil=>cases hU
      |cons k U=>exact⟨k,(hmem k).1 Am⟩
    refine⟨λhr=>?_,λi hi=>?_⟩
    · exfalso
      obtain⟨k,hk1,hk2,hk3⟩:=Zy hex
      have:k∈Region.ready .any ops listed:=mem_ready.2 ⟨by rw[<-hk2];simp[S.inv.size,hk1],ops[k],AI hk1,λx hx hb=>hk3 _ (zu hback k ops[k] hk1 (AI hk1) x hx hb)⟩
      rw[hr]at this;cases this
    · obtain⟨hun1,o,ho,hall⟩:=mem_ready.1 hi
      have hun:listed.getD i false=false:=getD_both hun1
      have hlt:i<ops.size:=(Ad.1 ho).1
      obtain⟨hns,hgs⟩:=hgd i o ho
      have hils:i<listed.size:=by rw[S.inv.size];exact hlt
      have hU':(U.erase i).length=N:=by rw[CH ((hmem i).2 ⟨hlt,hun⟩),hU];rfl
      have hdup':(U.erase i).Nodup:=hdup.erase i
      have hmem':∀k,k∈U.erase i↔k<ops.size/\(listed.setIfInBounds i true).getD k false=false:=λk=>by
        rw[hdup.mem_erase_iff,hmem k]
        by_cases hk:i=k
        · subst hk;simp[hils]
        · rw[getD_set_ne false hk];exact⟨λhx=>hx.2,λhx=>⟨λe=>hk e.symm,hx⟩⟩
      have inv':=S.inv.set hi hlt
      have hset:∀k,k≠i->(listed.setIfInBounds i true).getD k false=listed.getD k false:=λk hk=>getD_set_ne false (Ne.symm hk)
      have hsetI:(listed.setIfInBounds i true).getD i false=true:=by simp[hils]
      have hops:∀t∈tmpsOf o.op.operands.toList,zm a t=zm b t:=λt ht=>S.ag t λk ok hok hq hl hd=>by
        have hw:=hslot0 i o ho k t (Ad.1 hok).1 (by rw[zh hok,hd]) ht
        rw[jm hi hw]at hl;cases hl
      have hexec:=yj hns hops
      have hsame:∀v,Same (yn ops.toList) a0 (a.put o.dst v):=λv=>S.sm.trans (Same.put a o.dst _ λt ht=>xo (by
          obtain⟨hl2,e2⟩:=Ad.1 ho
          rw[<-e2];simp) t ht)
      unfold wpOp
      rw[ho]
      simp only
      have hwab:Bm o (yielded ops a.tmps)=Bm o (yielded ops b.tmps):=zk0 λt ht=>S.ag t λk ok hok hq hl hd=>by
        have hw:=zz hgs k t (Ad.1 hok).1 (by rw[zh hok,hd]) ht
        rw[jm hi hw]at hl;cases hl
      cases hq:J4 ops i with
      |false=>
        have hwant:Bm o (yielded ops a.tmps)=true:=by unfold Bm;rw[z0v ho hq]
        rw[if_pos hwant]
        left
        unfold Oper.wp
        rw[hexec]
        have hrdyG:∀m k ok,k<m->ops[k]?=some ok->J4 ops k=false->(∀p,Region.waitsFor .any ops k p=true->listed.getD p false=true)->k∈Qw ops done ops.size:=by
          intro m
          induction m with
          |zero=>intro k ok hk;omega
          |succ m ihm=>
            intro k ok hk hok hkh hkw
            refine zi0 (Ad.1 hok).1 hkh (zem.2 λp hp hw=>⟨λhph=>?_,λhph=>?_⟩)
            · have hpl:=hkw p hw
              exact(S.ch p (zfb.2 ⟨by have:=(Ad.1 hok).1;omega,hph⟩)).1 hpl
            · have hps:p<ops.size:=by have:=(Ad.1 hok).1;omega
              have hin:=ihm p ops[p] (by omega) (AI hps) hph λq hq2=>qp S.inv (hkw p hw) hq2
              obtain⟨_,g2,g3⟩:=x7 hin
              exact zi0 hp g2 g3
        have hrdy:=hrdyG (i+1) i o (by omega) ho hq λp hw=>jm hi hw
        have hx:=S.qx i o ho hrdy h (by
          cases hl:zj o with
          |false=>exact .inl hl
          |true=>exact S.kp i o ho hl hq hun) B d
        rw[hx,Oper.upon_value]
        have hnot:i∉hvL ops:=λhm=>by rw[(zfb.1 hm).2]at hq;cases hq
        refine ih _ _ f _ b e h d done todo hU' hdup' hmem' { S with inv:=inv',ag:=λs hs=>?_,sz:=by rw[size_put];exact S.sz,ad:=by rw[zy];exact S.ad,tt:=λj hj=>(by have:j≠i:=λe=>hnot (e ▸ hj);rw[hset j this];exact S.tt j hj),ch:=λj hj=>?_,kp:=λk ok hok hl hkh hk=>?_,sm:=hsame _ }
        · by_cases hd:o.dst=some s
          · obtain⟨hv,hsn⟩:=S.qv i o s ho hrdy hd
            rw[hd,qj (by rw[S.sz];exact hsn),hv]
          · rw[zk hd]
            refine S.ag s λk ok hok hqk hlk=>?_
            by_cases hki:k=i
            · subst hki
              have:ok=o:=Aq (hok.symm.trans ho)
              subst this;exact hd
            · exact hs k ok hok hqk (by rw[hset k hki];exact hlk)
        · have:j≠i:=λe=>hnot (e ▸ hj)
          rw[hset j this];exact S.ch j hj
        · by_cases hki:k=i
          · subst hki;rw[hsetI]at hk;cases hk
          · rw[hset k hki]at hk;exact S.kp k ok hok hl hkh hk
      |true=>
        have hin:i∈hvL ops:=zfb.2 ⟨hlt,hq⟩
        have hit:i∈todo:=(S.tt i hin).2 hun
        obtain⟨fu,hfu,hW0⟩:=S.wt
        have hcl:∀p q,(listed.setIfInBounds i true).getD p false=true->Region.waitsFor .any ops p q=true->(listed.setIfInBounds i true).getD q false=true:=λp q h1 h2=>qp inv' h1 h2
        have hcand:zxz ops todo i=true:=by
          unfold zxz
          rw[Ba]
          intro k hk
          cases hki:Nat.beq k i with
          |true=>rfl
          |false=>
            have hne:k≠i:=λe=>by rw[e]at hki;simp at hki
            cases hr:memN (upL ops ops.size [i]) k with
            |false=>rfl
            |true=>
              exfalso
              have:=ziy hcl (m:=ops.size) (S:=[i]) (λj hj=>by simp at hj;subst hj;exact hsetI) k (Yy hr)
              rw[hset k hne]at this
              have h2:=(S.tt k (S.th k hk)).1 hk
              rw[this]at h2;cases h2
        have hW:match ops[i]? with
            |some o=>(match Qv ops e o.guard with|some c=>bif qk n c o.dst then opW P o e c h λv h'=>wI P n h' false ops (λe'=>zkz md ops (i::done) e' h0 h' (wB7 P n ops h0 K md (fu-1) (i::done) (zct i todo) e' h')) (Qm (Qw ops done ops.size) (Qw ops (i::done) ops.size) ops.size) (putO e o.dst c v)else False|none=>False)
            |none=>False:=by
          cases fu with
          |zero=>(have:todo.length=0:=by omega);rw[AU.1 this]at hit;cases hit
          |succ fu=>
            have:=zrq (show wB7 P n ops h0 K md (fu+1) done todo e h from hW0) hit hcand
            exact this
        rw[ho]at hW
        simp only at hW
        cases hch:Qv ops e o.guard with
        |none=>rw[hch]at hW;exact hW.elim
        |some c=>
        rw[hch]at hW
        simp only at hW
        cases hd:qk n c o.dst with
        |false=>rw[hd]at hW;exact hW.elim
        |true=>
          rw[hd,cond_true]at hW
          have hwv:=xr S.sb hch
          have key:∀(v u:Value) (d':Nat) (h':za),(valid (zm b) c->u=v)->(¬valid (zm b) c->u=undef)->wI P n h' false ops (λe'=>zkz md ops (i::done) e' h0 h' (wB7 P n ops h0 K md (fu-1) (i::done) (zct i todo) e' h')) (Qm (Qw ops done ops.size) (Qw ops (i::done) ops.size) ops.size) (putO e o.dst c v)->wpAny P .any ops Q N (listed.setIfInBounds i true) (a.put o.dst u) (mk B d' h'):=by
           intro v v2 d' h' hv1 hv0 hK
           have sb1:Sat n (putO e o.dst c v) (b.put o.dst v2):=S.sb.putO hd hv1 hv0
           generalize hbl:Qm (Qw ops done ops.size) (Qw ops (i::done) ops.size) ops.size=bl at hK
           have hbm:∀k,k∈bl↔k<ops.size/\k∈Qw ops (i::done) ops.size/\k∉Qw ops done ops.size:=λk=>by rw[<-hbl];exact zhf
           have hbsort:bl.Pairwise (· < ·):=by rw[<-hbl];exact zbh _ _ _
           have hbnd:bl.Nodup:=hbsort.imp λh=>by omega
           obtain⟨f',e2,HK,sb2,hf0,hfx⟩:=zi1 f hbnd hK sb1
           have hbf:=zfg hback hnd hsl (f:=f') (l:=bl) (b:=b.put o.dst v2) sb1.size (λk hk=>((hbm k).1 hk).1) hbsort hfx
           have hbnh:∀k∈bl,J4 ops k=false:=λk hk=>(x7 ((hbm k).1 hk).2.1).2.1
           have hlist':∀j,j∈hvL ops->((listed.setIfInBounds i true).getD j false=true↔j∈i::done):=λj hj=>by
             by_cases hji:j=i
             · subst hji;rw[hsetI];simp
             · rw[hset j hji,S.ch j hj];simp[hji]
           have hjl:∀j∈i::done,(listed.setIfInBounds i true).getD j false=true:=λj hj=>by
             rcases Ai.1 hj with rfl|hj
             · exact hsetI
             · exact getD_set_true ((S.ch j (S.dn j hj)).2 hj)
           have hup:∀k,k∈upL ops ops.size (i::done)->(listed.setIfInBounds i true).getD k false=true:=λk hk=>ziy hcl hjl k hk
           have hundone:i∉done:=λhm=>by rw[(S.ch i hin).2 hm]at hun;cases hun
           have hslot1:∀k ok,ops[k]?=some ok->k∈Qw ops done ops.size->∀t∈tmpsOf ok.op.operands.toList,zm (b.put o.dst v2) t=zm b t:=λk ok hok hk t ht=>zk λhdo=>by
             have hw:=hslot0 k ok hok i t hlt (by rw[zh ho,hdo]) ht
             exact hundone ((zpu hk (hbk k i hw) hw).1 hq)
           have hslot2:∀k ok,ops[k]?=some ok->k∈Qw ops done ops.size->∀t∈tmpsOf ok.op.operands.toList,zm (yx ops f' bl (b.put o.dst v2)) t=zm b t:=λk ok hok hk t ht=>by
             rw[wa λp hp hdp=>?_]
             · exact hslot1 k ok hok hk t ht
             · have hw:=hslot0 k ok hok p t ((hbm p).1 hp).1 hdp ht
               exact((hbm p).1 hp).2.2 ((zpu hk (hbk k p hw) hw).2 (hbnh p hp))
           have hdist:∀k ok t,ops[k]?=some ok->k≠i->ok.dst=some t->o.dst≠some t:=λk ok t hok hki hdk hdo=>by
             have:=ql hnd k i t (Ad.1 hok).1 hlt (by rw[zh hok,hdk]) (by rw[zh ho,hdo])
             exact hki this
           have hne_i:∀k,J4 ops k=false->k≠i:=λk hk e=>by rw[e,hq]at hk;cases hk
           have hkp':∀k ok,ops[k]?=some ok->zj ok=true->J4 ops k=false->k∈Qw ops done ops.size->LdOK ok b.eval h0 h'->LdOK ok (yx ops f' bl (b.put o.dst v2)).eval h0 h':=λk ok hok _ _ hk hh=>
             LdOK.congr (λx hx=>(yi (hslot2 k ok hok hk) x hx)) hh
           have hQK:wB7 P n ops h0 K md (fu-1) (i::done) (zct i todo) e2 h'/\(∀k ok,ops[k]?=some ok->zj ok=true->J4 ops k=false->(listed.setIfInBounds i true).getD k false=false->LdOK ok (yx ops f' bl (b.put o.dst v2)).eval h0 h'):=by
             unfold zkz at HK
             cases hl:zt1 ops (upL ops ops.size (i::done)) ops.size with
             |false=>
               rw[hl,cond_false]at HK
               exact⟨HK,λk ok hok hlo hkh hf=>by rw[hup k (zhh hl k ok (Ad.1 hok).1 hok hlo hkh)]at hf;cases hf⟩
             |true=>
               rw[hl,cond_true]at HK
               cases md with
               |false=>exact⟨HK.2,λ_ _ _ _ _ _=>.inr (.inl HK.1)⟩
               |true=>
                 rw[cond_true]at HK
                 obtain⟨g1,g2⟩:=zfe HK
                 refine⟨g1,λk ok hok hlo hkh hf=>.inr (.inr λt a p hop hp=>?_)⟩
                 obtain⟨t',a',p',e1,e2',e3,e4⟩:=g2 k ok (Ad.1 hok).1 hok hlo hkh (λhm=>by rw[hup k hm]at hf;cases hf)
                 rw[hop]at e1
                 injection e1 with _ e1
                 subst e1
                 have eb:(yx ops f' bl (b.put o.dst v2)).eval a=rho e2 [] a:=j8 sb2 (qh _) e2' a (by simp)
                 rw[eb,e3]at hp
                 injection hp with hp
                 injection hp with hp
                 rw[<-hp];exact e4
           have htt:∀j,j∈hvL ops->(j∈zct i todo↔(listed.setIfInBounds i true).getD j false=false):=λj hj=>by
             rw[Yx]
             by_cases hji:j=i
             · subst hji;rw[hsetI];simp
             · rw[hset j hji,<-S.tt j hj];exact⟨λhx=>hx.1,λhx=>⟨hx,hji⟩⟩
           refine ih _ _ f' _ (yx ops f' bl (b.put o.dst v2)) e2 h' d' (i::done) (zct i todo) hU' hdup' hmem' ⟨inv',λs hs=>?_,by rw[size_put];exact S.sz,by rw[zy];exact S.ad,sb2,λk ok t hok hk hdk=>?_,λk ok hok hk h'' hh=>?_,htt,hlist',(λj hj=>by
             rcases Ai.1 hj with rfl|hj
             · exact hin
             · exact S.dn j hj),(λj hj=>S.th j (Yx.1 hj).1),W5 S.nd,⟨fu-1,by have:=ziw hit;omega,hQK.1⟩,hQK.2,hsame _⟩
           · -- slots
             have hs':∀k ok,ops[k]?=some ok->J4 ops k=false->listed.getD k false=false->ok.dst≠some s:=λk ok hok hqk hlk=>hs k ok hok hqk (by rw[hset k (hne_i k hqk)];exact hlk)
             have hbl:∀p∈bl,yh ops p≠some s:=λp hp hdp=>by
               have hps:=((hbm p).1 hp).1
               have hok:ops[p]?=some ops[p]:=AI hps
               have hph:=hbnh p hp
               refine hs p _ hok hph ?_ (by rw[<-zh hok];exact hdp)
               cases hlp:(listed.setIfInBounds i true).getD p false with
               |false=>rfl
               |true=>
                 exfalso
                 rw[hset p (hne_i p hph)]at hlp
                 have:∀m q,q<m->q<ops.size->J4 ops q=false->listed.getD q false=true->q∈Qw ops done ops.size:=by
                   intro m
                   induction m with
                   |zero=>intro q hq;omega
                   |succ m ihm=>
                     intro q hqm hqs hqh hql
                     refine zi0 hqs hqh (zem.2 λp2 hp2 hw2=>⟨λhph2=>?_,λhph2=>?_⟩)
                     · exact(S.ch p2 (zfb.2 ⟨by omega,hph2⟩)).1 (qp S.inv hql hw2)
                     · have hin2:=ihm p2 (by omega) (by omega) hph2 (qp S.inv hql hw2)
                       obtain⟨_,g2,g3⟩:=x7 hin2
                       exact zi0 hp2 g2 g3
                 exact((hbm p).1 hp).2.2 (this (p+1) p (by omega) hps hph hlp)
             rw[wa hbl]
             by_cases hds:o.dst=some s
             · rw[hds]
               have hsn:s<n:=by
                 rw[hds]at hd
                 unfold qk at hd
                 simp at hd;exact hd.2
               rw[qj (by rw[S.sz];exact hsn),qj (by rw[S.sb.size];exact hsn)]
             · rw[zk hds,zk hds];exact S.ag s hs'
           · by_cases hkb:k∈bl
             · exact(hbf k ok hok hkb).1 t hdk
             · have hk0:k∈Qw ops done ops.size:=CB λhc=>hkb ((hbm k).2 ⟨(Ad.1 hok).1,hk,hc⟩)
               have hkh:=(x7 hk0).2.1
               obtain⟨q1,q2⟩:=S.qv k ok t hok hk0 hdk
               refine⟨?_,q2⟩
               rw[wa λp hp hdp=>?_,zk (hdist k ok t hok (hne_i k hkh) hdk),q1,hf0 k hkb]
               have:=ql hnd p k t ((hbm p).1 hp).1 (Ad.1 hok).1 hdp (by rw[zh hok,hdk])
               subst this;exact hkb hp
           · by_cases hkb:k∈bl
             · obtain⟨_,q2,q3⟩:=hbf k ok hok hkb
               exact q3 h'' (.inl (q2 rfl))
             · have hk0:k∈Qw ops done ops.size:=CB λhc=>hkb ((hbm k).2 ⟨(Ad.1 hok).1,hk,hc⟩)
               rw[yj (b:=b) (hgd k ok hok).1 (hslot2 k ok hok hk0),hf0 k hkb]
               exact S.qx k ok hok hk0 h'' (LdOK.congr (λx hx=>(yi (hslot2 k ok hok hk0) x hx).symm) hh)
          by_cases hv:valid (zm b) c
          · rw[if_pos (by rw[hwab];exact hwv.2 hv)]
            left
            unfold Oper.wp
            rw[hexec]
            refine Q9 (b:=b) S.sb.defers ?_
            refine ze7 hW S.sb hv B d λv d' h' hK=>⟨by rw[zy];exact S.sb.defers,λv2 hv2=>?_⟩
            have hbv:b.put o.dst v2=b.put o.dst v:=hv2.symm
            by_cases hds:∃t,o.dst=some t
            · obtain⟨t,ht⟩:=hds
              have htn:t<n:=by
                have hd2:=hd
                rw[ht]at hd2
                unfold qk at hd2
                simp at hd2;exact hd2.2
              have:v2=v:=by
                have e1:zm (b.put o.dst v2) t=zm (b.put o.dst v) t:=by rw[hbv]
                rw[ht,qj (by rw[S.sb.size];exact htn),qj (by rw[S.sb.size];exact htn)]at e1
                exact e1
              subst this
              exact key v2 v2 d' h' (λ_=>rfl) (λhx=>absurd hv hx) hK
            · have hdn:o.dst=none:=by
                cases hdx:o.dst with
                |none=>rfl
                |some t=>exact absurd ⟨t,hdx⟩ hds
              have e1:a.put o.dst v2=a.put o.dst v:=by rw[hdn];rfl
              rw[e1]
              exact key v v d' h' (λ_=>rfl) (λhx=>absurd hv hx) hK
          · rw[if_neg (by rw[hwab];exact λhx=>hv (hwv.1 hx))]
            obtain⟨v,hK⟩:=zzx hW S.sb hv
            exact key v undef d h (λhx=>absurd hx hv) (λ_=>rfl) hK
theorem zcu{K:Env->za->Prop}{Q:Exit->Act->World->Prop}(B:World)(ab:zgq ops=true)
  (H:wI P n h true ops (λe'=>wB7 P n ops h K md (hvL ops).length [] (hvL ops) e' h) (Qm [] (Qw ops [] ops.size) ops.size) e) (hs:Sat n e a)
  (hQ:∀e' a' d' h',Sat n e' a'->Same (yn ops.toList) a a'->K e' h'->Q .normal a' (mk B d' h')) (d:Nat):wpAny P .any ops Q ops.size (Bf ops.size false) a (mk B d h):=by
 obtain⟨az,ae,ax,ar⟩:=zhj ab
 have aa:∀k,k∈Qm [] (Qw ops [] ops.size) ops.size↔k∈Qw ops [] ops.size:=λk=>by
  rw[zhf]
  exact⟨λh=>h.2.1,λh=>⟨(x7 h).1,h,by simp⟩⟩
 have Z:=zbh [] (Qw ops [] ops.size) ops.size
 generalize Qm [] (Qw ops [] ops.size) ops.size=bl at H aa Z
 have af:bl.Nodup:=Z.imp λh=>by omega
 obtain⟨f,e2,HK,ap,_,an⟩:=zi1 (λ_=>undef) af H hs
 have ah:=zfg ae ax ar (f:=f) (l:=bl) (b:=a) hs.size (λk hk=>(x7 ((aa k).1 hk)).1) Z an
 have aj:∀s,(∀i o,ops[i]?=some o->J4 ops i=false->(Bf ops.size false).getD i false=false->o.dst≠some s)->zm a s=zm (yx ops f bl a) s:=λs ak=>(wa λp hp am=>by
  have au:=(x7 ((aa p).1 hp)).1
  have ai:ops[p]?=some ops[p]:=AI au
  exact ak p _ ai (x7 ((aa p).1 hp)).2.1 (getD_replicate_false _ _) (by rw[<-zh ai];exact am)).symm
 refine zx0 B ab hQ ops.size (BI ops.size) _ f a (yx ops f bl a) e2 h d [] (hvL ops) Dm C8 (λk=>by rw[BL,getD_replicate_false];simp) ⟨⟨by simp,λj oj _ hl=>(by rw[getD_replicate_false]at hl;cases hl),λt ht ay=>by omega⟩,aj,hs.size,hs.defers,ap,λi o t ho hi hd=>(ah i o ho ((aa i).2 hi)).1 t hd,λi o ho hi=>(ah i o ho ((aa i).2 hi)).2.2,(λj hj=>by rw[getD_replicate_false];simp[hj]),(λj hj=>by rw[getD_replicate_false];simp),(λj hj=>by cases hj),(λj hj=>hj),ztz ops,⟨_,Ac _,HK⟩,λ_ _ _ _ _ _=>.inr (.inl (Keep.refl _ _)),Same.refl _ _⟩
def zt3:List (Nat×Nat)->Nat->Option Nat
 |[],_=>none
 |(j,m)::l,i=>bif Nat.beq i j then some m else zt3 l i
def regionF(P:Program)(n:Nat)(tl:List (Nat×Nat))(id:Nat)(ops:Array Oper)(Z:Bool)(K:Env->za->Prop)(e:Env)(h:za):Prop:=
 bif Z then(match zt3 tl id with
  |none=>bif Region.lexB .any ops then wQ P n ops h true (λe'=>K (clean e') h) ops.toList e else False
  |some m=>bif Nat.beq m 2000 then(bif zro ops then wU P n h (λe'=>wT P n ops h K false [] (zl 0 ops.toList) e' h) ops.toList e else False)else bif Nat.beq m 3000 then(bif zro ops then wU P n h (λe'=>wT P n ops h K true [] (zl 0 ops.toList) e' h) ops.toList e else False)else bif Nat.beq m 5000 then(bif zkx ops then wU P n h (λe'=>wB P n ops h K false (zl 0 ops.toList).length [] (zl 0 ops.toList) e' h) ops.toList e else False)else bif Nat.beq m 6000 then(bif zkx ops then wU P n h (λe'=>wB P n ops h K true (zl 0 ops.toList).length [] (zl 0 ops.toList) e' h) ops.toList e else False)else bif Nat.beq m 7000 then(bif zgq ops then wI P n h true ops (λe'=>wB7 P n ops h K false (hvL ops).length [] (hvL ops) e' h) (Qm [] (Qw ops [] ops.size) ops.size) e else False)else bif Nat.beq m 8000 then(bif zgq ops then wI P n h true ops (λe'=>wB7 P n ops h K true (hvL ops).length [] (hvL ops) e' h) (Qm [] (Qw ops [] ops.size) ops.size) e else False)else bif Nat.beq m 1000 then(bif Region.lexB .any ops then wK P n ops h (λe'=>∀h',Keep h.size h h'->K (clean e') h') ops.toList e else False)
   else bif Region.lexTailB .any ops m then wQ P n ops h false (λe'=>wR P n ops K (ops.toList.drop m) e' h) (ops.toList.take m) e else False)
 else wR P n ops K ops.toList e h
theorem xf(l m:List Oper):yn (l++m)=yn l++yn m:=by
 induction l with
 |nil=>rfl
 |cons o l ih=>simp only[Br,yn];split <;> simp[ih]
theorem zbi(hm:P.follows .mixedOrders=true){tl:List (Nat×Nat)}{id:Nat}{Z:Bool}{K:Env->za->Prop}
  (H:regionF P n tl id ops Z K e h) (B:World) (d:Nat) (hs:Sat n e a) {Q:Exit->Act->World->Prop}
  (hQ:∀e' a' d' h',Sat n e' a'->Same (yn ops.toList) a a'->K e' h'->Q .normal a' (mk B d' h')):(DY id ops Z).wp P Q a (mk B d h):=by
 unfold regionF at H
 cases Z with
 |false=>exact wp_region_list (W0 B _ _ _ _ _ H hs hQ)
 |true=>
  simp only[cond_true]at H
  split at H
  ·cases hB:Region.lexB .any ops with
   |false=>rw[hB]at H;exact H.elim
   |true=>
    rw[hB]at H
    refine wp_region_quiet (C:=λw=>∃d,w=mk B d h) hm hB ⟨d+1,rfl⟩ ?_
    refine zpr B _ _ _ H hs λe' a' q1 q2 q3=>?_
    rintro w' ⟨d',rfl⟩
    exact hQ _ _ _ _ q1.clean q2 q3
  ·rename_i m _
   cases hX:Nat.beq m 2000 with
   |true=>
    rw[hX]at H
    simp only[cond_true]at H
    cases hB:zro ops with
    |false=>rw[hB]at H;exact H.elim
    |true=>
     rw[hB]at H
     exact wp_region_any hm (zfa B hB H hs hQ (d+1))
   |false=>
   rw[hX]at H
   simp only[cond_false]at H
   cases hY:Nat.beq m 3000 with
   |true=>
    rw[hY]at H
    simp only[cond_true]at H
    cases hB:zro ops with
    |false=>rw[hB]at H;exact H.elim
    |true=>
     rw[hB]at H
     exact wp_region_any hm (zfa B hB H hs hQ (d+1))
   |false=>
   rw[hY]at H
   simp only[cond_false]at H
   cases hZ:Nat.beq m 5000 with
   |true=>
    rw[hZ]at H
    simp only[cond_true]at H
    cases hB:zkx ops with
    |false=>rw[hB]at H;exact H.elim
    |true=>
     rw[hB]at H
     exact wp_region_any hm (zhe B hB H hs hQ (d+1))
   |false=>
   rw[hZ]at H
   simp only[cond_false]at H
   cases hY6:Nat.beq m 6000 with
   |true=>
    rw[hY6]at H
    simp only[cond_true]at H
    cases hB:zkx ops with
    |false=>rw[hB]at H;exact H.elim
    |true=>
     rw[hB]at H
     exact wp_region_any hm (zhe B hB H hs hQ (d+1))
   |false=>
   rw[hY6]at H
   simp only[cond_false]at H
   cases hY7:Nat.beq m 7000 with
   |true=>
    rw[hY7]at H
    simp only[cond_true]at H
    cases hB:zgq ops with
    |false=>rw[hB]at H;exact H.elim
    |true=>
     rw[hB]at H
     exact wp_region_any hm (zcu B hB H hs hQ (d+1))
   |false=>
   rw[hY7]at H
   simp only[cond_false]at H
   cases hY8:Nat.beq m 8000 with
   |true=>
    rw[hY8]at H
    simp only[cond_true]at H
    cases hB:zgq ops with
    |false=>rw[hB]at H;exact H.elim
    |true=>
     rw[hB]at H
     exact wp_region_any hm (zcu B hB H hs hQ (d+1))
   |false=>
   rw[hY8]at H
   simp only[cond_false]at H
   cases hM:Nat.beq m 1000 with
   |true=>
    rw[hM]at H
    simp only[cond_true]at H
    cases hB:Region.lexB .any ops with
    |false=>rw[hB]at H;exact H.elim
    |true=>
     rw[hB]at H
     refine wp_region_quiet (C:=λw=>∃d h',Keep h.size h h'/\w=mk B d h') hm hB ⟨d+1,h,Keep.refl _ _,rfl⟩ ?_
     refine zps B _ _ _ H hs λe' a' q1 q2 q3=>?_
     rintro w' ⟨d',h',hk,rfl⟩
     exact hQ _ _ _ _ q1.clean q2 (q3 h' hk)
   |false=>
   rw[hM]at H
   simp only[cond_false]at H
   cases hB:Region.lexTailB .any ops m with
   |false=>rw[hB]at H;exact H.elim
   |true=>
    rw[hB]at H
    have:=wp_region_still_tail (id:=id) (Q:=Q) (a:=a) (w:=mk B d h) (l:=ops.toList) m hm (by simpa using hB) (by
     simp only[Array.toArray_toList]
     refine zpt B (d+1) _ _ _ H hs λe' a' q1 q2 q3=>?_
     refine W0 B _ _ _ _ (d+1) q3 q1 λae af ah ab q4 q5 q6=>hQ ae af ah ab q4 ?_ q6
     have aa:yn ops.toList=yn (ops.toList.take m)++yn (ops.toList.drop m):=by rw[<-xf,Ce]
     rw[aa]
     exact(q2.mono λx hx=>Ao _ hx).trans (q5.mono λx hx=>Au _ hx))
    simpa using this
end
section
variable {n:Nat} {e:Env} {a:Act} {ms:List Nat} {P:Program} {h:za} {R:Value -> za -> Prop} {f:FuncId}
@[reducible] def zrs:List Atom->Type->Type
 |[],X=>X
 |t::l,X=>t.den->zrs l X
def z4q{X:Type}:(l:List Atom)->zrs l X->(List Value->X->Prop)->Prop
 |[],f,k=>k [] f
 |t::l,f,k=>∀x:t.den,z4q l (f x) λvs y=>k (t.enc x::vs) y
def zk1{X:Type}:(l:List Atom)->List Value->zrs l X->Option X
 |[],[],f=>some f
 |t::l,v::vs,f=>match t.dec v with
  |some x=>zk1 l vs (f x)
  |none=>none
 |_,_,_=>none
def mkC{X:Type}:(l:List Atom)->(List Value->X)->zrs l X
 |[],f=>f []
 |t::l,f=>λx=>mkC l λvs=>f (t.enc x::vs)
def zrt{X Y:Type}:(l:List Atom)->zrs l X->zrs l Y->zrs l (X×Y)
 |[],f,g=>(f,g)
 |_::l,f,g=>λx=>zrt l (f x) (g x)
theorem zfh{X:Type}:∀{l:List Atom} {vs:List Value} {f:zrs l X} {x:X} {k:List Value->X->Prop},zk1 l vs f=some x->z4q l f k->k vs x
 |[],[],f,x,k,h,g=>by simp only[zk1,Ab]at h;subst h;exact g
 |[],_::_,f,x,k,h,g=>by simp[zk1]at h
 |_::_,[],f,x,k,h,g=>by simp[zk1]at h
 |t::l,v::vs,f,x,k,h,g=>by
  simp only[zk1]at h
  split at h
  ·rename_i y hy
   have:=zfh h (g y)
   rw[Atom.enc_of_dec hy]at this
   exact this
  ·cases h
theorem zi2{X:Type}:∀{l:List Atom} {vs:List Value} {f:List Value->X} {x:X},zk1 l vs (mkC l f)=some x->x=f vs
 |[],[],f,x,h=>by simp only[zk1,mkC,Ab]at h;exact h.symm
 |[],_::_,f,x,h=>by simp[zk1]at h
 |_::_,[],f,x,h=>by simp[zk1]at h
 |t::l,v::vs,f,x,h=>by
  simp only[zk1,mkC]at h
  split at h
  ·rename_i y hy
   have:=zi2 h
   rw[Atom.enc_of_dec hy]at this
   exact this
  ·cases h
theorem zi3{X:Type}:∀{l:List Atom} {f:List Value->X} {k:List Value->X->Prop},(∀vs,k vs (f vs))->z4q l (mkC l f) k
 |[],_,_,h=>h []
 |_::_,_,_,h=>λ_=>zi3 λ_=>h _
abbrev Ann:=List (Nat×VT)
def js:Ann->List Atom
 |[]=>[]
 |(_,.one t)::J=>t::js J
 |(_,.agg l)::J=>l++js J
def Xg(σ:Nat->Option Value):Ann->Option (List Value)
 |[]=>some []
 |(i,.one _)::J=>match σ i,Xg σ J with
  |some v,some vs=>some (v::vs)
  |_,_=>none
 |(i,.agg l)::J=>match σ i,Xg σ J with
  |some (.agg cs),some vs=>bif Nat.beq cs.toList.length l.length then some (cs.toList++vs)else none
  |_,_=>none
def Qo:Ann->List Value->Env
 |[],_=>[]
 |(i,.one _)::J,v::vs=>(i,[],v)::Qo J vs
 |(_,.one _)::_,[]=>[]
 |(i,.agg l)::J,vs=>(i,[],.agg (vs.take l.length).toArray)::Qo J (vs.drop l.length)
def znq(e:Env)(i:Nat):Option Value:=match look e i with
 |some ([],v)=>some v
 |_=>none
theorem Y0(h:Sat n e a){i:Nat}{v:Value}(hv:znq e i=some v):zm a i=v:=by
 unfold znq at hv
 split at hv
 ·rename_i u hl
  simp only[Ab]at hv
  subst hv
  exact(h.all _ (Wy hl)).1 trivial
 ·cases hv
theorem jf{n:Nat}{e:Env}{a:Act}(h:Sat n e a):∀{J:Ann} {vs:List Value},Xg (znq e) J=some vs->Xg (λi=>some (zm a i)) J=some vs
 |[],vs,hv=>hv
 |(i,.one t)::J,vs,hv=>by
  simp only[Xg]at hv ⊢
  split at hv
  ·rename_i v us h1 h2
   simp only[jf h h2,Y0 h h1]
   exact hv
  ·cases hv
 |(i,.agg l)::J,vs,hv=>by
  simp only[Xg]at hv ⊢
  split at hv
  ·rename_i cs us h1 h2
   simp only[jf h h2,Y0 h h1]
   exact hv
  ·cases hv
theorem Wc{σ:Nat->Value}:∀{J:Ann} {vs:List Value},Xg (λi=>some (σ i)) J=some vs->∀x∈Qo J vs,fact σ x
 |[],vs,_,x,hx=>by cases hx
 |(i,.one t)::J,vs,hv,x,hx=>by
  simp only[Xg]at hv
  split at hv
  ·rename_i v us h1 h2
   simp only[Ab]at h1 hv
   subst hv
   simp only[Qo,Ai]at hx
   rcases hx with rfl|hx
   ·exact⟨λ_=>h1,λhn=>absurd trivial hn⟩
   ·exact Wc h2 x hx
  ·cases hv
 |(i,.agg l)::J,vs,hv,x,hx=>by
  simp only[Xg]at hv
  split at hv
  ·rename_i cs us h1 h2
   simp only[Ab]at h1
   cases hb:Nat.beq cs.toList.length l.length with
   |false=>rw[hb]at hv;cases hv
   |true=>
    rw[hb]at hv
    simp only[cond_true,Ab]at hv
    subst hv
    have Z:cs.toList.length=l.length:=Ah hb
    simp only[Qo,Ai]at hx
    rcases hx with rfl|hx
    ·refine⟨λ_=>?_,λhn=>absurd trivial hn⟩
     simp only
     rw[h1,<-Z,Dq]
    ·rw[<-Z,List.drop_left]at hx
     exact Wc h2 x hx
  ·cases hv
def Wd(ms:List Nat):Env->Env
 |[]=>[]
 |(i,[],v)::e=>bif memN ms i then Wd ms e else(i,[],v)::Wd ms e
 |(_,_::_,_)::e=>Wd ms e
theorem zt4{x:Nat×zx×Value}(h:x∈Wd ms e):x∈e/\x.2.1=[]/\x.1∉ms:=by
 induction e with
 |nil=>cases h
 |cons y e ih=>
  obtain⟨i,c,v⟩:=y
  cases c with
  |nil=>
   simp only[Wd]at h
   cases hm:memN ms i with
   |true=>rw[hm]at h;exact⟨Ag _ (ih h).1,(ih h).2⟩
   |false=>
    rw[hm]at h
    simp only[cond_false]at h
    rcases Ai.1 h with rfl|h
    ·exact⟨Am,rfl,we hm⟩
    ·exact⟨Ag _ (ih h).1,(ih h).2⟩
  |cons g c=>
   simp only[Wd]at h
   exact⟨Ag _ (ih h).1,(ih h).2⟩
theorem zbj{a a1:Act}(hs:Sat n e a)(hd:a1.defers=[])(hz:a1.tmps.size=n)(Z:Same ms a a1){J:Ann}{vs:List Value}
  (hv:Xg (λi=>some (zm a1 i)) J=some vs):Sat n (Qo J vs++Wd ms e) a1:=by
 refine⟨hd,hz,λx hx=>?_⟩
 rcases Av.1 hx with hx|hx
 ·exact Wc hv x hx
 ·obtain⟨h1,h2,h3⟩:=zt4 hx
  have hf:=hs.all x h1
  refine⟨λ_=>?_,λhn=>absurd (by rw[h2];trivial) hn⟩
  rw[Z _ h3]
  exact hf.1 (by rw[h2];trivial)
def jh:Code->Option Nat
 |.region id _ _=>some id
 |.seq a b=>match jh a with
  |some i=>some i
  |none=>jh b
 |.cond _ a b=>match jh a with
  |some i=>some i
  |none=>jh b
 |.block _ b=>jh b
 |.loop b=>jh b
 |_=>none
def Zg:Code->List Nat
 |.region _ ops _=>yn ops.toList
 |.seq a b=>Zg a++Zg b
 |.cond _ a b=>Zg a++Zg b
 |.block _ b=>Zg b
 |.loop b=>Zg b
 |_=>[]
structure Plan where
 tails:List (Nat×Nat)
 loops:List (Nat×Ann)
 joins:List (Nat×Ann)
def z4r:List (Nat×Ann)->Nat->Option Ann
 |[],_=>none
 |(j,m)::l,i=>bif Nat.beq i j then some m else z4r l i
def zx1(l:List (Nat×Ann)):Option Nat->Option Ann
 |some i=>z4r l i
 |none=>none
abbrev X5:=Exit->Env->za->Prop
def znr(K:Env->za->Prop)(Q:X5):X5
 |.normal,e,h=>K e h
 |x,e,h=>Q x e h
def zfi(id:Nat)(Q:X5):X5
 |.exit i,e,h=>bif Nat.beq i id then Q .normal e h else Q (.exit i) e h
 |x,e,h=>Q x e h
def atC{X:Type}(J:Ann)(F:zrs (js J) X)(e:Env)(k:X->Prop):Prop:=
 match Xg (znq e) J with
 |some vs=>match zk1 (js J) vs F with
  |some q=>k q
  |none=>False
 |none=>False
def z4s(J:Ann)(rest:Env->za->Prop)(F:(Env->za->Prop)->Prop)(e0:Env):Prop:=
 ∀K:zrs (js J) (za->Prop),z4q (js J) K (λvs q=>∀h,rest (Qo J vs++e0) h->q h)->F λe h=>atC J K e λq=>q h
def z4t(J:Ann)(body:(Env->za->Prop)->Env->za->Prop)(e0 e:Env)(h:za):Prop:=
 ∃(I:zrs (js J) (za->Prop)) (μ:zrs (js J) (za->Nat)),(atC J (zrt (js J) I μ) e λp=>p.1 h) /\
  z4q (js J) (zrt (js J) I μ) λvs p=>∀h,p.1 h->body (λe' h'=>atC J (zrt (js J) I μ) e' λq=>q.1 h'/\q.2 h'<p.2 h) (Qo J vs++e0) h
def W(P:Program)(n:Nat)(pl:Plan):Code->X5->Env->za->Prop
 |.skip,Q,e,h=>Q .normal e h
 |.ret,Q,e,h=>Q .ret e h
 |.exit id,Q,e,h=>Q (.exit id) e h
 |.label _,Q,e,h=>Q .normal e h
 |.goto l,Q,e,h=>Q (.goto l) e h
 |.region id ops draw,Q,e,h=>regionF P n pl.tails id ops draw (λe h=>Q .normal e h) e h
 |.seq x y,Q,e,h=>match zx1 pl.joins (jh y)with
  |none=>W P n pl x (znr (λe h=>W P n pl y Q e h) Q) e h
  |some J=>z4s J (λe h=>W P n pl y Q e h) (λK=>W P n pl x (znr K Q) e h) (Wd (Zg x) e)
 |.cond c x y,Q,e,h=>match Yu e [] c with
  |some (.bool b)=>(b=true->W P n pl x Q e h)/\(b=false->W P n pl y Q e h)
  |_=>False
 |.block id x,Q,e,h=>W P n pl x (zfi id Q) e h
 |.loop x,Q,e,h=>match zx1 pl.loops (jh x)with
  |some J=>z4t J (λQn e h=>W P n pl x (znr Qn Q) e h) (Wd (Zg x) e) e h
  |none=>False
 |_,_,_,_=>False
def z4u(n:Nat)(B:World)(ms:List Nat)(a0:Act)(Q:X5):Exit->Act->World->Prop:=
 λx a w=>∃e d h,w=mk B d h/\Sat n e a/\Same ms a0 a/\Q x e h
theorem zcv{X:Type}{J:Ann}{F:zrs (js J) X}{k:X->Prop}(h:atC J F e k):∃vs q,Xg (znq e) J=some vs/\zk1 (js J) vs F=some q/\k q:=by
 unfold atC at h
 split at h
 ·rename_i vs hv
  split at h
  ·rename_i q hq
   exact⟨vs,q,hv,hq,h⟩
  ·exact h.elim
 ·exact h.elim
theorem z0w(hm:P.follows .mixedOrders=true){pl:Plan}:∀(c:Code) (Q:X5) (e:Env) (h:za),W P n pl c Q e h ->
  ∀(B:World) (d:Nat) (a:Act),Sat n e a->c.wp P (z4u n B (Zg c) a Q) a (mk B d h):=by
 intro c
 induction c with
 |skip=>exact λQ e h H B d a hs=>wp_skip ⟨e,d,h,rfl,hs,Same.refl _ _,H⟩
 |ret=>exact λQ e h H B d a hs=>wp_ret ⟨e,d,h,rfl,hs,Same.refl _ _,H⟩
 |exit id=>exact λQ e h H B d a hs=>wp_exit ⟨e,d,h,rfl,hs,Same.refl _ _,H⟩
 |label l=>exact λQ e h H B d a hs=>wp_label ⟨e,d,h,rfl,hs,Same.refl _ _,H⟩
 |goto l=>exact λQ e h H B d a hs=>wp_goto ⟨e,d,h,rfl,hs,Same.refl _ _,H⟩
 |region id ops aB=>
  exact λQ e h H B d a hs=>zbi hm H B d hs λe' a' d' h' q1 q2 q3=>⟨e',d',h',rfl,q1,q2,q3⟩
 |seq x y aa ab=>
  intro Q e h H B d a hs
  simp only[W]at H
  have hl:∀i∈Zg x,i∈Zg (x.seq y):=λi hi=>Ao _ hi
  have hr:∀i∈Zg y,i∈Zg (x.seq y):=λi hi=>Au _ hi
  split at H
  ·refine wp_seq (wp_mono (aa _ _ _ H B d a hs) ?_)
   rintro ex a1 w1 ⟨e1,d1,h1,rfl,s1,m1,q1⟩
   cases ex with
   |normal=>
    refine wp_mono (ab _ _ _ q1 B d1 a1 s1) ?_
    rintro ex a2 w2 ⟨e2,d2,h2,rfl,s2,m2,q2⟩
    exact⟨e2,d2,h2,rfl,s2,(m1.mono hl).trans (m2.mono hr),q2⟩
   |_=>exact⟨e1,d1,h1,rfl,s1,m1.mono hl,q1⟩
  ·rename_i J hJ
   have H':=H (mkC (js J) λvs=>λh=>W P n pl y Q (Qo J vs++Wd (Zg x) e) h) (zi3 λvs h hq=>hq)
   refine wp_seq (wp_mono (aa _ _ _ H' B d a hs) ?_)
   rintro ex a1 w1 ⟨e1,d1,h1,rfl,s1,m1,q1⟩
   cases ex with
   |normal=>
    obtain⟨vs,q,hv,hq,hk⟩:=zcv q1
    have az:=zi2 hq
    subst az
    have ar:Sat n (Qo J vs++Wd (Zg x) e) a1:=zbj hs s1.defers s1.size m1 (jf s1 hv)
    refine wp_mono (ab _ _ _ hk B d1 a1 ar) ?_
    rintro ex a2 w2 ⟨e2,d2,h2,rfl,s2,m2,q2⟩
    exact⟨e2,d2,h2,rfl,s2,(m1.mono hl).trans (m2.mono hr),q2⟩
   |_=>exact⟨e1,d1,h1,rfl,s1,m1.mono hl,q1⟩
 |cond c x y aa ab=>
  intro Q e h H B d a hs
  simp only[W]at H
  have hl:∀i∈Zg x,i∈Zg (DV c x y):=λi hi=>Ao _ hi
  have hr:∀i∈Zg y,i∈Zg (DV c x y):=λi hi=>Au _ hi
  split at H
  ·rename_i b hb
   refine wp_cond_split (yb hs (c:=[]) trivial hb) (λay=>?_) (λap=>?_)
   ·refine wp_mono (aa _ _ _ (H.1 ay) B d a hs) ?_
    rintro ex a2 w2 ⟨e2,d2,h2,rfl,s2,m2,q2⟩
    exact⟨e2,d2,h2,rfl,s2,m2.mono hl,q2⟩
   ·refine wp_mono (ab _ _ _ (H.2 ap) B d a hs) ?_
    rintro ex a2 w2 ⟨e2,d2,h2,rfl,s2,m2,q2⟩
    exact⟨e2,d2,h2,rfl,s2,m2.mono hr,q2⟩
  ·exact H.elim
 |block id x ih=>
  intro Q e h H B d a hs
  refine wp_block (wp_mono (ih _ _ _ H B d a hs) ?_)
  rintro ex a1 w1 ⟨e1,d1,h1,rfl,s1,m1,q1⟩
  cases ex with
  |exit i=>
   simp only[zfi]at q1
   simp only[Exit.inBlock]
   by_cases hb:Nat.beq i id=true
   ·rw[if_pos (Ah hb)]
    simp only[hb,cond_true]at q1
    exact⟨e1,d1,h1,rfl,s1,m1,q1⟩
   ·rw[if_neg (λhe=>hb (by rw[he];simp))]
    simp only[hb,cond_false]at q1
    exact⟨e1,d1,h1,rfl,s1,m1,q1⟩
  |_=>exact⟨e1,d1,h1,rfl,s1,m1,q1⟩
 |loop x ih=>
  intro Q e h H B d a hs
  simp only[W]at H
  split at H
  ·rename_i J hJ
   obtain⟨I,μ,h0,ae⟩:=H
   obtain⟨ai,p0,ak,au,aA⟩:=zcv h0
   let F:=zrt (js J) I μ
   let at_:Act->Option ((za->Prop)×(za->Nat)):=λa1=>(Xg (λi=>some (zm a1 i)) J).bind λvs=>zk1 (js J) vs F
   refine wp_loop (λa1 w1=>∃d1 h1 vs p,w1=mk B d1 h1/\a1.defers=[]/\a1.tmps.size=n/\Same (Zg x) a a1/\Xg (λi=>some (zm a1 i)) J=some vs/\zk1 (js J) vs F=some p/\p.1 h1)
    (λa1 w1=>match at_ a1 with|some p=>p.2 w1.heap|none=>0) ⟨d,h,ai,p0,rfl,hs.defers,hs.size,Same.refl _ _,jf hs ak,au,aA⟩ ?_
   rintro a1 w1 ⟨d1,h1,vs,p,rfl,ah,an,Z,hv,hp,hI⟩
   have s1:Sat n (Qo J vs++Wd (Zg x) e) a1:=zbj hs ah an Z hv
   have hb:=zfh hp ae h1 hI
   refine wp_mono (ih _ _ _ hb B d1 a1 s1) ?_
   rintro ex a2 w2 ⟨e2,d2,h2,rfl,s2,m2,q2⟩
   cases ex with
   |normal=>
    obtain⟨ax,q,af,hq,am,aj⟩:=zcv q2
    refine⟨⟨d2,h2,ax,q,rfl,s2.defers,s2.size,Z.trans m2,jf s2 af,hq,am⟩,?_⟩
    have e1:at_ a1=some p:=by simp only[at_,hv,CE];exact hp
    have e2:at_ a2=some q:=by simp only[at_,jf s2 af,CE];exact hq
    rw[e1,e2]
    exact aj
   |_=>exact⟨e2,d2,h2,rfl,s2,Z.trans m2,q2⟩
  ·exact H.elim
 |_=>exact λQ e h H=>H.elim
def zt5:Nat->List Value->Env
 |_,[]=>[]
 |i,v::vs=>(i,[],v)::zt5 (i+1) vs
def zt6(P:Program)(h:za)(e:Env):List ResultVar->(List Value->Prop)->Prop
 |[],K=>K []
 |.tmp t::l,K=>match znq e t with
  |some v=>zt6 P h e l λvs=>K (v::vs)
  |none=>False
 |.cell a t::l,K=>match znq e a with
  |some p=>ziu P h t p none λv=>zt6 P h e l λvs=>K (v::vs)
  |none=>False
def zfj:List Value->Value
 |[v]=>v
 |vs=>.tuple vs.toArray
def z7s(P:Program)(rs:List ResultVar)(R:Value->za->Prop):X5
 |.normal,e,h=>zt6 P h e rs λvs=>R (zfj vs) h
 |.ret,e,h=>zt6 P h e rs λvs=>R (zfj vs) h
 |_,_,_=>False
def zfk(tmps:Array Value):ResultVar->Sem Value
 |.tmp t=>pure (tmps.getD t undef)
 |.cell a t=>do loadVar t (<-asAddr (tmps.getD a undef))
theorem zcw{P:Program}{n:Nat}{h:za}{e:Env}{a:Act}(hs:Sat n e a):∀{l:List ResultVar} {K:List Value->Prop},zt6 P h e l K->∃vs,K vs/\vs.length=l.length/\QExec P (l.mapM (zfk a.tmps)) h vs
 |[],K,H=>⟨[],H,rfl,λ_ _=>by simp⟩
 |.tmp t::l,K,H=>by
  simp only[zt6]at H
  split at H
  ·rename_i v hv
   obtain⟨vs,h1,h2,h3⟩:=zcw hs H
   refine⟨v::vs,h1,by simp[h2],?_⟩
   rw[DR]
   refine QExec.bind (x:=v) ?_ (h3.bind (QExec.pure _))
   rw[<-Y0 hs hv]
   exact QExec.pure _
  ·exact H.elim
 |.cell x t::l,K,H=>by
  simp only[zt6]at H
  split at H
  ·rename_i p hp
   obtain⟨v,hK,hq⟩:=ze1 H
   obtain⟨vs,h1,h2,h3⟩:=zcw hs hK
   refine⟨v::vs,h1,by simp[h2],?_⟩
   rw[DR]
   refine QExec.bind (x:=v) ?_ (h3.bind (QExec.pure _))
   have hx:a.tmps.getD x undef=p:=Y0 hs hp
   simp only[zfk,hx]
   have Z:=hq trivial
   unfold Dv at Z
   unfold ziu at H
   split at H
   ·exact Z
   ·exact Z
   ·exact H.elim
  ·exact H.elim
theorem Zz{fn:Func}(hs:Sat n e a){rs:List ResultVar}(hr:fn.results.toList=rs)(H:zt6 P h e rs λvs=>R (zfj vs) h):
  ∃v,R v h/\QExec P (results fn a.tmps) h v:=by
 obtain⟨vs,h1,h2,h3⟩:=zcw hs H
 refine⟨_,h1,?_⟩
 intro B d
 have e0:results fn a.tmps=(fn.results.mapM (zfk a.tmps) >>= λvs=>CZ (if h:vs.size=1 then vs[0]else .tuple vs)):=by
  unfold results
  congr 1
 rw[e0,Array.mapM_eq_mapM_toList,hr,Sem.run_bind,Sem.run_map,h3 B d]
 simp only[Result.andThen_ok,Sem.run_pure]
 match vs,h2 with
 |[],_=>rfl
 |[v],_=>rfl
 |v::u::vs,_=>simp[zfj]
theorem W7(args:Array Value)(k:Nat):∀(vs:List Value) (i:Nat),(∀j v,vs[j]?=some v->(args++Bf k undef).getD (i+j) undef=v) ->
  ∀x∈zt5 i vs,fact (λi=>(args++Bf k undef).getD i undef) x
 |[],_,_,x,hx=>by cases hx
 |v::vs,i,h,x,hx=>by
  simp only[zt5,Ai]at hx
  rcases hx with rfl|hx
  ·exact⟨λ_=>h 0 v rfl,λhn=>absurd trivial hn⟩
  ·exact W7 args k vs (i+1) (λj u hj=>by have:=h (j+1) u (by simpa using hj);rwa[show i+(j+1)=i+1+j by omega]at this) x hx
theorem z0x(hm:P.follows .mixedOrders=true){fn:Func}{c:Code}(pl:Plan)(vs:List Value){rs:List ResultVar}(hf:P.funcs[f]?=some fn)(hb:fn.body=some c)(hr:fn.results.toList=rs)(hn:fn.ntmps=n)
  (hz:Nat.ble vs.length n=true) (H:W P n pl c (z7s P rs R) (zt5 0 vs) h):XC P f vs.toArray h R:=by
 intro B d
 subst hn
 refine calls_of_wp hf hb ?_
 have aa:vs.length<=fn.ntmps:=BN hz
 have hs:Sat fn.ntmps (zt5 0 vs) { tmps:=vs.toArray++Bf (fn.ntmps-vs.toArray.size) undef,defers:=[] }:=by
  refine⟨rfl,by simp;omega,?_⟩
  refine W7 vs.toArray _ vs 0 λj v hj=>?_
  have Z:j<vs.length:=by
   rcases AF j vs.length with h|h
   ·exact h
   ·rw[BO h]at hj;cases hj
  simp only[Az,BC]
  rw[Cn (by simpa using Z)]
  simp[hj]
 refine wp_mono (z0w hm c _ _ _ H B d _ hs) ?_
 rintro ex a w ⟨e1,d1,h1,rfl,s1,m1,q1⟩
 cases ex with
 |normal=>
  obtain⟨v,hv,hq⟩:=Zz s1 hr q1
  exact⟨s1.defers,v,hq B d1,v,d1,h1,rfl,rfl,hv⟩
 |ret=>
  obtain⟨v,hv,hq⟩:=Zz s1 hr q1
  exact⟨s1.defers,v,hq B d1,v,d1,h1,rfl,rfl,hv⟩
 |_=>exact q1.elim
def codeOf(fn:Func):Code:=match fn.body with
 |some c=>c
 |none=>.skip
def Z0(fn:Func):Bool:=match fn.body with
 |some _=>true
 |none=>false
theorem zru(hm:P.follows .mixedOrders=true)(pl:Plan)(vs:List Value){fn:Func}{rs:List ResultVar}(hf:P.funcs[f]?=some fn)(hb:Z0 fn=true)(hr:fn.results.toList=rs)(hn:fn.ntmps=n)
  (hz:Nat.ble vs.length n=true) (H:W P n pl (codeOf fn) (z7s P rs R) (zt5 0 vs) h):XC P f vs.toArray h R:=by
 have Z:fn.body=some (codeOf fn):=by
  unfold Z0 at hb
  unfold codeOf
  split at hb
  ·rename_i c hc;rw[hc]
  ·cases hb
 exact z0x hm pl vs hf Z hr hn hz H
end
section
variable {n m k:Nat} {h h':za} {a:Option Addr} {cs xs:List Value} {s:Sl} {e:TypeId}
theorem Zm(h:za)(o:Obj):(h.push o)[h.size]?=some o:=by simp
theorem zrv(k:Keep n h h'){a:Addr}(ha:a.block<n):zc h' a=zc h a:=by
 unfold zc;rw[k.get _ ha]
def Arr(n:Nat)(h:za)(a:Option Addr)(cs:List Value):Prop:=
 cs=[]\/∃b o,a=some ⟨b,o,none⟩/\b<n/\∀i v,cs[i]?=some v->zc h ⟨b,o+i,none⟩=some v
theorem Arr.mono(H:Arr n h a cs)(hm:n<=m):Arr m h a cs:=by
 rcases H with e|⟨b,o,e,hb,hc⟩
 ·exact .inl e
 ·exact .inr ⟨b,o,e,by omega,hc⟩
theorem Arr.keep(H:Arr n h a cs)(k:Keep n h h'):Arr n h' a cs:=by
 rcases H with e|⟨b,o,e,hb,hc⟩
 ·exact .inl e
 ·exact .inr ⟨b,o,e,hb,λi v hi=>(zrv k (a:=⟨b,o+i,none⟩) hb).trans (hc i v hi)⟩
theorem qn(b o i:Nat):(⟨b,o,none⟩:Addr).add i=⟨b,o+i,none⟩:=by
 unfold Ae
 split
 ·rename_i h;rw[h];rfl
 ·rfl
theorem Arr.cell(H:Arr n h a cs){v:Value}(hv:cs[k]?=some v):∃p:Addr,a=some p/\zc h (p.add k)=some v:=by
 rcases H with e|⟨b,o,e,hb,hc⟩
 ·rw[e]at hv;simp at hv
 ·exact⟨⟨b,o,none⟩,e,by rw[qn];exact hc k v hv⟩
def Strs(n:Nat)(h:za)(s:Sl)(xs:List Bt):Prop:=s.len=xs.length/\Arr n h s.a (xs.map Dh)
theorem Strs.mono{xs:List Bt}(H:Strs n h s xs)(hm:n<=m):Strs m h s xs:=⟨H.1,H.2.mono hm⟩
theorem Strs.keep{xs:List Bt}(H:Strs n h s xs)(k:Keep n h h'):Strs n h' s xs:=⟨H.1,H.2.keep k⟩
theorem Strs.nil(n:Nat)(h:za)(a:Option Addr)(c:Nat):Strs n h ⟨a,0,c⟩ []:=⟨rfl,.inl rfl⟩
theorem wrap64{n:Int}(h1:-9223372036854775808<=n)(h2:n<=9223372036854775807):Aa .i64 n=n:=by
 unfold Aa
 have e:(2:Int) ^ An .i64=18446744073709551616:=by decide
 have e':(2:Int) ^ (An .i64-1)=9223372036854775808:=by decide
 simp only[e,e']
 have hs:C9 .i64=true:=rfl
 simp only[hs,Cf,decide_eq_true_eq]
 split <;> omega
theorem zt7(h:k<9223372036854775807):Aa .i64 ((k:Int)+1)=((k+1:Nat):Int):=by
 rw[wrap64 (by omega) (by omega)];omega
def Owns(h:za)(base:Nat)(e:TypeId)(sz:Nat)(s:Sl)(xs:List Value):Prop:=
 (mk default 0 h).ownsRow base e sz (.slice s.a s.len s.cap) s.len xs
theorem Owns.nil(h:za)(base:Nat)(e:TypeId)(sz:Nat):Owns h base e sz ⟨none,0,0⟩ []:=World.ownsRow_nil _ _ _ _
theorem Owns.length{base:Nat}{sz:Nat}(H:Owns h base e sz s xs):xs.length=s.len*sz:=H.1
theorem Owns.arr{base:Nat}{sz:Nat}(H:Owns h base e sz s xs):Arr h.size h s.a xs:=by
 rcases H.2 with⟨hv,h0⟩|⟨g,cap,Z,hv,hb,hg,af,hm,ae,ht⟩
 ·have hl:=H.1
  rw[h0]at hl
  exact .inl (by simpa using hl)
 ·simp only[A9]at hv
  have aa:g<h.size:=(Ad.1 hg).1
  refine .inr ⟨g,0,hv.1,aa,λi v hi=>?_⟩
  have ab:h[g]?=some (.cells Z e (0,0)):=hg
  unfold zc
  simp only[ab,Az,Option.isSome_none,Bi,if_false]
  rw[<-ht,AC]at hi
  split at hi
  ·simpa using hi
  ·cases hi
theorem Owns.base_le{base:Nat}{sz:Nat}(H:Owns h base e sz s xs):∀p,s.a=some p->base<=p.block/\p.block<h.size:=by
 intro p hp
 exact World.ownsRow.lt H p.block (by simp[Value.ownBlock,hp])
theorem Owns.keep{base:Nat}{sz:Nat}(H:Owns h base e sz s xs)(k:∀p,s.a=some p->h'[p.block]?=h[p.block]?):Owns h' base e sz s xs:=by
 refine⟨H.1,?_⟩
 rcases H.2 with hn|⟨g,cap,Z,hv,hb,hg,rest⟩
 ·exact .inl hn
 ·simp only[A9]at hv
  refine .inr ⟨g,cap,Z,by simp[hv],hb,?_,rest⟩
  have:=k _ hv.1
  exact this.trans hg
theorem Owns.keepN{base:Nat}{sz:Nat}(H:Owns h base e sz s xs)(k:Keep h.size h h'):Owns h' base e sz s xs:=
 H.keep λp hp=>k.get _ (H.base_le p hp).2
structure ElemT (P:Program) (t e:TypeId) (z:Value) (sz bytes:Nat):Prop where
 slice:P.underlying t=some (.slice e)
 info:∃i,P.info? e=some i/\i.zero=some z/\i.size=sz/\i.bytes=bytes
 zero:z.cells.size=sz
 pos:0<sz
end
section
variable {h:za} {m:Nat} {P:Program} {kt t et:TypeId} {z:Value}
def zne(l:List (Bt×Value))(k:Bt):Option Value:=match l with
 |[]=>none
 |p::l=>if p.1=k then some p.2 else zne l k
def zxn(l:List (Bt×Value))(k:Bt)(v:Value):List (Bt×Value):=match l with
 |[]=>[(k,v)]
 |p::l=>if p.1=k then(k,v)::l else p::zxn l k v
theorem zt8(l:List (Bt×Value))(k k':Bt)(v:Value):zne (zxn l k v) k'=if k=k' then some v else zne l k':=by
 induction l with
 |nil=>simp[zxn,zne]
 |cons p l ih=>
  simp only[zxn]
  split
  ·rename_i h
   simp only[zne]
   split <;> rename_i h2
   ·rfl
   ·rw[h];simp[h2]
  ·rename_i h
   simp only[zne,ih]
   split <;> rename_i h2
   ·rw[if_neg (λe=>h (h2.trans e.symm))]
   ·rfl
def MapAt(h:za)(m:Nat)(l:List (Bt×Value)):Prop:=∃es Z,h[m]?=some (.map es Z)/\es.toList.map (λe=>(e.key,e.val))=l.map λp=>(Dh p.1,p.2)
theorem MapAt.keep{h h':za}{l:List (Bt×Value)}(H:MapAt h m l)(k:h'[m]?=h[m]?):MapAt h' m l:=by
 obtain⟨es,c,h1,h2⟩:=H;exact⟨es,c,k.trans h1,h2⟩
theorem MapAt.lt{l:List (Bt×Value)}(H:MapAt h m l):m<h.size:=by
 obtain⟨es,c,h1,h2⟩:=H;exact(Ad.1 h1).1
theorem MapAt.new(h:za):MapAt (h.push (.map #[] 0)) h.size []:=⟨#[],0,Zm _ _,rfl⟩
structure MapT (P:Program) (t kt et:TypeId) (z:Value):Prop where
 map:P.underlying t=some (.map kt et)
 key:P.underlying kt=some .string
 zero:∃i,P.info? et=some i/\i.zero=some z
theorem zk2(a b:Bt):(a==b)=decide (a=b):=by
 show ByteArray.beq a b=_
 cases a;cases b
 rw[AB]
 simp[ByteArray.beq]
instance lawfulBA:LawfulBEq Bt where
 eq_of_beq:=λ {a b} h=>by rw[zk2]at h;simpa using h
 rfl:=λ {a}=>by rw[zk2];simp
theorem X6(k:Bt):∀(es:List MapEntry) (l:List (Bt×Value)) (i:Nat),es.map (λe=>(e.key,e.val))=l.map (λp=>(Dh p.1,p.2)) ->
  (zne l k=none/\DG .string (.string k) es i=some none)\/(∃j v e,zne l k=some v/\es[j]?=some e/\e.key=.string k/\e.val=v/\DG .string (.string k) es i=some (some (i+j,v)) /\
   ∀w,(es.modify j λe=>{ e with key:=.string k,val:=w }).map (λe=>(e.key,e.val))=(zxn l k w).map λp=>(Dh p.1,p.2))
 |[],l,i,h=>by
  have:l=[]:=by cases l <;> simp_all
  subst this
  exact .inl ⟨rfl,rfl⟩
 |e::es,l,i,h=>by
  cases l with
  |nil=>simp at h
  |cons p l=>
   simp only[BZ,BP,Bq]at h
   obtain⟨⟨h1,h2⟩,h3⟩:=h
   by_cases hk:p.1=k
   ·refine .inr ⟨0,p.2,e,by simp[zne,hk],rfl,by rw[h1,hk],h2,?_,λw=>?_⟩
    ·have Z:(k==p.1)=true:=by rw[zk2];simpa using hk.symm
     simp[DG,Instr.sameNow,h1,h2,Z]
    ·simp[zxn,hk,h3]
   ·have Z:(k==p.1)=false:=by rw[zk2];simpa using λe=>hk e.symm
    rcases X6 k es l (i+1) h3 with⟨g1,g2⟩|⟨j,v,e',g1,g2,g3,g4,g5,g6⟩
    ·refine .inl ⟨by simp[zne,hk,g1],?_⟩
     simp[DG,Instr.sameNow,h1,Z,g2]
    ·refine .inr ⟨j+1,v,e',by simp[zne,hk,g1],by simpa using g2,g3,g4,?_,λw=>?_⟩
     ·simp[DG,Instr.sameNow,h1,Z,g5];omega
     ·simp[zxn,hk,h1,h2,g6 w]
theorem zdz(hk:P.underlying kt=some .string)(b:Bool)(k:Bt)(h:za):QExec P (Instr.checkKey b 10000 kt (.string k)) h ():=by
 intro B d
 have hq:=QExec.underlying (h:=h) hk B d
 unfold Instr.checkKey
 rw[Sem.run_bind,hq]
 rfl
theorem Y1(hk:P.underlying kt=some .string)(k:Bt)(es:List MapEntry)(r:Option (Nat×Value))(h:za)(hf:DG .string (.string k) es 0=some r):
  QExec P (Instr.findKey kt (.string k) es) h r:=by
 intro B d
 have hq:=QExec.underlying (h:=h) hk B d
 unfold Instr.findKey
 rw[Sem.run_bind,hq]
 simp only[Result.andThen_ok,hf]
 rfl
theorem zhk{es:Array MapEntry}{c:Nat}(hm:h[m]?=some (.map es c)):QExec P (getObj m) h (.map es c):=by
 intro B d
 have:(mk B d h).heap[m]?=some (.map es c):=hm
 simp[getObj,Sem.run,this]
theorem zx2(hz:∃i,P.info? t=some i/\i.zero=some z):QExec P (zeroValue t) h z:=by
 obtain⟨i,h1,h2⟩:=hz
 intro B d
 simp[zeroValue,typeInfo,program,h1,h2,Sem.run]
def z4c(l:List (Bt×Value))(k:Bt)(z:Value):Value:=(zne l k).getD z
theorem zns(T:MapT P t kt et z){l:List (Bt×Value)}(H:MapAt h m l)(k:Bt)(ok:Bool):
  QExec P (Instr.lookup t (.map (some m)) (.string k) ok) h (if ok then .tuple #[z4c l k z,.bool (zne l k).isSome]else z4c l k z):=by
 obtain⟨es,c,h1,h2⟩:=H
 intro B d
 have hu:=QExec.underlying (h:=h) T.map B d
 have hg:=zhk (P:=P) h1 B d
 have hc:=zdz T.key es.isEmpty k h B d
 unfold Instr.lookup
 rw[Sem.run_bind,hu]
 simp only[Result.andThen_ok,Sem.run_bind,hg,Sem.run_pure,hc]
 rcases X6 k es.toList l 0 h2 with⟨g1,g2⟩|⟨j,v,e,g1,g2,g3,g4,g5,_⟩
 ·rw[Y1 T.key k es.toList none h g2 B d]
  have hz:=zx2 (h:=h) T.zero B d
  simp only[Result.andThen_ok,Sem.run_bind,hz,Sem.run_pure,z4c,g1]
  cases ok <;> rfl
 ·rw[Y1 T.key k es.toList _ h g5 B d]
  simp only[Result.andThen_ok,z4c,g1]
  cases ok <;> rfl
theorem znt{l:List (Bt×Value)}{k:Bt}{v:Value}(g:zne l k=none):zxn l k v=l++[(k,v)]:=by
 induction l with
 |nil=>rfl
 |cons p l ih=>
  simp only[zne]at g
  split at g
  ·cases g
  ·rename_i hp
   simp[zxn,hp,ih g]
theorem zt9(T:MapT P t kt et z){l:List (Bt×Value)}(H:MapAt h m l)(k:Bt)(v:Value){K:za->Prop}
  (hK:∀h':za,MapAt h' m (zxn l k v)->h'.size=h.size->(∀i,i≠m->h'[i]?=h[i]?)->K h'):XRunU P (DJ t (.map (some m)) (.string k) v) h K:=by
 have ab:=H.lt
 obtain⟨es,c,h1,h2⟩:=H
 intro B d
 have hu:=QExec.underlying (h:=h) T.map B d
 have hg:=zhk (P:=P) h1 B d
 have hc:=zdz T.key false k h B d
 have Z:∀o:Obj,(setObj m o).run P (mk B d h)=.ok () (mk B d (h.setIfInBounds m o)):=by
  intro o
  have:(mk B d h).heap[m]?=some (.map es c):=h1
  simp[setObj,Sem.run,this]
  rfl
 unfold DJ
 rcases X6 k es.toList l 0 h2 with⟨g1,g2⟩|⟨j,v0,e,g1,g2,g3,g4,g5,g6⟩
 ·refine⟨d,h.setIfInBounds m (.map (es.push { key:=.string k,val:=v,born:=c }) (c+1)),?_,hK _ ⟨es.push { key:=.string k,val:=v,born:=c },c+1,by simp[ab],?_⟩ (by simp) (λi hi=>by rw[AN (Ne.symm hi)])⟩
  ·rw[Sem.run_bind,hu]
   simp only[Result.andThen_ok,Sem.run_bind,hg,hc]
   rw[Y1 T.key k es.toList none h g2 B d]
   simp only[Result.andThen_ok]
   exact Z _
  ·rw[znt g1]
   simp[h2]
 ·have ae:j<es.size:=by
   have:=(Aw.1 g2).1
   simpa using this
  refine⟨d,_,?_,hK (h.setIfInBounds m (.map (es.modify j λe=>{ e with key:=.string k,val:=v }) c)) ⟨es.modify j λe=>{ e with key:=.string k,val:=v },c,by simp[ab],?_⟩ (by simp) (λi hi=>by rw[AN (Ne.symm hi)])⟩
  ·rw[Sem.run_bind,hu]
   simp only[Result.andThen_ok,Sem.run_bind,hg,hc]
   rw[Y1 T.key k es.toList _ h g5 B d]
   simp only[Result.andThen_ok,Az]
   have aa:((es[j]?).map (·.key)).getD (.string k)=.string k:=by
    have:es[j]?=some e:=by simpa using g2
    rw[this];exact g3
   rw[aa]
   have hs:Instr.keyThatStays (.string k) (.string k)=pure (.string k):=by
    unfold Instr.keyThatStays
    rw[if_pos (by show(k==k)=true;rw[zk2];simp)]
   rw[hs]
   exact Z _
  ·have:=g6 v
   simpa using this
end
section
variable {h h':za} {b n o:Nat} {cs:Array Value} {v:Value} {P:Program}
def Blk(h:za)(b:Nat)(cs:Array Value):Prop:=∃T,h[b]?=some (.cells cs T (0,0))
theorem Blk.keep(H:Blk h b cs)(k:h'[b]?=h[b]?):Blk h' b cs:=by
 obtain⟨T,e⟩:=H;exact⟨T,k.trans e⟩
theorem Blk.keepN(H:Blk h b cs)(k:Keep n h h')(hb:b<n):Blk h' b cs:=H.keep (k.get b hb)
theorem Blk.new(h:za)(cs:Array Value)(T:TypeId):Blk (h.push (.cells cs T)) h.size cs:=⟨T,Zm _ _⟩
theorem Blk.lt(H:Blk h b cs):b<h.size:=by
 obtain⟨T,e⟩:=H;exact(Ad.1 e).1
theorem Blk.cell(H:Blk h b cs)(hv:cs[o]?=some v):zc h ⟨b,o,none⟩=some v:=by
 obtain⟨T,e⟩:=H
 unfold zc
 simp[e,hv]
theorem Blk.cellAdd{b o k:Nat}(H:Blk h b cs)(hv:cs[o+k]?=some v):zc h ((⟨b,o,none⟩:Addr).add k)=some v:=by
 rw[qn];exact H.cell hv
theorem Blk.ld{cs:List Value}(H:Blk h b cs.toArray):zf h ⟨b,0,none⟩ 0 cs:=by
 have key:∀(l:List Value) (i:Nat),(∀j v,l[j]?=some v->cs[i+j]?=some v)->zf h ⟨b,0,none⟩ i l:=by
  intro l
  induction l with
  |nil=>intro i _;trivial
  |cons v l ih=>
   intro i hi
   refine⟨?_,ih (i+1) λj u hu=>?_⟩
   ·rw[qn,Az]
    exact H.cell (by have:=hi 0 v rfl;simpa using this)
   ·have:=hi (j+1) u (by simpa using hu)
    rwa[show i+(j+1)=i+1+j by omega]at this
 exact key cs 0 λj v hv=>by simpa using hv
theorem Keep.setBlk(o:Obj)(hb:n<=b):Keep n h (h.setIfInBounds b o):=
 ⟨by simp,λi hi=>by rw[AN (by omega)]⟩
theorem zhl(H:Blk h b cs)(B:World)(d:Nat):(mk B d h).frozen? ⟨b,o,none⟩=false:=by
 obtain⟨T,e⟩:=H
 have:(mk B d h).heap[b]?=some (.cells cs T (0,0)):=e
 simp[World.frozen?,this]
theorem zbk{T:TypeId}(e:h[b]?=some (.cells cs T (0,0)))(ho:o<cs.size)(hv:v.oneCell'=true)(B:World)(d:Nat):
  (store ⟨b,o,none⟩ v).run P (mk B d h)=.ok () (mk B d (h.setIfInBounds b (.cells (cs.setIfInBounds o v) T (0,0)))):=by
 have hc:(mk B d h).cell? ⟨b,o,none⟩=some cs[o]:=Blk.cell (h:=h) ⟨T,e⟩ (by simp[ho])
 have hf:=zhl (o:=o) (⟨T,e⟩:Blk h b cs) B d
 have Z:(mk B d h).setCell ⟨b,o,none⟩ v=mk B d (h.setIfInBounds b (.cells (cs.setIfInBounds o v) T (0,0))):=by
  unfold World.setCell mk
  simp only
  congr 1
  have hb:b<h.size:=(Ad.1 e).1
  apply Array.ext_getElem?
  intro i
  rw[Array.getElem?_modify]
  by_cases hi:i=b
  ·subst hi
   have e':h[i]=.cells cs T (0,0):=by
    have:=AI hb
    rw[e]at this
    exact(Aq this).symm
   simp[hb,e']
  ·rw[if_neg (Ne.symm hi),AN (Ne.symm hi)]
 cases v with
 |agg x=>simp[Value.oneCell']at hv
 |tuple x=>simp[Value.oneCell']at hv
 |_=>simp only[store,Sem.run,hc,hf,Bi,if_false,Z]
theorem cells_one(hv:v.oneCell'=true):v.cells=#[v]:=by
 cases v <;> first|rfl|simp[Value.oneCell']at hv
theorem yy{t:TypeId}(hi:qf P t=true)(hs:qw P t=1)(H:Blk h b cs)(ho:o<cs.size)(hv:v.oneCell'=true){K:za->Prop}
  (hK:∀h':za,Blk h' b (cs.setIfInBounds o v)->h'.size=h.size->(∀i,i≠b->h'[i]?=h[i]?)->K h'):XRunU P (Aj t (.pointer (some ⟨b,o,none⟩)) v) h K:=by
 obtain⟨T,e⟩:=H
 have hb:b<h.size:=(Ad.1 e).1
 intro B d
 refine⟨d,_,?_,hK (h.setIfInBounds b (.cells (cs.setIfInBounds o v) T (0,0))) ⟨T,by simp[hb]⟩ (by simp) λi hi=>by rw[AN (Ne.symm hi)]⟩
 have hz:=QExec.sizeOf (P:=P) (h:=h) (y8 hi).choose_spec B d
 unfold Aj Dp
 simp only[Sem.run_bind,Sem.run_pure,Result.andThen_ok]
 unfold storeVar
 rw[Sem.run_bind,hz]
 simp only[Result.andThen_ok]
 rw[hs,cells_one hv]
 simp only[List.size_toArray,AH,CP,Az,ne_eq,not_true_eq_false,if_false]
 show Sem.run P (storeCells ⟨b,o,none⟩ [v]) _=_
 unfold storeCells
 rw[Sem.run_bind]
 have ha:(⟨b,o,none⟩:Addr).add 0=⟨b,o,none⟩:=by rw[qn];rfl
 rw[ha,zbk e ho hv B d]
 rfl
theorem Qx{P:Program}{b:Nat}{T:TypeId}(B:World)(d:Nat):∀(vs:List Value) (i:Nat) (h:za) (cs:Array Value),h[b]?=some (.cells cs T (0,0))->i+vs.length<=cs.size->(∀v∈vs,v.oneCell'=true) ->
  ∃h',(storeCells ⟨b,0,none⟩ vs i).run P (mk B d h)=.ok () (mk B d h')/\h'[b]?=some (.cells (cs.toList.take i++vs++cs.toList.drop (i+vs.length)).toArray T (0,0))/\h'.size=h.size/\∀j,j≠b->h'[j]?=h[j]?
 |[],i,h,cs,e,_,_=>⟨h,rfl,by simpa using e,rfl,λ_ _=>rfl⟩
 |v::vs,i,h,cs,e,hl,hv=>by
  have hb:b<h.size:=(Ad.1 e).1
  simp only[AH]at hl
  have h1:=zbk (P:=P) e (o:=i) (by omega) (hv v Am) B d
  have e':(h.setIfInBounds b (.cells (cs.setIfInBounds i v) T (0,0)))[b]?=some (.cells (cs.setIfInBounds i v) T (0,0)):=by simp[hb]
  have Z:i+1+vs.length<=(cs.setIfInBounds i v).size:=by rw[A7];omega
  obtain⟨h',r1,r2,r3,r4⟩:=Qx (P:=P) B d vs (i+1) (h.setIfInBounds b (.cells (cs.setIfInBounds i v) T (0,0))) (cs.setIfInBounds i v) e' Z λu hu=>hv u (Ag _ hu)
  refine⟨h',?_,?_,by rw[r3];simp,λj hj=>by rw[r4 j hj,AN (Ne.symm hj)]⟩
  ·unfold storeCells
   rw[Sem.run_bind,qn,Az,h1]
   simp only[Result.andThen_ok]
   exact r1
  ·rw[r2]
   congr 3
   have hi:i<cs.toList.length:=by simp;omega
   simp only[Array.toList_setIfInBounds,AH]
   rw[List.take_set,List.drop_set_of_lt (by omega)]
   have e2:(cs.toList.take (i+1)).set i v=cs.toList.take i++[v]:=by
    rw[AL hi,List.set_append_right _ _ (by simp;omega)]
    have:i-(cs.toList.take i).length=0:=by simp;omega
    rw[this];rfl
   rw[e2,show i+(vs.length+1)=i+1+vs.length by omega]
   simp
theorem Owns.base{h:za}{base Z:Nat}{e:TypeId}{sz:Nat}{s:Sl}{xs:List Value}(H:Owns h base e sz s xs)(hb:Z<=base):Owns h Z e sz s xs:=by
 refine⟨H.1,?_⟩
 rcases H.2 with hn|⟨g,cap,aa,hv,ab,rest⟩
 ·exact .inl hn
 ·exact .inr ⟨g,cap,aa,hv,by omega,rest⟩
end
end Go.X
end
section
namespace Go.X
variable {cs:List Value}
inductive Tr where
 |mk (kind:Int) (text:Bt) (keys:List Bt) (items:List Tr)
namespace Tr
@[reducible] def kind:Tr->Int|mk k _ _ _=>k
@[reducible] def text:Tr->Bt|mk _ s _ _=>s
@[reducible] def keys:Tr->List Bt|mk _ _ ks _=>ks
@[reducible] def items:Tr->List Tr|mk _ _ _ xs=>xs
@[simp] theorem eta(t:Tr):mk t.kind t.text t.keys t.items=t:=by cases t;rfl
instance:Inhabited Tr:=⟨mk 0 ⟨#[]⟩ [] []⟩
end Tr
inductive Ty where
 |int (k:IntKind)|bool|str|row (t:Ty)|tree|unit|pair (a b:Ty)|ptr (t:Ty)|iter|err
 deriving DecidableEq
@[reducible] def El:Ty->Type
 |.int _=>Int
 |.bool=>Bool
 |.str=>Bt
 |.row t=>List (El t)
 |.tree=>Tr
 |.unit=>Unit
 |.pair a b=>El a×El b
 |.ptr t=>El t
 |.iter=>Bt×Nat
 |.err=>Bool
def z4v:(t:Ty)->El t
 |.int _=>(0:Int)
 |.bool=>false
 |.str=>(⟨#[]⟩:Bt)
 |.row _=>[]
 |.tree=>default
 |.unit=>()
 |.pair a b=>(z4v a,z4v b)
 |.ptr t=>z4v t
 |.iter=>(⟨#[]⟩,0)
 |.err=>true
def sz:Ty->Nat
 |.tree=>4
 |.unit=>0
 |.pair a b=>sz a+sz b
 |_=>1
abbrev Fr:=Nat->Option (Array Value)
def Fr.le(M M':Fr):Prop:=∀b cs,M b=some cs->M' b=some cs
theorem Fr.le.refl(M:Fr):Fr.le M M:=λ_ _ h=>h
theorem Fr.le.trans{a b c:Fr}(h:Fr.le a b)(k:Fr.le b c):Fr.le a c:=λ_ _ e=>k _ _ (h _ _ e)
def cut(cs:Array Value)(o n:Nat):List Value:=(cs.toList.drop o).take n
def RowAt(M:Fr){α:Type}(R:α->List Value->Prop)(z:Nat)(xs:List α)(v:Value):Prop:=
 ∃a c,v=.slice a xs.length c/\(xs.length<=140737488355328/\xs.length<=c)/\(xs=[]\/∃b o cs,a=some ⟨b,o,none⟩/\M b=some cs/\∀i (h:i<xs.length),R xs[i] (cut cs (o+i*z) z))
inductive TrRd (M:Fr):Tr->List Value->Prop where
 |mk {k:Int} {s:Bt} {ks:List Bt} {xs:List Tr} {vk:Value} {a:Option Addr} {c b o:Nat} {cs:Array Value}
  (hk:RowAt M (λs cs=>cs=[.string s]) 1 ks vk) (hn:xs.length<=140737488355328/\xs.length<=c) (hz:xs=[]\/(a=some ⟨b,o,none⟩/\M b=some cs))
  (hi:∀i (h:i<xs.length),TrRd M xs[i] (cut cs (o+i*4) 4)):TrRd M (.mk k s ks xs) [.int .i64 k,.string s,vk,.slice a xs.length c]
def xg(s:Bt)(p:Nat):Value:=.iface 0 (.agg #[.string s,.int .i64 p])
def Rd(M:Fr):(t:Ty)->El t->List Value->Prop
 |.int k,i,cs=>cs=[.int k i]
 |.bool,b,cs=>cs=[.bool b]
 |.str,s,cs=>cs=[.string s]
 |.row t,xs,cs=>∃v,cs=[v]/\RowAt M (Rd M t) (sz t) xs v
 |.tree,t,cs=>TrRd M t cs
 |.unit,_,cs=>cs=[]
 |.pair a b,x,cs=>∃c1 c2,cs=c1++c2/\Rd M a x.1 c1/\Rd M b x.2 c2
 |.ptr t,x,cs=>∃b o cc,cs=[.pointer (some ⟨b,o,none⟩)]/\M b=some cc/\Rd M t x (cut cc o (sz t))
 |.iter,x,cs=>cs=[xg x.1 x.2]
 |.err,b,cs=>∃v,cs=[v]/\((b=true/\v=.nilIface)\/(b=false/\∃t u,v=.iface t u))
theorem RowAt.mono{M M':Fr}(hM:Fr.le M M'){α:Type}{R R':α->List Value->Prop}{z:Nat}{xs:List α}{v:Value}(H:RowAt M R z xs v)(hR:∀x∈xs,∀cs,R x cs->R' x cs):RowAt M' R' z xs v:=by
 obtain⟨a,c,e,hn,h⟩:=H
 refine⟨a,c,e,hn,h.imp id ?_⟩
 rintro⟨b,o,cs,e1,e2,h3⟩
 exact⟨b,o,cs,e1,hM _ _ e2,λi h=>hR _ (AP _) _ (h3 i h)⟩
theorem TrRd.mono{M M':Fr}(hM:Fr.le M M'){t:Tr}(H:TrRd M t cs):TrRd M' t cs:=by
 induction H with
 |mk hk hn hz _ ih=>exact .mk (hk.mono hM λ_ _ _ h=>h) hn (hz.imp id λh=>⟨h.1,hM _ _ h.2⟩) ih
theorem Rd.mono{M M':Fr}(hM:Fr.le M M'):∀{t:Ty} {x:El t} {cs:List Value},Rd M t x cs->Rd M' t x cs
 |.int _,_,_,h=>h
 |.bool,_,_,h=>h
 |.str,_,_,h=>h
 |.row _,_,_,⟨v,e,h⟩=>⟨v,e,h.mono hM λ_ _ _ h=>Rd.mono hM h⟩
 |.tree,_,_,h=>TrRd.mono hM h
 |.unit,_,_,h=>h
 |.pair _ _,_,_,⟨c1,c2,e,h1,h2⟩=>⟨c1,c2,e,Rd.mono hM h1,Rd.mono hM h2⟩
 |.ptr _,_,_,⟨b,o,cc,e,h1,h2⟩=>⟨b,o,cc,e,hM _ _ h1,Rd.mono hM h2⟩
 |.iter,_,_,h=>h
 |.err,_,_,h=>h
theorem Rd.len{M:Fr}:∀{t:Ty} {x:El t} {cs:List Value},Rd M t x cs->cs.length=sz t
 |.int _,_,_,h=>by rw[h];rfl
 |.bool,_,_,h=>by rw[h];rfl
 |.str,_,_,h=>by rw[h];rfl
 |.row t,_,_,⟨v,e,_⟩=>by rw[e];rfl
 |.tree,_,_,h=>by cases h;rfl
 |.unit,_,_,h=>by rw[h];rfl
 |.pair _ _,_,_,⟨c1,c2,e,h1,h2⟩=>by rw[e,Ar,Rd.len h1,Rd.len h2];rfl
 |.ptr _,_,_,⟨b,o,cc,e,_⟩=>by rw[e];rfl
 |.iter,_,_,h=>by rw[h];rfl
 |.err,_,_,⟨v,e,_⟩=>by rw[e];rfl
theorem Rd.one{M:Fr}:∀{t:Ty} {x:El t} {cs:List Value},Rd M t x cs->∀v∈cs,v.oneCell'=true
 |.int _,_,_,h=>by rw[h];simp[Value.oneCell']
 |.bool,_,_,h=>by rw[h];simp[Value.oneCell']
 |.str,_,_,h=>by rw[h];simp[Value.oneCell']
 |.row t,_,_,⟨v,e,a,c,e2,_⟩=>by rw[e,e2];simp[Value.oneCell']
 |.tree,_,_,h=>by
  cases h with
  |mk hk _ _ _=>obtain⟨a,c,e,_⟩:=hk;rw[e];simp[Value.oneCell']
 |.unit,_,_,h=>by rw[h];simp
 |.pair _ _,_,_,⟨c1,c2,e,h1,h2⟩=>by
  intro v hv
  rw[e]at hv
  rcases Av.1 hv with hv|hv
  ·exact Rd.one h1 v hv
  ·exact Rd.one h2 v hv
 |.ptr _,_,_,⟨b,o,cc,e,_⟩=>by rw[e];simp[Value.oneCell']
 |.iter,_,_,h=>by rw[h];simp[Value.oneCell',xg]
 |.err,_,_,⟨v,e,h⟩=>by
  rw[e]
  rcases h with⟨_,rfl⟩|⟨_,t,u,rfl⟩ <;> simp[Value.oneCell']
theorem TrRd.keys{M:Fr}{t:Tr}(H:TrRd M t cs):∃vk vi,cs=[.int .i64 t.kind,.string t.text,vk,vi]/\Rd M (.row .str) t.keys [vk]/\Rd M (.row .tree) t.items [vi]:=by
 cases H with
 | @mk k s ks xs vk a c b o cs hk hn hz hi=>
  exact⟨vk,_,rfl,⟨vk,rfl,hk⟩,⟨_,rfl,a,c,rfl,hn,hz.imp id λh=>⟨b,o,cs,h.1,h.2,hi⟩⟩⟩
theorem TrRd.of{M:Fr}{k:Int}{s:Bt}{ks:List Bt}{xs:List Tr}{vk vi:Value}(h1:Rd M (.row .str) ks [vk])(h2:Rd M (.row .tree) xs [vi]):TrRd M (.mk k s ks xs) [.int .i64 k,.string s,vk,vi]:=by
 obtain⟨v,e,h1⟩:=h1
 obtain⟨v',e',a,c,e2,hn,h2⟩:=h2
 cases e;cases e';subst e2
 rcases h2 with rfl|⟨b,o,cs,e1,e2,h3⟩
 ·exact .mk (b:=0) (o:=0) (cs:=#[]) h1 hn (.inl rfl) λi h=>absurd h (by simp)
 ·exact .mk h1 hn (.inr ⟨e1,e2⟩) h3
def Bd:(t:Ty)->El t->Prop
 |.row _,xs=>xs.length<=140737488355328
 |.tree,t=>t.keys.length<=140737488355328/\t.items.length<=140737488355328
 |.pair a b,x=>Bd a x.1/\Bd b x.2
 |_,_=>True
theorem Rd.bd{M:Fr}:∀{t:Ty} {x:El t} {cs:List Value},Rd M t x cs->Bd t x
 |.int _,_,_,_=>trivial
 |.bool,_,_,_=>trivial
 |.str,_,_,_=>trivial
 |.row t,_,_,⟨v,_,a,c,_,h,_⟩=>h.1
 |.tree,_,_,h=>by
  cases h with
  |mk hk hn _ _=>obtain⟨a,c,e,h,_⟩:=hk;exact⟨h.1,hn.1⟩
 |.unit,_,_,_=>trivial
 |.pair _ _,_,_,⟨_,_,_,h1,h2⟩=>⟨Rd.bd h1,Rd.bd h2⟩
 |.ptr _,_,_,_=>trivial
 |.iter,_,_,_=>trivial
 |.err,_,_,_=>trivial
inductive AA where
 |v (x:Value)
 |d (t:Ty) (x:El t)
 |box (c o:Nat)
 |own (c:Nat)
 |oelt (c z:Nat) (i:Nat) (o:Nat)
 |elt (t:Ty) (x:El t) (o:Nat)
 |dc (t:Ty) (xs:List (El t))
inductive AG where
 |a (x:AA)
 |agg (l:List AA)
inductive AV where
 |g (x:AG)
 |tup (l:List AG)
 |nx (b:Bool) (p:Int) (c:Int)
structure Gh where
 M:Fr
 β:Nat->Nat
 σ:Nat->Sl
def All2{α β:Type}(R:α->β->Prop):List α->List β->Prop
 |[],[]=>True
 |x::xs,y::ys=>R x y/\All2 R xs ys
 |_,_=>False
def slV(s:Sl):Value:=.slice s.a s.len s.cap
def DenA(γ:Gh):AA->Value->Prop
 |.v x,u=>u=x
 |.d t x,u=>Rd γ.M t x [u]
 |.box c o,u=>u=.pointer (some ⟨γ.β c,o,none⟩)
 |.own c,u=>u=slV (γ.σ c)
 |.oelt c z i o,u=>∃g,(γ.σ c).a=some ⟨g,0,none⟩/\u=.pointer (some ⟨g,i*z+o,none⟩)
 |.elt t x o,u=>∃b f cs,u=.pointer (some ⟨b,f+o,none⟩)/\γ.M b=some cs/\Rd γ.M t x (cut cs f (sz t))
 |.dc t xs,u=>∃s:Sl,u=slV s/\s.cap=s.len/\Rd γ.M (.row t) xs [u]
def DenG(γ:Gh):AG->Value->Prop
 |.a x,u=>DenA γ x u
 |.agg l,u=>∃us,u=.agg us.toArray/\All2 (DenA γ) l us
def DenV(γ:Gh):AV->Value->Prop
 |.g x,u=>DenG γ x u
 |.tup l,u=>∃us,u=.tuple us.toArray/\All2 (DenG γ) l us
 |.nx b p c,u=>(b=true->u=.tuple #[.bool true,.int .i64 p,.int .i32 c])/\(b=false->u=.tuple #[.bool false])
theorem All2.length{α β:Type}{R:α->β->Prop}:∀{l:List α} {m:List β},All2 R l m->l.length=m.length
 |[],[],_=>rfl
 |[],_::_,h=>h.elim
 |_::_,[],h=>h.elim
 |_::_,_::_,h=>by simp[All2.length h.2]
theorem All2.imp{α β:Type}{R R':α->β->Prop}:∀{l:List α} {m:List β},All2 R l m->(∀x∈l,∀y,R x y->R' x y)->All2 R' l m
 |[],[],_,_=>trivial
 |[],_::_,h,_=>h.elim
 |_::_,[],h,_=>h.elim
 |_::_,_::_,h,k=>⟨k _ Am _ h.1,All2.imp h.2 λx hx y hy=>k x (Ag _ hx) y hy⟩
theorem All2.append{α β:Type}{R:α->β->Prop}:∀{l l':List α} {m m':List β},All2 R l m->All2 R l' m'->All2 R (l++l') (m++m')
 |[],_,[],_,_,h=>h
 |[],_,_::_,_,h,_=>h.elim
 |_::_,_,[],_,h,_=>h.elim
 |_::_,_,_::_,_,h,k=>⟨h.1,All2.append h.2 k⟩
theorem All2.take{α β:Type}{R:α->β->Prop}:∀(n:Nat) {l:List α} {m:List β},All2 R l m->All2 R (l.take n) (m.take n)
 |0,_,_,_=>by simp[All2]
 |_+1,[],[],_=>trivial
 |_+1,[],_::_,h=>h.elim
 |_+1,_::_,[],h=>h.elim
 |n+1,_::_,_::_,h=>⟨h.1,All2.take n h.2⟩
theorem All2.drop{α β:Type}{R:α->β->Prop}:∀(n:Nat) {l:List α} {m:List β},All2 R l m->All2 R (l.drop n) (m.drop n)
 |0,_,_,h=>by simpa using h
 |_+1,[],[],_=>trivial
 |_+1,[],_::_,h=>h.elim
 |_+1,_::_,[],h=>h.elim
 |n+1,_::_,_::_,h=>by simpa using All2.drop n h.2
theorem All2.get{α β:Type}{R:α->β->Prop}:∀{l:List α} {m:List β} {i:Nat} {x:α},All2 R l m->l[i]?=some x->∃y,m[i]?=some y/\R x y
 |[],[],_,_,_,h=>by simp at h
 |[],_::_,_,_,h,_=>h.elim
 |_::_,[],_,_,h,_=>h.elim
 |_::_,y::_,0,_,h,e=>by simp at e;subst e;exact⟨y,rfl,h.1⟩
 |_::_,_::_,i+1,_,h,e=>by simpa using All2.get h.2 (by simpa using e)
def Yb:(t:Ty)->El t->List AA
 |.int k,i=>[.v (.int k i)]
 |.bool,b=>[.v (.bool b)]
 |.str,s=>[.v (.string s)]
 |.row t,xs=>[.d (.row t) xs]
 |.tree,t=>[.v (.int .i64 t.kind),.v (.string t.text),.d (.row .str) t.keys,.d (.row .tree) t.items]
 |.unit,_=>[]
 |.pair a b,x=>Yb a x.1++Yb b x.2
 |.ptr t,x=>[.elt t x 0]
 |.iter,x=>[.d .iter x]
 |.err,x=>[.d .err x]
theorem wl{γ:Gh}:∀{t:Ty} {x:El t} {cs:List Value},Rd γ.M t x cs->All2 (DenA γ) (Yb t x) cs
 |.int _,_,_,h=>by rw[h];exact⟨rfl,trivial⟩
 |.bool,_,_,h=>by rw[h];exact⟨rfl,trivial⟩
 |.str,_,_,h=>by rw[h];exact⟨rfl,trivial⟩
 |.row t,_,_,⟨v,e,h⟩=>by rw[e];exact⟨⟨v,rfl,h⟩,trivial⟩
 |.tree,_,_,h=>by
  obtain⟨vk,vi,e,h1,h2⟩:=TrRd.keys h
  rw[e];exact⟨rfl,rfl,h1,h2,trivial⟩
 |.unit,_,_,h=>by rw[h];trivial
 |.pair _ _,_,_,⟨c1,c2,e,h1,h2⟩=>by rw[e];exact(wl h1).append (wl h2)
 |.ptr t,x,_,⟨b,o,cc,e,h1,h2⟩=>by rw[e];exact⟨⟨b,o,cc,rfl,h1,h2⟩,trivial⟩
 |.iter,x,_,h=>by rw[h];exact⟨rfl,trivial⟩
 |.err,x,_,⟨v,e,h⟩=>by rw[e];exact⟨⟨v,rfl,h⟩,trivial⟩
def znu:Ty->Bool
 |.iter=>true
 |.err=>true
 |.pair a b=>bif znu a then true else znu b
 |_=>false
theorem Rd.noIt{M:Fr}:∀{t:Ty} {x:El t} {cs:List Value},znu t=false->Rd M t x cs->∀s p,xg s p∉cs
 |.int _,_,_,_,h,s,p=>by rw[h];simp[xg]
 |.bool,_,_,_,h,s,p=>by rw[h];simp[xg]
 |.str,_,_,_,h,s,p=>by rw[h];simp[xg]
 |.row t,_,_,_,⟨v,e,a,c,e2,_⟩,s,p=>by rw[e,e2];simp[xg]
 |.tree,_,_,_,h,s,p=>by
  cases h with
  |mk hk _ _ _=>obtain⟨a,c,e,_⟩:=hk;rw[e];simp[xg]
 |.unit,_,_,_,h,s,p=>by rw[h];simp
 |.pair a b,_,_,hi,⟨c1,c2,e,h1,h2⟩,s,p=>by
  simp only[znu]at hi
  cases ha:znu a with
  |true=>rw[ha]at hi;cases hi
  |false=>
   rw[ha]at hi
   rw[e]
   intro hm
   rcases Av.1 hm with hm|hm
   ·exact Rd.noIt ha h1 s p hm
   ·exact Rd.noIt hi h2 s p hm
 |.ptr _,_,_,_,⟨b,o,cc,e,_⟩,s,p=>by rw[e];simp[xg]
 |.iter,_,_,hi,_,_,_=>by cases hi
 |.err,_,_,hi,_,_,_=>by cases hi
def itB:List AA->Bool
 |[.d t _]=>znu t
 |[.v (.iface _ _)]=>true
 |_=>false
theorem zpv{γ:Gh}{l:List AA}{us:List Value}(h:itB l=false)(hd:All2 (DenA γ) l us)(s:Bt)(p:Nat):us≠[xg s p]:=by
 intro e
 subst e
 match l,hd with
 |[x],hd=>
  cases x with
  |v y=>rw[<-show xg s p=y from hd.1]at h;simp[itB,xg]at h
  |d t y=>exact Rd.noIt (show znu t=false from h) (show Rd γ.M t y [xg s p]from hd.1) s p (by simp)
  |box c o=>have:xg s p=_:=hd.1;simp[xg]at this
  |own c=>have:xg s p=_:=hd.1;simp[xg,slV]at this
  |oelt c z i o=>obtain⟨g,_,e⟩:=hd.1;simp[xg]at e
  |elt t y o=>obtain⟨b,f,cs,e,_⟩:=hd.1;simp[xg]at e
  |dc t xs=>obtain⟨s',e,_⟩:=hd.1;simp[xg,slV]at e
 |[],hd=>exact hd.elim
 |_::_::_,hd=>exact hd.2.elim
inductive Ch where
 |box (l:List AA)
 |row (e:TypeId) (t:Ty) (xs:List (El t))
 |fz (t:Ty) (xs:List (El t))
abbrev CS:=List (Nat×Ch)
def Z1:CS->Nat->Option Ch
 |[],_=>none
 |(j,k)::l,i=>bif Nat.beq i j then some k else Z1 l i
theorem qb{l:CS}{i:Nat}{k:Ch}(h:Z1 l i=some k):(i,k)∈l:=by
 induction l with
 |nil=>cases h
 |cons x l ih=>
  obtain⟨j,k'⟩:=x
  simp only[Z1]at h
  by_cases hb:Nat.beq i j=true
  ·simp only[hb,cond_true,Ab]at h
   subst h
   rw[Ah hb];exact Am
  ·simp only[hb,cond_false]at h
   exact Ag _ (ih h)
def Za(t t':Ty)(x:El t):Option (El t'):=if h:t=t' then some (h ▸ x)else none
theorem Y2{M:Fr}{t t':Ty}{x:El t}{y:El t'}(h:Za t t' x=some y)(r:Rd M t x cs):Rd M t' y cs:=by
 unfold Za at h
 split at h
 ·rename_i e
  subst e
  simp only[Ab]at h
  subst h;exact r
 ·cases h
def zgr(cs:CS):(t:Ty)->AA->Option (El t)
 |.int k,.v (.int k' i)=>if k=k' then some i else none
 |.bool,.v (.bool b)=>some b
 |.str,.v (.string s)=>some s
 |.row t,.v (.slice none 0 0)=>some ([]:List (El t))
 |.row t,.d t' x=>Za t' (.row t) x
 |.row t,.dc t' x=>Za (.row t') (.row t) x
 |.row t,.own c=>match Z1 cs c with
  |some (.fz t' xs)=>Za (.row t') (.row t) xs
  |_=>none
 |.ptr t,.elt t' x 0=>Za t' t x
 |.ptr t,.d t' x=>Za t' (.ptr t) x
 |.iter,.d t' x=>Za t' .iter x
 |.err,.d t' x=>Za t' .err x
 |.err,.v .nilIface=>some true
 |.err,.v (.iface _ _)=>some false
 |_,_=>none
def collect(cs:CS):(t:Ty)->List AA->Option (El t×List AA)
 |.unit,l=>some ((),l)
 |.pair a b,l=>match collect cs a l with
  |some (x,l')=>match collect cs b l' with
   |some (y,l'')=>some ((x,y),l'')
   |none=>none
  |none=>none
 |.tree,k::s::ks::xs::l=>match zgr cs (.int .i64) k,zgr cs .str s,zgr cs (.row .str) ks,zgr cs (.row .tree) xs with
  |some k,some s,some ks,some xs=>some (Tr.mk k s ks xs,l)
  |_,_,_,_=>none
 |.tree,_=>none
 |t,x::l=>match zgr cs t x with
  |some y=>some (y,l)
  |none=>none
 |_,[]=>none
def zxo(γ:Gh)(cs:CS):Prop:=∀c t xs,(c,Ch.fz t xs)∈cs->Rd γ.M (.row t) xs [slV (γ.σ c)]
theorem ji{γ:Gh}{cs:CS}(hf:zxo γ cs){t:Ty}{x:AA}{y:El t}(h:zgr cs t x=some y){u:Value}(hd:DenA γ x u):Rd γ.M t y [u]:=by
 unfold zgr at h
 split at h
 ·split at h
  ·rename_i hk;simp only[Ab]at h;subst h;subst hk;exact congrArg (λu=>[u]) hd
  ·cases h
 ·simp only[Ab]at h;subst h;exact congrArg (λu=>[u]) hd
 ·simp only[Ab]at h;subst h;exact congrArg (λu=>[u]) hd
 ·simp only[Ab]at h;subst h
  exact⟨u,rfl,none,0,hd,by simp,.inl rfl⟩
 ·exact Y2 h hd
 ·obtain⟨s,_,_,hd⟩:=hd
  exact Y2 h hd
 ·split at h
  ·rename_i t' xs Z
   rw[show u=_ from hd]
   exact Y2 h (hf _ _ _ (qb Z))
  ·cases h
 ·rename_i t t' x
  obtain⟨b,f,cs',e,h1,h2⟩:=hd
  exact⟨b,f,cs',by rw[e];rfl,h1,by
   unfold Za at h
   split at h
   ·rename_i e;subst e;simp only[Ab]at h;subst h;exact h2
   ·cases h⟩
 ·exact Y2 h hd
 ·exact Y2 h hd
 ·exact Y2 h hd
 ·simp only[Ab]at h;subst h;exact⟨u,rfl,.inl ⟨rfl,hd⟩⟩
 ·rename_i t' x';simp only[Ab]at h;subst h;exact⟨u,rfl,.inr ⟨rfl,_,_,hd⟩⟩
 ·cases h
theorem Yc{γ:Gh}{cs:CS}(hf:zxo γ cs):∀{t:Ty} {l l':List AA} {y:El t},collect cs t l=some (y,l')->∀{us:List Value},All2 (DenA γ) l us->∃c1 c2,us=c1++c2/\Rd γ.M t y c1/\All2 (DenA γ) l' c2
 |.unit,l,l',y,h,us,hu=>by
  simp only[collect,Ab,Bq]at h
  obtain⟨_,rfl⟩:=h
  exact⟨[],us,rfl,rfl,hu⟩
 |.pair a b,l,l',y,h,us,hu=>by
  simp only[collect]at h
  split at h
  ·rename_i x l1 h1
   split at h
   ·rename_i z l2 h2
    simp only[Ab,Bq]at h
    obtain⟨rfl,rfl⟩:=h
    obtain⟨c1,c2,rfl,r1,r2⟩:=Yc hf h1 hu
    obtain⟨c3,c4,rfl,r3,r4⟩:=Yc hf h2 r2
    exact⟨c1++c3,c4,by simp,⟨c1,c3,rfl,r1,r3⟩,r4⟩
   ·cases h
  ·cases h
 |.tree,l,l',y,h,us,hu=>by
  match l,us,hu,h with
  |k::s::ks::xs::l,u1::u2::u3::u4::us,hu,h=>
   simp only[collect]at h
   split at h
   ·rename_i k' s' ks' Z h1 h2 h3 h4
    simp only[Ab,Bq]at h
    obtain⟨rfl,rfl⟩:=h
    obtain⟨d1,d2,d3,d4,d5⟩:=hu
    have r1:=ji hf h1 d1
    have r2:=ji hf h2 d2
    have r3:=ji hf h3 d3
    have r4:=ji hf h4 d4
    refine⟨[u1,u2,u3,u4],us,rfl,?_,d5⟩
    have e1:[u1]=[D4 .i64 k']:=r1
    have e2:[u2]=[Dh s']:=r2
    cases e1;cases e2
    exact TrRd.of r3 r4
   ·cases h
  |[],_,_,h=>simp[collect]at h
  |[_],_,_,h=>simp[collect]at h
  |[_,_],_,_,h=>simp[collect]at h
  |[_,_,_],_,_,h=>simp[collect]at h
  |_::_::_::_::_,[],hu,_=>exact hu.elim
  |_::_::_::_::_,[_],hu,_=>exact hu.2.elim
  |_::_::_::_::_,[_,_],hu,_=>exact hu.2.2.elim
  |_::_::_::_::_,[_,_,_],hu,_=>exact hu.2.2.2.elim
 |.int k,x::l,l',y,h,u::us,hu=>by
  simp only[collect]at h
  split at h
  ·rename_i z hz;simp only[Ab,Bq]at h;obtain⟨rfl,rfl⟩:=h
   exact⟨[u],us,rfl,ji hf hz hu.1,hu.2⟩
  ·cases h
 |.bool,x::l,l',y,h,u::us,hu=>by
  simp only[collect]at h
  split at h
  ·rename_i z hz;simp only[Ab,Bq]at h;obtain⟨rfl,rfl⟩:=h
   exact⟨[u],us,rfl,ji hf hz hu.1,hu.2⟩
  ·cases h
 |.str,x::l,l',y,h,u::us,hu=>by
  simp only[collect]at h
  split at h
  ·rename_i z hz;simp only[Ab,Bq]at h;obtain⟨rfl,rfl⟩:=h
   exact⟨[u],us,rfl,ji hf hz hu.1,hu.2⟩
  ·cases h
 |.row _,x::l,l',y,h,u::us,hu=>by
  simp only[collect]at h
  split at h
  ·rename_i z hz;simp only[Ab,Bq]at h;obtain⟨rfl,rfl⟩:=h
   exact⟨[u],us,rfl,ji hf hz hu.1,hu.2⟩
  ·cases h
 |.ptr _,x::l,l',y,h,u::us,hu=>by
  simp only[collect]at h
  split at h
  ·rename_i z hz;simp only[Ab,Bq]at h;obtain⟨rfl,rfl⟩:=h
   exact⟨[u],us,rfl,ji hf hz hu.1,hu.2⟩
  ·cases h
 |.iter,x::l,l',y,h,u::us,hu=>by
  simp only[collect]at h
  split at h
  ·rename_i z hz;simp only[Ab,Bq]at h;obtain⟨rfl,rfl⟩:=h
   exact⟨[u],us,rfl,ji hf hz hu.1,hu.2⟩
  ·cases h
 |.iter,_::_,_,_,_,[],hu=>hu.elim
 |.iter,[],_,_,h,_,_=>by simp[collect]at h
 |.err,x::l,l',y,h,u::us,hu=>by
  simp only[collect]at h
  split at h
  ·rename_i z hz;simp only[Ab,Bq]at h;obtain⟨rfl,rfl⟩:=h
   exact⟨[u],us,rfl,ji hf hz hu.1,hu.2⟩
  ·cases h
 |.err,_::_,_,_,_,[],hu=>hu.elim
 |.err,[],_,_,h,_,_=>by simp[collect]at h
 |.int _,_::_,_,_,_,[],hu=>hu.elim
 |.bool,_::_,_,_,_,[],hu=>hu.elim
 |.str,_::_,_,_,_,[],hu=>hu.elim
 |.row _,_::_,_,_,_,[],hu=>hu.elim
 |.ptr _,_::_,_,_,_,[],hu=>hu.elim
 |.int _,[],_,_,h,_,_=>by simp[collect]at h
 |.bool,[],_,_,h,_,_=>by simp[collect]at h
 |.str,[],_,_,h,_,_=>by simp[collect]at h
 |.row _,[],_,_,h,_,_=>by simp[collect]at h
 |.ptr _,[],_,_,h,_,_=>by simp[collect]at h
end Go.X
end
