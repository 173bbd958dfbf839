/- A part of the proof: nothing is stated here for its own sake. -/
import Derived.Deep.Quiet
import Derived.StillTail
import Derived.Laws.Strings
import Derived.Laws.Cover3
import Derived.Laws.Pointers
import Derived.Laws.OwnMore
open _root_.Go.Addr renaming add->AD
open _root_.Array renaming getD_eq_getD_getElem?->BO,getElem?_append_left->CN,getElem?_eq_getElem->A0,getElem?_eq_some_iff->Au,getElem?_push->Cq,getElem?_setIfInBounds_ne->A3,getElem?_toList->BI,replicate->Br,size_setIfInBounds->Bm
open _root_.Bool renaming and_eq_true->BP,eq_iff_iff->A6,false_eq_true->Bv,false_or->DD,not_eq_true'->Dh,not_true->Ek,true_and->Dj
open _root_.Go.Builtin renaming append_->AU,firstCells->CZ,len_->DT
open _root_.Classical renaming byContradiction->CU
open _root_.Go.Code renaming cond->Ei,region->Em
open _root_.Go.Deferred renaming ofValue->DU
open _root_.Go.Instr renaming findNow->DZ,indexAt->Ej,loadAt->DR,mapUpdate->D4,next->Ea,sliceAt->DY,storeAt->AI,sureAddr->DJ
open _root_.Go.IntKind renaming bits->AB,signed->Do,wrap->Ar
open _root_.List renaming all_eq_true->A5,cons_append->A8,drop_eq_getElem_cons->A9,drop_left->De,eq_nil_iff_forall_not_mem->CY,eq_nil_of_length_eq_zero->Bb,getElem?_append_right->Bf,getElem?_drop->AY,getElem?_eq_getElem->AE,getElem?_eq_none->Ce,getElem?_eq_some_iff->AQ,getElem?_take->AR,getElem_mem->BG,getElem_of_mem->BR,length_append->AF,length_cons->AN,length_eq_zero_iff->Bj,length_erase_of_mem->C3,length_nil->Bh,length_range->DG,mapM_cons->Ee,map_cons->Cf,mem_append->AP,mem_append_left->AJ,mem_append_right->AO,mem_cons->Ay,mem_cons_of_mem->Aw,mem_cons_self->AC,mem_of_getElem?->Bl,mem_range->BF,nil_append->BV,nodup_append->Ck,nodup_cons->D5,nodup_range->Dm,pairwise_append->CH,pairwise_cons->BW,range->BS,take_append_drop->Cm,take_left->Dn,take_succ_cons->Bw,take_succ_eq_append_getElem->Ba,take_zero->Ed
open _root_.List.cons renaming injEq->Ca
open _root_.Nat renaming add_mul->Cp,add_sub_cancel_left->Dl,add_zero->CM,blt_eq->CC,eq_of_beq_eq_true->Az,eq_or_lt_of_le->Du,eq_zero_or_pos->Dx,le_of_ble_eq_true->Cd,le_refl->Av,le_trans->Ec,lt_of_lt_of_le->Dr,lt_or_ge->A1,mul_le_mul_right->AZ,strongRecOn->DC,sub_zero->Dv,zero_add->AX,zero_le->Da
open _root_.Go.Next renaming value->Dt
open _root_.Go.Op renaming equal->Er
open _root_.Option renaming bind_some->CX
open _root_.Option.some renaming inj->AL,injEq->As
open _root_.Prod.mk renaming injEq->Bn
open _root_.Pure renaming pure->Dg
open _root_.Go.Region renaming wanted->BD
open _root_.Go.Result.ok renaming injEq->Eo
open _root_.Go.Value renaming int->Ep,string->Dw
open _root_.Go.Value.slice renaming injEq->A4
set_option linter.unusedVariables false
set_option maxRecDepth 100000
namespace Go.X
end Go.X
namespace Go.Proofs
end Go.Proofs
open Go Go.X Go.Proofs
section
namespace Go.X
section
abbrev Bt:= ByteArray
variable {i n m:Nat} {v u:Value} {a:Act} {o:Oper}
abbrev Za:=Array Obj
abbrev Zr:=List (Nat×Bool)
abbrev Env:=List (Nat×Zr×Value)
def mk(B:World)(d:Nat)(h:Za):World:={ B with heap:=h,drawn:=d }
def look:Env->Nat->Option (Zr×Value)
 |[],_=>none
 |(j,c,v)::e,i=>bif Nat.beq i j then some (c,v)else look e i
def valid(σ:Nat->Value):Zr->Prop
 |[]=>True
 |(g,p)::c=>σ g=.bool p/\valid σ c
def Zl(a:Act)(i:Nat):Value:=a.tmps.getD i undef
def fact(σ:Nat->Value)(x:Nat×Zr×Value):Prop:=(valid σ x.2.1->σ x.1=x.2.2)/\(¬valid σ x.2.1->σ x.1=undef)
structure Sat (n:Nat) (e:Env) (a:Act):Prop where
 defers:a.defers=[]
 size:a.tmps.size=n
 all:∀x∈e,fact (Zl a) x
def mentions:Zr->Nat->Bool
 |[],_=>false
 |(g,_)::c,i=>bif Nat.beq i g then true else mentions c i
def del:Env->Nat->Env
 |[],_=>[]
 |(j,c,v)::e,i=>bif (bif Nat.beq i j then true else mentions c i)then del e i else(j,c,v)::del e i
def put(e:Env)(i:Nat)(c:Zr)(v:Value):Env:=(i,c,v)::del e i
def putO(e:Env):Option Nat->Zr->Value->Env
 |none,_,_=>e
 |some d,c,v=>put e d c v
def clean:Env->Env
 |[]=>[]
 |(j,[],v)::e=>(j,[],v)::clean e
 |(_,_::_,_)::e=>clean e
theorem zcr{e:Env}{c:Zr}(h:look e i=some (c,v)):(i,c,v)∈e:=by
 induction e with
 |nil=>cases h
 |cons x e ih=>
  obtain⟨j,cj,vj⟩:=x
  simp only[look]at h
  by_cases hb:Nat.beq i j=true
  ·simp only[hb,cond_true,As,Bn]at h
   obtain⟨rfl,rfl⟩:=h
   rw[Az hb]
   exact AC
  ·simp only[hb,cond_false]at h
   exact Aw _ (ih h)
theorem z5p{e:Env}{x:Nat×Zr×Value}(h:x∈del e i):x∈e/\x.1≠i/\mentions x.2.1 i=false:=by
 induction e with
 |nil=>cases h
 |cons y e ih=>
  obtain⟨j,cj,vj⟩:=y
  simp only[del]at h
  by_cases hb:Nat.beq i j=true
  ·simp only[hb,cond_true]at h
   exact⟨Aw _ (ih h).1,(ih h).2⟩
  ·have ab:Nat.beq i j=false:=Bool.eq_false_iff.2 hb
   simp only[ab,cond_false]at h
   by_cases hm:mentions cj i=true
   ·simp only[hm,cond_true]at h
    exact⟨Aw _ (ih h).1,(ih h).2⟩
   ·have Z:mentions cj i=false:=by simpa using hm
    simp only[Z,cond_false]at h
    rcases Ay.1 h with rfl|h
    ·refine⟨AC,λaa=>?_,Z⟩
     simp only at aa
     rw[aa]at hb
     exact hb (by simp)
    ·exact⟨Aw _ (ih h).1,(ih h).2⟩
theorem zw0{e:Env}{x:Nat×Zr×Value}(h:x∈clean e):x∈e/\x.2.1=[]:=by
 induction e with
 |nil=>cases h
 |cons y e ih=>
  obtain⟨j,cj,vj⟩:=y
  cases cj with
  |nil=>
   simp only[clean]at h
   rcases Ay.1 h with rfl|h
   ·exact⟨AC,rfl⟩
   ·exact⟨Aw _ (ih h).1,(ih h).2⟩
  |cons c cs=>
   simp only[clean]at h
   exact⟨Aw _ (ih h).1,(ih h).2⟩
theorem Sat.sub{e e':Env}(h:Sat n e a)(hs:∀x∈e',x∈e):Sat n e' a:=⟨h.defers,h.size,λx hx=>h.all x (hs x hx)⟩
theorem Sat.clean{n:Nat}{e:Env}{a:Act}(h:Sat n e a):Sat n (clean e) a:=h.sub λ_ hx=>(zw0 hx).1
theorem Js{σ τ:Nat->Value}{c:Zr}(hm:mentions c i=false)(h:∀j,j≠i->σ j=τ j):valid σ c↔valid τ c:=by
 induction c with
 |nil=>exact Iff.rfl
 |cons x c ih=>
  obtain⟨g,p⟩:=x
  simp only[mentions]at hm
  by_cases hb:Nat.beq i g=true
  ·simp[hb]at hm
  ·simp only[hb,cond_false]at hm
   have hg:g≠i:=λe=>hb (by rw[e];simp)
   simp only[valid,h g hg,ih hm]
theorem Z4(hi:i<a.tmps.size):Zl (a.put (some i) u) i=u:=by
 simp[Zl,Act.put,hi]
theorem Zz{i j:Nat}(h:j≠i):Zl (a.put (some i) u) j=Zl a j:=by
 simp[Zl,Act.put,A3 (Ne.symm h)]
theorem size_put(a:Act)(d:Option Nat)(u:Value):(a.put d u).tmps.size=a.tmps.size:=by
 cases d <;> simp[Act.put]
theorem Zs(a:Act)(d:Option Nat)(u:Value):(a.put d u).defers=a.defers:=by
 cases d <;> simp[Act.put]
theorem Sat.put{n:Nat}{e:Env}{a:Act}(h:Sat n e a){i:Nat}{c:Zr}{v u:Value}(hi:i<n)(hm:mentions c i=false)
  (hy:valid (Zl a) c->u=v) (hn:¬valid (Zl a) c->u=undef):Sat n (put e i c v) (a.put (some i) u):=by
 refine⟨by rw[Zs];exact h.defers,by rw[size_put];exact h.size,λx hx=>?_⟩
 have aa:i<a.tmps.size:=by rw[h.size];exact hi
 rcases Ay.1 hx with rfl|hx
 ·have hv:=Js (σ:=Zl (a.put (some i) u)) (τ:=Zl a) hm (λj hj=>Zz hj)
  refine⟨λhc=>?_,λhc=>?_⟩
  ·exact(Z4 aa).trans (hy (hv.1 hc))
  ·exact(Z4 aa).trans (hn (λZ=>hc (hv.2 Z)))
 ·obtain⟨h1,h2,h3⟩:=z5p hx
  have hv:=Js (σ:=Zl (a.put (some i) u)) (τ:=Zl a) h3 (λj hj=>Zz hj)
  have hf:=h.all x h1
  refine⟨λhc=>?_,λhc=>?_⟩
  ·exact(Zz h2).trans (hf.1 (hv.1 hc))
  ·exact(Zz h2).trans (hf.2 (λZ=>hc (hv.2 Z)))
def Z5(n:Nat)(c:Zr):Option Nat->Bool
 |none=>true
 |some d=>bif mentions c d then false else Nat.blt d n
theorem Sat.putO{n:Nat}{e:Env}{a:Act}(h:Sat n e a){d:Option Nat}{c:Zr}{v u:Value}(hd:Z5 n c d=true)
  (hy:valid (Zl a) c->u=v) (hn:¬valid (Zl a) c->u=undef):Sat n (putO e d c v) (a.put d u):=by
 cases d with
 |none=>exact h
 |some i=>
  simp only[Z5]at hd
  by_cases hm:mentions c i=true
  ·simp[hm]at hd
  ·have Z:mentions c i=false:=by simpa using hm
   simp only[Z,cond_false]at hd
   exact h.put (by simpa[CC]using hd) Z hy hn
def Jt:Zr->Zr->Bool
 |[],[]=>true
 |(g,p)::c,(g',p')::c'=>bif Nat.beq g g' then(bif p then(bif p' then Jt c c' else false)else(bif p' then false else Jt c c'))else false
 |_,_=>false
theorem X4:∀{c c':Zr},Jt c c'=true->c=c'
 |[],[],_=>rfl
 |[],_::_,h=>by simp[Jt]at h
 |_::_,[],h=>by simp[Jt]at h
 |(g,p)::c,(g',p')::c',h=>by
  simp only[Jt]at h
  by_cases hb:Nat.beq g g'=true
  ·simp only[hb,cond_true]at h
   have e1:=Az hb
   cases p <;> cases p' <;> simp at h <;> rw[e1,X4 h]
  ·simp[hb]at h
def suf(cs:Zr):Zr->Bool
 |[]=>Jt cs []
 |x::c=>bif Jt cs (x::c)then true else suf cs c
theorem X5{σ:Nat->Value}{cs:Zr}:∀{c:Zr},suf cs c=true->valid σ c->valid σ cs
 |[],h,_=>by rw[X4 h];trivial
 |x::c,h,hv=>by
  simp only[suf]at h
  by_cases hb:Jt cs (x::c)=true
  ·rw[X4 hb];exact hv
  ·simp only[hb,cond_false]at h
   exact X5 h hv.2
def zaq(e:Env)(c:Zr):Operand->Option Value
 |.tmp t=>match look e t with
  |some (cs,v)=>bif suf cs c then some v else none
  |none=>none
 |.const v=>some v
 |.global g=>some (.pointer (some ⟨g,0,none⟩))
 |.func f=>some (.func (.func f) #[] #[])
theorem Qg{e:Env}(h:Sat n e a){c:Zr}(hc:valid (Zl a) c){x:Operand}(hx:zaq e c x=some v):a.eval x=v:=by
 cases x with
 |tmp t=>
  simp only[zaq]at hx
  split at hx
  ·rename_i cs u hl
   by_cases hs:suf cs c=true
   ·simp only[hs,cond_true,As]at hx
    subst hx
    exact(h.all _ (zcr hl)).1 (X5 hs hc)
   ·simp[hs]at hx
  ·cases hx
 |const u=>simp only[zaq,As]at hx;exact hx
 |global g=>simp only[zaq,As]at hx;exact hx
 |func f=>simp only[zaq,As]at hx;exact hx
def rho(e:Env)(c:Zr)(x:Operand):Value:=match zaq e c x with
 |some v=>v
 |none=>undef
def known(e:Env)(c:Zr):List Operand->Bool
 |[]=>true
 |x::l=>match zaq e c x with
  |some _=>known e c l
  |none=>false
theorem Y2{e:Env}(h:Sat n e a){c:Zr}(hc:valid (Zl a) c){l:List Operand}(hk:known e c l=true):∀x∈l,a.eval x=rho e c x:=by
 induction l with
 |nil=>intro x hx;cases hx
 |cons y l ih=>
  intro x hx
  simp only[known]at hk
  split at hk
  ·rename_i v hv
   rcases Ay.1 hx with rfl|hx
   ·rw[Qg h hc hv];simp[rho,hv]
   ·exact ih hk x hx
  ·cases hk
def Yc:Op->Bool
 |.select _ _=>false
 |_=>true
theorem Xq{e:Env}(h:Sat n e a){c:Zr}(hc:valid (Zl a) c)(hs:Yc o.op=true)(hk:known e c o.op.operands.toList=true):
  execOp a.eval o=execOp (rho e c) o:=
 execOp_congr o (λcs b hb=>by rw[hb]at hs;cases hs) λx hx=>Y2 h hc hk x (by simpa using hx)
def Qp(ops:Array Oper)(j:Nat):Option Nat:=match ops[j]? with
 |some o=>o.dst
 |none=>none
def Xy(ops:Array Oper)(e:Env):Option (Nat×Bool)->Option Zr
 |none=>some []
 |some (j,p)=>match Qp ops j with
  |some g=>match look e g with
   |some (cg,.bool _)=>some ((g,p)::cg)
   |_=>none
  |none=>none
def zw1(e:Env):Zr->Option Bool
 |[]=>some true
 |(g,p)::c=>match look e g with
  |some (cg,.bool b)=>bif Jt cg c then(match zw1 e c with
    |some cb=>some (cb&&(bif p then b else !b))
    |none=>none)else none
  |_=>none
theorem ze1{b:Bool}:undef≠.bool b:=by simp[undef]
theorem zdm{n:Nat}{e:Env}{a:Act}(h:Sat n e a):∀{c:Zr} {b:Bool},zw1 e c=some b->(b=true↔valid (Zl a) c)
 |[],b,hb=>by simp only[zw1,As]at hb;simp[<-hb,valid]
 |(g,p)::c,b,hb=>by
  simp only[zw1]at hb
  split at hb
  ·rename_i cg bg hl
   by_cases hq:Jt cg c=true
   ·simp only[hq,cond_true]at hb
    split at hb
    ·rename_i cb Z
     simp only[As]at hb
     have ih:=zdm h Z
     have hf:=h.all _ (zcr hl)
     rw[X4 hq]at hf
     by_cases hv:valid (Zl a) c
     ·have h1:Zl a g=.bool bg:=hf.1 hv
      have h2:=ih.2 hv
      subst hb
      simp only[valid,h1,hv,h2,Dj,and_true,Value.bool.injEq]
      cases p <;> cases bg <;> simp
     ·have h1:cb=false:=by cases cb with|false=>rfl|true=>exact absurd (ih.1 rfl) hv
      subst hb
      simp[valid,hv,h1]
    ·cases hb
   ·simp[hq]at hb
  ·cases hb
theorem J8{ops:Array Oper}{e:Env}(h:Sat n e a){c:Zr}(hc:Xy ops e o.guard=some c):
  BD o (yielded ops a.tmps)=true↔valid (Zl a) c:=by
 unfold BD
 cases hg:o.guard with
 |none=>rw[hg]at hc;simp only[Xy,As]at hc;simp[<-hc,valid]
 |some jp=>
  obtain⟨j,p⟩:=jp
  rw[hg]at hc
  simp only[Xy]at hc
  split at hc
  ·rename_i g hd
   split at hc
   ·rename_i cg b hl
    simp only[As]at hc
    subst hc
    have Z:((ops[j]?).bind (·.dst))=some g:=by
     simp only[Qp]at hd
     split at hd
     ·rename_i o' aa;simp[aa,hd]
     ·cases hd
    have hf:=h.all _ (zcr hl)
    have hy:yielded ops a.tmps j=some p↔Zl a g=.bool p:=by
     unfold yielded Zl
     rw[Z]
     simp only[CX]
     cases ht:a.tmps[g]? with
     |none=>simp[BO,ht,undef]
     |some v=>cases v <;> simp[BO,ht]
    simp only[beq_iff_eq,hy,valid]
    constructor
    ·intro h1
     refine⟨h1,?_⟩
     by_cases hv:valid (Zl a) cg
     ·exact hv
     ·have:=hf.2 hv
      simp only at this
      rw[h1]at this
      exact absurd this.symm ze1
    ·exact λh1=>h1.1
   ·cases hc
  ·cases hc
structure Keep (n:Nat) (h h':Za):Prop where
 size:h.size<=h'.size
 get:∀i,i<n->h'[i]?=h[i]?
theorem Keep.refl(n:Nat)(h:Za):Keep n h h:=⟨Av _,λ_ _=>rfl⟩
theorem Keep.trans{a b c:Za}(h:Keep n a b)(k:Keep m b c)(hm:n<=m):Keep n a c:=
 ⟨Ec h.size k.size,λi hi=>(k.get i (Dr hi hm)).trans (h.get i hi)⟩
theorem Keep.mono{a b:Za}(h:Keep n a b)(hm:m<=n):Keep m a b:=⟨h.size,λi hi=>h.get i (Dr hi hm)⟩
theorem Keep.push(h:Za)(o:Obj)(hn:n<=h.size):Keep n h (h.push o):=
 ⟨by simp,λi hi=>by rw[Cq,if_neg (by omega)]⟩
end
section
variable {P:Program} {α:Type} {h:Za} {v x i:Value} {t:TypeId} {g:Option Bool} {n l r:Int}
def Ze(h:Za)(a:Addr):Option Value:=
 match h[a.block]? with
 |some (.cells c _ _)=>if a.spot.isSome then none else c[a.off]?
 |_=>none
theorem zqq(B:World)(d:Nat)(h:Za)(a:Addr):(mk B d h).cell? a=Ze h a:=rfl
def Wu(P:Program){α:Type}:Sem α->Option α
 |.pure a=>some a
 |.program k=>Wu P (k P)
 |.mark _ k=>Wu P k
 |_=>none
def QExec(P:Program){α:Type}(s:Sem α)(h:Za)(x:α):Prop:=∀B d,s.run P (mk B d h)=.ok x (mk B d h)
theorem zb0{s:Sem α}{x:α}(h:Wu P s=some x)(w:World):s.run P w=.ok x w:=by
 induction s with
 |pure a=>simp only[Wu,As]at h;subst h;rfl
 |program k ih=>exact ih P h
 |mark m k ih=>exact ih h
 |_=>simp[Wu]at h
theorem zjq{s:Sem α}{x:α}(h:Wu P s=some x)(hp:Za):QExec P s hp x:=λ_ _=>zb0 h _
theorem QExec.bind{α β:Type}{s:Sem α}{f:α->Sem β}{x:α}{y:β}(h1:QExec P s h x)(h2:QExec P (f x) h y):QExec P (s >>= f) h y:=by
 intro B d
 rw[Sem.run_bind,h1 B d]
 exact h2 B d
theorem QExec.pure(x:α):QExec P (Dg x) h x:=λ_ _=>rfl
theorem QExec.val{s:Sem Value}(h1:QExec P s h v):QExec P (s >>= λx=>Dg (Dt x)) h (Dt v):=h1.bind (QExec.pure _)
theorem QExec.underlying{d:TypeDesc}(hd:P.underlying t=some d):QExec P (Go.underlying t) h d:=by
 intro B e
 simp[Go.underlying,program,hd,Sem.run]
def Qh(P:Program)(t:TypeId):Nat:=match P.info? t with
 |some i=>i.size
 |none=>0
theorem QExec.sizeOf{i:TypeInfo}(hi:P.info? t=some i):QExec P (Go.sizeOf t) h (Qh P t):=by
 intro B d
 simp[Go.sizeOf,typeInfo,program,hi,Sem.run,Qh]
theorem info_of_underlying{d:TypeDesc}(hd:P.underlying t=some d):∃i,P.info? t=some i:=by
 unfold Program.underlying at hd
 cases h:P.info? t with
 |none=>rw[h]at hd;cases hd
 |some i=>exact⟨i,rfl⟩
inductive Atom where
 |int (k:IntKind)|bool|str|sl|mp|ptr|raw|ad
structure Sl where
 a:Option Addr
 len:Nat
 cap:Nat
@[reducible] def Atom.den:Atom->Type
 |.int _=>Int | .bool=>Bool | .str=>Bt | .sl=>Sl | .mp=>Option Nat | .ptr=>Option Addr | .raw=>Value | .ad=>Addr
def Atom.enc:(t:Atom)->t.den->Value
 |.int k,n=>.int k n
 |.bool,b=>.bool b
 |.str,s=>.string s
 |.sl,s=>.slice s.a s.len s.cap
 |.mp,m=>.map m
 |.ptr,p=>.pointer p
 |.raw,v=>v
 |.ad,p=>.pointer (some p)
def Atom.dec:(t:Atom)->Value->Option t.den
 |.int k,.int k' n=>if k=k' then some n else none
 |.bool,.bool b=>some b
 |.str,.string s=>some s
 |.sl,.slice a l c=>some ⟨a,l,c⟩
 |.mp,.map m=>some m
 |.ptr,.pointer p=>some p
 |.raw,v=>some v
 |.ad,.pointer (some p)=>some p
 |_,_=>none
theorem Atom.dec_enc(t:Atom)(x:t.den):t.dec (t.enc x)=some x:=by
 cases t <;> simp[Atom.dec,Atom.enc]
theorem Atom.enc_of_dec{t:Atom}{x:t.den}(h:t.dec v=some x):t.enc x=v:=by
 cases t with
 |ad=>
  cases v with
  |pointer p=>
   cases p with
   |none=>simp[Atom.dec]at h
   |some a=>simp[Atom.dec]at h;rw[h];rfl
  |_=>simp[Atom.dec]at h
 |_=>cases v <;> simp_all[Atom.dec,Atom.enc] <;> (subst h;first|rfl|exact⟨rfl,rfl,rfl⟩)
inductive VT where
 |one (t:Atom)
 |agg (l:List Atom)
inductive RT where
 |one (v:VT)
 |tup (l:List VT)
def zlu:List Atom->(List Value->Prop)->Prop
 |[],F=>F []
 |t::l,F=>∃x:t.den,zlu l λvs=>F (t.enc x::vs)
def qcs:VT->(Value->Prop)->Prop
 |.one t,F=>∃x:t.den,F (t.enc x)
 |.agg l,F=>zlu l λvs=>F (.agg vs.toArray)
def z5q:List VT->(List Value->Prop)->Prop
 |[],F=>F []
 |t::l,F=>qcs t λv=>z5q l λvs=>F (v::vs)
def z1c:RT->(Value->Prop)->Prop
 |.one v,F=>qcs v F
 |.tup l,F=>z5q l λvs=>F (.tuple vs.toArray)
def ze2:List Atom->(List Value->Prop)->Prop
 |[],F=>F []
 |t::l,F=>∀x:t.den,ze2 l λvs=>F (t.enc x::vs)
def zw2:VT->(Value->Prop)->Prop
 |.one t,F=>∀x:t.den,F (t.enc x)
 |.agg l,F=>ze2 l λvs=>F (.agg vs.toArray)
def zkb:List VT->(List Value->Prop)->Prop
 |[],F=>F []
 |t::l,F=>zw2 t λv=>zkb l λvs=>F (v::vs)
def z9q:RT->(Value->Prop)->Prop
 |.one v,F=>zw2 v F
 |.tup l,F=>zkb l λvs=>F (.tuple vs.toArray)
theorem W4:∀{l:List Atom} {F G:List Value->Prop},zlu l F->ze2 l G->∃vs,vs.length=l.length/\F vs/\G vs
 |[],_,_,h,g=>⟨[],rfl,h,g⟩
 |_::_,_,_,⟨x,h⟩,g=>let ⟨vs,h0,h1,h2⟩:=W4 h (g x);⟨_,by simp[h0],h1,h2⟩
theorem Ye:∀(l:List Atom),ze2 l λ_=>True
 |[]=>trivial
 |_::l=>λ_=>Ye l
theorem zqr{v:VT}{F G:Value->Prop}(h:qcs v F)(g:zw2 v G):∃u,F u/\G u:=by
 cases v with
 |one t=>obtain⟨x,h⟩:=h;exact⟨_,h,g x⟩
 |agg l=>obtain⟨vs,_,h1,h2⟩:=W4 h g;exact⟨_,h1,h2⟩
theorem zqs(v:VT):zw2 v λ_=>True:=by
 cases v with
 |one t=>exact λ_=>trivial
 |agg l=>exact Ye l
theorem zlv:∀{l:List VT} {F G:List Value->Prop},z5q l F->zkb l G->∃vs,F vs/\G vs
 |[],_,_,h,g=>⟨[],h,g⟩
 |_::_,_,_,h,g=>let ⟨_,h1,h2⟩:=zqr h g;let ⟨_,h3,h4⟩:=zlv h1 h2;⟨_,h3,h4⟩
theorem zg3:∀(l:List VT),zkb l λ_=>True
 |[]=>trivial
 |v::l=>by
  have h:=zg3 l
  simp only[zkb]
  cases v with
  |one t=>exact λ_=>h
  |agg l'=>
   simp only[zw2]
   have key:∀(l':List Atom) (f:List Value->List Value),ze2 l' λ_=>zkb l λ_=>True:=λl' _=>by
    induction l' with
    |nil=>exact h
    |cons t l' ih=>exact λ_=>ih
   exact key l' id
theorem zw3{r:RT}{F G:Value->Prop}(h:z1c r F)(g:z9q r G):∃v,F v/\G v:=by
 cases r with
 |one v=>exact zqr h g
 |tup l=>obtain⟨vs,h1,h2⟩:=zlv h g;exact⟨_,h1,h2⟩
theorem zh3{r:RT}{F:Value->Prop}(h:z1c r F):∃v,F v:=by
 cases r with
 |one v=>obtain⟨u,h1,_⟩:=zqr h (zqs v);exact⟨u,h1⟩
 |tup l=>obtain⟨vs,h1,_⟩:=zlv h (zg3 l);exact⟨_,h1⟩
def z4j:TypeDesc->Atom
 |.int k=>.int k
 |.bool=>.bool
 |.string=>.str
 |.slice _=>.sl
 |.map _ _=>.mp
 |.pointer _=>.ptr
 |_=>.raw
def zlw(P:Program):Nat->TypeId->Option (List Atom)
 |0,_=>none
 |n+1,t=>match P.underlying t with
  |some (.struct fs)=>fs.toList.foldr (λf l=>match zlw P n f.type,l with
    |some x,some y=>some (x++y)
    |_,_=>none) (some [])
  |some (.array m e)=>match zlw P n e with
    |some x=>some (List.replicate m x).flatten
    |none=>none
  |some d=>some [z4j d]
  |none=>none
def zww(P:Program)(t:TypeId):Option VT:=match P.underlying t with
 |some (.struct _)|some (.array _ _)=>match zlw P 8 t with
  |some l=>bif Nat.beq l.length (Qh P t)then some (.agg l)else none
  |none=>none
 |some d=>some (.one (z4j d))
 |none=>none
def z9r(P:Program):List TypeId->Option (List VT)
 |[]=>some []
 |t::l=>match zww P t,z9r P l with
  |some x,some y=>some (x::y)
  |_,_=>none
def z9k(P:Program)(t:TypeId):Option RT:=match P.underlying t with
 |some (.tuple ts)=>match z9r P ts.toList with
  |some l=>some (.tup l)
  |none=>none
 |_=>match zww P t with
  |some v=>some (.one v)
  |none=>none
def req:Option Bool->Prop->Prop
 |none,p=>p
 |some b,p=>b=true->p
def gok:Option Bool->Prop
 |none=>True
 |some b=>b=true
theorem req.out{p:Prop}(h:req g p)(hg:gok g):p:=by
 cases g with
 |none=>exact h
 |some b=>exact h hg
def Zb(h:Za)(p:Addr):Nat->List Value->Prop
 |_,[]=>True
 |i,v::vs=>Ze h (p.add i)=some v/\Zb h p (i+1) vs
def ld(h:Za)(p:Addr):Value->Prop
 |.agg vs=>Zb h p 0 vs.toList
 |v=>Ze h p=some v
def zlx(P:Program)(h:Za)(t:TypeId)(p:Value)(g:Option Bool)(K:Value->Prop):Prop:=
 match p,zww P t with
 |.pointer (some p),some (.one a)=>∃x:a.den,req g (Ze h p=some (a.enc x))/\K (a.enc x)
 |.pointer (some p),some (.agg l)=>zlu l λvs=>req g (Zb h p 0 vs)/\K (.agg vs.toArray)
 |_,_=>False
theorem zb1{P:Program}{h:Za}{p:Addr}:∀(vs:List Value) (i:Nat) (acc:Array Value),Zb h p i vs->QExec P (loadCellsFrom p i vs.length acc) h (acc++vs.toArray)
 |[],i,acc,_=>by intro B d;simp[loadCellsFrom]
 |v::vs,i,acc,⟨h1,h2⟩=>by
  have ih:=zb1 (P:=P) vs (i+1) (acc.push v) h2
  intro B d
  simp only[AN,loadCellsFrom,Sem.run_bind,run_load]
  rw[zqq,h1]
  simp only[Result.andThen_ok]
  rw[ih B d]
  simp
theorem ze3{a:Atom}{p:Addr}(ht:zww P t=some (.one a))(hc:Ze h p=some v):QExec P (loadVar t p) h v:=by
 unfold zww at ht
 cases hu:P.underlying t with
 |none=>rw[hu]at ht;cases ht
 |some d=>
  rw[hu]at ht
  intro B e
  have hq:=QExec.underlying (h:=h) hu B e
  have Z:(isAgg t).run P (mk B e h)=.ok false (mk B e h):=by
   unfold isAgg
   rw[Sem.run_bind,hq]
   cases d <;> first|rfl|(exfalso;revert ht;dsimp only;split <;> first|(intro h;cases h;done)|(cases hb:Nat.beq _ _ <;> intro h <;> cases h))
  unfold loadVar
  rw[Sem.run_bind,Z]
  simp only[Result.andThen_ok,Bv,if_false,run_load]
  rw[zqq,hc]
theorem ze4{l:List Atom}{p:Addr}{vs:List Value}(ht:zww P t=some (.agg l))(hl:vs.length=l.length)(hc:Zb h p 0 vs):QExec P (loadVar t p) h (.agg vs.toArray):=by
 unfold zww at ht
 cases hu:P.underlying t with
 |none=>rw[hu]at ht;cases ht
 |some d=>
  rw[hu]at ht
  obtain⟨i,hi⟩:=info_of_underlying hu
  have Z:(∃fs,d=.struct fs)\/(∃n e,d=.array n e):=by
   cases d <;> first|exact Or.inl ⟨_,rfl⟩|exact Or.inr ⟨_,_,rfl⟩|(simp at ht)
  have aa:Qh P t=l.length:=by
   have hm:(match zlw P 8 t with
     |some l=>bif Nat.beq l.length (Qh P t)then some (VT.agg l)else none
     |none=>none)=some (.agg l):=by
    rcases Z with⟨fs,rfl⟩|⟨n,e,rfl⟩ <;> exact ht
   split at hm
   ·rename_i l' _
    cases hb:Nat.beq l'.length (Qh P t)with
    |false=>rw[hb]at hm;cases hm
    |true=>
     rw[hb]at hm
     simp only[cond_true,As,VT.agg.injEq]at hm
     rw[<-hm];exact(Az hb).symm
   ·cases hm
  intro B e
  have hq:=QExec.underlying (h:=h) hu B e
  have hA:(isAgg t).run P (mk B e h)=.ok true (mk B e h):=by
   unfold isAgg
   rw[Sem.run_bind,hq]
   rcases Z with⟨fs,rfl⟩|⟨n,e',rfl⟩ <;> rfl
  have hS:=QExec.sizeOf (h:=h) hi B e
  unfold loadVar
  rw[Sem.run_bind,hA]
  simp only[Result.andThen_ok,if_true]
  rw[Sem.run_bind,hS]
  simp only[Result.andThen_ok]
  have hL:=zb1 (P:=P) vs 0 #[] hc B e
  unfold loadCells
  rw[Sem.run_bind,aa,<-hl,hL]
  simp
theorem zh4{p:Value}{K:Value->Prop}(H:zlx P h t p g K):
  ∃v,K v/\(gok g->QExec P (DR t p) h v):=by
 unfold zlx at H
 split at H
 ·rename_i q a hv
  obtain⟨x,h1,h2⟩:=H
  exact⟨_,h2,λhg=>ze3 hv (h1.out hg)⟩
 ·rename_i q l hv
  obtain⟨vs,h0,⟨h1,h2⟩,_⟩:=W4 H (Ye l)
  exact⟨_,h2,λhg=>ze4 hv h0 (h1.out hg)⟩
 ·exact H.elim
def znt(P:Program)(t:TypeId)(x i:Value)(g:Option Bool)(K:Value->Prop):Prop:=
 match P.underlying t with
 |some (.slice el)=>match x,i with
  |.slice base len _,.int _ n=>∃a:Addr,req g (base=some a/\0<=n/\n<(len:Int))/\K (.pointer (some (a.add (n.toNat*Qh P el))))
  |_,_=>False
 |some (.array len el)=>match x,i with
  |.pointer base,.int _ n=>∃a:Addr,req g (base=some a/\0<=n/\n<(len:Int))/\K (.pointer (some (a.add (n.toNat*Qh P el))))
  |_,_=>False
 |_=>False
def Z6(P:Program)(t:TypeId):Bool:=match P.info? t with
 |some _=>true
 |none=>false
theorem Q7(h:Z6 P t=true):∃i,P.info? t=some i:=by
 unfold Z6 at h
 split at h
 ·exact⟨_,by assumption⟩
 ·cases h
theorem Yy(t:TypeId)(B:World)(d:Nat):(∃i,P.info? t=some i)->(Go.sizeOf t).run P (mk B d h)=.ok (Qh P t) (mk B d h):=λ⟨_,hi⟩=>QExec.sizeOf hi B d
theorem Y6{K:Value->Prop}
  (Z:∀el,(P.underlying t=some (.slice el)\/∃n,P.underlying t=some (.array n el))->∃i,P.info? el=some i) (H:znt P t x i g K):
  ∃v,K v/\(gok g->∀h:Za,QExec P (Ej t x i) h v):=by
 unfold znt at H
 split at H
 ·rename_i el hu
  split at H
  ·rename_i base len cap k n
   obtain⟨a,h1,h2⟩:=H
   refine⟨_,h2,λhg=>?_⟩
   obtain⟨rfl,h3,h4⟩:=h1.out hg
   intro h B d
   have hq:=QExec.underlying (h:=h) hu B d
   have hs:=Yy (h:=h) el B d (Z el (Or.inl hu))
   unfold Ej
   simp[asIntOf,Sem.run_bind,hq,hs,h3,h4]
  ·exact H.elim
 ·rename_i len el hu
  split at H
  ·rename_i base k n
   obtain⟨a,h1,h2⟩:=H
   refine⟨_,h2,λhg=>?_⟩
   obtain⟨rfl,h3,h4⟩:=h1.out hg
   intro h B d
   have hq:=QExec.underlying (h:=h) hu B d
   have hs:=Yy (h:=h) el B d (Z el (Or.inr ⟨_,hu⟩))
   unfold Ej
   simp[asIntOf,Sem.run_bind,hq,hs,h3,h4,DJ]
  ·exact H.elim
 ·exact H.elim
def Zc(s:Bt)(i:Nat):Int:=((s.data[i]?.getD 0).toNat:Int)
def zh5(x i:Value)(g:Option Bool)(K:Value->Prop):Prop:=
 match x,i with
 |.string s,.int _ n=>req g (0<=n/\n<(s.size:Int))/\K (.int .u8 (Zc s n.toNat))
 |_,_=>False
theorem z9s(s:Bt)(i:Nat)(h:i<s.size):s[i]?=some (s.data[i]?.getD 0):=by
 have h':i<s.data.size:=h
 rw[getElem?_pos s i h]
 simp[A0 h']
 rfl
theorem zb2{K:Value->Prop}(hu:P.underlying t=some .string)(H:zh5 x i g K):
  ∃v,K v/\(gok g->∀h:Za,QExec P (Instr.index t x i) h v):=by
 unfold zh5 at H
 split at H
 ·rename_i s k n
  obtain⟨h1,h2⟩:=H
  refine⟨_,h2,λhg=>?_⟩
  obtain⟨h3,h4⟩:=h1.out hg
  intro h B d
  have hq:=QExec.underlying (h:=h) hu B d
  unfold Instr.index
  have hb:=z9s s n.toNat (by omega)
  simp only[asIntOf,Sem.run_bind,hq,Sem.run_pure,Result.andThen_ok,h3,if_true,hb,Zc]
 ·exact H.elim
def zjr(a:Option Addr)(sz l m:Nat):Option Addr:=if m=l then a else a.map (·.add (l*sz))
def Qz:Option Value->Int->Option Int
 |none,d=>some d
 |some (.int _ n),_=>some n
 |some _,_=>none
def zst(P:Program)(t:TypeId)(x:Value)(lo hi mx:Option Value)(g:Option Bool)(K:Value->Prop):Prop:=
 match P.underlying t with
 |some .string=>match x,mx with
  |.string s,none=>match Qz lo 0,Qz hi (s.size:Int)with
   |some l,some r=>req g (0<=l/\l<=r/\r<=(s.size:Int))/\K (.string (s.extract l.toNat r.toNat))
   |_,_=>False
  |_,_=>False
 |some (.slice el)=>match x with
  |.slice a len cap=>match Qz lo 0,Qz hi (len:Int),Qz mx (cap:Int)with
   |some l,some r,some m=>(mx=none\/∃v,hi=some v)/\req g (0<=l/\l<=r/\r<=m/\m<=(cap:Int))/\K (.slice (zjr a (Qh P el) l.toNat m.toNat) (r.toNat-l.toNat) (m.toNat-l.toNat))
   |_,_,_=>False
  |_=>False
 |some (.array n el)=>match x,mx with
  |.pointer (some a),none=>match Qz lo 0,Qz hi (n:Int)with
   |some l,some r=>req g (0<=l/\l<=r/\r<=(n:Int))/\K (.slice (zjr (some a) (Qh P el) l.toNat n) (r.toNat-l.toNat) (n-l.toNat))
   |_,_=>False
  |_,_=>False
 |_=>False
theorem Q8{v:Option Value}{d n:Int}(h:Qz v d=some n):(v=none/\n=d)\/∃k,v=some (.int k n):=by
 unfold Qz at h
 split at h
 ·exact Or.inl ⟨rfl,by simpa using h.symm⟩
 ·simp only[As]at h
  exact Or.inr ⟨_,by rw[h]⟩
 ·cases h
theorem Q2{k:IntKind}{y:Nat}{c:BoundsCode}(h0:0<=n)(h1:n<=(y:Int)):QExec P (Instr.sliceBound (.int k n) y c) h n.toNat:=by
 intro B d
 simp[Instr.sliceBound,asIntOf,h0,h1]
theorem zkc{n:Nat}{lo hi:Option Value}(hl:Qz lo 0=some l)(hr:Qz hi (n:Int)=some r)(h3:0<=l)(h4:l<=r)(h5:r<=(n:Int)):
  QExec P (Instr.sliceBounds false n n lo hi none) h (l.toNat,r.toNat,n):=by
 have e:(r.toNat:Int)=r:=Int.toNat_of_nonneg (by omega)
 rcases Q8 hl with⟨rfl,rfl⟩|⟨k,rfl⟩ <;> rcases Q8 hr with⟨rfl,rfl⟩|⟨k',rfl⟩
 ·exact QExec.pure _
 ·exact QExec.bind (QExec.pure n) (QExec.bind (Q2 (by omega) h5) (QExec.pure _))
 ·exact QExec.bind (QExec.pure n) (QExec.bind (QExec.pure n) (QExec.bind (Q2 h3 h4) (QExec.pure _)))
 ·exact QExec.bind (QExec.pure n) (QExec.bind (Q2 (by omega) h5) (QExec.bind (Q2 h3 (by omega)) (QExec.pure _)))
theorem znu{len cap:Nat}{lo hi mx:Option Value}{l r m:Int}(hl:Qz lo 0=some l)(hr:Qz hi (len:Int)=some r)(hm:Qz mx (cap:Int)=some m)
  (h0:mx=none\/∃v,hi=some v) (h3:0<=l) (h4:l<=r) (h5:r<=m) (h6:m<=(cap:Int)):
  QExec P (Instr.sliceBounds true len cap lo hi mx) h (l.toNat,r.toNat,m.toNat):=by
 have e:(r.toNat:Int)=r:=Int.toNat_of_nonneg (by omega)
 have e2:(m.toNat:Int)=m:=Int.toNat_of_nonneg (by omega)
 rcases Q8 hm with⟨rfl,rfl⟩|⟨km,rfl⟩
 ·rcases Q8 hl with⟨rfl,rfl⟩|⟨k,rfl⟩ <;> rcases Q8 hr with⟨rfl,rfl⟩|⟨k',rfl⟩
  ·exact QExec.pure _
  ·exact QExec.bind (QExec.pure cap) (QExec.bind (Q2 (by omega) h5) (QExec.pure _))
  ·exact QExec.bind (QExec.pure cap) (QExec.bind (QExec.pure len) (QExec.bind (Q2 h3 h4) (QExec.pure _)))
  ·exact QExec.bind (QExec.pure cap) (QExec.bind (Q2 (by omega) h5) (QExec.bind (Q2 h3 (by omega)) (QExec.pure _)))
 ·rcases h0 with h0|⟨v,rfl⟩
  ·cases h0
  ·rcases Q8 hr with⟨h9,_⟩|⟨k',h9⟩
   ·cases h9
   ·cases h9
    rcases Q8 hl with⟨rfl,rfl⟩|⟨k,rfl⟩
    ·exact QExec.bind (x:=m.toNat) (Q2 (by omega) h6) (QExec.bind (Q2 (by omega) (by omega)) (QExec.pure _))
    ·exact QExec.bind (x:=m.toNat) (Q2 (by omega) h6) (QExec.bind (Q2 (by omega) (by omega)) (QExec.bind (Q2 h3 (by omega)) (QExec.pure _)))
theorem Xr{lo hi mx:Option Value}{K:Value->Prop}
  (Z:∀el,(P.underlying t=some (.slice el)\/∃n,P.underlying t=some (.array n el))->∃i,P.info? el=some i) (H:zst P t x lo hi mx g K):
  ∃v,K v/\(gok g->∀h:Za,QExec P (DY t x lo hi mx) h v):=by
 unfold zst at H
 split at H
 ·rename_i hu
  split at H
  ·rename_i s
   split at H
   ·rename_i l r hl hr
    obtain⟨h1,h2⟩:=H
    refine⟨_,h2,λhg=>?_⟩
    obtain⟨h3,h4,h5⟩:=h1.out hg
    intro h B d
    have hq:=QExec.underlying (h:=h) hu B d
    have bb:=zkc (P:=P) (h:=h) hl hr h3 h4 h5 B d
    unfold DY
    rw[Sem.run_bind,hq]
    simp only[Result.andThen_ok]
    unfold Instr.slice
    rw[Sem.run_bind,hq]
    simp[bb]
   ·exact H.elim
  ·exact H.elim
 ·rename_i el hu
  split at H
  ·rename_i a len cap
   split at H
   ·rename_i l r m hl hr hm
    obtain⟨h0,h1,h2⟩:=H
    refine⟨_,h2,λhg=>?_⟩
    obtain⟨h3,h4,h5,h6⟩:=h1.out hg
    intro h B d
    have hq:=QExec.underlying (h:=h) hu B d
    have hs:=Yy (h:=h) el B d (Z el (.inl hu))
    have bb:=znu (P:=P) (h:=h) hl hr hm h0 h3 h4 h5 h6 B d
    unfold DY
    rw[Sem.run_bind,hq]
    simp only[Result.andThen_ok]
    unfold Instr.slice
    rw[Sem.run_bind,hq]
    simp[bb,hs,zjr]
   ·exact H.elim
  ·exact H.elim
 ·rename_i n el hu
  split at H
  ·rename_i a
   split at H
   ·rename_i l r hl hr
    obtain⟨h1,h2⟩:=H
    refine⟨_,h2,λhg=>?_⟩
    obtain⟨h3,h4,h5⟩:=h1.out hg
    intro h B d
    have hq:=QExec.underlying (h:=h) hu B d
    have hs:=Yy (h:=h) el B d (Z el (.inr ⟨n,hu⟩))
    have bb:=zkc (P:=P) (h:=h) hl hr h3 h4 h5 B d
    unfold DY
    rw[Sem.run_bind,hq]
    simp only[Result.andThen_ok,DJ,Sem.run_bind,Sem.run_pure,bb,hs]
    unfold zjr
    split <;> rfl
   ·exact H.elim
  ·exact H.elim
 ·exact H.elim
end
section
variable {P:Program} {f:FuncId} {h:Za} {K:Value -> Za -> Prop} {t ty t':TypeId} {g:Option Bool} {w w':World} {v:Value} {o:Oper} {ρ:Operand -> Value} {a:Act}
def XC(P:Program)(f:FuncId)(args:Array Value)(h:Za)(R:Value->Za->Prop):Prop:=
 ∀B d,Calls P f args (mk B d h) λe w'=>∃v d' h',e=.returned v/\w'=mk B d' h'/\R v h'
theorem XC.mono{args:Array Value}{R R':Value->Za->Prop}(H:XC P f args h R)(hR:∀v h',R v h'->R' v h'):XC P f args h R':=
 λB d=>(H B d).mono λ_ _ ⟨v,d',h',e1,e2,r⟩=>⟨v,d',h',e1,e2,hR _ _ r⟩
def XRun(P:Program)(s:Sem Value)(h:Za)(K:Value->Za->Prop):Prop:=∀B d,∃v d' h',s.run P (mk B d h)=.ok v (mk B d' h')/\K v h'
def XRunU(P:Program)(s:Sem Unit)(h:Za)(K:Za->Prop):Prop:=∀B d,∃d' h',s.run P (mk B d h)=.ok () (mk B d' h')/\K h'
theorem XRun.mono{s:Sem Value}{K K':Value->Za->Prop}(H:XRun P s h K)(hK:∀v h',K v h'->K' v h'):XRun P s h K':=
 λB d=>let ⟨v,d',h',e,k⟩:=H B d;⟨v,d',h',e,hK _ _ k⟩
theorem XRunU.mono{s:Sem Unit}{K K':Za->Prop}(H:XRunU P s h K)(hK:∀h',K h'->K' h'):XRunU P s h K':=
 λB d=>let ⟨d',h',e,k⟩:=H B d;⟨d',h',e,hK _ k⟩
def Qk(n:Nat):Prop:=n<=9223372036854775807
def zga(P:Program)(s:Sem Next)(K:Value->Prop):Prop:=match Wu P s with
 |some (.value v)=>K v
 |_=>False
def z1d(P:Program)(ty:TypeId)(s:Sem Value)(g:Option Bool)(h:Za)(K:Value->Prop):Prop:=match z9k P ty with
 |some rt=>z1c rt λv=>req g (QExec P s h v)/\K v
 |none=>False
def zuz(P:Program)(t:TypeId):Bool:=match P.underlying t with
 |some (.slice _)=>true
 |_=>false
def zu0(P:Program)(t:TypeId):Bool:=match P.underlying t with
 |some (.pointer e)=>Nat.beq e (P.pointee t)
 |_=>false
theorem zsu(h:zu0 P t=true):P.underlying t=some (.pointer (P.pointee t)):=by
 unfold zu0 at h
 split at h
 ·rename_i e hu;rw[hu,Az h]
 ·cases h
def qb7(P:Program)(t:TypeId)(s:Sem Next)(op:BinOp)(x y:Value)(g:Option Bool)(K:Value->Prop):Prop:=
 match op,x,y with
 |.eql,.slice a _ _,.slice none 0 0=>bif zuz P t then K (.bool a.isNone)else zga P s K
 |.neq,.slice a _ _,.slice none 0 0=>bif zuz P t then K (.bool (!a.isNone))else zga P s K
 |.eql,.pointer a,.pointer none=>bif zu0 P t then K (.bool a.isNone)else zga P s K
 |.neq,.pointer a,.pointer none=>bif zu0 P t then K (.bool (!a.isNone))else zga P s K
 |.quo,.int k a,.int k' b=>k=k'/\req g (b≠0)/\K (.int k (k.wrap (a.tdiv b)))
 |.rem,.int k a,.int k' b=>k=k'/\req g (b≠0)/\K (.int k (a.tmod b))
 |.add,.string a,.string b=>req g (Qk (a.size+b.size))/\K (.string (a++b))
 |_,_,_=>zga P s K
def z5r(op:BinOp)(y:Operand):Bool:=match y with
 |.const _=>false
 |_=>match op with
  |.shl | .shr=>true
  |_=>false
def shF(op:BinOp)(x y:Value)(g:Option Bool)(K:Value->Prop):Prop:=
 match x,y with
 |.int k a,.int _ b=>match op with
  |.shl=>req g (0<=b)/\K (.int k (k.wrap (a*2 ^ (min b.toNat k.bits))))
  |.shr=>req g (0<=b)/\K (.int k (a.fdiv (2 ^ (min b.toNat k.bits))))
  |_=>False
 |_,_=>False
def z9t(P:Program)(t:TypeId)(y:Operand):Bool:=match y with
 |.const .nilIface=>match P.underlying t with
  |some (.interface _)=>true
  |_=>false
 |_=>false
def ifc:Value->Bool
 |.nilIface=>true
 |.iface _ _=>true
 |_=>false
def z9u:Value->Bool
 |.nilIface=>true
 |_=>false
def nvF(op:BinOp)(x y:Value)(g:Option Bool)(K:Value->Prop):Prop:=match y with
 |.nilIface=>match op with
  |.eql=>req g (ifc x=true)/\K (.bool (z9u x))
  |.neq=>req g (ifc x=true)/\K (.bool (!z9u x))
  |_=>False
 |_=>False
def zkd(b:Builtin)(Z:Array TypeId)(aa:TypeId)(args:Array Value):Option (Sem Value):=
 match b with
 |.append=>some (AU Z aa args)
 |.copy=>some (Builtin.copy_ Z aa args)
 |.clear=>some (Builtin.clear_ Z aa args)
 |.delete=>some (Builtin.delete_ Z aa args)
 |.len=>some (DT Z aa args)
 |_=>none
def qct(P:Program)(s:Sem Next)(ty:TypeId)(Z:Array TypeId)(args:Array Value)(g:Option Bool)(h:Za)(K:Value->Prop):Prop:=
 match (args[0]?:Option Value)with
 |some (Value.map _)=>z1d P ty (DT Z ty args) g h K
 |_=>zga P s K
def zb3(P:Program)(t:TypeId):Bool:=match P.underlying t with
 |some (.slice el)=>Z6 P el
 |some (.array _ el)=>Z6 P el
 |_=>true
theorem Y3(h:zb3 P t=true):∀el,(P.underlying t=some (.slice el)\/∃n,P.underlying t=some (.array n el))->∃i,P.info? el=some i:=by
 intro el Z
 unfold zb3 at h
 rcases Z with Z|⟨n,Z⟩ <;> rw[Z]at h <;> exact Q7 h
def znv(P:Program)(t:TypeId):Bool:=match P.underlying t with
 |some .string=>true
 |_=>false
theorem znw(h:znv P t=true):P.underlying t=some .string:=by
 unfold znv at h
 split at h
 ·assumption
 ·cases h
def qb8(P:Program)(s:Sem Next)(x:Value)(g:Option Bool)(K:Value->Prop):Prop:=match x with
 |.pointer p=>∃a:Addr,req g (p=some a)/\K (.pointer (some a))
 |_=>zga P s K
def Jn(P:Program)(o:Oper)(ρ:Operand->Value)(g:Option Bool)(h:Za)(K:Value->Prop):Prop:=
 match o.op with
 |.load t a=>zlx P h t (ρ a) g K
 |.indexAddr t x i=>bif zb3 P t then znt P t (ρ x) (ρ i) g K else False
 |.index t x i=>bif znv P t then zh5 (ρ x) (ρ i) g K else zga P (execOp ρ o) K
 |.slice t x lo hi mx=>bif zb3 P t then zst P t (ρ x) (lo.map ρ) (hi.map ρ) (mx.map ρ) g K else False
 |.binOp op t x y _=>bif z5r op y then shF op (ρ x) (ρ y) g K else bif z9t P t y then nvF op (ρ x) (ρ y) g K else qb7 P t (execOp ρ o) op (ρ x) (ρ y) g K
 |.lookup t m k ok=>z1d P o.type (Instr.lookup t (ρ m) (ρ k) ok) g h K
 |.nilCheck x=>qb8 P (execOp ρ o) (ρ x) g K
 |.call c=>match c.callee with
  |.builtin .len=>qct P (execOp ρ o) o.type c.argTypes (c.args.map ρ) g h K
  |_=>zga P (execOp ρ o) K
 |_=>zga P (execOp ρ o) K
theorem Zm{s:Sem Next}{K:Value->Prop}(H:zga P s K)(g:Option Bool):∃v,K v/\(gok g->∀h:Za,QExec P s h (.value v)):=by
 unfold zga at H
 split at H
 ·rename_i v hv
  exact⟨v,H,λ_ h=>zjq hv h⟩
 ·exact H.elim
theorem zh6{s:Sem Value}{K:Value->Prop}(H:z1d P ty s g h K):∃v,K v/\(gok g->QExec P s h v):=by
 unfold z1d at H
 split at H
 ·obtain⟨v,h1,h2⟩:=zh3 H
  exact⟨v,h2,λhg=>h1.out hg⟩
 ·exact H.elim
theorem Jf{op:BinOp}(t:TypeId)(x y:Operand)(a b:Value)(h1:(op matches .eql | .neq)=false):eqGuard op t x y a b=pure ():=by
 unfold eqGuard
 cases op <;> simp at h1 <;> rfl
theorem zsv{s:Sem Value}(h:s.run P w=.ok v w'):(s >>= λx=>(Dg (Dt x):Sem Next)).run P w=.ok (.value v) w':=by
 rw[Sem.run_bind,h];rfl
theorem zke{s:Sem Next}{K:Value->Prop}(h:Za)(H:∃v,K v/\(gok g->∀h:Za,QExec P s h (.value v))):∃v,K v/\(gok g->QExec P s h (.value v)):=
 let ⟨v,h1,h2⟩:=H;⟨v,h1,λhg=>h2 hg h⟩
theorem z1e{op:BinOp}{x y:Operand}(ho:o.op=.binOp op t x y t'){K:Value->Prop}
  (H:qb7 P t (execOp ρ o) op (ρ x) (ρ y) g K):∃v,K v/\(gok g->∀h:Za,QExec P (execOp ρ o) h (.value v)):=by
 have aa:∀(op:BinOp) (x y:Operand) (a b:Option Addr) (l c l' c':Nat) (w:World),(eqGuard op t x y (.slice a l c) (.slice b l' c')).run P w=.ok () w:=λop x y a b l c l' c' w=>by
  unfold eqGuard;cases op <;> rfl
 have Z:∀(op:BinOp) (x y:Operand) (a b:Option Addr) (w:World),(eqGuard op t x y (.pointer a) (.pointer b)).run P w=.ok () w:=λop x y a b w=>by
  unfold eqGuard;cases op <;> rfl
 unfold qb7 at H
 split at H
 ·rename_i a l c hx hy
  cases hs:zuz P t with
  |false=>rw[hs]at H;exact Zm H g
  |true=>
   rw[hs,cond_true]at H
   refine⟨_,H,λhg h B d=>?_⟩
   have hu:∃el,P.underlying t=some (.slice el):=by
    unfold zuz at hs
    split at hs
    ·rename_i el hu;exact⟨el,hu⟩
    ·cases hs
   obtain⟨el,hu⟩:=hu
   simp only[execOp,ho,hx,hy]
   refine zsv ?_
   rw[Sem.run_bind,aa]
   simp only[Result.andThen_ok,binOp,Sem.run_bind,run_equal_slice_nil _ t _ _ _ _ hu];rfl
 ·rename_i a l c hx hy
  cases hs:zuz P t with
  |false=>rw[hs]at H;exact Zm H g
  |true=>
   rw[hs,cond_true]at H
   refine⟨_,H,λhg h B d=>?_⟩
   have hu:∃el,P.underlying t=some (.slice el):=by
    unfold zuz at hs
    split at hs
    ·rename_i el hu;exact⟨el,hu⟩
    ·cases hs
   obtain⟨el,hu⟩:=hu
   simp only[execOp,ho,hx,hy]
   refine zsv ?_
   rw[Sem.run_bind,aa]
   simp only[Result.andThen_ok,binOp,Sem.run_bind,run_equal_slice_nil _ t _ _ _ _ hu];rfl
 ·rename_i a hx hy
  cases hs:zu0 P t with
  |false=>rw[hs]at H;exact Zm H g
  |true=>
   rw[hs,cond_true]at H
   refine⟨_,H,λhg h B d=>?_⟩
   have hu:=zsu hs
   simp only[execOp,ho,hx,hy]
   refine zsv ?_
   rw[Sem.run_bind,Z]
   simp only[Result.andThen_ok,binOp,Sem.run_bind,run_equal_pointer_nil _ t _ hu];rfl
 ·rename_i a hx hy
  cases hs:zu0 P t with
  |false=>rw[hs]at H;exact Zm H g
  |true=>
   rw[hs,cond_true]at H
   refine⟨_,H,λhg h B d=>?_⟩
   have hu:=zsu hs
   simp only[execOp,ho,hx,hy]
   refine zsv ?_
   rw[Sem.run_bind,Z]
   simp only[Result.andThen_ok,binOp,Sem.run_bind,run_equal_pointer_nil _ t _ hu];rfl
 ·rename_i k a k' b hx hy
  obtain⟨rfl,h1,h2⟩:=H
  refine⟨_,h2,λhg=>?_⟩
  have hb:=h1.out hg
  intro h B d
  simp only[execOp,ho,hx,hy]
  rw[Jf _ _ _ _ _ rfl]
  simp[binOp,Op.intDiv,hb]
 ·rename_i k a k' b hx hy
  obtain⟨rfl,h1,h2⟩:=H
  refine⟨_,h2,λhg=>?_⟩
  have hb:=h1.out hg
  intro h B d
  simp only[execOp,ho,hx,hy]
  rw[Jf _ _ _ _ _ rfl]
  simp[binOp,Op.intDiv,hb]
 ·rename_i a b hx hy
  obtain⟨h1,h2⟩:=H
  refine⟨_,h2,λhg=>?_⟩
  have hb:=h1.out hg
  intro h B d
  simp only[execOp,ho,hx,hy]
  rw[Jf _ _ _ _ _ rfl]
  have hm:¬((a.size+b.size:Nat):Int)>IntKind.i64.max:=by
   unfold Qk at hb
   have:IntKind.i64.max=9223372036854775807:=by decide
   omega
  simp only[binOp,Op.stringOp,if_neg hm]
  rfl
 ·exact Zm H g
theorem z5s{op:BinOp}{x y:Operand}(ho:o.op=.binOp op t x y t'){K:Value->Prop}
  (H:shF op (ρ x) (ρ y) g K):∃v,K v/\(gok g->∀h:Za,QExec P (execOp ρ o) h (.value v)):=by
 unfold shF at H
 split at H
 ·rename_i k a k' b hx hy
  split at H
  ·obtain⟨h1,h2⟩:=H
   refine⟨_,h2,λhg h B d=>?_⟩
   have hb:=h1.out hg
   simp only[execOp,ho,hx,hy]
   rw[Jf _ _ _ _ _ rfl]
   simp only[binOp,Op.shift,if_neg (show¬b<0 by omega)];rfl
  ·obtain⟨h1,h2⟩:=H
   refine⟨_,h2,λhg h B d=>?_⟩
   have hb:=h1.out hg
   simp only[execOp,ho,hx,hy]
   rw[Jf _ _ _ _ _ rfl]
   simp only[binOp,Op.shift,if_neg (show¬b<0 by omega)];rfl
  ·exact H.elim
 ·exact H.elim
theorem z5t{op:BinOp}{x y:Operand}(ho:o.op=.binOp op t x y t'){K:Value->Prop}
  (hb:z9t P t y=true) (H:nvF op (ρ x) (ρ y) g K):∃v,K v/\(gok g->∀h:Za,QExec P (execOp ρ o) h (.value v)):=by
 have hu:∃ms,P.underlying t=some (.interface ms)/\y=.const .nilIface:=by
  unfold z9t at hb
  split at hb
  ·split at hb
   ·rename_i ms hu;exact⟨ms,hu,rfl⟩
   ·cases hb
  ·cases hb
 obtain⟨ms,hu,rfl⟩:=hu
 have key:∀{u:Value} (h:Za),ifc u=true->QExec P (Er t u .nilIface) h (z9u u):=by
  intro u h hi B d
  have hq:=QExec.underlying (h:=h) hu B d
  unfold Er Op.maxDepth
  cases u <;> first|(cases hi;done)|(unfold Op.equalIn;rw[Sem.run_bind,hq];rfl)
 have hg:∀op u (h:Za),ifc u=true->QExec P (eqGuard op t x (.const .nilIface) u .nilIface) h ():=by
  intro op u h hi B d
  unfold eqGuard
  cases u <;> first|(cases hi;done)|(cases op <;> simp)
 have Z:∀op u,ifc u=true->(binOp op t u .nilIface=match op with | .eql=>(do pure (.bool (<-Er t u .nilIface))) | .neq=>(do pure (.bool (!(<-Er t u .nilIface))))|_=>binOp op t u .nilIface):=by
  intro op u hi
  cases u <;> first|(cases hi;done)|(cases op <;> rfl)
 unfold nvF at H
 split at H
 ·rename_i hy
  split at H
  ·refine⟨_,H.2,λaa h=>?_⟩
   have hi:=H.1.out aa
   simp only[execOp,ho,hy]
   refine QExec.val ((hg _ _ h hi).bind ?_)
   rw[Z _ _ hi]
   exact(key h hi).bind (QExec.pure _)
  ·refine⟨_,H.2,λaa h=>?_⟩
   have hi:=H.1.out aa
   simp only[execOp,ho,hy]
   refine QExec.val ((hg _ _ h hi).bind ?_)
   rw[Z _ _ hi]
   exact(key h hi).bind (QExec.pure _)
  ·exact H.elim
 ·exact H.elim
theorem zly{op:BinOp}{x y:Operand}(ho:o.op=.binOp op t x y t'){K:Value->Prop}
  (H:bif z5r op y then shF op (ρ x) (ρ y) g K else bif z9t P t y then nvF op (ρ x) (ρ y) g K else qb7 P t (execOp ρ o) op (ρ x) (ρ y) g K):∃v,K v/\(gok g->∀h:Za,QExec P (execOp ρ o) h (.value v)):=by
 cases hb:z5r op y with
 |true=>rw[hb]at H;exact z5s ho H
 |false=>
  rw[hb]at H
  cases hn:z9t P t y with
  |true=>rw[hn]at H;exact z5t ho hn H
  |false=>rw[hn]at H;exact z1e ho H
theorem zu1{c:Call}(ho:o.op=.call c)(hc:c.callee=.builtin .len){K:Value->Prop}
  (H:qct P (execOp ρ o) o.type c.argTypes (c.args.map ρ) g h K):∃v,K v/\(gok g->QExec P (execOp ρ o) h (.value v)):=by
 unfold qct at H
 split at H
 ·obtain⟨v,h1,h2⟩:=zh6 H
  refine⟨v,h1,λhg=>?_⟩
  have:=h2 hg
  intro B d
  simp only[execOp,ho,resolve,hc,Sem.run_bind,Sem.run_pure,Result.andThen_ok,invoke,builtin]
  rw[this B d]
  rfl
 ·exact zke h (Zm H g)
theorem zdn{K:Value->Prop}(H:Jn P o ρ g h K):∃v,K v/\(gok g->QExec P (execOp ρ o) h (.value v)):=by
 unfold Jn at H
 split at H
 ·rename_i t a ho
  obtain⟨v,h1,h2⟩:=zh4 H
  refine⟨v,h1,λhg=>?_⟩
  simp only[execOp,ho]
  exact(h2 hg).val
 ·rename_i t x i ho
  cases he:zb3 P t with
  |false=>rw[he]at H;exact H.elim
  |true=>
   rw[he]at H
   obtain⟨v,h1,h2⟩:=Y6 (Y3 he) H
   refine⟨v,h1,λhg=>?_⟩
   simp only[execOp,ho]
   exact(h2 hg h).val
 ·rename_i t x i ho
  cases he:znv P t with
  |false=>rw[he]at H;exact zke h (Zm H g)
  |true=>
   rw[he]at H
   obtain⟨v,h1,h2⟩:=zb2 (znw he) H
   refine⟨v,h1,λhg=>?_⟩
   simp only[execOp,ho]
   exact(h2 hg h).val
 ·rename_i t x lo hi mx ho
  cases he:zb3 P t with
  |false=>rw[he]at H;exact H.elim
  |true=>
   rw[he]at H
   obtain⟨v,h1,h2⟩:=Xr (Y3 he) H
   refine⟨v,h1,λhg=>?_⟩
   simp only[execOp,ho]
   exact(h2 hg h).val
 ·rename_i op t x y t' ho
  exact zke h (zly ho H)
 ·rename_i t m k ok ho
  obtain⟨v,h1,h2⟩:=zh6 H
  refine⟨v,h1,λhg=>?_⟩
  simp only[execOp,ho]
  exact(h2 hg).val
 ·rename_i x ho
  unfold qb8 at H
  split at H
  ·rename_i p hx
   obtain⟨a,h1,h2⟩:=H
   refine⟨_,h2,λhg=>?_⟩
   have hp:=h1.out hg
   subst hp
   intro B d
   simp only[execOp,ho,hx]
   rfl
  ·exact zke h (Zm H g)
 ·rename_i c ho
  split at H
  ·rename_i hc
   exact zu1 ho hc H
  ·exact zke h (Zm H g)
 ·exact zke h (Zm H g)
def zhf(o:Oper):Bool:=match o.op with
 |.lookup .. => false
 |.call c=>match c.callee with
  |.builtin .len=>false
  |_=>true
 |_=>true
theorem z1f{p:Addr}(H:Ze h p=some v):p.block<h.size:=by
 unfold Ze at H
 cases e:h[p.block]? with
 |none=>simp[e]at H
 |some o=>exact(Au.1 e).1
theorem zh7{h h':Za}(k:Keep h.size h h'){p:Addr}(H:Ze h p=some v):Ze h' p=some v:=by
 have:=z1f H
 unfold Ze at H ⊢
 rw[k.get _ this];exact H
theorem zh8{h h':Za}(k:Keep h.size h h'){p:Addr}:∀{vs:List Value} {i:Nat},Zb h p i vs->Zb h' p i vs
 |[],_,_=>trivial
 |_::_,_,⟨h1,h2⟩=>⟨zh7 k h1,zh8 k h2⟩
theorem zcs{K:Value->Prop}(hf:zhf o=true)(H:Jn P o ρ g h K):∃v,K v/\(gok g->∀h',Keep h.size h h'->QExec P (execOp ρ o) h' (.value v)):=by
 unfold Jn at H
 split at H
 ·rename_i t a ho
  unfold zlx at H
  split at H
  ·rename_i q b hp hv
   obtain⟨x,h1,h2⟩:=H
   refine⟨_,h2,λhg h' hk=>?_⟩
   simp only[execOp,ho,hp]
   exact(ze3 hv (zh7 hk (h1.out hg))).val
  ·rename_i q l hp hv
   obtain⟨vs,h0,⟨h1,h2⟩,_⟩:=W4 H (Ye l)
   refine⟨_,h2,λhg h' hk=>?_⟩
   simp only[execOp,ho,hp]
   exact(ze4 hv h0 (zh8 hk (h1.out hg))).val
  ·exact H.elim
 ·rename_i t x i ho
  cases he:zb3 P t with
  |false=>rw[he]at H;exact H.elim
  |true=>
   rw[he]at H
   obtain⟨v,h1,h2⟩:=Y6 (Y3 he) H
   refine⟨v,h1,λhg h' _=>?_⟩
   simp only[execOp,ho]
   exact(h2 hg h').val
 ·rename_i t x i ho
  cases he:znv P t with
  |false=>
   rw[he]at H
   obtain⟨v,h1,h2⟩:=Zm H g
   exact⟨v,h1,λhg h' _=>h2 hg h'⟩
  |true=>
   rw[he]at H
   obtain⟨v,h1,h2⟩:=zb2 (znw he) H
   refine⟨v,h1,λhg h' _=>?_⟩
   simp only[execOp,ho]
   exact(h2 hg h').val
 ·rename_i t x lo hi mx ho
  cases he:zb3 P t with
  |false=>rw[he]at H;exact H.elim
  |true=>
   rw[he]at H
   obtain⟨v,h1,h2⟩:=Xr (Y3 he) H
   refine⟨v,h1,λhg h' _=>?_⟩
   simp only[execOp,ho]
   exact(h2 hg h').val
 ·rename_i op t x y t' ho
  obtain⟨v,h1,h2⟩:=zly ho H
  exact⟨v,h1,λhg h' _=>h2 hg h'⟩
 ·rename_i t m k ok ho
  simp[zhf,ho]at hf
 ·rename_i x ho
  unfold qb8 at H
  split at H
  ·rename_i p hx
   obtain⟨a,h1,h2⟩:=H
   refine⟨_,h2,λhg h' _=>?_⟩
   have hp:=h1.out hg
   subst hp
   intro B d
   simp only[execOp,ho,hx]
   rfl
  ·obtain⟨v,h1,h2⟩:=Zm H g
   exact⟨v,h1,λhg h' _=>h2 hg h'⟩
 ·rename_i c ho
  split at H
  ·rename_i hc
   simp[zhf,ho,hc]at hf
  ·obtain⟨v,h1,h2⟩:=Zm H g
   exact⟨v,h1,λhg h' _=>h2 hg h'⟩
 ·obtain⟨v,h1,h2⟩:=Zm H g
  exact⟨v,h1,λhg h' _=>h2 hg h'⟩
def wpN(P:Program){α:Type}:Sem α->Za->(α->Za->Prop)->Prop
 |.pure a,h,K=>K a h
 |.program k,h,K=>wpN P (k P) h K
 |.mark _ k,h,K=>wpN P k h K
 |.new o k,h,K=>wpN P (k h.size) (h.push o) K
 |_,_,_=>False
theorem zh9{α:Type}{s:Sem α}{K:α->Za->Prop}(H:wpN P s h K)(B:World)(d:Nat):∃x h',s.run P (mk B d h)=.ok x (mk B d h')/\K x h':=by
 induction s generalizing h with
 |pure a=>exact⟨a,h,rfl,H⟩
 |program k ih=>exact ih P H
 |mark m k ih=>exact ih H
 |new o k ih=>
  obtain⟨x,h',h1,h2⟩:=ih h.size H
  exact⟨x,h',h1,h2⟩
 |_=>exact H.elim
def typed(P:Program)(ty:TypeId)(v:Value)(K:Value->Prop):Prop:=match z9k P ty with
 |some rt=>z1c rt λv'=>v=v'/\K v'
 |none=>False
theorem Jg{K:Value->Prop}(H:typed P ty v K):K v:=by
 unfold typed at H
 split at H
 ·obtain⟨v',h1,h2⟩:=zh3 H;rw[h1];exact h2
 ·exact H.elim
def Zp(P:Program)(f:FuncId):Bool:=match P.funcs[f]? with
 |some fn=>(match fn.body with
  |some _=>true
  | none => false) && !(fn.name == "runtime.NumGoroutine")
 |none=>false
theorem zb4(h:Zp P f=true)(args:Array Value)(w:World):(callFunc f args).run P w=.ok (.enter f args) w:=by
 unfold Zp at h
 split at h
 ·rename_i fn hf
  simp only[BP,Dh]at h
  obtain⟨h1,h2⟩:=h
  unfold callFunc
  simp only[program,Sem.run_bind,Sem.run,Result.andThen_ok,hf]
  split at h1
  ·rename_i b hb
   simp[h2,hb]
  ·cases h1
 ·cases h
def qb9(P:Program)(v:Value)(args:Array Value)(K:FuncId->Array Value->Prop):Prop:=match v with
 |.func (.func f) first cap=>Zp P f=true/\K f (first++args++cap)
 |_=>False
theorem zkf{c:Call}{x:Operand}(ho:o.op=.call c)(hc:c.callee=.value x){K:FuncId->Array Value->Prop}(H:qb9 P (ρ x) (c.args.map ρ) K):
  ∃f args,K f args/\∀w,(execOp ρ o).run P w=.ok (.enter f args) w:=by
 unfold qb9 at H
 split at H
 ·rename_i f first cap hv
  obtain⟨h1,h2⟩:=H
  refine⟨_,_,h2,λw=>?_⟩
  simp only[execOp,ho,resolve,hc,hv,DU,Sem.run_bind,Sem.run_pure,Result.andThen_ok,invoke]
  exact zb4 h1 _ w
 ·exact H.elim
def zar:Operand->Bool
 |.func _=>true
 |_=>false
def qcu(P:Program)(f:FuncId):Bool:=match P.funcs[f]? with
 |some fn=>(match fn.body with
  |some _=>false
  |none=>true)
 |none=>false
def qer(P:Program)(f:FuncId)(args:Array Value)(h:Za)(K:Value->Za->Prop):Prop:=∀B d,∃v d' h',(callFunc f args).run P (mk B d h)=.ok (.value v) (mk B d' h')/\K v h'
def z4k(P:Program):Operand->Bool
 |.func f=>qcu P f
 |_=>false
def qcv(P:Program)(v:Value)(args:Array Value)(h:Za)(K:Value->Za->Prop):Prop:=match v with
 |.func (.func f) first cap=>qer P f (first++args++cap) h K
 |_=>False
theorem zu2{c:Call}{x:Operand}(ho:o.op=.call c)(hc:c.callee=.value x)(H:qcv P (ρ x) (c.args.map ρ) h K)(B:World)(d:Nat):
  ∃v d' h',(execOp ρ o).run P (mk B d h)=.ok (.value v) (mk B d' h')/\K v h':=by
 unfold qcv at H
 split at H
 ·rename_i f first cap hv
  obtain⟨v,d',h',h1,h2⟩:=H B d
  refine⟨v,d',h',?_,h2⟩
  simp only[execOp,ho,resolve,hc,hv,DU,Sem.run_bind,Sem.run_pure,Result.andThen_ok,invoke]
  exact h1
 ·exact H.elim
def z9v(P:Program)(t:TypeId):Bool:=match P.underlying t with
 |some (.map _ _)=>true
 |_=>false
def zsw(P:Program)(o:Oper)(ρ:Operand->Value)(h:Za)(K:Value->Za->Prop):Prop:=
 match o.op with
 |.store t a x=>XRunU P (AI t (ρ a) (ρ x)) h λh'=>K undef h'
 |.mapUpdate t m k x=>XRunU P (D4 t (ρ m) (ρ k) (ρ x)) h λh'=>K undef h'
 |.insert t m k x=>XRunU P (D4 t (ρ m) (ρ k) (ρ x)) h λh'=>K undef h'
 |.entryStore t m s x=>XRunU P (Instr.entryStore t (ρ m) (ρ s) (ρ x)) h λh'=>K undef h'
 |.mapEntry t m k=>XRun P (Instr.mapEntry t (ρ m) (ρ k)) h λv h'=>typed P o.type v λv'=>K v' h'
 |.makeSlice t l c=>XRun P (Instr.makeSlice t (ρ l) (ρ c)) h λv h'=>typed P o.type v λv'=>K v' h'
 |.convert s t x=>XRun P (convert s t (ρ x)) h λv h'=>typed P o.type v λv'=>K v' h'
 |.typeAssert x t t' ok=>XRun P (Instr.typeAssert (ρ x) t t' ok) h λv h'=>typed P o.type v λv'=>K v' h'
 |.range t x=>bif z9v P t then XRun P (Instr.range t (ρ x)) h λv h'=>∃q:Option Addr,v=.pointer q/\K (.pointer q) h' else wpN P (execOp ρ o) h λnx h'=>match nx with
   |.value v=>K v h'
   |.skip=>K undef h'
   |_=>False
 |.next x s=>bif s then XRun P (Ea (ρ x) s o.type) h λv h'=>(v=.tuple #[.bool false]/\K (.tuple #[.bool false]) h')\/∃k u:Int,v=.tuple #[.bool true,.int .i64 k,.int .i32 u]/\K (.tuple #[.bool true,.int .i64 k,.int .i32 u]) h'
  else XRun P (Ea (ρ x) s o.type) h λv h'=>(v=.tuple #[.bool false]/\K (.tuple #[.bool false]) h')\/∃k u:Value,v=.tuple #[.bool true,k,u]/\K (.tuple #[.bool true,k,u]) h'
 |.entry x=>XRun P (Instr.entry (ρ x)) h λv h'=>∃k u:Value,v=.tuple #[k,u]/\K (.tuple #[k,u]) h'
 |.call c=>match c.callee with
  |.builtin b=>match zkd b c.argTypes o.type (c.args.map ρ)with
   |some s=>XRun P s h λv h'=>typed P o.type v λv'=>K v' h'
   |none=>False
  |.value x=>bif z4k P x then qcv P (ρ x) (c.args.map ρ) h (λv h'=>typed P o.type v λv'=>K v' h')else bif zar x then(wpN P (execOp ρ o) h λnx h'=>match nx with
   |.enter f args=>XC P f args h' λv Z=>typed P o.type v λv'=>K v' Z
   |.value v=>K v h'
   |_=>False)else qb9 P (ρ x) (c.args.map ρ) λf args=>XC P f args h λv Z=>typed P o.type v λv'=>K v' Z
  |_=>False
 |_=>wpN P (execOp ρ o) h λnx h'=>match nx with
   |.value v=>K v h'
   |.skip=>K undef h'
   |_=>False
def z9w:Builtin->Bool
 |.append | .copy | .clear | .delete=>true
 |_=>false
def zw4(P:Program)(s t:TypeId):Bool:=match P.underlying s,P.underlying t with
 |some (.int _),some (.int _)=>true
 |some .string,some .string=>true
 |_,_=>false
def isQ(P:Program)(o:Oper):Bool:=
 match o.op with
 |.load _ _ | .indexAddr _ _ _ | .index _ _ _ | .slice _ _ _ _ _ | .binOp _ _ _ _ _ | .lookup _ _ _ _ | .nilCheck _=>true
 |.move _ | .assign _ | .unOp _ _ _ | .build _ _ | .makeFunc _ _ _ | .makeInterface _ _ | .extract _ _ | .field _ _ _ | .fieldAddr _ _ _=>true
 |.convert s t _=>zw4 P s t
 |.call c=>match c.callee with
  |.builtin b=>!z9w b
  |_=>false
 |_=>false
def zw5(P:Program)(o:Oper)(ρ:Operand->Value)(b:Bool)(h:Za)(K:Value->Za->Prop):Prop:=
 match z9k P o.type with
 |some rt=>∃J:Value->Za->Prop,(b=true->zsw P o ρ h J)/\(b=false->z1c rt λv=>J v h)/\(b=true->∀v h',J v h'->z1c rt λv'=>v=v')/\z9q rt λv=>∀h',J v h'->K v h'
 |none=>False
def stepW(P:Program)(o:Oper)(ρ:Operand->Value)(g:Option Bool)(h:Za)(K:Value->Za->Prop):Prop:=
 bif isQ P o then Jn P o ρ g h (λv=>K v h)else match g with
  |none=>zsw P o ρ h K
  |some b=>zw5 P o ρ b h K
theorem upon_value{next:Act->World->Prop}{Q:Exit->Act->World->Prop}{s:Sem Next}(h:s.run P w=.ok (.value v) w')(hn:next (a.put o.dst v) w'):
  o.upon P a next Q (s.run P w):=by rw[h];exact hn
theorem upon_skip{next:Act->World->Prop}{Q:Exit->Act->World->Prop}{s:Sem Next}(h:s.run P w=.ok .skip w')(hn:next (a.put o.dst undef) w'):
  o.upon P a next Q (s.run P w):=by rw[h];exact hn
theorem Xn{s:Sem Value}(h:s.run P w=.ok v w'):(s >>= λx=>(Dg (Dt x):Sem Next)).run P w=.ok (.value v) w':=by
 rw[Sem.run_bind,h];rfl
theorem zu3{s:Sem Unit}(h:s.run P w=.ok () w'):(s >>= λ_=>(Dg Next.skip:Sem Next)).run P w=.ok .skip w':=by
 rw[Sem.run_bind,h];rfl
theorem zg4(H:zsw P o ρ h K)(B:World)(d:Nat){next:Act->World->Prop}{Q:Exit->Act->World->Prop}
  (hn:∀v d' h',K v h'->next (a.put o.dst v) (mk B d' h')):o.upon P a next Q ((execOp ρ o).run P (mk B d h)):=by
 unfold zsw at H
 split at H
 case h_1 t x y ho=>
  obtain⟨d',h',h1,h2⟩:=H B d
  exact upon_skip (by simp only[execOp,ho];exact zu3 h1) (hn _ _ _ h2)
 case h_2 t m k x ho=>
  obtain⟨d',h',h1,h2⟩:=H B d
  exact upon_skip (by simp only[execOp,ho];exact zu3 h1) (hn _ _ _ h2)
 case h_3 t m k x ho=>
  obtain⟨d',h',h1,h2⟩:=H B d
  exact upon_skip (by simp only[execOp,ho];exact zu3 h1) (hn _ _ _ h2)
 case h_4 t m s x ho=>
  obtain⟨d',h',h1,h2⟩:=H B d
  exact upon_skip (by simp only[execOp,ho];exact zu3 h1) (hn _ _ _ h2)
 case h_5 t m k ho=>
  obtain⟨v,d',h',h1,h2⟩:=H B d
  exact upon_value (by simp only[execOp,ho];exact Xn h1) (hn _ _ _ (Jg h2))
 case h_6 t l c ho=>
  obtain⟨v,d',h',h1,h2⟩:=H B d
  exact upon_value (by simp only[execOp,ho];exact Xn h1) (hn _ _ _ (Jg h2))
 case h_7 s t x ho=>
  obtain⟨v,d',h',h1,h2⟩:=H B d
  exact upon_value (by simp only[execOp,ho];exact Xn h1) (hn _ _ _ (Jg h2))
 case h_8 x t t' ok ho=>
  obtain⟨v,d',h',h1,h2⟩:=H B d
  exact upon_value (by simp only[execOp,ho];exact Xn h1) (hn _ _ _ (Jg h2))
 case h_9 t x ho=>
  cases hm:z9v P t with
  |true=>
   rw[hm]at H
   obtain⟨v,d',h',h1,q,rfl,h2⟩:=H B d
   exact upon_value (by simp only[execOp,ho];exact Xn h1) (hn _ _ _ h2)
  |false=>
   rw[hm]at H
   obtain⟨nx,h',h1,h2⟩:=zh9 H B d
   cases nx with
   |value v=>exact upon_value h1 (hn _ _ _ h2)
   |skip=>exact upon_skip h1 (hn _ _ _ h2)
   |_=>exact h2.elim
 case h_10 x s ho=>
  cases s with
  |true=>
   simp only[cond_true]at H
   obtain⟨v,d',h',h1,h2⟩:=H B d
   refine upon_value (v:=v) (w':=mk B d' h') (by simp only[execOp,ho];exact Xn h1) (hn _ _ _ ?_)
   rcases h2 with⟨rfl,h2⟩|⟨k,u,rfl,h2⟩ <;> exact h2
  |false=>
   simp only[cond_false]at H
   obtain⟨v,d',h',h1,h2⟩:=H B d
   refine upon_value (v:=v) (w':=mk B d' h') (by simp only[execOp,ho];exact Xn h1) (hn _ _ _ ?_)
   rcases h2 with⟨rfl,h2⟩|⟨k,u,rfl,h2⟩ <;> exact h2
 case h_11 x ho=>
  obtain⟨v,d',h',h1,k,u,rfl,h2⟩:=H B d
  exact upon_value (by simp only[execOp,ho];exact Xn h1) (hn _ _ _ h2)
 case h_12 c ho=>
  split at H
  ·rename_i b hb
   split at H
   ·rename_i s hs
    obtain⟨v,d',h',h1,h2⟩:=H B d
    refine upon_value (w':=mk B d' h') ?_ (hn _ _ _ (Jg h2))
    have key:execOp ρ o=s >>= λx=>(Dg (Dt x):Sem Next):=by
     simp only[execOp,ho,resolve,hb]
     unfold zkd at hs
     split at hs <;> first
      |(simp only[As]at hs;subst hs;rfl)
      |cases hs
    rw[key]
    exact Xn h1
   ·exact H.elim
  ·rename_i x hx
   cases hex:z4k P x with
   |true=>
    rw[hex]at H
    obtain⟨v,d',h',h1,h2⟩:=zu2 ho hx H B d
    exact upon_value h1 (hn _ _ _ (Jg h2))
   |false=>
   rw[hex]at H
   simp only[cond_false]at H
   cases hst:zar x with
   |true=>
    rw[hst]at H
    obtain⟨nx,h',h1,h2⟩:=zh9 H B d
    cases nx with
    |enter f args=>
     rw[h1]
     refine(h2 B d).mono ?_
     rintro e w' ⟨v,d',Z,rfl,rfl,h3⟩
     exact hn _ _ _ (Jg h3)
    |value v=>exact upon_value h1 (hn _ _ _ h2)
    |_=>exact h2.elim
   |false=>
    rw[hst]at H
    simp only[cond_false]at H
    obtain⟨f,args,h1,h2⟩:=zkf ho hx H
    rw[h2]
    refine(h1 B d).mono ?_
    rintro e w' ⟨v,d',Z,rfl,rfl,h3⟩
    exact hn _ _ _ (Jg h3)
  ·exact H.elim
 case h_13=>
  obtain⟨nx,h',h1,h2⟩:=zh9 H B d
  cases nx with
  |value v=>exact upon_value h1 (hn _ _ _ h2)
  |skip=>exact upon_skip h1 (hn _ _ _ h2)
  |_=>exact h2.elim
theorem zqt(H:stepW P o ρ g h K)(hg:gok g)(B:World)(d:Nat){next:Act->World->Prop}{Q:Exit->Act->World->Prop}
  (hn:∀v d' h',K v h'->next (a.put o.dst v) (mk B d' h')):o.upon P a next Q ((execOp ρ o).run P (mk B d h)):=by
 unfold stepW at H
 cases hq:isQ P o with
 |true=>
  rw[hq]at H
  obtain⟨v,h1,h2⟩:=zdn H
  exact upon_value (h2 hg B d) (hn _ _ _ h1)
 |false=>
  rw[hq]at H
  cases g with
  |none=>exact zg4 H B d hn
  |some b=>
   have hb:b=true:=hg
   subst hb
   simp only[cond_false]at H
   unfold zw5 at H
   split at H
   ·rename_i rt Z
    obtain⟨J,h1,_,h3,h4⟩:=H
    refine zg4 (h1 rfl) B d λv d' h' hJ=>?_
    obtain⟨v',e1,e2⟩:=zw3 (h3 rfl v h' hJ) h4
    subst e1
    exact hn _ _ _ (e2 _ hJ)
   ·exact H.elim
theorem zqu(H:stepW P o ρ (some false) h K):∃v,K v h:=by
 unfold stepW at H
 cases hq:isQ P o with
 |true=>
  rw[hq]at H
  obtain⟨v,h1,_⟩:=zdn H
  exact⟨v,h1⟩
 |false=>
  rw[hq]at H
  simp only[cond_false]at H
  unfold zw5 at H
  split at H
  ·obtain⟨J,_,h2,_,h4⟩:=H
   obtain⟨v,e1,e2⟩:=zw3 (h2 rfl) h4
   exact⟨v,e2 _ e1⟩
  ·exact H.elim
end
section
variable {n:Nat} {e:Env} {a b:Act} {c:Zr} {g:Option Bool} {P:Program} {o:Oper} {h:Za} {K:Value -> Za -> Prop} {ms:List Nat} {ρ:Operand -> Value}
def zdo(e:Env):Zr->Option (Option Bool)
 |[]=>some none
 |c=>match zw1 e c with
  |some b=>some (some b)
  |none=>none
theorem W9(hs:Sat n e a)(h:zdo e c=some g)(hv:valid (Zl a) c):gok g:=by
 unfold zdo at h
 split at h
 ·simp only[As]at h;subst h;trivial
 ·split at h
  ·rename_i b hb
   simp only[As]at h
   subst h
   exact(zdm hs hb).2 hv
  ·cases h
theorem zu4(hs:Sat n e a)(h:zdo e c=some g)(hv:¬valid (Zl a) c):g=some false:=by
 unfold zdo at h
 split at h
 ·exact absurd trivial hv
 ·split at h
  ·rename_i b hb
   simp only[As]at h
   subst h
   cases b with
   |false=>rfl
   |true=>exact absurd ((zdm hs hb).1 rfl) hv
  ·cases h
def zw6(b:Bool):Value->Value->Value
 |.bool x,.bool y=>.bool (bif b then x else y)
 |x,y=>bif b then x else y
theorem zsx(b:Bool)(x y:Value):zw6 b x y=if b=true then x else y:=by
 unfold zw6
 split <;> cases b <;> rfl
def orV:Option Value->Option Value->Option Value
 |some v,_=>some v
 |none,w=>w
def zw7(e:Env)(c:Zr)(x a b:Operand)(K:Value->Prop):Prop:=
 match x with
 |.tmp s=>match look e s with
  |some (cs,.bool t)=>bif suf cs c then(match orV (zaq e c a) (zaq e ((s,true)::cs) a),orV (zaq e c b) (zaq e ((s,false)::cs) b)with
    |some va,some vb=>K (zw6 t va vb)
    |_,_=>False)else False
  |_=>False
 |_=>False
theorem zas{Z:Act}(hs:Sat n e Z){x a b:Operand}{K:Value->Prop}(H:zw7 e c x a b K):
  ∃v,K v/\(valid (Zl Z) c->∃t,Z.eval x=.bool t/\(if t=true then Z.eval a else Z.eval b)=v):=by
 unfold zw7 at H
 split at H
 ·rename_i s
  split at H
  ·rename_i cs t hl
   cases hsf:suf cs c with
   |false=>rw[hsf]at H;exact H.elim
   |true=>
    rw[hsf]at H
    simp only[cond_true]at H
    split at H
    ·rename_i va vb ha hb
     refine⟨_,H,λhv=>⟨t,?_,?_⟩⟩
     ·exact(hs.all _ (zcr hl)).1 (X5 hsf hv)
     ·have aa:=X5 hsf hv
      have hx:Zl Z s=.bool t:=(hs.all _ (zcr hl)).1 aa
      rw[zsx]
      cases t with
      |true=>
       simp only[if_true]
       unfold orV at ha
       split at ha
       ·rename_i v _ h1
        simp only[As]at ha
        subst ha
        exact Qg hs hv h1
       ·exact Qg hs (c:=(s,true)::cs) ⟨hx,aa⟩ ha
      |false=>
       simp only[Bv,if_false]
       unfold orV at hb
       split at hb
       ·rename_i v _ h1
        simp only[As]at hb
        subst hb
        exact Qg hs hv h1
       ·exact Qg hs (c:=(s,false)::cs) ⟨hx,aa⟩ hb
    ·exact H.elim
  ·exact H.elim
 ·exact H.elim
def opW(P:Program)(o:Oper)(e:Env)(c:Zr)(h:Za)(K:Value->Za->Prop):Prop:=
 match o.op with
 |.pick x a b=>zw7 e c x a b λv=>K v h
 |_=>bif Yc o.op then(bif known e c o.op.operands.toList then(match zdo e c with
   |some g=>stepW P o (rho e c) g h K
   |none=>False)else False)else False
def wR(P:Program)(n:Nat)(ops:Array Oper)(K:Env->Za->Prop):List Oper->Env->Za->Prop
 |[],e,h=>K (clean e) h
 |o::rest,e,h=>match Xy ops e o.guard with
  |some c=>bif Z5 n c o.dst then opW P o e c h λv h'=>wR P n ops K rest (putO e o.dst c v) h' else False
  |none=>False
theorem zia(H:opW P o e c h K)(hs:Sat n e a)(hv:valid (Zl a) c)(B:World)(d:Nat)
  {next:Act->World->Prop} {Q:Exit->Act->World->Prop} (hn:∀v d' h',K v h'->next (a.put o.dst v) (mk B d' h')):o.wp P a (mk B d h) next Q:=by
 unfold opW at H
 unfold Oper.wp
 split at H
 ·rename_i x y z ho
  obtain⟨v,h1,h2⟩:=zas hs H
  obtain⟨t,h3,h4⟩:=h2 hv
  refine upon_value (w':=mk B d h) (v:=v) ?_ (hn _ _ _ h1)
  simp only[execOp,ho,h3,asBool,Sem.run_bind,Sem.run_pure,Result.andThen_ok]
  rw[h4]
 ·cases hns:Yc o.op with
  |false=>rw[hns]at H;exact H.elim
  |true=>
   rw[hns]at H
   cases hk:known e c o.op.operands.toList with
   |false=>rw[hk]at H;exact H.elim
   |true=>
    rw[hk]at H
    simp only[cond_true]at H
    split at H
    ·rename_i g hg
     rw[Xq hs hv hns hk]
     exact zqt H (W9 hs hg hv) B d hn
    ·exact H.elim
theorem z4l(H:opW P o e c h K)(hs:Sat n e a)(hv:¬valid (Zl a) c):∃v,K v h:=by
 unfold opW at H
 split at H
 ·obtain⟨v,h1,_⟩:=zas hs H
  exact⟨v,h1⟩
 ·cases hns:Yc o.op with
  |false=>rw[hns]at H;exact H.elim
  |true=>
   rw[hns]at H
   cases hk:known e c o.op.operands.toList with
   |false=>rw[hk]at H;exact H.elim
   |true=>
    rw[hk]at H
    simp only[cond_true]at H
    split at H
    ·rename_i g hg
     rw[zu4 hs hg hv]at H
     exact zqu H
    ·exact H.elim
def Qx:List Oper->List Nat
 |[]=>[]
 |o::l=>match o.dst with
  |some d=>d::Qx l
  |none=>Qx l
def Same(ms:List Nat)(a b:Act):Prop:=∀i,i∉ms->Zl b i=Zl a i
theorem Same.refl(ms:List Nat)(a:Act):Same ms a a:=λ_ _=>rfl
theorem Same.trans{a b c:Act}(h:Same ms a b)(k:Same ms b c):Same ms a c:=λi hi=>(k i hi).trans (h i hi)
theorem Same.mono{ms Z:List Nat}(h:Same ms a b)(hs:∀x∈ms,x∈Z):Same Z a b:=λi hi=>h i λhm=>hi (hs i hm)
theorem Same.put(a:Act)(d:Option Nat)(v:Value)(h:∀i,d=some i->i∈ms):Same ms a (a.put d v):=by
 intro i hi
 cases d with
 |none=>rfl
 |some j=>exact Zz λe=>hi (e ▸ h j rfl)
theorem zct{P:Program}{n:Nat}{ops:Array Oper}{K:Env->Za->Prop}{Q:Exit->Act->World->Prop}(B:World):
  ∀(l:List Oper) (e:Env) (h:Za) (a:Act) (d:Nat),wR P n ops K l e h->Sat n e a->(∀e' a' d' h',Sat n e' a'->Same (Qx l) a a'->K e' h'->Q .normal a' (mk B d' h'))->wpList P ops Q l a (mk B d h)
 |[],e,h,a,d,H,hs,hQ=>hQ _ _ _ _ hs.clean (Same.refl _ _) H
 |o::rest,e,h,a,d,H,hs,hQ=>by
  unfold wR at H
  split at H
  ·rename_i c hc
   cases hd:Z5 n c o.dst with
   |false=>rw[hd]at H;exact H.elim
   |true=>
    rw[hd]at H
    simp only[cond_true]at H
    have hw:=J8 hs hc
    have ae:∀i,o.dst=some i->i∈Qx (o::rest):=λi hi=>by simp[Qx,hi]
    have aa:∀x∈Qx rest,x∈Qx (o::rest):=λx hx=>by
     unfold Qx
     split
     ·exact Aw _ hx
     ·exact hx
    have Z:∀v u d' h',(valid (Zl a) c->u=v)->(¬valid (Zl a) c->u=undef)->wR P n ops K rest (putO e o.dst c v) h'->wpList P ops Q rest (a.put o.dst u) (mk B d' h'):=λv u d' h' h1 h2 h3=>
     zct B rest _ _ _ _ h3 (hs.putO hd h1 h2) λe' a' ah af q1 q2 q3=>hQ e' a' ah af q1 ((Same.put a o.dst u ae).trans (q2.mono aa)) q3
    unfold wpList
    by_cases hv:valid (Zl a) c
    ·rw[if_pos (hw.2 hv)]
     exact .inl (zia H hs hv B d λv d' h' hK=>Z v v d' h' (λ_=>rfl) (λab=>absurd hv ab) hK)
    ·rw[if_neg (λhx=>hv (hw.1 hx))]
     obtain⟨v,hK⟩:=z4l H hs hv
     exact Z v undef d h (λab=>absurd ab hv) (λ_=>rfl) hK
  ·exact H.elim
def z5u(P:Program)(o:Oper)(ρ:Operand->Value)(g:Option Bool)(h:Za)(K:Value->Prop):Prop:=
 match o.op with
 |.call c=>match c.callee with
  |.value x=>bif zar x then(match Wu P (execOp ρ o)with
    |some (.enter f args)=>match z9k P o.type with
     |some rt=>z1c rt λv=>req g (XC P f args h λv' h'=>v'=v/\h'=h)/\K v
     |none=>False
    |_=>False)else(match z9k P o.type with
     |some rt=>z1c rt λv=>req g (qb9 P (ρ x) (c.args.map ρ) λf args=>XC P f args h λv' h'=>v'=v/\h'=h)/\K v
     |none=>False)
  |_=>False
 |_=>False
theorem zqv{K:Value->Prop}(H:z5u P o ρ g h K):
  ∃v,K v/\(gok g->∃f args,(∀w,(execOp ρ o).run P w=.ok (.enter f args) w)/\XC P f args h λv' h'=>v'=v/\h'=h):=by
 unfold z5u at H
 split at H
 ·rename_i c ho
  split at H
  ·rename_i x hx
   cases hst:zar x with
   |true=>
    rw[hst]at H
    simp only[cond_true]at H
    split at H
    ·rename_i f args he
     split at H
     ·obtain⟨v,h1,h2⟩:=zh3 H
      exact⟨v,h2,λhg=>⟨f,args,λw=>zb0 he w,h1.out hg⟩⟩
     ·exact H.elim
    ·exact H.elim
   |false=>
    rw[hst]at H
    simp only[cond_false]at H
    split at H
    ·obtain⟨v,h1,h2⟩:=zh3 H
     refine⟨v,h2,λhg=>?_⟩
     obtain⟨f,args,h3,h4⟩:=zkf ho hx (h1.out hg)
     exact⟨f,args,h4,h3⟩
    ·exact H.elim
  ·exact H.elim
 ·exact H.elim
def zib(o:Oper):Bool:=match o.op with
 |.call c=>match c.callee with
  |.builtin _=>false
  |_=>true
 |_=>false
def opQ(P:Program)(o:Oper)(e:Env)(c:Zr)(h:Za)(Z:Bool)(K:Value->Prop):Prop:=
 match o.op with
 |.pick x a b=>zw7 e c x a b K
 |_=>bif Yc o.op then(bif known e c o.op.operands.toList then(match zdo e c with
   |some g=>bif zib o then(bif Z then z5u P o (rho e c) g h K else False)else Jn P o (rho e c) g h K
   |none=>False)else False)else False
def wQ(P:Program)(n:Nat)(ops:Array Oper)(h:Za)(Z:Bool)(K:Env->Prop):List Oper->Env->Prop
 |[],e=>K e
 |o::rest,e=>match Xy ops e o.guard with
  |some c=>bif Z5 n c o.dst then opQ P o e c h Z λv=>wQ P n ops h Z K rest (putO e o.dst c v)else False
  |none=>False
def YQ(P:Program)(o:Oper)(a:Act)(B:World)(h:Za)(Z:Bool)(v:Value):Prop:=
 (∀d,(execOp a.eval o).run P (mk B d h)=.ok (.value v) (mk B d h)) \/
 (Z=true/\∃f args,(∀d,(execOp a.eval o).run P (mk B d h)=.ok (.enter f args) (mk B d h))/\XC P f args h λv' h'=>v'=v/\h'=h)
theorem znx{Z:Bool}{K:Value->Prop}(H:opQ P o e c h Z K)(hs:Sat n e a)(B:World):
  ∃v,K v/\(valid (Zl a) c->YQ P o a B h Z v):=by
 unfold opQ at H
 split at H
 ·rename_i x y z ho
  obtain⟨v,h1,h2⟩:=zas hs H
  refine⟨v,h1,λhv=>?_⟩
  obtain⟨t,h3,h4⟩:=h2 hv
  refine .inl λd=>?_
  simp only[execOp,ho,h3,asBool,Sem.run_bind,Sem.run_pure,Result.andThen_ok]
  rw[h4]
 ·cases hns:Yc o.op with
  |false=>rw[hns]at H;exact H.elim
  |true=>
   rw[hns]at H
   cases hk:known e c o.op.operands.toList with
   |false=>rw[hk]at H;exact H.elim
   |true=>
    rw[hk]at H
    simp only[cond_true]at H
    split at H
    ·rename_i g hg
     cases hc:zib o with
     |false=>
      rw[hc]at H
      obtain⟨v,h1,h2⟩:=zdn H
      refine⟨v,h1,λhv=>.inl λd=>?_⟩
      rw[Xq hs hv hns hk]
      exact h2 (W9 hs hg hv) B d
     |true=>
      rw[hc]at H
      cases Z with
      |false=>exact H.elim
      |true=>
       simp only[cond_true]at H
       obtain⟨v,h1,h2⟩:=zqv H
       refine⟨v,h1,λhv=>?_⟩
       obtain⟨f,args,h3,h4⟩:=h2 (W9 hs hg hv)
       refine .inr ⟨rfl,f,args,λd=>?_,h4⟩
       rw[Xq hs hv hns hk]
       exact h3 _
    ·exact H.elim
theorem zsy{P:Program}{n:Nat}{ops:Array Oper}{h:Za}{ab:Bool}{K:Env->Prop}{Q:Act->Prop}(B:World):
  ∀(l:List Oper) (e:Env) (a:Act),wQ P n ops h ab K l e->Sat n e a->(∀e' a',Sat n e' a'->Same (Qx l) a a'->K e'->Q a')->wpQuiet P ops (λw=>∃d,w=mk B d h) Q l a
 |[],e,a,H,hs,hQ=>hQ _ _ hs (Same.refl _ _) H
 |o::rest,e,a,H,hs,hQ=>by
  unfold wQ at H
  split at H
  ·rename_i c hc
   cases hd:Z5 n c o.dst with
   |false=>rw[hd]at H;exact H.elim
   |true=>
    rw[hd]at H
    simp only[cond_true]at H
    have hw:=J8 hs hc
    have af:∀i,o.dst=some i->i∈Qx (o::rest):=λi hi=>by simp[Qx,hi]
    have aa:∀x∈Qx rest,x∈Qx (o::rest):=λx hx=>by
     unfold Qx
     split
     ·exact Aw _ hx
     ·exact hx
    obtain⟨v,hK,hy⟩:=znx H hs B
    have Z:∀u,(valid (Zl a) c->u=v)->(¬valid (Zl a) c->u=undef)->wpQuiet P ops (λw=>∃d,w=mk B d h) Q rest (a.put o.dst u):=λu h1 h2=>
     zsy B rest _ _ hK (hs.putO hd h1 h2) λe' a' q1 q2 q3=>hQ e' a' q1 ((Same.put a o.dst u af).trans (q2.mono aa)) q3
    unfold wpQuiet
    by_cases hv:valid (Zl a) c
    ·rw[if_pos (hw.2 hv)]
     refine⟨v,?_,Z v (λ_=>rfl) (λae=>absurd hv ae)⟩
     rintro w ⟨d,rfl⟩
     unfold Oper.quietAt
     rcases hy hv with h1|⟨_,f,args,h1,h2⟩
     ·rw[h1 d];exact⟨rfl,rfl⟩
     ·rw[h1 d]
      refine⟨rfl,(h2 B d).mono ?_⟩
      rintro e' w'' ⟨v',d',h',rfl,rfl,rfl,rfl⟩
      exact⟨rfl,d',rfl⟩
    ·rw[if_neg (λhx=>hv (hw.1 hx))]
     exact Z undef (λae=>absurd ae hv) (λ_=>rfl)
  ·exact H.elim
def z5v(P:Program)(o:Oper)(ρ:Operand->Value)(g:Option Bool)(h:Za)(K:Value->Prop):Prop:=
 match o.op with
 |.call c=>match c.callee with
  |.value x=>bif zar x then(match Wu P (execOp ρ o)with
    |some (.enter f args)=>match z9k P o.type with
     |some rt=>z1c rt λv=>req g (∀h1,Keep h.size h h1->XC P f args h1 λv' h'=>v'=v/\Keep h1.size h1 h')/\K v
     |none=>False
    |_=>False)else False
  |_=>False
 |_=>False
theorem zqw{K:Value->Prop}(H:z5v P o ρ g h K):
  ∃v,K v/\(gok g->∃f args,(∀w,(execOp ρ o).run P w=.ok (.enter f args) w)/\∀h1,Keep h.size h h1->XC P f args h1 λv' h'=>v'=v/\Keep h1.size h1 h'):=by
 unfold z5v at H
 split at H
 ·split at H
  ·rename_i x _
   cases hx:zar x with
   |false=>rw[hx]at H;exact H.elim
   |true=>
    rw[hx]at H
    simp only[cond_true]at H
    split at H
    ·rename_i f args hv
     split at H
     ·obtain⟨v,h1,h2⟩:=zh3 H
      exact⟨v,h2,λhg=>⟨f,args,λw=>zb0 hv w,h1.out hg⟩⟩
     ·exact H.elim
    ·exact H.elim
  ·exact H.elim
 ·exact H.elim
def opK(P:Program)(o:Oper)(e:Env)(c:Zr)(h:Za)(K:Value->Prop):Prop:=
 match o.op with
 |.pick x a b=>zw7 e c x a b K
 |_=>bif Yc o.op then(bif known e c o.op.operands.toList then(match zdo e c with
   |some g=>bif zib o then z5v P o (rho e c) g h K else bif zhf o then Jn P o (rho e c) g h K else False
   |none=>False)else False)else False
def wK(P:Program)(n:Nat)(ops:Array Oper)(h:Za)(K:Env->Prop):List Oper->Env->Prop
 |[],e=>K e
 |o::rest,e=>match Xy ops e o.guard with
  |some c=>bif Z5 n c o.dst then opK P o e c h λv=>wK P n ops h K rest (putO e o.dst c v)else False
  |none=>False
def YK(P:Program)(o:Oper)(a:Act)(B:World)(h:Za)(v:Value):Prop:=
 (∀d h',Keep h.size h h'->(execOp a.eval o).run P (mk B d h')=.ok (.value v) (mk B d h')) \/
 (∃f args,(∀d h',(execOp a.eval o).run P (mk B d h')=.ok (.enter f args) (mk B d h'))/\∀h1,Keep h.size h h1->XC P f args h1 λv' h'=>v'=v/\Keep h1.size h1 h')
theorem zw8{K:Value->Prop}(H:opK P o e c h K)(hs:Sat n e a)(B:World):
  ∃v,K v/\(valid (Zl a) c->YK P o a B h v):=by
 unfold opK at H
 split at H
 ·rename_i x y z ho
  obtain⟨v,h1,h2⟩:=zas hs H
  refine⟨v,h1,λhv=>?_⟩
  obtain⟨t,h3,h4⟩:=h2 hv
  refine .inl λd h' _=>?_
  simp only[execOp,ho,h3,asBool,Sem.run_bind,Sem.run_pure,Result.andThen_ok]
  rw[h4]
 ·cases hns:Yc o.op with
  |false=>rw[hns]at H;exact H.elim
  |true=>
   rw[hns]at H
   cases hk:known e c o.op.operands.toList with
   |false=>rw[hk]at H;exact H.elim
   |true=>
    rw[hk]at H
    simp only[cond_true]at H
    split at H
    ·rename_i g hg
     cases hc:zib o with
     |false=>
      rw[hc]at H
      cases hf:zhf o with
      |false=>rw[hf]at H;exact H.elim
      |true=>
       rw[hf]at H
       obtain⟨v,h1,h2⟩:=zcs hf H
       refine⟨v,h1,λhv=>.inl λd h' Z=>?_⟩
       rw[Xq hs hv hns hk]
       exact h2 (W9 hs hg hv) h' Z B d
     |true=>
      rw[hc]at H
      obtain⟨v,h1,h2⟩:=zqw H
      refine⟨v,h1,λhv=>?_⟩
      obtain⟨f,args,h3,h4⟩:=h2 (W9 hs hg hv)
      refine .inr ⟨f,args,λd h'=>?_,h4⟩
      rw[Xq hs hv hns hk]
      exact h3 _
    ·exact H.elim
theorem zs0{P:Program}{n:Nat}{ops:Array Oper}{h:Za}{K:Env->Prop}{Q:Act->Prop}(B:World):
  ∀(l:List Oper) (e:Env) (a:Act),wK P n ops h K l e->Sat n e a->(∀e' a',Sat n e' a'->Same (Qx l) a a'->K e'->Q a')->wpQuiet P ops (λw=>∃d h',Keep h.size h h'/\w=mk B d h') Q l a
 |[],e,a,H,hs,hQ=>hQ _ _ hs (Same.refl _ _) H
 |o::rest,e,a,H,hs,hQ=>by
  unfold wK at H
  split at H
  ·rename_i c hc
   cases hd:Z5 n c o.dst with
   |false=>rw[hd]at H;exact H.elim
   |true=>
    rw[hd]at H
    simp only[cond_true]at H
    have hw:=J8 hs hc
    have af:∀i,o.dst=some i->i∈Qx (o::rest):=λi hi=>by simp[Qx,hi]
    have ab:∀x∈Qx rest,x∈Qx (o::rest):=λx hx=>by
     unfold Qx
     split
     ·exact Aw _ hx
     ·exact hx
    obtain⟨v,hK,hy⟩:=zw8 H hs B
    have aa:∀u,(valid (Zl a) c->u=v)->(¬valid (Zl a) c->u=undef)->wpQuiet P ops (λw=>∃d h',Keep h.size h h'/\w=mk B d h') Q rest (a.put o.dst u):=λu h1 h2=>
     zs0 B rest _ _ hK (hs.putO hd h1 h2) λe' a' q1 q2 q3=>hQ e' a' q1 ((Same.put a o.dst u af).trans (q2.mono ab)) q3
    unfold wpQuiet
    by_cases hv:valid (Zl a) c
    ·rw[if_pos (hw.2 hv)]
     refine⟨v,?_,aa v (λ_=>rfl) (λae=>absurd hv ae)⟩
     rintro w ⟨d,h0,Z,rfl⟩
     unfold Oper.quietAt
     rcases hy hv with h1|⟨f,args,h1,h2⟩
     ·rw[h1 d h0 Z];exact⟨rfl,rfl⟩
     ·rw[h1 d h0]
      refine⟨rfl,(h2 h0 Z B d).mono ?_⟩
      rintro e' w'' ⟨v',d',h',rfl,rfl,rfl,ah⟩
      exact⟨rfl,d',h',Z.trans ah Z.size,rfl⟩
    ·rw[if_neg (λhx=>hv (hw.1 hx))]
     exact aa undef (λae=>absurd ae hv) (λ_=>rfl)
  ·exact H.elim
theorem zs1{P:Program}{n:Nat}{ops:Array Oper}{h:Za}{K:Env->Prop}{Q:Act->Prop}(B:World)(d:Nat):
  ∀(l:List Oper) (e:Env) (a:Act),wQ P n ops h false K l e->Sat n e a->(∀e' a',Sat n e' a'->Same (Qx l) a a'->K e'->Q a')->wpStill P ops (mk B d h) Q l a
 |[],e,a,H,hs,hQ=>hQ _ _ hs (Same.refl _ _) H
 |o::rest,e,a,H,hs,hQ=>by
  unfold wQ at H
  split at H
  ·rename_i c hc
   cases hd:Z5 n c o.dst with
   |false=>rw[hd]at H;exact H.elim
   |true=>
    rw[hd]at H
    simp only[cond_true]at H
    have hw:=J8 hs hc
    have ae:∀i,o.dst=some i->i∈Qx (o::rest):=λi hi=>by simp[Qx,hi]
    have aa:∀x∈Qx rest,x∈Qx (o::rest):=λx hx=>by
     unfold Qx
     split
     ·exact Aw _ hx
     ·exact hx
    obtain⟨v,hK,hy⟩:=znx H hs B
    have Z:∀u,(valid (Zl a) c->u=v)->(¬valid (Zl a) c->u=undef)->wpStill P ops (mk B d h) Q rest (a.put o.dst u):=λu h1 h2=>
     zs1 B d rest _ _ hK (hs.putO hd h1 h2) λe' a' q1 q2 q3=>hQ e' a' q1 ((Same.put a o.dst u ae).trans (q2.mono aa)) q3
    unfold wpStill
    by_cases hv:valid (Zl a) c
    ·rw[if_pos (hw.2 hv)]
     unfold Oper.still
     rcases hy hv with h1|⟨h0,_⟩
     ·rw[h1 d,Oper.stillUpon_value];exact Z v (λ_=>rfl) (λab=>absurd hv ab)
     ·cases h0
    ·rw[if_neg (λhx=>hv (hw.1 hx))]
     exact Z undef (λab=>absurd ab hv) (λ_=>rfl)
  ·exact H.elim
end
section
variable {i n:Nat} {a b a0:Act} {o:Oper} {h h' h0:Za} {P:Program} {ρ:Operand -> Value} {ops:Array Oper} {listed:Array Bool} {tr md:Bool} {e:Env}
def memN:List Nat->Nat->Bool
 |[],_=>false
 |j::l,i=>bif Nat.beq i j then true else memN l i
theorem Y7{l:List Nat}(h:memN l i=false):i∉l:=by
 induction l with
 |nil=>simp
 |cons j l ih=>
  simp only[memN]at h
  by_cases hb:Nat.beq i j=true
  ·simp[hb]at h
  ·simp only[hb,cond_false]at h
   simp only[Ay,not_or]
   exact⟨λe=>hb (by rw[e];simp),ih h⟩
def tmpsOf:List Operand->List Nat
 |[]=>[]
 |.tmp t::l=>t::tmpsOf l
 |_::l=>tmpsOf l
def Ju(ops:Array Oper)(o:Oper):List Nat:=(match o.guard with
 |some (j,_)=>match Qp ops j with
  |some g=>[g]
  |none=>[]
 |none=>[])++tmpsOf o.op.operands.toList
def Q3(ops:Array Oper)(k:Nat)(S:List Nat):Nat->Bool
 |0=>true
 |p+1=>bif (match Qp ops p with
  |some t=>bif memN S t then Region.waitsFor .any ops k p else true
  |none=>true)then Q3 ops k S p else false
theorem Zt{ops:Array Oper}{k:Nat}{S:List Nat}:∀{m:Nat},Q3 ops k S m=true->∀p t,p<m->Qp ops p=some t->t∈S->Region.waitsFor .any ops k p=true
 |0,_,p,t,hp,_,_=>by omega
 |m+1,h,p,t,hp,hd,ht=>by
  simp only[Q3]at h
  cases hb:(match Qp ops m with
   |some t=>bif memN S t then Region.waitsFor .any ops k m else true
   |none=>true)with
  |false=>rw[hb]at h;cases h
  |true=>
   rw[hb]at h
   rcases A1 p m with h1|h1
   ·exact Zt h p t h1 hd ht
   ·have:p=m:=by omega
    subst this
    rw[hd]at hb
    simp only at hb
    cases hm:memN S t with
    |false=>exact absurd ht (Y7 hm)
    |true=>rw[hm]at hb;exact hb
def Zw(ops:Array Oper):Nat->Bool
 |0=>true
 |j+1=>bif (match ops[j]? with
  |some o=>o.after.toList.all λe=>!(Region.binds .any e)||Nat.blt e.on j
  |none=>true)then Zw ops j else false
theorem Zo{ops:Array Oper}:∀{n:Nat},Zw ops n=true->∀j o,j<n->ops[j]?=some o->∀e∈o.after,Region.binds .any e=true->e.on<j
 |0,_,j,_,hj,_,_,_,_=>by omega
 |n+1,h,j,o,hj,ho,e,he,hb=>by
  simp only[Zw]at h
  cases hc:(match ops[n]? with
   |some o=>o.after.toList.all λe=>!(Region.binds .any e)||Nat.blt e.on n
   |none=>true)with
  |false=>rw[hc]at h;cases h
  |true=>
   rw[hc]at h
   rcases A1 j n with h1|h1
   ·exact Zo h j o h1 ho e he hb
   ·have:j=n:=by omega
    subst this
    rw[ho]at hc
    have:=A5.1 hc e (by simpa using he)
    rw[hb]at this
    simpa[CC]using this
def zw9(ops:Array Oper)(d:Nat):Nat->Bool
 |0=>false
 |p+1=>bif (match Qp ops p with
  |some t=>Nat.beq t d
  |none=>false)then true else zw9 ops d p
def Yl(ops:Array Oper):Nat->Bool
 |0=>true
 |p+1=>bif (match Qp ops p with
  |some t=>!(zw9 ops t p)
  |none=>true)then Yl ops p else false
theorem zgb{ops:Array Oper}{d:Nat}:∀{m:Nat},zw9 ops d m=false->∀p,p<m->Qp ops p≠some d
 |0,_,p,hp=>by omega
 |m+1,h,p,hp=>by
  simp only[zw9]at h
  cases hb:(match Qp ops m with
   |some t=>Nat.beq t d
   |none=>false)with
  |true=>rw[hb]at h;cases h
  |false=>
   rw[hb]at h
   rcases A1 p m with h1|h1
   ·exact zgb h p h1
   ·have:p=m:=by omega
    subst this
    intro e
    rw[e]at hb
    simp at hb
theorem Z7{ops:Array Oper}:∀{m:Nat},Yl ops m=true->∀p q t,p<m->q<m->Qp ops p=some t->Qp ops q=some t->p=q
 |0,_,p,q,t,hp,_,_,_=>by omega
 |m+1,h,p,q,t,hp,hq,e1,e2=>by
  simp only[Yl]at h
  cases hb:(match Qp ops m with
   |some t=>!(zw9 ops t m)
   |none=>true)with
  |false=>rw[hb]at h;cases h
  |true=>
   rw[hb]at h
   rcases A1 p m with h1|h1 <;> rcases A1 q m with h2|h2
   ·exact Z7 h p q t h1 h2 e1 e2
   ·have:q=m:=by omega
    subst this
    rw[e2]at hb
    simp only[Dh]at hb
    exact absurd e1 (zgb hb p h1)
   ·have:p=m:=by omega
    subst this
    rw[e1]at hb
    simp only[Dh]at hb
    exact absurd e2 (zgb hb q h2)
   ·omega
def zde(o:Oper):Option Bool:=match o.op with
 |.fieldAddr _ _ _=>some true
 |.indexAddr _ _ _=>some true
 |.move _=>some true
 |.assign _=>match o.after.toList with
  |[]=>some true
  |_=>none
 |.nilCheck _=>some true
 |.slice _ _ _ _ _=>some true
 |.binOp _ _ _ _ _=>some true
 |.load _ _=>some false
 |_=>none
def Zd(o:Oper):Bool:=match zde o with
 |some _=>true
 |none=>false
def Zi(o:Oper):Bool:=match zde o with
 |some b=>!b
 |none=>false
def Zk:Nat->List Oper->List Nat
 |_,[]=>[]
 |k,o::l=>bif Zd o then Zk (k+1) l else k::Zk (k+1) l
def X6(ops:Array Oper):List Nat->Bool
 |[]=>true
 |[_]=>true
 |i::j::l=>bif Region.waitsFor .any ops j i then X6 ops (j::l)else false
def Yg(ops:Array Oper)(i:Nat):List Nat->Bool
 |[]=>false
 |j::l=>bif Region.waitsFor .any ops j i then true else Yg ops i l
def zic(ops:Array Oper)(T:List Nat):Nat->Bool
 |0=>false
 |k+1=>bif (match ops[k]? with
  |some o=>bif Zi o then !(Yg ops k T)else false
  |none=>false)then true else zic ops T k
def Jq(ops:Array Oper)(T:List Nat):Nat->Nat->Bool
 |0,k=>memN T k
 |f+1,k=>bif memN T k then true else(BS ops.size).any λp=>bif Region.waitsFor .any ops p k then Jq ops T f p else false
def z1g(ops:Array Oper)(T:List Nat):Nat->Bool
 |0=>false
 |k+1=>bif (match ops[k]? with
  |some o=>bif Zi o then !(Jq ops T ops.size k)else false
  |none=>false)then true else z1g ops T k
def zny(tr:Bool)(ops:Array Oper)(T:List Nat)(m:Nat):Bool:=bif tr then z1g ops T m else zic ops T m
def Yz(l:List Oper):Bool:=l.all λo=>match o.guard with
 |none=>Yc o.op
 |some _=>false
def X7(ops:Array Oper):Nat->Bool
 |0=>true
 |k+1=>bif (match ops[k]? with
  |some o=>bif Q3 ops k (tmpsOf o.op.operands.toList) ops.size then(bif Zd o then(Zk 0 ops.toList).all λj=>!(Region.waitsFor .any ops k j)||(match Qp ops j with
   |some t=>!(memN (tmpsOf o.op.operands.toList) t)
   |none=>true)else true)else false
  |none=>true)then X7 ops k else false
def zu5(ops:Array Oper):Bool:=bif Yz ops.toList then(bif Zw ops ops.size then(bif Yl ops ops.size then(bif X6 ops (Zk 0 ops.toList)then X7 ops ops.size else false)else false)else false)else false
def wU(P:Program)(n:Nat)(h:Za)(K:Env->Prop):List Oper->Env->Prop
 |[],e=>K e
 |o::l,e=>bif Zd o then(bif Z5 n [] o.dst then(bif Yc o.op then(bif known e [] o.op.operands.toList then Jn P o (rho e []) none h λv=>wU P n h K l (putO e o.dst [] v)else False)else False)else False)else wU P n h K l e
def wT(P:Program)(n:Nat)(ops:Array Oper)(h0:Za)(K:Env->Za->Prop)(tr:Bool):List Nat->List Nat->Env->Za->Prop
 |_,[],e,h=>K (clean e) h
 |T,j::l,e,h=>match ops[j]? with
  |some o=>bif Z5 n [] o.dst then opW P o e [] h λv h'=>(bif zny tr ops (j::T) ops.size then Keep h0.size h0 h'/\wT P n ops h0 K tr (j::T) l (putO e o.dst [] v) h' else wT P n ops h0 K tr (j::T) l (putO e o.dst [] v) h')else False
  |none=>False
def Z0:Nat->List Oper->(Nat->Value)->Act->Act
 |_,[],_,a=>a
 |k,o::l,f,a=>Z0 (k+1) l f (bif Zd o then a.put o.dst (f k)else a)
theorem Qq{a b:Act}:∀{l:List Operand},(∀t∈tmpsOf l,Zl a t=Zl b t)->∀x∈l,a.eval x=b.eval x
 |[],_,x,hx=>by cases hx
 |y::l,h,x,hx=>by
  rcases Ay.1 hx with rfl|hx
  ·cases x with
   |tmp t=>exact h t (by simp[tmpsOf])
   |const v=>rfl
   |global g=>rfl
   |func f=>rfl
  ·refine Qq (l:=l) (λt ht=>h t ?_) x hx
   cases y <;> simp[tmpsOf,ht]
theorem Qr(hs:Yc o.op=true)(h:∀t∈tmpsOf o.op.operands.toList,Zl a t=Zl b t):execOp a.eval o=execOp b.eval o:=
 execOp_congr o (λcs b hb=>by rw[hb]at hs;cases hs) λx hx=>Qq h x (by simpa using hx)
theorem zqx{p:Addr}(e:h'[p.block]?=h[p.block]?)(i:Nat):Ze h' (p.add i)=Ze h (p.add i):=by
 have hb:(p.add i).block=p.block:=by unfold AD;split <;> rfl
 unfold Ze;rw[hb,e]
theorem ze5{h h':Za}{p:Addr}(e:h'[p.block]?=h[p.block]?):∀{vs:List Value} {i:Nat},Zb h p i vs->Zb h' p i vs
 |[],_,_=>trivial
 |v::vs,i,⟨h1,h2⟩=>⟨(zqx e i).trans h1,ze5 e h2⟩
theorem zqy{t:TypeId}{x:Value}{K:Value->Prop}(H:zlx P h t x none K):∃v p,x=.pointer (some p)/\K v/\∀h',h'[p.block]?=h[p.block]?->QExec P (DR t x) h' v:=by
 unfold zlx at H
 split at H
 ·rename_i q a hv
  obtain⟨x,h1,h2⟩:=H
  refine⟨_,q,rfl,h2,λh' e=>ze3 hv ?_⟩
  have h1:Ze h q=some _:=h1
  unfold Ze at h1 ⊢
  rw[e];exact h1
 ·rename_i q l hv
  obtain⟨vs,h0,⟨h1,h2⟩,_⟩:=W4 H (Ye l)
  exact⟨_,q,rfl,h2,λh' e=>ze4 hv h0 (ze5 e h1)⟩
 ·exact H.elim
def LdOK(o:Oper)(ρ:Operand->Value)(h h':Za):Prop:=Zi o=false\/Keep h.size h h'\/∀t a p,o.op=.load t a->ρ a=.pointer (some p)->h'[p.block]?=h[p.block]?
theorem LdOK.congr{ρ ρ':Operand->Value}(e:∀x∈o.op.operands.toList,ρ' x=ρ x)(H:LdOK o ρ h h'):LdOK o ρ' h h':=by
 rcases H with H|H|H
 ·exact .inl H
 ·exact .inr (.inl H)
 ·refine .inr (.inr λt a p ho hp=>H t a p ho ?_)
  rw[<-e a (by rw[ho];simp[Op.operands])];exact hp
theorem zcu(hq:Zd o=true){K:Value->Prop}(H:Jn P o ρ none h K):
  ∃v,K v/\∀h',LdOK o ρ h h'->QExec P (execOp ρ o) h' (.value v):=by
 cases ho:o.op with
 |load t x=>
  have Z:zhf o=true:=by unfold zhf;rw[ho]
  obtain⟨v1,k1,k2⟩:=zcs Z H
  unfold Jn at H;rw[ho]at H
  simp only at H
  obtain⟨v,p,hx,h1,h2⟩:=zqy H
  have hv:v1=v:=by
   have a1:=k2 trivial h (Keep.refl _ _) default 0
   have a2:QExec P (execOp ρ o) h (.value v):=by simp only[execOp,ho];exact(h2 h rfl).val
   have a2:=a2 default 0
   rw[a1]at a2
   injection a2 with a2 _
   injection a2
  subst hv
  refine⟨v1,k1,λh' hk=>?_⟩
  rcases hk with hk|hk|hk
  ·unfold Zi zde at hk;rw[ho]at hk;cases hk
  ·exact k2 trivial h' hk
  ·have:=h2 h' (hk t x p ho hx)
   simp only[execOp,ho]
   exact this.val
 |fieldAddr t x i=>
  unfold Jn at H;rw[ho]at H
  obtain⟨v,h1,h2⟩:=Zm H none
  exact⟨v,h1,λh' _=>h2 trivial h'⟩
 |indexAddr t x i=>
  unfold Jn at H;rw[ho]at H
  simp only at H
  cases he:zb3 P t with
  |false=>rw[he]at H;exact H.elim
  |true=>
   rw[he]at H
   obtain⟨v,h1,h2⟩:=Y6 (Y3 he) H
   refine⟨v,h1,λh' _=>?_⟩
   simp only[execOp,ho]
   exact(h2 trivial h').val
 |move x=>
  unfold Jn at H;rw[ho]at H
  obtain⟨v,h1,h2⟩:=Zm H none
  exact⟨v,h1,λh' _=>h2 trivial h'⟩
 |assign x=>
  unfold Jn at H;rw[ho]at H
  obtain⟨v,h1,h2⟩:=Zm H none
  exact⟨v,h1,λh' _=>h2 trivial h'⟩
 |slice t x lo hi mx=>
  unfold Jn at H;rw[ho]at H
  simp only at H
  cases he:zb3 P t with
  |false=>rw[he]at H;exact H.elim
  |true=>
   rw[he]at H
   obtain⟨v,h1,h2⟩:=Xr (Y3 he) H
   refine⟨v,h1,λh' _=>?_⟩
   simp only[execOp,ho]
   exact(h2 (show gok none from trivial) h').val
 |binOp op t x y t'=>
  unfold Jn at H;rw[ho]at H
  obtain⟨v,h1,h2⟩:=zly ho H
  exact⟨v,h1,λh' _=>h2 trivial h'⟩
 |nilCheck x=>
  unfold Jn at H;rw[ho]at H
  simp only at H
  unfold qb8 at H
  split at H
  ·rename_i p hx
   obtain⟨a,h1,h2⟩:=H
   have hp:=h1.out (g:=none) trivial
   subst hp
   refine⟨_,h2,λh' _ B d=>?_⟩
   simp only[execOp,ho,hx]
   rfl
  ·obtain⟨v,h1,h2⟩:=Zm H none
   exact⟨v,h1,λh' _=>h2 trivial h'⟩
 |_=>unfold Zd zde at hq;rw[ho]at hq;cases hq
theorem Z1(σ:Nat->Value):valid σ []:=by unfold valid;trivial
theorem W5:∀{l:List Oper} {k:Nat} {f:Nat->Value} {a:Act},(Z0 k l f a).tmps.size=a.tmps.size/\(Z0 k l f a).defers=a.defers
 |[],_,_,_=>⟨rfl,rfl⟩
 |o::l,k,f,a=>by
  unfold Z0
  have:=W5 (l:=l) (k:=k+1) (f:=f) (a:=bif Zd o then a.put o.dst (f k)else a)
  rw[this.1,this.2]
  cases Zd o with
  |true=>exact⟨size_put _ _ _,Zs _ _ _⟩
  |false=>exact⟨rfl,rfl⟩
theorem Zj{d:Option Nat}{u:Value}{s:Nat}(h:d≠some s):Zl (a.put d u) s=Zl a s:=by
 cases d with
 |none=>rfl
 |some t=>exact Zz λe=>h (by rw[e])
theorem Qj{s:Nat}:∀{l:List Oper} {k:Nat} {f:Nat->Value} {a:Act},(∀o∈l,Zd o=true->o.dst≠some s)->Zl (Z0 k l f a) s=Zl a s
 |[],_,_,_,_=>rfl
 |o::l,k,f,a,h=>by
  unfold Z0
  rw[Qj λo' Z=>h o' (Aw _ Z)]
  cases hq:Zd o with
  |true=>exact Zj (h o AC hq)
  |false=>rfl
theorem Xs{P:Program}{n:Nat}{h:Za}{K:Env->Prop}:∀{l:List Oper} {k:Nat} {e:Env} {a:Act},wU P n h K l e->Sat n e a->∃(f:Nat->Value) (e':Env),K e'/\Sat n e' (Z0 k l f a) /\
  ∀i o,l[i]?=some o->Zd o=true->Yc o.op=true/\Z5 n [] o.dst=true/\∀h',LdOK o (Z0 k (l.take i) f a).eval h h'->QExec P (execOp (Z0 k (l.take i) f a).eval o) h' (.value (f (k+i)))
 |[],k,e,a,H,hs=>⟨λ_=>undef,e,H,hs,λi o h=>by simp at h⟩
 |o::l,k,e,a,H,hs=>by
  unfold wU at H
  cases hq:Zd o with
  |false=>
   rw[hq]at H
   obtain⟨f,e',h1,h2,h3⟩:=Xs (k:=k+1) H hs
   refine⟨f,e',h1,by unfold Z0;rw[hq];exact h2,λi o' hi Z=>?_⟩
   cases i with
   |zero=>simp at hi;subst hi;rw[hq]at Z;cases Z
   |succ i=>
    have:=h3 i o' (by simpa using hi) Z
    rw[Bw]
    unfold Z0
    rw[hq,show k+(i+1)=k+1+i by omega];exact this
  |true=>
   rw[hq]at H
   simp only[cond_true]at H
   cases hd:Z5 n [] o.dst with
   |false=>rw[hd]at H;exact H.elim
   |true=>
    rw[hd]at H
    simp only[cond_true]at H
    cases hns:Yc o.op with
    |false=>rw[hns]at H;exact H.elim
    |true=>
     rw[hns]at H
     simp only[cond_true]at H
     cases hk:known e [] o.op.operands.toList with
     |false=>rw[hk]at H;exact H.elim
     |true=>
      rw[hk]at H
      simp only[cond_true]at H
      obtain⟨v,H1,H2⟩:=zcu hq H
      obtain⟨f,e',h1,h2,h3⟩:=Xs (k:=k+1) (a:=a.put o.dst v) H1 (hs.putO hd (λ_=>rfl) λhv=>absurd (Z1 _) hv)
      have hf:∀(m:List Oper) (j:Nat) (b:Act),Z0 (k+1+j) m (λx=>if x=k then v else f x) b=Z0 (k+1+j) m f b:=by
       intro m
       induction m with
       |nil=>intro j b;rfl
       |cons o' m ih=>
        intro j b
        unfold Z0
        dsimp only
        rw[if_neg (show¬k+1+j=k by omega),show k+1+j+1=k+1+(j+1)by omega,ih]
      refine⟨λx=>if x=k then v else f x,e',h1,?_,λi o' hi Z=>?_⟩
      ·unfold Z0
       rw[hq,cond_true]
       dsimp only
       rw[if_pos rfl]
       have:=hf l 0 (a.put o.dst v)
       rw[CM]at this
       rw[this];exact h2
      ·cases i with
       |zero=>
        simp at hi;subst hi
        rw[Ed,CM]
        dsimp only
        rw[if_pos rfl]
        refine⟨hns,hd,λh' hh=>?_⟩
        show QExec P (execOp a.eval o) h' _
        rw[Xq hs (Z1 _) hns hk]
        exact H2 h' (LdOK.congr (λx hx=>(Y2 hs (Z1 _) hk x hx).symm) hh)
       |succ i=>
        have:=h3 i o' (by simpa using hi) Z
        rw[Bw]
        unfold Z0
        rw[hq,cond_true]
        dsimp only
        rw[if_pos rfl]
        have e2:=hf (l.take i) 0 (a.put o.dst v)
        rw[CM]at e2
        rw[e2,if_neg (show¬k+(i+1)=k by omega),show k+(i+1)=k+1+i by omega]
        exact this
theorem X8{next:Act->World->Prop}{Q:Exit->Act->World->Prop}{r:Result Next}(hb:b.defers=[])
  (H:o.upon P b (λc w=>c.defers=[]/\∀v,c=b.put o.dst v->next (a.put o.dst v) w) (λ_ _ _=>False) r):o.upon P a next Q r:=by
 have lo:¬LetsOut (λ(_:Exit) (_:Act) (_:World)=>False):=λh=>by
  obtain⟨_,_,h⟩:=h
  exact h
 cases r with
 |ok x w=>
  cases x with
  |value v=>exact H.2 v rfl
  |skip=>exact H.2 undef rfl
  |defer d=>
   have:=H.1
   rw[Zs]at this;cases this
  |enter f args=>
   refine Calls.mono (show Calls P f args w _ from H) λe w' he=>?_
   cases e with
   |returned v=>exact he.2 v rfl
   |panicked c=>exact he.elim
   |outgrown=>exact absurd he lo
  |row row args=>exact Rows.mono (show Rows P row args w _ from H) λv w' he=>he.2 v rfl
  |_=>exact H
 |halt x w=>cases x <;> first|exact H.elim|exact H
theorem Qa{j:Nat}:∀{l:List Oper} {k:Nat},j∈Zk k l↔k<=j/\∃o,l[j-k]?=some o/\Zd o=false
 |[],k=>by simp[Zk]
 |o::l,k=>by
  unfold Zk
  cases hq:Zd o with
  |true=>
   rw[cond_true,Qa (l:=l)]
   constructor
   ·rintro⟨h1,o',h2,h3⟩
    exact⟨by omega,o',by rw[show j-k=(j-(k+1))+1 by omega];simpa using h2,h3⟩
   ·rintro⟨h1,o',h2,h3⟩
    rcases Du h1 with e|e
    ·subst e
     simp at h2;subst h2;rw[hq]at h3;cases h3
    ·exact⟨by omega,o',by rw[show j-k=(j-(k+1))+1 by omega]at h2;simpa using h2,h3⟩
  |false=>
   rw[cond_false,Ay,Qa (l:=l)]
   constructor
   ·rintro(rfl|⟨h1,o',h2,h3⟩)
    ·exact⟨Av _,o,by simp,hq⟩
    ·exact⟨by omega,o',by rw[show j-k=(j-(k+1))+1 by omega];simpa using h2,h3⟩
   ·rintro⟨h1,o',h2,h3⟩
    rcases Du h1 with e|e
    ·exact .inl e.symm
    ·exact .inr ⟨by omega,o',by rw[show j-k=(j-(k+1))+1 by omega]at h2;simpa using h2,h3⟩
theorem Qm:∀{l:List Oper} {k:Nat},(Zk k l).Nodup
 |[],_=>List.nodup_nil
 |o::l,k=>by
  unfold Zk
  cases Zd o with
  |true=>exact Qm
  |false=>exact D5.2 ⟨λh=>by have:=(Qa.1 h).1;omega,Qm⟩
theorem Z8{ops:Array Oper}:∀{m:Nat},X7 ops m=true->∀k o,k<m->ops[k]?=some o->Q3 ops k (tmpsOf o.op.operands.toList) ops.size=true/\(Zd o=true->∀j∈Zk 0 ops.toList,Region.waitsFor .any ops k j=true->∀t,Qp ops j=some t->t∉tmpsOf o.op.operands.toList)
 |0,_,k,o,hk,_=>by omega
 |m+1,h,k,o,hk,ho=>by
  unfold X7 at h
  split at h
  ·rename_i o' Z
   cases hs:Q3 ops m (tmpsOf o'.op.operands.toList) ops.size with
   |false=>rw[hs]at h;cases h
   |true=>
    rw[hs,cond_true]at h
    rcases A1 k m with h1|h1
    ·refine Z8 (m:=m) ?_ k o h1 ho
     revert h
     cases(bif Zd o' then(Zk 0 ops.toList).all λj=>!(Region.waitsFor .any ops m j)||(match Qp ops j with
      |some t=>!(memN (tmpsOf o'.op.operands.toList) t)
      |none=>true)else true) <;> intro h <;> first|exact h|cases h
    ·have:k=m:=by omega
     subst this
     have:o'=o:=AL (Z.symm.trans ho)
     subst this
     refine⟨hs,λhq j hj hw t ht=>?_⟩
     rw[hq,cond_true]at h
     cases hall:(Zk 0 ops.toList).all λj=>!(Region.waitsFor .any ops k j)||(match Qp ops j with
      |some t=>!(memN (tmpsOf o'.op.operands.toList) t)
      |none=>true)with
     |false=>rw[hall]at h;cases h
     |true=>
      have:=A5.1 hall j hj
      rw[hw,ht]at this
      simp only[Ek,DD,Dh]at this
      exact Y7 this
  ·rename_i Z
   rw[cond_true]at h
   rcases A1 k m with h1|h1
   ·exact Z8 h k o h1 ho
   ·have:k=m:=by omega
    subst this
    rw[Z]at ho;cases ho
theorem Xa{ops:Array Oper}:∀{l:List Nat},X6 ops l=true->∀q i j,l[q]?=some i->l[q+1]?=some j->Region.waitsFor .any ops j i=true
 |[],_,q,i,j,h,_=>by simp at h
 |[_],_,q,i,j,_,h=>by simp at h
 |a::b::l,h,q,i,j,h1,h2=>by
  unfold X6 at h
  cases hw:Region.waitsFor .any ops b a with
  |false=>rw[hw]at h;cases h
  |true=>
   rw[hw,cond_true]at h
   cases q with
   |zero=>simp at h1 h2;subst h1;subst h2;exact hw
   |succ q=>exact Xa h q i j (by simpa using h1) (by simpa using h2)
theorem Y8{ops:Array Oper}{i:Nat}:∀{l:List Nat},Yg ops i l=true->∃j∈l,Region.waitsFor .any ops j i=true
 |[],h=>by cases h
 |j::l,h=>by
  unfold Yg at h
  cases hw:Region.waitsFor .any ops j i with
  |true=>exact⟨j,AC,hw⟩
  |false=>
   rw[hw,cond_false]at h
   obtain⟨j',h1,h2⟩:=Y8 h
   exact⟨j',Aw _ h1,h2⟩
theorem X9{ops:Array Oper}{T:List Nat}:∀{m:Nat},zic ops T m=false->∀k o,k<m->ops[k]?=some o->Zi o=true->Yg ops k T=true
 |0,_,k,o,hk,_,_=>by omega
 |m+1,h,k,o,hk,ho,hl=>by
  unfold zic at h
  cases hb:(match ops[m]? with
   |some o=>bif Zi o then !(Yg ops m T)else false
   |none=>false)with
  |true=>rw[hb]at h;cases h
  |false=>
   rw[hb,cond_false]at h
   rcases A1 k m with h1|h1
   ·exact X9 h k o h1 ho hl
   ·have:k=m:=by omega
    subst this
    rw[ho]at hb
    simp only[hl,cond_true,Bool.not_eq_false']at hb
    exact hb
theorem Jv{ops:Array Oper}{T:List Nat}:∀{f k:Nat},Jq ops T f k=true->∀{listed:Array Bool},(∀i p,listed.getD i false=true->Region.waitsFor .any ops i p=true->listed.getD p false=true)->(∀j∈T,listed.getD j false=true)->listed.getD k false=true
 |0,k,h,_,_,hT=>by
  have hm:k∈T:=by
   unfold Jq at h
   exact CU λhc=>by
    have:memN T k=false:=by
     clear h hT
     induction T with
     |nil=>rfl
     |cons x T ih=>
      simp only[Ay,not_or]at hc
      simp only[memN]
      have:Nat.beq k x=false:=by
       cases hb:Nat.beq k x with
       |false=>rfl
       |true=>exact absurd (Az hb) hc.1
      rw[this,cond_false];exact ih hc.2
    rw[this]at h;cases h
  exact hT k hm
 |f+1,k,h,listed,hc,hT=>by
  unfold Jq at h
  cases hm:memN T k with
  |true=>exact Jv (f:=0) (k:=k) (by unfold Jq;exact hm) hc hT
  |false=>
   rw[hm,cond_false,List.any_eq_true]at h
   obtain⟨p,_,hp⟩:=h
   cases hw:Region.waitsFor .any ops p k with
   |false=>rw[hw]at hp;cases hp
   |true=>rw[hw,cond_true]at hp;exact hc p k (Jv hp hc hT) hw
theorem zgc{ops:Array Oper}{T:List Nat}:∀{m:Nat},z1g ops T m=false->∀k o,k<m->ops[k]?=some o->Zi o=true->Jq ops T ops.size k=true
 |0,_,k,o,hk,_,_=>by omega
 |m+1,h,k,o,hk,ho,hl=>by
  unfold z1g at h
  cases hb:(match ops[m]? with
   |some o=>bif Zi o then !(Jq ops T ops.size m)else false
   |none=>false)with
  |true=>rw[hb]at h;cases h
  |false=>
   rw[hb,cond_false]at h
   rcases A1 k m with h1|h1
   ·exact zgc h k o h1 ho hl
   ·have:k=m:=by omega
    subst this
    rw[ho]at hb
    simp only[hl,cond_true]at hb
    simpa using hb
theorem Yo{i p:Nat}(hi:i∈Region.ready .any ops listed)(hw:Region.waitsFor .any ops i p=true):listed.getD p false=true:=by
 obtain⟨oj,aa,e,he,hb,ab⟩:=Region.waitsFor_spec hw
 obtain⟨_,o,ho,Z⟩:=mem_ready.1 hi
 have:oj=o:=AL (aa.symm.trans ho)
 subst this
 rw[<-ab];exact Z e he hb
theorem Qb(inv:HeadInv .any ops n listed){i p:Nat}(hi:listed.getD i false=true)(hw:Region.waitsFor .any ops i p=true):listed.getD p false=true:=by
 obtain⟨oj,Z,e,he,hb,aa⟩:=Region.waitsFor_spec hw
 rw[<-aa];exact inv.closed i oj Z hi e he hb
theorem Xb{p:Nat->Bool}{N:Nat}(h:∃k,k<N/\p k=false):∃k,k<N/\p k=false/\∀j,j<k->p j=true:=by
 obtain⟨k,h1,h2⟩:=h
 induction k using DC with
 |_ k ih=>
  by_cases hm:∃j,j<k/\p j=false
  ·obtain⟨j,h3,h4⟩:=hm
   exact ih j h3 (by omega) h4
  ·exact⟨k,h1,h2,λj hj=>by
    cases hb:p j with
    |true=>rfl
    |false=>exact absurd ⟨j,hj,hb⟩ hm⟩
theorem zb5(h:zu5 ops=true):Yz ops.toList=true/\Zw ops ops.size=true/\Yl ops ops.size=true/\X6 ops (Zk 0 ops.toList)=true/\X7 ops ops.size=true:=by
 unfold zu5 at h
 cases h1:Yz ops.toList <;> cases h2:Zw ops ops.size <;> cases h3:Yl ops ops.size <;> cases h4:X6 ops (Zk 0 ops.toList) <;> simp[h1,h2,h3,h4]at h ⊢
 exact h
theorem Wv{l:List Oper}(h:Yz l=true):∀o∈l,o.guard=none/\Yc o.op=true:=by
 intro o ho
 have:=A5.1 h o ho
 cases hg:o.guard with
 |none=>rw[hg]at this;exact⟨rfl,this⟩
 |some g=>rw[hg]at this;cases this
theorem Y9:∀{l m:List Oper} {k:Nat} {f:Nat->Value} {a:Act},Z0 k (l++m) f a=Z0 (k+l.length) m f (Z0 k l f a)
 |[],m,k,f,a=>rfl
 |o::l,m,k,f,a=>by
  have e:∀l',Z0 k (o::l') f a=Z0 (k+1) l' f (bif Zd o then a.put o.dst (f k)else a):=λ_=>rfl
  rw[A8,e,e,Y9,show k+1+l.length=k+(o::l).length by simp;omega]
theorem toL(ho:ops[i]?=some o):ops.toList[i]?=some o:=by rw[BI];exact ho
theorem ofL(ho:ops.toList[i]?=some o):ops[i]?=some o:=by rw[BI]at ho;exact ho
structure StM (P:Program) (n:Nat) (ops:Array Oper) (h0:Za) (K:Env->Za->Prop) (tr:Bool) (f:Nat->Value) (a0:Act) (listed:Array Bool) (a b:Act) (e:Env) (h:Za) (done todo:List Nat):Prop where
 inv:HeadInv .any ops ops.size listed
 ag:∀s,(∀i o,ops[i]?=some o->Zd o=true->listed.getD i false=false->o.dst≠some s)->Zl a s=Zl b s
 sz:a.tmps.size=n
 ad:a.defers=[]
 sb:Sat n e b
 qv:∀i o t,ops[i]?=some o->Zd o=true->o.dst=some t->Zl b t=f i/\t<n
 qx:∀i o,ops[i]?=some o->Zd o=true->∀h',(Zi o=false\/Keep h0.size h0 h')->QExec P (execOp b.eval o) h' (.value (f i))
 tt:Zk 0 ops.toList=done.reverse++todo
 ch:∀j,j∈Zk 0 ops.toList->(listed.getD j false=true↔j∈done)
 wt:wT P n ops h0 K tr done todo e h
 kp:∀i o,ops[i]?=some o->Zi o=true->listed.getD i false=false->Keep h0.size h0 h
 sm:Same (Qx ops.toList) a0 a
theorem J6{o:Oper}:∀{l:List Oper},o∈l->∀i,o.dst=some i->i∈Qx l
 |[],h,_,_=>by cases h
 |x::l,h,i,hi=>by
  unfold Qx
  rcases Ay.1 h with rfl|h
  ·rw[hi];exact AC
  ·have:=J6 h i hi
   split
   ·exact Aw _ this
   ·exact this
theorem Zg{k:Nat}(h:ops[k]?=some o):Qp ops k=o.dst:=by simp[Qp,h]
theorem zqz{K:Env->Za->Prop}{Q:Exit->Act->World->Prop}(B:World)(bj:zu5 ops=true){f:Nat->Value}
  (hQ:∀e' a' d' h',Sat n e' a'->Same (Qx ops.toList) a0 a'->K e' h'->Q .normal a' (mk B d' h')):
  ∀(N:Nat) (U:List Nat) (listed:Array Bool) (a b:Act) (e:Env) (h:Za) (d:Nat) (done todo:List Nat),U.length=N->U.Nodup->(∀k,k∈U↔k<ops.size/\listed.getD k false=false) ->
   StM P n ops h0 K tr f a0 listed a b e h done todo->wpAny P .any ops Q N listed a (mk B d h):=by
 obtain⟨bC,aT,bJ,ay,ar⟩:=zb5 bj
 have bg:∀(i:Nat) (o:Oper),ops[i]?=some o->o.guard=none/\Yc o.op=true:=λi o ho=>Wv bC o (by
  obtain⟨ab,e⟩:=Au.1 ho
  rw[<-e];simp)
 have bE:∀{listed:Array Bool} {a b:Act} {e:Env} {h:Za} {d:Nat} {done todo:List Nat},(∀k,k<ops.size->listed.getD k false=true)->StM P n ops h0 K tr f a0 listed a b e h done todo->Q .normal a (mk B d h):=by
  intro listed a b e h d done todo ae S
  have ak:todo=[]:=by
   cases todo with
   |nil=>rfl
   |cons j l=>
    have hj:j∈Zk 0 ops.toList:=by rw[S.tt];simp
    have ab:j<ops.size:=by
     obtain⟨_,o,ho,_⟩:=Qa.1 hj
     have:=(AQ.1 ho).1
     simpa using this
    have hd:=(S.ch j hj).1 (ae j ab)
    have hn:=Qm (l:=ops.toList) (k:=0)
    rw[S.tt,Ck]at hn
    exact absurd rfl (hn.2.2 j (by simpa using hd) j (by simp))
  have hw:=S.wt
  rw[ak]at hw
  unfold wT at hw
  have hv:∀s,Zl a s=Zl b s:=λs=>S.ag s λi o ho hq hl=>by
   rw[ae i (Au.1 ho).1]at hl;cases hl
  have hs:Sat n e a:=⟨S.ad,S.sz,λx hx=>by
   have:=S.sb.all x hx
   have e1:Zl a=Zl b:=funext hv
   rw[e1];exact this⟩
  exact hQ _ _ _ _ hs.clean S.sm hw
 intro N
 induction N with
 |zero=>
  intro U listed a b e h d done todo hU _ ai S
  have bA:U=[]:=Bj.1 hU
  subst bA
  have ae:∀k,k<ops.size->listed.getD k false=true:=λk hk=>by
   cases hb:listed.getD k false with
   |true=>rfl
   |false=>exact absurd ((ai k).2 ⟨hk,hb⟩) (by simp)
  refine⟨?_,bE ae S⟩
  rw[CY]
  intro j hj
  obtain⟨h1,o,ho,_⟩:=mem_ready.1 hj
  have ab:=(Au.1 ho).1
  have:=ae j ab
  have h2:=getD_both h1
  rw[this]at h2;cases h2
 |succ N ih=>
  intro U listed a b e h d done todo hU aM ai S
  have bD:∃k,k<ops.size/\listed.getD k false=false:=by
   cases U with
   |nil=>cases hU
   |cons k U=>exact⟨k,(ai k).1 AC⟩
  refine⟨λhr=>?_,λi hi=>?_⟩
  ·exfalso
   obtain⟨k,aF,aZ,bq⟩:=Xb bD
   have:k∈Region.ready .any ops listed:=mem_ready.2 ⟨by rw[<-aZ];simp[S.inv.size,aF],ops[k],A0 aF,λx hx hb=>bq _ (Zo aT k ops[k] aF (A0 aF) x hx hb)⟩
   rw[hr]at this;cases this
  ·obtain⟨bh,o,ho,ae⟩:=mem_ready.1 hi
   have aH:listed.getD i false=false:=getD_both bh
   have ab:i<ops.size:=(Au.1 ho).1
   obtain⟨hg,bF⟩:=bg i o ho
   have aJ:i<listed.size:=by rw[S.inv.size];exact ab
   have a7:(U.erase i).length=N:=by rw[C3 ((ai i).2 ⟨ab,aH⟩),hU];rfl
   have ap:(U.erase i).Nodup:=aM.erase i
   have an:∀k,k∈U.erase i↔k<ops.size/\(listed.setIfInBounds i true).getD k false=false:=λk=>by
    rw[aM.mem_erase_iff,ai k]
    by_cases hk:i=k
    ·subst hk;simp[aJ]
    ·rw[getD_set_ne false hk];exact⟨λhx=>hx.2,λhx=>⟨λe=>hk e.symm,hx⟩⟩
   have am:=S.inv.set hi ab
   have ah:∀k,k≠i->(listed.setIfInBounds i true).getD k false=listed.getD k false:=λk hk=>getD_set_ne false (Ne.symm hk)
   have aj:(listed.setIfInBounds i true).getD i false=true:=by simp[aJ]
   obtain⟨aA,bM⟩:=Z8 ar i o ab ho
   have a6:∀t∈tmpsOf o.op.operands.toList,Zl a t=Zl b t:=λt ht=>S.ag t λk ok Z hq hl hd=>by
    have hw:=Zt aA k t (Au.1 Z).1 (by rw[Zg Z,hd]) ht
    rw[Yo hi hw]at hl;cases hl
   have aN:=Qr bF a6
   unfold wpOp
   rw[ho]
   simp only
   have aU:BD o (yielded ops a.tmps)=true:=by unfold BD;rw[hg]
   rw[if_pos aU]
   left
   unfold Oper.wp
   rw[aN]
   cases hq:Zd o with
   |true=>
    have hx:=S.qx i o ho hq h (by
     cases hl:Zi o with
     |false=>exact .inl rfl
     |true=>exact .inr (S.kp i o ho hl aH)) B d
    rw[hx,Oper.upon_value]
    have ba:i∉Zk 0 ops.toList:=λhm=>by
     obtain⟨_,o',bo,a8⟩:=Qa.1 hm
     rw[Dv]at bo
     have:o'=o:=by
      have h2:ops[i]?=some o':=ofL bo
      exact AL (h2.symm.trans ho)
     subst this;rw[hq]at a8;cases a8
    refine ih _ _ _ b e h d done todo a7 ap an { S with inv:=am,ag:=λs hs=>?_,sz:=by rw[size_put];exact S.sz,ad:=by rw[Zs];exact S.ad,ch:=λj hj=>?_,kp:=λk ok Z hl hk=>?_,sm:=S.sm.trans (Same.put a o.dst _ λt ht=>J6 (by
     obtain⟨bG,e2⟩:=Au.1 ho
     rw[<-e2];simp) t ht) }
    ·by_cases hd:o.dst=some s
     ·obtain⟨hv,aG⟩:=S.qv i o s ho hq hd
      rw[hd,Z4 (by rw[S.sz];exact aG),hv]
     ·rw[Zj hd]
      refine S.ag s λk ok Z aa aS=>?_
      by_cases af:k=i
      ·subst af
       have:ok=o:=AL (Z.symm.trans ho)
       subst this;exact hd
      ·exact hs k ok Z aa (by rw[ah k af];exact aS)
    ·have:j≠i:=λe=>ba (e ▸ hj)
     rw[ah j this];exact S.ch j hj
    ·by_cases af:k=i
     ·subst af;rw[aj]at hk;cases hk
     ·rw[ah k af]at hk;exact S.kp k ok Z hl hk
   |false=>
    have aQ:i∈Zk 0 ops.toList:=Qa.2 ⟨Da _,o,by rw[Dv];exact toL ho,hq⟩
    have aL:=Qm (l:=ops.toList) (k:=0)
    have aB:i∉done:=λhd=>by rw[(S.ch i aQ).2 hd]at aH;cases aH
    have ak:∃rest,todo=i::rest:=by
     have be:i∈todo:=by
      have:=aQ
      rw[S.tt,AP]at this
      rcases this with h1|h1
      ·exact absurd (by simpa using h1) aB
      ·exact h1
     cases todo with
     |nil=>cases be
     |cons j rest=>
      rcases Ay.1 be with rfl|hr
      ·exact⟨rest,rfl⟩
      ·exfalso
       obtain⟨m,hm,em⟩:=BR hr
       have hp:∃pr,(j::rest)[m]?=some pr:=⟨_,AE (by simp;omega)⟩
       obtain⟨pr,bi⟩:=hp
       have hw:=Xa ay (done.reverse.length+m) pr i (by rw[S.tt,Bf (by omega),Dl];exact bi) (by
        rw[S.tt,Bf (by omega),show done.reverse.length+m+1-done.reverse.length=m+1 by omega,List.getElem?_cons_succ,AE hm,em])
       have aI:pr∈j::rest:=Bl bi
       have bn:pr∈Zk 0 ops.toList:=by rw[S.tt];exact AO _ aI
       have hd:=(S.ch pr bn).1 (Yo hi hw)
       rw[S.tt,Ck]at aL
       exact aL.2.2 pr (by simpa using hd) pr aI rfl
    obtain⟨rest,rfl⟩:=ak
    have hW:=S.wt
    unfold wT at hW
    rw[ho]at hW
    simp only at hW
    cases hd:Z5 n [] o.dst with
    |false=>rw[hd]at hW;exact hW.elim
    |true=>
     rw[hd,cond_true]at hW
     refine X8 (b:=b) S.sb.defers ?_
     refine zia hW S.sb (Z1 _) B d λv d' h' hK=>⟨by rw[Zs];exact S.sb.defers,λv2 bu=>?_⟩
     have bH:b.put o.dst v2=b.put o.dst v:=bu.symm
     have aC:∀j,j∈Zk 0 ops.toList->((listed.setIfInBounds i true).getD j false=true↔j∈i::done):=λj hj=>by
      by_cases aP:j=i
      ·subst aP;rw[aj];simp
      ·rw[ah j aP,S.ch j hj];simp[aP]
     have aO:zny tr ops (i::done) ops.size=false->∀k ok,ops[k]?=some ok->Zi ok=true->(listed.setIfInBounds i true).getD k false=true:=λhl k ok Z az=>by
      have bm:∀j∈i::done,(listed.setIfInBounds i true).getD j false=true:=λj hj=>by
       rcases Ay.1 hj with rfl|hj
       ·exact aj
       ·exact getD_set_true ((S.ch j (by rw[S.tt];simp[hj])).2 hj)
      cases tr with
      |false=>
       obtain⟨j,hj,hw⟩:=Y8 (X9 hl k ok (Au.1 Z).1 Z az)
       exact Qb am (bm j hj) hw
      |true=>exact Jv (zgc hl k ok (Au.1 Z).1 Z az) (λi p h1 h2=>Qb am h1 h2) bm
     have a1:wT P n ops h0 K tr (i::done) rest (putO e o.dst [] v) h'/\(∀k ok,ops[k]?=some ok->Zi ok=true->(listed.setIfInBounds i true).getD k false=false->Keep h0.size h0 h'):=by
      cases hl:zny tr ops (i::done) ops.size with
      |true=>rw[hl,cond_true]at hK;exact⟨hK.2,λ_ _ _ _ _=>hK.1⟩
      |false=>rw[hl,cond_false]at hK;exact⟨hK,λk ok Z az hf=>by rw[aO hl k ok Z az]at hf;cases hf⟩
     have aY:∀k ok t,ops[k]?=some ok->Zd ok=true->ok.dst=some t->o.dst≠some t:=λk ok t Z aa aE au=>by
      have:=Z7 bJ k i t (Au.1 Z).1 ab (by rw[Zg Z,aE]) (by rw[Zg ho,au])
      subst this
      have:ok=o:=AL (Z.symm.trans ho)
      subst this;rw[hq]at aa;cases aa
     refine ih _ _ _ (b.put o.dst v) (putO e o.dst [] v) h' d' (i::done) rest a7 ap an ⟨am,λs hs=>?_,by rw[size_put];exact S.sz,by rw[Zs];exact S.ad,S.sb.putO hd (λ_=>rfl) λhv=>absurd (Z1 _) hv,λk ok t Z aa aE=>?_,λk ok Z aa bz hh=>?_,by rw[S.tt];simp,aC,a1.1,a1.2,S.sm.trans (Same.put a o.dst _ λt ht=>J6 (by
      obtain⟨bG,e2⟩:=Au.1 ho
      rw[<-e2];simp) t ht)⟩
     ·have bB:∀u,(∀k ok,ops[k]?=some ok->Zd ok=true->listed.getD k false=false->ok.dst≠some s)->o.dst≠some s->Zl (a.put o.dst u) s=Zl (b.put o.dst v) s:=λu h1 h2=>by
       rw[Zj h2,Zj h2];exact S.ag s h1
      have bI:∀k ok,ops[k]?=some ok->Zd ok=true->listed.getD k false=false->ok.dst≠some s:=λk ok Z aa aS=>by
       by_cases af:k=i
       ·subst af
        have:ok=o:=AL (Z.symm.trans ho)
        subst this;rw[hq]at aa;cases aa
       ·exact hs k ok Z aa (by rw[ah k af];exact aS)
      by_cases aV:o.dst=some s
      ·rw[<-bH,aV]
       have aG:s<n:=by
        rw[aV]at hd
        unfold Z5 at hd
        simp at hd;exact hd.2
       rw[Z4 (by rw[S.sz];exact aG),Z4 (by rw[S.sb.size];exact aG)]
      ·exact bB v2 bI aV
     ·have:=S.qv k ok t Z aa aE
      rw[Zj (aY k ok t Z aa aE)];exact this
     ·have aZ:=bg k ok Z
      rw[Qr (b:=b) aZ.2 λt ht=>?_]
      ·exact S.qx k ok Z aa bz hh
      ·refine Zj λau=>?_
       obtain⟨bL,br⟩:=Z8 ar k ok (Au.1 Z).1 Z
       have hw:=Zt bL i t ab (by rw[Zg ho,au]) ht
       exact br aa i aQ hw t (by rw[Zg ho,au]) ht
theorem zid{K:Env->Za->Prop}{Q:Exit->Act->World->Prop}(B:World)(ae:zu5 ops=true)
  (H:wU P n h (λe'=>wT P n ops h K tr [] (Zk 0 ops.toList) e' h) ops.toList e) (hs:Sat n e a)
  (hQ:∀e' a' d' h',Sat n e' a'->Same (Qx ops.toList) a a'->K e' h'->Q .normal a' (mk B d' h')) (d:Nat):wpAny P .any ops Q ops.size (Br ops.size false) a (mk B d h):=by
 obtain⟨aF,ah,az,ap,ai⟩:=zb5 ae
 obtain⟨f,e1,HT,ak,hf⟩:=Xs (k:=0) H hs
 have hl:∀(i:Nat) (o:Oper),ops[i]?=some o->ops.toList[i]?=some o:=λi o ho=>toL ho
 have Z:∀i,Z0 0 ops.toList f a=Z0 (0+(ops.toList.take i).length) (ops.toList.drop i) f (Z0 0 (ops.toList.take i) f a):=λi=>by
  rw[<-Y9,Cm]
 refine zqz B ae (f:=f) hQ ops.size (BS ops.size) _ a (Z0 0 ops.toList f a) e1 h d [] (Zk 0 ops.toList) DG Dm (λk=>by rw[BF,getD_replicate_false];simp) ⟨⟨by simp,λj oj _ hl=>(by rw[getD_replicate_false]at hl;cases hl),λt ht aE=>by omega⟩,λs ay=>?_,hs.size,hs.defers,ak,λi o t ho hq hd=>?_,λi o ho hq h' hh=>?_,by simp,λj hj=>by rw[getD_replicate_false];simp,HT,λ_ _ _ _ _=>Keep.refl _ _,Same.refl _ _⟩
 ·refine(Qj λo ho hq=>?_).symm
  obtain⟨i,hi,e⟩:=BR ho
  exact ay i o (ofL (by rw[AE hi,e])) hq (getD_replicate_false _ _)
 ·obtain⟨h1,h2,h3⟩:=hf i o (hl i o ho) hq
  have am:t<n:=by
   rw[hd]at h2
   unfold Z5 at h2
   simp at h2;exact h2.2
  refine⟨?_,am⟩
  have ab:=(Au.1 ho).1
  have an:(ops.toList.take i).length=i:=by simp;omega
  rw[Z i,an,AX]
  have aA:ops.toList.drop i=o::ops.toList.drop (i+1):=by
   have:=(AQ.1 (hl i o ho))
   rw[A9 this.1,this.2]
  rw[aA]
  unfold Z0
  rw[hq,cond_true,Qj λo' aj au af=>?_]
  ·rw[hd,Z4 (by rw[W5.1,hs.size];exact am)]
  ·obtain⟨m,hm,em⟩:=BR aj
   have aa:ops[i+1+m]?=some o':=by
    have:ops.toList[i+1+m]?=some o':=by rw[<-AY,AE hm,em]
    exact ofL this
   have:=Z7 az i (i+1+m) t ab (Au.1 aa).1 (by rw[Zg ho,hd]) (by rw[Zg aa,af])
   omega
 ·obtain⟨h1,h2,h3⟩:=hf i o (hl i o ho) hq
  have:=h3 h' (hh.imp id Or.inl)
  rw[AX]at this
  rw[Qr h1 λt ht=>?_]
  ·exact this
  ·have ab:=(Au.1 ho).1
   rw[Z i]
   refine Qj λo' aj au af=>?_
   obtain⟨m,hm,em⟩:=BR aj
   have aa:ops[i+m]?=some o':=by
    have:ops.toList[i+m]?=some o':=by rw[<-AY,AE hm,em]
    exact ofL this
   obtain⟨aB,_⟩:=Z8 ai i o ab ho
   have hw:=Zt aB (i+m) t (Au.1 aa).1 (by rw[Zg aa,af]) ht
   obtain⟨oj,ar,x,hx,hb,aC⟩:=Region.waitsFor_spec hw
   have:=Zo ah i oj ab ar x hx hb
   omega
def zgd(j:Nat):List Nat->List Nat
 |[]=>[]
 |k::l=>bif Nat.beq k j then zgd j l else k::zgd j l
theorem zat{j x:Nat}:∀{l:List Nat},x∈zgd j l↔x∈l/\x≠j
 |[]=>by simp[zgd]
 |k::l=>by
  simp only[zgd]
  cases hb:Nat.beq k j with
  |true=>
   have:=Az hb
   subst this
   rw[cond_true,zat,Ay]
   exact⟨λh=>⟨.inr h.1,h.2⟩,λh=>⟨h.1.resolve_left h.2,h.2⟩⟩
  |false=>
   have Z:k≠j:=λe=>by rw[e]at hb;simp at hb
   rw[cond_false,Ay,Ay,zat]
   constructor
   ·rintro(rfl|h)
    ·exact⟨.inl rfl,Z⟩
    ·exact⟨.inr h.1,h.2⟩
   ·rintro⟨rfl|h,h2⟩
    ·exact .inl rfl
    ·exact .inr ⟨h,h2⟩
theorem zcv{j:Nat}:∀{l:List Nat},l.Nodup->(zgd j l).Nodup
 |[],h=>h
 |k::l,h=>by
  simp only[zgd]
  rw[D5]at h
  cases Nat.beq k j with
  |true=>exact zcv h.2
  |false=>
   rw[cond_false,D5]
   exact⟨λhm=>h.1 (zat.1 hm).1,zcv h.2⟩
theorem zxa{j:Nat}:∀{l:List Nat},(zgd j l).length<=l.length
 |[]=>Av _
 |k::l=>by
  simp only[zgd]
  have:=zxa (j:=j) (l:=l)
  cases Nat.beq k j with
  |true=>rw[cond_true,AN];omega
  |false=>rw[cond_false,AN,AN];omega
theorem zlz{j:Nat}:∀{l:List Nat},j∈l->(zgd j l).length+1<=l.length
 |[],h=>by cases h
 |k::l,h=>by
  simp only[zgd]
  cases hb:Nat.beq k j with
  |true=>
   have:=zxa (j:=j) (l:=l)
   rw[cond_true,AN];omega
  |false=>
   have Z:k≠j:=λe=>by rw[e]at hb;simp at hb
   have:=zlz (j:=j) (l:=l) (by
    rcases Ay.1 h with rfl|h
    ·exact absurd rfl Z
    ·exact h)
   rw[cond_false,AN,AN];omega
def z1h(ops:Array Oper)(todo:List Nat)(j:Nat):Bool:=todo.all λk=>bif Nat.beq k j then true else !(Jq ops [j] ops.size k)
def qca(p:Nat->Prop):List Nat->Prop
 |[]=>True
 |[j]=>p j
 |j::k::l=>p j/\qca p (k::l)
theorem zl0{p:Nat->Prop}:∀{l:List Nat},qca p l->∀j∈l,p j
 |[],_,j,h=>by cases h
 |[k],H,j,h=>by simp at h;subst h;exact H
 |k::k2::l,H,j,h=>by
  rcases Ay.1 h with rfl|h
  ·exact H.1
  ·exact zl0 H.2 j h
def zu6(p:Nat->Bool):List Nat->List Nat
 |[]=>[]
 |j::l=>bif p j then j::zu6 p l else zu6 p l
theorem ze6{p:Nat->Bool}{j:Nat}:∀{l:List Nat},j∈l->p j=true->j∈zu6 p l
 |[],h,_=>by cases h
 |k::l,h,hp=>by
  simp only[zu6]
  rcases Ay.1 h with rfl|h
  ·rw[hp];exact AC
  ·cases p k with
   |true=>exact Aw _ (ze6 h hp)
   |false=>exact ze6 h hp
def znz(ops:Array Oper)(T:List Nat)(e:Env)(h0 h':Za)(K:Prop):Nat->Prop
 |0=>K
 |k+1=>match ops[k]? with
  |some o=>bif Zi o then(bif Jq ops T ops.size k then znz ops T e h0 h' K k else match o.op with
   |.load _ a=>bif known e [] [a]then(match rho e [] a with
    |.pointer (some p)=>h'[p.block]?=h0[p.block]?/\znz ops T e h0 h' K k
    |_=>False)else False
   |_=>False)else znz ops T e h0 h' K k
  |none=>znz ops T e h0 h' K k
theorem zkg{ops:Array Oper}{T:List Nat}{e:Env}{h0 h':Za}{K:Prop}:∀{m:Nat},znz ops T e h0 h' K m->K/\∀k o,k<m->ops[k]?=some o->Zi o=true->Jq ops T ops.size k=false ->
  ∃t a p,o.op=.load t a/\known e [] [a]=true/\rho e [] a=.pointer (some p)/\h'[p.block]?=h0[p.block]?
 |0,H=>⟨H,λk o hk=>by omega⟩
 |m+1,H=>by
  unfold znz at H
  have step:znz ops T e h0 h' K m->(∀o,ops[m]?=some o->Zi o=true->Jq ops T ops.size m=false->∃t a p,o.op=.load t a/\known e [] [a]=true/\rho e [] a=.pointer (some p)/\h'[p.block]?=h0[p.block]?) ->
    K/\∀k o,k<m+1->ops[k]?=some o->Zi o=true->Jq ops T ops.size k=false->∃t a p,o.op=.load t a/\known e [] [a]=true/\rho e [] a=.pointer (some p)/\h'[p.block]?=h0[p.block]?:=λH1 H2=>by
   obtain⟨h1,h2⟩:=zkg H1
   refine⟨h1,λk o hk ho hl hr=>?_⟩
   rcases A1 k m with h3|h3
   ·exact h2 k o h3 ho hl hr
   ·have:k=m:=by omega
    subst this
    exact H2 o ho hl hr
  cases ho:ops[m]? with
  |none=>rw[ho]at H;exact step H λo h1=>by rw[ho]at h1;cases h1
  |some o=>
   rw[ho]at H
   simp only at H
   have same:∀o',ops[m]?=some o'->o'=o:=λo' h1=>AL (h1.symm.trans ho)
   cases hl:Zi o with
   |false=>rw[hl]at H;exact step H λo' h1 h2=>by rw[same o' h1,hl]at h2;cases h2
   |true=>
    rw[hl,cond_true]at H
    cases hr:Jq ops T ops.size m with
    |true=>rw[hr]at H;exact step H λo' h1 h2 h3=>by rw[hr]at h3;cases h3
    |false=>
     rw[hr,cond_false]at H
     split at H
     ·rename_i t a Z
      cases hk:known e [] [a]with
      |false=>rw[hk]at H;exact H.elim
      |true=>
       rw[hk,cond_true]at H
       split at H
       ·rename_i p hp
        exact step H.2 λo' h1 h2 h3=>⟨t,a,p,by rw[same o' h1];exact Z,hk,hp,H.1⟩
       ·exact H.elim
     ·exact H.elim
def z1i(md:Bool)(ops:Array Oper)(T:List Nat)(e:Env)(h0 h':Za)(K:Prop):Prop:=bif md then znz ops T e h0 h' K ops.size else Keep h0.size h0 h'/\K
def wB(P:Program)(n:Nat)(ops:Array Oper)(h0:Za)(K:Env->Za->Prop)(md:Bool):Nat->List Nat->List Nat->Env->Za->Prop
 |_,_,[],e,h=>K (clean e) h
 |0,_,_::_,_,_=>False
 |f+1,T,j0::l0,e,h=>qca (λj=>match ops[j]? with
  |some o=>bif Z5 n [] o.dst then opW P o e [] h λv h'=>(bif zny true ops (j::T) ops.size then z1i md ops (j::T) e h0 h' (wB P n ops h0 K md f (j::T) (zgd j (j0::l0)) (putO e o.dst [] v) h')else wB P n ops h0 K md f (j::T) (zgd j (j0::l0)) (putO e o.dst [] v) h')else False
  |none=>False) (zu6 (z1h ops (j0::l0)) (j0::l0))
theorem zxb{K:Env->Za->Prop}{f:Nat}{T todo:List Nat}(H:wB P n ops h0 K md (f+1) T todo e h){j:Nat}(hj:j∈todo)(hc:z1h ops todo j=true):match ops[j]? with
  |some o=>bif Z5 n [] o.dst then opW P o e [] h λv h'=>(bif zny true ops (j::T) ops.size then z1i md ops (j::T) e h0 h' (wB P n ops h0 K md f (j::T) (zgd j todo) (putO e o.dst [] v) h')else wB P n ops h0 K md f (j::T) (zgd j todo) (putO e o.dst [] v) h')else False
  |none=>False:=by
 cases todo with
 |nil=>cases hj
 |cons j0 l0=>exact zl0 H j (ze6 hj hc)
def zn0(ops:Array Oper):Bool:=bif Yz ops.toList then(bif Zw ops ops.size then(bif Yl ops ops.size then X7 ops ops.size else false)else false)else false
theorem zkh(h:zn0 ops=true):Yz ops.toList=true/\Zw ops ops.size=true/\Yl ops ops.size=true/\X7 ops ops.size=true:=by
 unfold zn0 at h
 cases h1:Yz ops.toList <;> cases h2:Zw ops ops.size <;> cases h3:Yl ops ops.size <;> simp[h1,h2,h3]at h ⊢
 exact h
structure StB (P:Program) (n:Nat) (ops:Array Oper) (h0:Za) (K:Env->Za->Prop) (md:Bool) (f:Nat->Value) (a0:Act) (listed:Array Bool) (a b:Act) (e:Env) (h:Za) (done todo:List Nat):Prop where
 inv:HeadInv .any ops ops.size listed
 ag:∀s,(∀i o,ops[i]?=some o->Zd o=true->listed.getD i false=false->o.dst≠some s)->Zl a s=Zl b s
 sz:a.tmps.size=n
 ad:a.defers=[]
 sb:Sat n e b
 qv:∀i o t,ops[i]?=some o->Zd o=true->o.dst=some t->Zl b t=f i/\t<n
 qx:∀i o,ops[i]?=some o->Zd o=true->∀h',LdOK o b.eval h0 h'->QExec P (execOp b.eval o) h' (.value (f i))
 tt:∀j,j∈Zk 0 ops.toList->(j∈todo↔listed.getD j false=false)
 ch:∀j,j∈Zk 0 ops.toList->(listed.getD j false=true↔j∈done)
 dn:∀j∈done,j∈Zk 0 ops.toList
 th:∀j∈todo,j∈Zk 0 ops.toList
 nd:todo.Nodup
 wt:∃fu,todo.length<=fu/\wB P n ops h0 K md fu done todo e h
 kp:∀i o,ops[i]?=some o->Zi o=true->listed.getD i false=false->LdOK o b.eval h0 h
 sm:Same (Qx ops.toList) a0 a
theorem z1j{K:Env->Za->Prop}{Q:Exit->Act->World->Prop}(B:World)(bj:zn0 ops=true){f:Nat->Value}
  (hQ:∀e' a' d' h',Sat n e' a'->Same (Qx ops.toList) a0 a'->K e' h'->Q .normal a' (mk B d' h')):
  ∀(N:Nat) (U:List Nat) (listed:Array Bool) (a b:Act) (e:Env) (h:Za) (d:Nat) (done todo:List Nat),U.length=N->U.Nodup->(∀k,k∈U↔k<ops.size/\listed.getD k false=false) ->
   StB P n ops h0 K md f a0 listed a b e h done todo->wpAny P .any ops Q N listed a (mk B d h):=by
 obtain⟨bB,aT,bI,ay⟩:=zkh bj
 have bg:∀(i:Nat) (o:Oper),ops[i]?=some o->o.guard=none/\Yc o.op=true:=λi o ho=>Wv bB o (by
  obtain⟨ah,e⟩:=Au.1 ho
  rw[<-e];simp)
 have bD:∀{listed:Array Bool} {a b:Act} {e:Env} {h:Za} {d:Nat} {done todo:List Nat},(∀k,k<ops.size->listed.getD k false=true)->StB P n ops h0 K md f a0 listed a b e h done todo->Q .normal a (mk B d h):=by
  intro listed a b e h d done todo aj S
  have aU:todo=[]:=by
   cases htd:todo with
   |nil=>rfl
   |cons j l=>
    have hm:j∈todo:=by rw[htd];simp
    have hj:j∈Zk 0 ops.toList:=S.th j hm
    have ah:j<ops.size:=by
     obtain⟨_,o,ho,_⟩:=Qa.1 hj
     have:=(AQ.1 ho).1
     simpa using this
    have:=(S.tt j hj).1 hm
    rw[aj j ah]at this;cases this
  obtain⟨fu,_,hw⟩:=S.wt
  rw[aU]at hw
  have hw:K (clean e) h:=by cases fu <;> exact hw
  have hv:∀s,Zl a s=Zl b s:=λs=>S.ag s λi o ho hq hl=>by
   rw[aj i (Au.1 ho).1]at hl;cases hl
  have hs:Sat n e a:=⟨S.ad,S.sz,λx hx=>by
   have:=S.sb.all x hx
   have e1:Zl a=Zl b:=funext hv
   rw[e1];exact this⟩
  exact hQ _ _ _ _ hs.clean S.sm hw
 intro N
 induction N with
 |zero=>
  intro U listed a b e h d done todo hU _ ai S
  have bz:U=[]:=Bj.1 hU
  subst bz
  have aj:∀k,k<ops.size->listed.getD k false=true:=λk hk=>by
   cases hb:listed.getD k false with
   |true=>rfl
   |false=>exact absurd ((ai k).2 ⟨hk,hb⟩) (by simp)
  refine⟨?_,bD aj S⟩
  rw[CY]
  intro j hj
  obtain⟨h1,o,ho,_⟩:=mem_ready.1 hj
  have ah:=(Au.1 ho).1
  have:=aj j ah
  have h2:=getD_both h1
  rw[this]at h2;cases h2
 |succ N ih=>
  intro U listed a b e h d done todo hU aL ai S
  have bC:∃k,k<ops.size/\listed.getD k false=false:=by
   cases U with
   |nil=>cases hU
   |cons k U=>exact⟨k,(ai k).1 AC⟩
  refine⟨λhr=>?_,λi hi=>?_⟩
  ·exfalso
   obtain⟨k,aG,a6,bo⟩:=Xb bC
   have:k∈Region.ready .any ops listed:=mem_ready.2 ⟨by rw[<-a6];simp[S.inv.size,aG],ops[k],A0 aG,λx hx hb=>bo _ (Zo aT k ops[k] aG (A0 aG) x hx hb)⟩
   rw[hr]at this;cases this
  ·obtain⟨bh,o,ho,aj⟩:=mem_ready.1 hi
   have aZ:listed.getD i false=false:=getD_both bh
   have ah:i<ops.size:=(Au.1 ho).1
   obtain⟨hg,bE⟩:=bg i o ho
   have aI:i<listed.size:=by rw[S.inv.size];exact ah
   have ba:(U.erase i).length=N:=by rw[C3 ((ai i).2 ⟨ah,aZ⟩),hU];rfl
   have au:(U.erase i).Nodup:=aL.erase i
   have ar:∀k,k∈U.erase i↔k<ops.size/\(listed.setIfInBounds i true).getD k false=false:=λk=>by
    rw[aL.mem_erase_iff,ai k]
    by_cases hk:i=k
    ·subst hk;simp[aI]
    ·rw[getD_set_ne false hk];exact⟨λhx=>hx.2,λhx=>⟨λe=>hk e.symm,hx⟩⟩
   have am:=S.inv.set hi ah
   have ae:∀k,k≠i->(listed.setIfInBounds i true).getD k false=listed.getD k false:=λk hk=>getD_set_ne false (Ne.symm hk)
   have ab:(listed.setIfInBounds i true).getD i false=true:=by simp[aI]
   obtain⟨aB,bM⟩:=Z8 ay i o ah ho
   have a8:∀t∈tmpsOf o.op.operands.toList,Zl a t=Zl b t:=λt ht=>S.ag t λk ok Z hq hl hd=>by
    have hw:=Zt aB k t (Au.1 Z).1 (by rw[Zg Z,hd]) ht
    rw[Yo hi hw]at hl;cases hl
   have aM:=Qr bE a8
   unfold wpOp
   rw[ho]
   simp only
   have aV:BD o (yielded ops a.tmps)=true:=by unfold BD;rw[hg]
   rw[if_pos aV]
   left
   unfold Oper.wp
   rw[aM]
   cases hq:Zd o with
   |true=>
    have hx:=S.qx i o ho hq h (by
     cases hl:Zi o with
     |false=>exact .inl hl
     |true=>exact S.kp i o ho hl aZ) B d
    rw[hx,Oper.upon_value]
    have aJ:i∉Zk 0 ops.toList:=λhm=>by
     obtain⟨_,o',bm,be⟩:=Qa.1 hm
     rw[Dv]at bm
     have:o'=o:=by
      have h2:ops[i]?=some o':=ofL bm
      exact AL (h2.symm.trans ho)
     subst this;rw[hq]at be;cases be
    refine ih _ _ _ b e h d done todo ba au ar { S with inv:=am,ag:=λs hs=>?_,sz:=by rw[size_put];exact S.sz,ad:=by rw[Zs];exact S.ad,tt:=λj hj=>(by have:j≠i:=λe=>aJ (e ▸ hj);rw[ae j this];exact S.tt j hj),ch:=λj hj=>?_,kp:=λk ok Z hl hk=>?_,sm:=S.sm.trans (Same.put a o.dst _ λt ht=>J6 (by
     obtain⟨bF,e2⟩:=Au.1 ho
     rw[<-e2];simp) t ht) }
    ·by_cases hd:o.dst=some s
     ·obtain⟨hv,aH⟩:=S.qv i o s ho hq hd
      rw[hd,Z4 (by rw[S.sz];exact aH),hv]
     ·rw[Zj hd]
      refine S.ag s λk ok Z aa aQ=>?_
      by_cases af:k=i
      ·subst af
       have:ok=o:=AL (Z.symm.trans ho)
       subst this;exact hd
      ·exact hs k ok Z aa (by rw[ae k af];exact aQ)
    ·have:j≠i:=λe=>aJ (e ▸ hj)
     rw[ae j this];exact S.ch j hj
    ·by_cases af:k=i
     ·subst af;rw[ab]at hk;cases hk
     ·rw[ae k af]at hk;exact S.kp k ok Z hl hk
   |false=>
    have aO:i∈Zk 0 ops.toList:=Qa.2 ⟨Da _,o,by rw[Dv];exact toL ho,hq⟩
    have aA:i∈todo:=(S.tt i aO).2 aZ
    obtain⟨fu,bO,bA⟩:=S.wt
    have aS:z1h ops todo i=true:=by
     unfold z1h
     rw[A5]
     intro k hk
     cases af:Nat.beq k i with
     |true=>rfl
     |false=>
      have aP:k≠i:=λe=>by rw[e]at af;simp at af
      cases hr:Jq ops [i] ops.size k with
      |false=>rfl
      |true=>
       exfalso
       have:=Jv hr (listed:=listed.setIfInBounds i true) (λp q h1 h2=>Qb am h1 h2) (λj hj=>by simp at hj;subst hj;exact ab)
       rw[ae k aP]at this
       have h2:=(S.tt k (S.th k hk)).1 hk
       rw[this]at h2;cases h2
    have hW:match ops[i]? with
      |some o=>bif Z5 n [] o.dst then opW P o e [] h λv h'=>(bif zny true ops (i::done) ops.size then z1i md ops (i::done) e h0 h' (wB P n ops h0 K md (fu-1) (i::done) (zgd i todo) (putO e o.dst [] v) h')else wB P n ops h0 K md (fu-1) (i::done) (zgd i todo) (putO e o.dst [] v) h')else False
      |none=>False:=by
     cases fu with
     |zero=>(have:todo.length=0:=by omega);rw[Bj.1 this]at aA;cases aA
     |succ fu=>
      have:=zxb (show wB P n ops h0 K md (fu+1) done todo e h from bA) aA aS
      exact this
    rw[ho]at hW
    simp only at hW
    cases hd:Z5 n [] o.dst with
    |false=>rw[hd]at hW;exact hW.elim
    |true=>
     rw[hd,cond_true]at hW
     refine X8 (b:=b) S.sb.defers ?_
     refine zia hW S.sb (Z1 _) B d λv d' h' hK=>⟨by rw[Zs];exact S.sb.defers,λv2 br=>?_⟩
     have bG:b.put o.dst v2=b.put o.dst v:=br.symm
     have aC:∀j,j∈Zk 0 ops.toList->((listed.setIfInBounds i true).getD j false=true↔j∈i::done):=λj hj=>by
      by_cases an:j=i
      ·subst an;rw[ab];simp
      ·rw[ae j an,S.ch j hj];simp[an]
     have aN:zny true ops (i::done) ops.size=false->∀k ok,ops[k]?=some ok->Zi ok=true->(listed.setIfInBounds i true).getD k false=true:=λhl k ok Z ak=>by
      have bJ:∀j∈i::done,(listed.setIfInBounds i true).getD j false=true:=λj hj=>by
       rcases Ay.1 hj with rfl|hj
       ·exact ab
       ·exact getD_set_true ((S.ch j (S.dn j hj)).2 hj)
      exact Jv (zgc hl k ok (Au.1 Z).1 Z ak) (λi p h1 h2=>Qb am h1 h2) bJ
     have ap:∀k ok,ops[k]?=some ok->Zd ok=true->∀t∈tmpsOf ok.op.operands.toList,Zl (b.put o.dst v) t=Zl b t:=λk ok Z aa t ht=>Zj λaz=>by
      obtain⟨bL,bq⟩:=Z8 ay k ok (Au.1 Z).1 Z
      have hw:=Zt bL i t ah (by rw[Zg ho,az]) ht
      exact bq aa i aO hw t (by rw[Zg ho,az]) ht
     have aE:∀k,Jq ops (i::done) ops.size k=true->(listed.setIfInBounds i true).getD k false=true:=λk hr=>Jv hr (λi p h1 h2=>Qb am h1 h2) λj hj=>by
      rcases Ay.1 hj with rfl|hj
      ·exact ab
      ·exact getD_set_true ((S.ch j (S.dn j hj)).2 hj)
     have a7:wB P n ops h0 K md (fu-1) (i::done) (zgd i todo) (putO e o.dst [] v) h'/\(∀k ok,ops[k]?=some ok->Zi ok=true->(listed.setIfInBounds i true).getD k false=false->LdOK ok (b.put o.dst v).eval h0 h'):=by
      cases hl:zny true ops (i::done) ops.size with
      |false=>rw[hl,cond_false]at hK;exact⟨hK,λk ok Z ak hf=>by rw[aN hl k ok Z ak]at hf;cases hf⟩
      |true=>
       rw[hl,cond_true]at hK
       unfold z1i at hK
       cases md with
       |false=>exact⟨hK.2,λ_ _ _ _ _=>.inr (.inl hK.1)⟩
       |true=>
        rw[cond_true]at hK
        obtain⟨g1,g2⟩:=zkg hK
        refine⟨g1,λk ok Z ak hf=>.inr (.inr λt a p bi hp=>?_)⟩
        have hr:Jq ops (i::done) ops.size k=false:=by
         cases hr:Jq ops (i::done) ops.size k with
         |false=>rfl
         |true=>rw[aE k hr]at hf;cases hf
        obtain⟨t',a',p',e1,e2,e3,e4⟩:=g2 k ok (Au.1 Z).1 Z ak hr
        rw[bi]at e1
        injection e1 with _ e1
        subst e1
        have aa:Zd ok=true:=by
         unfold Zi at ak
         unfold Zd
         split at ak
         ·rfl
         ·cases ak
        have ai:a∈ok.op.operands.toList:=by rw[bi];simp[Op.operands]
        have ea:=Qq (ap k ok Z aa) a ai
        have eb:b.eval a=rho e [] a:=Y2 S.sb (Z1 _) e2 a (by simp)
        rw[ea,eb,e3]at hp
        injection hp with hp
        injection hp with hp
        rw[<-hp];exact e4
     have bn:∀j,j∈Zk 0 ops.toList->(j∈zgd i todo↔(listed.setIfInBounds i true).getD j false=false):=λj hj=>by
      rw[zat]
      by_cases an:j=i
      ·subst an;rw[ab];simp
      ·rw[ae j an,<-S.tt j hj];exact⟨λhx=>hx.1,λhx=>⟨hx,an⟩⟩
     have a1:∀k ok t,ops[k]?=some ok->Zd ok=true->ok.dst=some t->o.dst≠some t:=λk ok t Z aa aF az=>by
      have:=Z7 bI k i t (Au.1 Z).1 ah (by rw[Zg Z,aF]) (by rw[Zg ho,az])
      subst this
      have:ok=o:=AL (Z.symm.trans ho)
      subst this;rw[hq]at aa;cases aa
     refine ih _ _ _ (b.put o.dst v) (putO e o.dst [] v) h' d' (i::done) (zgd i todo) ba au ar ⟨am,λs hs=>?_,by rw[size_put];exact S.sz,by rw[Zs];exact S.ad,S.sb.putO hd (λ_=>rfl) λhv=>absurd (Z1 _) hv,λk ok t Z aa aF=>?_,λk ok Z aa bu hh=>?_,bn,aC,(λj hj=>by
      rcases Ay.1 hj with rfl|hj
      ·exact aO
      ·exact S.dn j hj),(λj hj=>S.th j (zat.1 hj).1),zcv S.nd,⟨fu-1,by have:=zlz aA;omega,a7.1⟩,a7.2,S.sm.trans (Same.put a o.dst _ λt ht=>J6 (by
      obtain⟨bF,e2⟩:=Au.1 ho
      rw[<-e2];simp) t ht)⟩
     ·have aP:∀u,(∀k ok,ops[k]?=some ok->Zd ok=true->listed.getD k false=false->ok.dst≠some s)->o.dst≠some s->Zl (a.put o.dst u) s=Zl (b.put o.dst v) s:=λu h1 h2=>by
       rw[Zj h2,Zj h2];exact S.ag s h1
      have bH:∀k ok,ops[k]?=some ok->Zd ok=true->listed.getD k false=false->ok.dst≠some s:=λk ok Z aa aQ=>by
       by_cases af:k=i
       ·subst af
        have:ok=o:=AL (Z.symm.trans ho)
        subst this;rw[hq]at aa;cases aa
       ·exact hs k ok Z aa (by rw[ae k af];exact aQ)
      by_cases aY:o.dst=some s
      ·rw[<-bG,aY]
       have aH:s<n:=by
        rw[aY]at hd
        unfold Z5 at hd
        simp at hd;exact hd.2
       rw[Z4 (by rw[S.sz];exact aH),Z4 (by rw[S.sb.size];exact aH)]
      ·exact aP v2 bH aY
     ·have:=S.qv k ok t Z aa aF
      rw[Zj (a1 k ok t Z aa aF)];exact this
     ·have a6:=bg k ok Z
      rw[Qr (b:=b) a6.2 (ap k ok Z aa)]
      exact S.qx k ok Z aa bu (LdOK.congr (λx hx=>(Qq (ap k ok Z aa) x hx).symm) hh)
theorem zki{K:Env->Za->Prop}{Q:Exit->Act->World->Prop}(B:World)(ae:zn0 ops=true)
  (H:wU P n h (λe'=>wB P n ops h K md (Zk 0 ops.toList).length [] (Zk 0 ops.toList) e' h) ops.toList e) (hs:Sat n e a)
  (hQ:∀e' a' d' h',Sat n e' a'->Same (Qx ops.toList) a a'->K e' h'->Q .normal a' (mk B d' h')) (d:Nat):wpAny P .any ops Q ops.size (Br ops.size false) a (mk B d h):=by
 obtain⟨aF,ah,az,ai⟩:=zkh ae
 obtain⟨f,e1,HT,am,hf⟩:=Xs (k:=0) H hs
 have hl:∀(i:Nat) (o:Oper),ops[i]?=some o->ops.toList[i]?=some o:=λi o ho=>toL ho
 have Z:∀i,Z0 0 ops.toList f a=Z0 (0+(ops.toList.take i).length) (ops.toList.drop i) f (Z0 0 (ops.toList.take i) f a):=λi=>by
  rw[<-Y9,Cm]
 refine z1j B ae (f:=f) hQ ops.size (BS ops.size) _ a (Z0 0 ops.toList f a) e1 h d [] (Zk 0 ops.toList) DG Dm (λk=>by rw[BF,getD_replicate_false];simp) ⟨⟨by simp,λj oj _ hl=>(by rw[getD_replicate_false]at hl;cases hl),λt ht aE=>by omega⟩,λs ay=>?_,hs.size,hs.defers,am,λi o t ho hq hd=>?_,λi o ho hq h' hh=>?_,(λj hj=>by rw[getD_replicate_false];simp[hj]),(λj hj=>by rw[getD_replicate_false];simp),(λj hj=>by cases hj),(λj hj=>hj),Qm,⟨_,Av _,HT⟩,λ_ _ _ _ _=>.inr (.inl (Keep.refl _ _)),Same.refl _ _⟩
 ·refine(Qj λo ho hq=>?_).symm
  obtain⟨i,hi,e⟩:=BR ho
  exact ay i o (ofL (by rw[AE hi,e])) hq (getD_replicate_false _ _)
 ·obtain⟨h1,h2,h3⟩:=hf i o (hl i o ho) hq
  have an:t<n:=by
   rw[hd]at h2
   unfold Z5 at h2
   simp at h2;exact h2.2
  refine⟨?_,an⟩
  have ab:=(Au.1 ho).1
  have ap:(ops.toList.take i).length=i:=by simp;omega
  rw[Z i,ap,AX]
  have aA:ops.toList.drop i=o::ops.toList.drop (i+1):=by
   have:=(AQ.1 (hl i o ho))
   rw[A9 this.1,this.2]
  rw[aA]
  unfold Z0
  rw[hq,cond_true,Qj λo' aj au af=>?_]
  ·rw[hd,Z4 (by rw[W5.1,hs.size];exact an)]
  ·obtain⟨m,hm,em⟩:=BR aj
   have aa:ops[i+1+m]?=some o':=by
    have:ops.toList[i+1+m]?=some o':=by rw[<-AY,AE hm,em]
    exact ofL this
   have:=Z7 az i (i+1+m) t ab (Au.1 aa).1 (by rw[Zg ho,hd]) (by rw[Zg aa,af])
   omega
 ·obtain⟨h1,h2,h3⟩:=hf i o (hl i o ho) hq
  have ak:∀t∈tmpsOf o.op.operands.toList,Zl (Z0 0 ops.toList f a) t=Zl (Z0 0 (ops.toList.take i) f a) t:=λt ht=>by
   have ab:=(Au.1 ho).1
   rw[Z i]
   refine Qj λo' aj au af=>?_
   obtain⟨m,hm,em⟩:=BR aj
   have aa:ops[i+m]?=some o':=by
    have:ops.toList[i+m]?=some o':=by rw[<-AY,AE hm,em]
    exact ofL this
   obtain⟨aB,_⟩:=Z8 ai i o ab ho
   have hw:=Zt aB (i+m) t (Au.1 aa).1 (by rw[Zg aa,af]) ht
   obtain⟨oj,ar,x,hx,hb,aC⟩:=Region.waitsFor_spec hw
   have:=Zo ah i oj ab ar x hx hb
   omega
  have:=h3 h' (LdOK.congr (λx hx=>(Qq ak x hx).symm) hh)
  rw[AX]at this
  rw[Qr h1 ak]
  exact this
end
section
variable {l done:List Nat} {i m n:Nat} {ops:Array Oper} {P:Program} {o:Oper} {h h0:Za} {md:Bool} {e:Env} {a b:Act}
def z4m(o:Oper):Bool:=match o.op with
 |.extract _ _=>true
 |_=>false
def zn1(o:Oper):Bool:=bif Zd o then true else z4m o
def upL(ops:Array Oper):Nat->List Nat->List Nat
 |0,S=>S
 |k+1,S=>upL ops k (bif S.any λp=>Region.waitsFor .any ops p k then k::S else S)
theorem zl1{ops:Array Oper}{listed:Array Bool}(hc:∀i p,listed.getD i false=true->Region.waitsFor .any ops i p=true->listed.getD p false=true):∀{m:Nat} {S:List Nat},(∀j∈S,listed.getD j false=true)->∀k∈upL ops m S,listed.getD k false=true
 |0,S,h,k,hk=>h k hk
 |m+1,S,h,k,hk=>by
  unfold upL at hk
  refine zl1 hc (m:=m) (λj hj=>?_) k hk
  cases ha:(S.any λp=>Region.waitsFor .any ops p m)with
  |false=>rw[ha]at hj;exact h j hj
  |true=>
   rw[ha,cond_true]at hj
   rcases Ay.1 hj with rfl|hj
   ·obtain⟨p,hp,hw⟩:=List.any_eq_true.1 ha
    exact hc p _ (h p hp) hw
   ·exact h j hj
theorem zau(h:memN l i=true):i∈l:=by
 induction l with
 |nil=>cases h
 |cons j l ih=>
  simp only[memN]at h
  cases hb:Nat.beq i j with
  |true=>rw[Az hb];exact AC
  |false=>rw[hb]at h;exact Aw _ (ih h)
theorem zl2(h:i∈l):memN l i=true:=by
 cases hm:memN l i with
 |true=>rfl
 |false=>exact absurd h (Y7 hm)
def qcw(ops:Array Oper)(k:Nat):Bool:=match ops[k]? with
 |some o=>!(zn1 o)
 |none=>false
def qes(ops:Array Oper)(i:Nat):Bool:=(upL ops ops.size [i]).any (qcw ops)
def gdd(o:Oper):Bool:=match o.guard with
 |none=>false
 |some _=>true
def zbx(ops:Array Oper)(i:Nat):Bool:=match ops[i]? with
 |some o=>bif gdd o then true else bif zn1 o then(bif Zi o then qes ops i else false)else true
 |none=>true
def hvL(ops:Array Oper):List Nat:=(BS ops.size).filter (zbx ops)
theorem zie{j:Nat}:j∈hvL ops↔j<ops.size/\zbx ops j=true:=by
 unfold hvL;rw[List.mem_filter,BF]
theorem zxc(ops:Array Oper):(hvL ops).Nodup:=Dm.filter _
def okW(ops:Array Oper)(done S:List Nat)(k:Nat):Nat->Bool
 |0=>true
 |p+1=>bif Region.waitsFor .any ops k p then(bif (bif zbx ops p then memN done p else memN S p)then okW ops done S k p else false)else okW ops done S k p
theorem zhv{ops:Array Oper}{done S:List Nat}{k:Nat}:∀{m:Nat},okW ops done S k m=true↔∀p,p<m->Region.waitsFor .any ops k p=true->(zbx ops p=true->p∈done)/\(zbx ops p=false->p∈S)
 |0=>⟨λ_ p hp=>by omega,λ_=>rfl⟩
 |m+1=>by
  unfold okW
  have ih:=zhv (ops:=ops) (done:=done) (S:=S) (k:=k) (m:=m)
  constructor
  ·intro h p hp hw
   rcases A1 p m with h1|h1
   ·refine ih.1 ?_ p h1 hw
    revert h
    cases Region.waitsFor .any ops k m with
    |false=>exact id
    |true=>
     cases(bif zbx ops m then memN done m else memN S m)with
     |false=>intro h;cases h
     |true=>exact id
   ·have:p=m:=by omega
    subst this
    rw[hw,cond_true]at h
    cases hi:zbx ops p with
    |true=>
     rw[hi,cond_true]at h
     cases hm:memN done p with
     |false=>rw[hm]at h;cases h
     |true=>exact⟨λ_=>zau hm,(λhc=>by cases hc)⟩
    |false=>
     rw[hi,cond_false]at h
     cases hm:memN S p with
     |false=>rw[hm]at h;cases h
     |true=>exact⟨(λhc=>by cases hc),λ_=>zau hm⟩
  ·intro h
   have h1:=ih.2 λp hp hw=>h p (by omega) hw
   cases hw:Region.waitsFor .any ops k m with
   |false=>exact h1
   |true=>
    obtain⟨a,b⟩:=h m (by omega) hw
    rw[cond_true]
    cases hi:zbx ops m with
    |true=>rw[cond_true,zl2 (a hi)];exact h1
    |false=>rw[cond_false,zl2 (b hi)];exact h1
def qcb(ops:Array Oper)(done S:List Nat)(k:Nat):List Nat:=bif zbx ops k then S else(bif okW ops done S k k then k::S else S)
def Xz(ops:Array Oper)(done:List Nat):Nat->List Nat
 |0=>[]
 |k+1=>qcb ops done (Xz ops done k) k
theorem Wj{ops:Array Oper}{done:List Nat}:∀{m i:Nat},i∈Xz ops done m->i<m/\zbx ops i=false/\okW ops done (Xz ops done i) i i=true
 |0,i,h=>by cases h
 |m+1,i,h=>by
  unfold Xz qcb at h
  cases hi:zbx ops m with
  |true=>rw[hi,cond_true]at h;have:=Wj h;exact⟨by omega,this.2⟩
  |false=>
   rw[hi,cond_false]at h
   cases ho:okW ops done (Xz ops done m) m m with
   |false=>rw[ho,cond_false]at h;have:=Wj h;exact⟨by omega,this.2⟩
   |true=>
    rw[ho,cond_true]at h
    rcases Ay.1 h with rfl|h
    ·exact⟨by omega,hi,ho⟩
    ·have:=Wj h;exact⟨by omega,this.2⟩
theorem zif{ops:Array Oper}{done:List Nat}{m:Nat}:∀{m' i:Nat},m<=m'->i∈Xz ops done m->i∈Xz ops done m'
 |0,i,h,hi=>by(have:m=0:=by omega);subst this;exact hi
 |m'+1,i,h,hi=>by
  rcases Du h with e|e
  ·rw[<-e];exact hi
  ·have:=zif (m':=m') (by omega) hi
   unfold Xz qcb
   cases zbx ops m' with
   |true=>exact this
   |false=>
    rw[cond_false]
    cases okW ops done (Xz ops done m') m' m' with
    |true=>exact Aw _ this
    |false=>exact this
theorem zl3(hm:i<m)(h1:zbx ops i=false)(h2:okW ops done (Xz ops done i) i i=true):i∈Xz ops done m:=by
 refine zif (m:=i+1) hm ?_
 unfold Xz qcb
 rw[h1,h2];exact AC
theorem zs2{m i p:Nat}(h:i∈Xz ops done m)(hp:p<i)(hw:Region.waitsFor .any ops i p=true):(zbx ops p=true->p∈done)/\(zbx ops p=false->p∈Xz ops done m):=by
 obtain⟨h1,h2,h3⟩:=Wj h
 obtain⟨a,b⟩:=zhv.1 h3 p hp hw
 exact⟨a,λhi=>zif (by omega) (b hi)⟩
def Xt(aa Z:List Nat)(n:Nat):List Nat:=(BS n).filter λi=>bif memN Z i then !(memN aa i)else false
theorem zkj{Z aa:List Nat}:i∈Xt Z aa n↔i<n/\i∈aa/\i∉Z:=by
 unfold Xt
 rw[List.mem_filter,BF]
 constructor
 ·rintro⟨h1,h2⟩
  cases hn:memN aa i with
  |false=>rw[hn]at h2;cases h2
  |true=>
   rw[hn,cond_true]at h2
   exact⟨h1,zau hn,λhm=>by rw[zl2 hm]at h2;cases h2⟩
 ·rintro⟨h1,h2,h3⟩
  refine⟨h1,?_⟩
  rw[zl2 h2,cond_true]
  cases hw:memN Z i with
  |false=>rfl
  |true=>exact absurd (zau hw) h3
theorem ze7(aa Z:List Nat)(n:Nat):(Xt aa Z n).Pairwise (· < ·):=List.pairwise_lt_range.filter _
def wI(P:Program)(n:Nat)(h:Za)(ld:Bool)(ops:Array Oper)(K:Env->Prop):List Nat->Env->Prop
 |[],e=>K e
 |i::l,e=>match ops[i]? with
  |some o=>bif zn1 o then(bif (bif ld then true else !(Zi o))then(bif Z5 n [] o.dst then(bif Yc o.op then(bif known e [] o.op.operands.toList then Jn P o (rho e []) none h λv=>wI P n h ld ops K l (putO e o.dst [] v)else False)else False)else False)else False)else False
  |none=>False
def Q4(ops:Array Oper)(f:Nat->Value):List Nat->Act->Act
 |[],a=>a
 |i::l,a=>Q4 ops f l (a.put (Qp ops i) (f i))
theorem zxd(hq:zn1 o=true){ρ:Operand->Value}{K:Value->Prop}(H:Jn P o ρ none h K):
  ∃v,K v/\∀h',LdOK o ρ h h'->QExec P (execOp ρ o) h' (.value v):=by
 unfold zn1 at hq
 cases hb:Zd o with
 |true=>exact zcu hb H
 |false=>
  rw[hb,cond_false]at hq
  unfold z4m at hq
  split at hq
  ·rename_i x i ho
   unfold Jn at H;rw[ho]at H
   obtain⟨v,h1,h2⟩:=Zm H none
   exact⟨v,h1,λh' _=>h2 trivial h'⟩
  ·cases hq
theorem zkk{ops:Array Oper}{f:Nat->Value}:∀{l:List Nat} {a:Act},(Q4 ops f l a).tmps.size=a.tmps.size/\(Q4 ops f l a).defers=a.defers
 |[],_=>⟨rfl,rfl⟩
 |i::l,a=>by
  unfold Q4
  have:=zkk (ops:=ops) (f:=f) (l:=l) (a:=a.put (Qp ops i) (f i))
  rw[this.1,this.2]
  exact⟨size_put _ _ _,Zs _ _ _⟩
theorem Y4{ops:Array Oper}{f:Nat->Value}{s:Nat}:∀{l:List Nat} {a:Act},(∀i∈l,Qp ops i≠some s)->Zl (Q4 ops f l a) s=Zl a s
 |[],_,_=>rfl
 |i::l,a,h=>by
  unfold Q4
  rw[Y4 λj hj=>h j (Aw _ hj)]
  exact Zj (h i AC)
theorem zdp{ops:Array Oper}{f:Nat->Value}:∀{l m:List Nat} {a:Act},Q4 ops f (l++m) a=Q4 ops f m (Q4 ops f l a)
 |[],_,_=>rfl
 |i::l,m,a=>by
  rw[A8]
  show Q4 ops f (l++m) _=Q4 ops f m (Q4 ops f l _)
  exact zdp
theorem zl4{P:Program}{n:Nat}{h:Za}{ld:Bool}{ops:Array Oper}{K:Env->Prop}(f0:Nat->Value):∀{l:List Nat} {e:Env} {a:Act},l.Nodup->wI P n h ld ops K l e->Sat n e a->∃(f:Nat->Value) (e':Env),K e'/\Sat n e' (Q4 ops f l a)/\(∀i,i∉l->f i=f0 i) /\
  ∀l1 i l2,l=l1++i::l2->∃o,ops[i]?=some o/\zn1 o=true/\(ld=false->Zi o=false)/\Yc o.op=true/\Z5 n [] o.dst=true/\∀h',LdOK o (Q4 ops f l1 a).eval h h'->QExec P (execOp (Q4 ops f l1 a).eval o) h' (.value (f i))
 |[],e,a,_,H,hs=>⟨f0,e,H,hs,λ_ _=>rfl,λl1 i l2 h=>by simp at h⟩
 |i::l,e,a,hnd,H,hs=>by
  unfold wI at H
  cases ho:ops[i]? with
  |none=>rw[ho]at H;exact H.elim
  |some o=>
   rw[ho]at H
   simp only at H
   cases hq:zn1 o with
   |false=>rw[hq]at H;exact H.elim
   |true=>
    rw[hq,cond_true]at H
    cases hld:(bif ld then true else !(Zi o))with
    |false=>rw[hld]at H;exact H.elim
    |true=>
     rw[hld,cond_true]at H
     cases hd:Z5 n [] o.dst with
     |false=>rw[hd]at H;exact H.elim
     |true=>
      rw[hd,cond_true]at H
      cases hns:Yc o.op with
      |false=>rw[hns]at H;exact H.elim
      |true=>
       rw[hns,cond_true]at H
       cases hk:known e [] o.op.operands.toList with
       |false=>rw[hk]at H;exact H.elim
       |true=>
        rw[hk,cond_true]at H
        rw[D5]at hnd
        obtain⟨v,H1,H2⟩:=zxd hq H
        have Z:Qp ops i=o.dst:=Zg ho
        obtain⟨f,e',g1,g2,g3,g4⟩:=zl4 (λx=>if x=i then v else f0 x) (a:=a.put o.dst v) hnd.2 H1 (hs.putO hd (λ_=>rfl) λhv=>absurd (Z1 _) hv)
        have ab:f i=v:=by rw[g3 i hnd.1,if_pos rfl]
        have ae:Q4 ops f (i::l) a=Q4 ops f l (a.put o.dst v):=by
         show Q4 ops f l (a.put (Qp ops i) (f i))=_
         rw[Z,ab]
        refine⟨f,e',g1,by rw[ae];exact g2,λj hj=>?_,λl1 j l2 hl=>?_⟩
        ·simp only[Ay,not_or]at hj
         rw[g3 j hj.2,if_neg hj.1]
        ·cases l1 with
         |nil=>
          simp only[BV,Ca]at hl
          obtain⟨rfl,rfl⟩:=hl
          refine⟨o,ho,hq,λhl=>by rw[hl]at hld;simpa using hld,hns,hd,λh' hh=>?_⟩
          show QExec P (execOp a.eval o) h' _
          rw[Xq hs (Z1 _) hns hk,ab]
          exact H2 h' (LdOK.congr (λx hx=>(Y2 hs (Z1 _) hk x hx).symm) hh)
         |cons i' l1=>
          simp only[A8,Ca]at hl
          obtain⟨rfl,rfl⟩:=hl
          obtain⟨o',q1,q2,q3,q4,q5,q6⟩:=g4 l1 j l2 rfl
          have aa:Q4 ops f (i::l1) a=Q4 ops f l1 (a.put o.dst v):=by
           show Q4 ops f l1 (a.put (Qp ops i) (f i))=_
           rw[Z,ab]
          refine⟨o',q1,q2,q3,q4,q5,λh' hh=>?_⟩
          rw[aa]at hh ⊢
          exact q6 h' hh
def zxe(ops:Array Oper)(U:List Nat):Nat->Bool
 |0=>false
 |k+1=>bif (match ops[k]? with
  |some o=>bif Zi o then(bif zbx ops k then false else !(memN U k))else false
  |none=>false)then true else zxe ops U k
theorem zkl{ops:Array Oper}{U:List Nat}:∀{m:Nat},zxe ops U m=false->∀k o,k<m->ops[k]?=some o->Zi o=true->zbx ops k=false->k∈U
 |0,_,k,o,hk,_,_,_=>by omega
 |m+1,h,k,o,hk,ho,hl,hi=>by
  unfold zxe at h
  cases hb:(match ops[m]? with
   |some o=>bif Zi o then(bif zbx ops m then false else !(memN U m))else false
   |none=>false)with
  |true=>rw[hb]at h;cases h
  |false=>
   rw[hb,cond_false]at h
   rcases A1 k m with h1|h1
   ·exact zkl h k o h1 ho hl hi
   ·have:k=m:=by omega
    subst this
    rw[ho]at hb
    simp only[hl,hi,cond_true,cond_false]at hb
    exact zau (by simpa using hb)
def zig(ops:Array Oper)(U:List Nat)(e:Env)(h0 h':Za)(K:Prop):Nat->Prop
 |0=>K
 |k+1=>match ops[k]? with
  |some o=>bif (bif Zi o then(bif zbx ops k then false else !(memN U k))else false)then(match o.op with
   |.load _ a=>bif known e [] [a]then(match rho e [] a with
    |.pointer (some p)=>h'[p.block]?=h0[p.block]?/\zig ops U e h0 h' K k
    |_=>False)else False
   |_=>False)else zig ops U e h0 h' K k
  |none=>zig ops U e h0 h' K k
theorem zih{ops:Array Oper}{U:List Nat}{e:Env}{h0 h':Za}{K:Prop}:∀{m:Nat},zig ops U e h0 h' K m->K/\∀k o,k<m->ops[k]?=some o->Zi o=true->zbx ops k=false->k∉U ->
  ∃t a p,o.op=.load t a/\known e [] [a]=true/\rho e [] a=.pointer (some p)/\h'[p.block]?=h0[p.block]?
 |0,H=>⟨H,λk o hk=>by omega⟩
 |m+1,H=>by
  unfold zig at H
  have step:zig ops U e h0 h' K m->(∀o,ops[m]?=some o->Zi o=true->zbx ops m=false->m∉U->∃t a p,o.op=.load t a/\known e [] [a]=true/\rho e [] a=.pointer (some p)/\h'[p.block]?=h0[p.block]?) ->
    K/\∀k o,k<m+1->ops[k]?=some o->Zi o=true->zbx ops k=false->k∉U->∃t a p,o.op=.load t a/\known e [] [a]=true/\rho e [] a=.pointer (some p)/\h'[p.block]?=h0[p.block]?:=λH1 H2=>by
   obtain⟨h1,h2⟩:=zih H1
   refine⟨h1,λk o hk ho hl hi hr=>?_⟩
   rcases A1 k m with h3|h3
   ·exact h2 k o h3 ho hl hi hr
   ·have:k=m:=by omega
    subst this
    exact H2 o ho hl hi hr
  cases ho:ops[m]? with
  |none=>rw[ho]at H;exact step H λo h1=>by rw[ho]at h1;cases h1
  |some o=>
   rw[ho]at H
   simp only at H
   have same:∀o',ops[m]?=some o'->o'=o:=λo' h1=>AL (h1.symm.trans ho)
   cases hc:(bif Zi o then(bif zbx ops m then false else !(memN U m))else false)with
   |false=>
    rw[hc]at H
    refine step H λo' h1 h2 h3 h4=>?_
    rw[same o' h1]at h2
    rw[h2,h3,cond_true,cond_false]at hc
    exact absurd (zau (by simpa using hc)) h4
   |true=>
    rw[hc,cond_true]at H
    split at H
    ·rename_i t a Z
     cases hk:known e [] [a]with
     |false=>rw[hk]at H;exact H.elim
     |true=>
      rw[hk,cond_true]at H
      split at H
      ·rename_i p hp
       exact step H.2 λo' h1 h2 h3 h4=>⟨t,a,p,by rw[same o' h1];exact Z,hk,hp,H.1⟩
      ·exact H.elim
    ·exact H.elim
def zn2(md:Bool)(ops:Array Oper)(T:List Nat)(e:Env)(h0 h':Za)(K:Prop):Prop:=bif zxe ops (upL ops ops.size T) ops.size then(bif md then zig ops (upL ops ops.size T) e h0 h' K ops.size else Keep h0.size h0 h'/\K)else K
def z1k(ops:Array Oper)(todo:List Nat)(j:Nat):Bool:=todo.all λk=>bif Nat.beq k j then true else !(memN (upL ops ops.size [j]) k)
def wB7(P:Program)(n:Nat)(ops:Array Oper)(h0:Za)(K:Env->Za->Prop)(md:Bool):Nat->List Nat->List Nat->Env->Za->Prop
 |_,_,[],e,h=>K (clean e) h
 |0,_,_::_,_,_=>False
 |f+1,T,j0::l0,e,h=>qca (λj=>match ops[j]? with
  |some o=>(match Xy ops e o.guard with|some c=>bif Z5 n c o.dst then opW P o e c h λv h'=>wI P n h' false ops (λe'=>zn2 md ops (j::T) e' h0 h' (wB7 P n ops h0 K md f (j::T) (zgd j (j0::l0)) e' h')) (Xt (Xz ops T ops.size) (Xz ops (j::T) ops.size) ops.size) (putO e o.dst c v)else False|none=>False)
  |none=>False) (zu6 (z1k ops (j0::l0)) (j0::l0))
theorem zu7{K:Env->Za->Prop}{f:Nat}{T todo:List Nat}(H:wB7 P n ops h0 K md (f+1) T todo e h){j:Nat}(hj:j∈todo)(hc:z1k ops todo j=true):match ops[j]? with
  |some o=>(match Xy ops e o.guard with|some c=>bif Z5 n c o.dst then opW P o e c h λv h'=>wI P n h' false ops (λe'=>zn2 md ops (j::T) e' h0 h' (wB7 P n ops h0 K md f (j::T) (zgd j todo) e' h')) (Xt (Xz ops T ops.size) (Xz ops (j::T) ops.size) ops.size) (putO e o.dst c v)else False|none=>False)
  |none=>False:=by
 cases todo with
 |nil=>cases hj
 |cons j0 l0=>exact zl0 H j (ze6 hj hc)
def zcw(ops:Array Oper):Nat->Bool
 |0=>true
 |k+1=>bif (match ops[k]? with
  |some o=>Q3 ops k (tmpsOf o.op.operands.toList) ops.size
  |none=>true)then zcw ops k else false
theorem zav{ops:Array Oper}:∀{m:Nat},zcw ops m=true->∀k o,k<m->ops[k]?=some o->Q3 ops k (tmpsOf o.op.operands.toList) ops.size=true
 |0,_,k,o,hk,_=>by omega
 |m+1,h,k,o,hk,ho=>by
  unfold zcw at h
  cases hb:(match ops[m]? with
   |some o=>Q3 ops m (tmpsOf o.op.operands.toList) ops.size
   |none=>true)with
  |false=>rw[hb]at h;cases h
  |true=>
   rw[hb,cond_true]at h
   rcases A1 k m with h1|h1
   ·exact zav h k o h1 ho
   ·have:k=m:=by omega
    subst this
    rw[ho]at hb;exact hb
def zu8(ops:Array Oper)(o:Oper):List Nat:=match o.guard with
 |none=>[]
 |some (j,_)=>match Qp ops j with
  |some t=>[t]
  |none=>[]
def zkm(ops:Array Oper):Nat->Bool
 |0=>true
 |k+1=>bif (match ops[k]? with
  |some o=>bif Yc o.op then Q3 ops k (zu8 ops o) ops.size else false
  |none=>true)then zkm ops k else false
theorem zii{ops:Array Oper}:∀{m:Nat},zkm ops m=true->∀k o,k<m->ops[k]?=some o->Yc o.op=true/\Q3 ops k (zu8 ops o) ops.size=true
 |0,_,k,o,hk,_=>by omega
 |m+1,h,k,o,hk,ho=>by
  unfold zkm at h
  cases hb:(match ops[m]? with
   |some o=>bif Yc o.op then Q3 ops m (zu8 ops o) ops.size else false
   |none=>true)with
  |false=>rw[hb]at h;cases h
  |true=>
   rw[hb,cond_true]at h
   rcases A1 k m with h1|h1
   ·exact zii h k o h1 ho
   ·have:k=m:=by omega
    subst this
    rw[ho]at hb
    simp only at hb
    cases h2:Yc o.op with
    |false=>rw[h2]at hb;cases hb
    |true=>rw[h2,cond_true]at hb;exact⟨rfl,hb⟩
theorem zn3(h:∀t∈zu8 ops o,Zl a t=Zl b t):BD o (yielded ops a.tmps)=BD o (yielded ops b.tmps):=by
 unfold BD
 cases hg:o.guard with
 |none=>rfl
 |some jp=>
  obtain⟨j,p⟩:=jp
  have:yielded ops a.tmps j=yielded ops b.tmps j:=by
   unfold yielded
   cases hd:(ops[j]?).bind (·.dst)with
   |none=>rfl
   |some t=>
    have Z:Qp ops j=some t:=by
     unfold Qp
     cases hoj:ops[j]? with
     |none=>rw[hoj]at hd;simp at hd
     |some oj=>rw[hoj]at hd;simpa using hd
    have ht:=h t (by unfold zu8;rw[hg];simp only;rw[Z];simp)
    unfold Zl at ht
    simp only[BO]at ht
    simp only[CX]
    cases h1:a.tmps[t]? <;> cases h2:b.tmps[t]? <;> rw[h1,h2]at ht <;> simp at ht <;> first|rfl|(subst ht;rfl)|(rw[<-ht];rfl)|(rw[ht];rfl)
  simp only[this]
theorem zxf(h:gdd o=false):o.guard=none:=by
 unfold gdd at h
 cases hg:o.guard with
 |none=>rfl
 |some g=>rw[hg]at h;cases h
theorem z5w(ho:ops[i]?=some o)(h:zbx ops i=false):o.guard=none:=by
 unfold zbx at h
 rw[ho]at h
 simp only at h
 cases hg:gdd o with
 |true=>rw[hg]at h;cases h
 |false=>exact zxf hg
def zjs(ops:Array Oper):Bool:=bif zkm ops ops.size then(bif Zw ops ops.size then(bif Yl ops ops.size then zcw ops ops.size else false)else false)else false
theorem zkn(h:zjs ops=true):zkm ops ops.size=true/\Zw ops ops.size=true/\Yl ops ops.size=true/\zcw ops ops.size=true:=by
 unfold zjs at h
 cases h1:zkm ops ops.size <;> cases h2:Zw ops ops.size <;> cases h3:Yl ops ops.size <;> simp[h1,h2,h3]at h ⊢
 exact h
structure St7 (P:Program) (n:Nat) (ops:Array Oper) (h0:Za) (K:Env->Za->Prop) (md:Bool) (f:Nat->Value) (a0:Act) (listed:Array Bool) (a b:Act) (e:Env) (h:Za) (done todo:List Nat):Prop where
 inv:HeadInv .any ops ops.size listed
 ag:∀s,(∀i o,ops[i]?=some o->zbx ops i=false->listed.getD i false=false->o.dst≠some s)->Zl a s=Zl b s
 sz:a.tmps.size=n
 ad:a.defers=[]
 sb:Sat n e b
 qv:∀i o t,ops[i]?=some o->i∈Xz ops done ops.size->o.dst=some t->Zl b t=f i/\t<n
 qx:∀i o,ops[i]?=some o->i∈Xz ops done ops.size->∀h',LdOK o b.eval h0 h'->QExec P (execOp b.eval o) h' (.value (f i))
 tt:∀j,j∈hvL ops->(j∈todo↔listed.getD j false=false)
 ch:∀j,j∈hvL ops->(listed.getD j false=true↔j∈done)
 dn:∀j∈done,j∈hvL ops
 th:∀j∈todo,j∈hvL ops
 nd:todo.Nodup
 wt:∃fu,todo.length<=fu/\wB7 P n ops h0 K md fu done todo e h
 kp:∀i o,ops[i]?=some o->Zi o=true->zbx ops i=false->listed.getD i false=false->LdOK o b.eval h0 h
 sm:Same (Qx ops.toList) a0 a
theorem zij{ld:Bool}(af:Zw ops ops.size=true)(ap:Yl ops ops.size=true)(an:zcw ops ops.size=true){f:Nat->Value}(ar:b.tmps.size=n)(ah:∀i∈l,i<ops.size)(Z:l.Pairwise (· < ·))
  (H:∀l1 i l2,l=l1++i::l2->∃o,ops[i]?=some o/\zn1 o=true/\(ld=false->Zi o=false)/\Yc o.op=true/\Z5 n [] o.dst=true/\∀h',LdOK o (Q4 ops f l1 b).eval h h'->QExec P (execOp (Q4 ops f l1 b).eval o) h' (.value (f i))):
  ∀i o,ops[i]?=some o->i∈l->(∀t,o.dst=some t->Zl (Q4 ops f l b) t=f i/\t<n)/\(ld=false->Zi o=false)/\∀h',LdOK o (Q4 ops f l b).eval h h'->QExec P (execOp (Q4 ops f l b).eval o) h' (.value (f i)):=by
 intro i o ho hi
 obtain⟨l1,l2,rfl⟩:=List.append_of_mem hi
 obtain⟨o',q1,q2,q3,q4,q5,q6⟩:=H l1 i l2 rfl
 have:o'=o:=AL (q1.symm.trans ho)
 subst this
 have ae:i<ops.size:=ah i (by simp)
 have hs:∀j∈l2,i<j:=λj hj=>by
  rw[CH]at Z
  exact(BW.1 Z.2.1).1 j hj
 have aa:Q4 ops f (l1++i::l2) b=Q4 ops f l2 ((Q4 ops f l1 b).put (Qp ops i) (f i)):=by rw[zdp];rfl
 have ab:Qp ops i=o'.dst:=Zg ho
 refine⟨λt ht=>?_,q3,λh' hh=>?_⟩
 ·have aj:t<n:=by
   rw[ht]at q5
   unfold Z5 at q5
   simp at q5;exact q5.2
  refine⟨?_,aj⟩
  rw[aa,Y4 λj hj hd=>?_,ab,ht,Z4 (by rw[zkk.1,ar];exact aj)]
  have:=Z7 ap i j t ae (ah j (by simp[hj])) (by rw[ab,ht]) hd
  have:=hs j hj
  omega
 ·have ai:∀t∈tmpsOf o'.op.operands.toList,Zl (Q4 ops f (l1++i::l2) b) t=Zl (Q4 ops f l1 b) t:=λt ht=>by
   have e1:Q4 ops f (l1++i::l2) b=Q4 ops f (i::l2) (Q4 ops f l1 b):=zdp
   rw[e1]
   refine Y4 λj hj hd=>?_
   have am:j<ops.size:=ah j (by simp[hj])
   have hw:=Zt (zav an i o' ae ho) j t am hd ht
   obtain⟨oj,ak,x,hx,hb,au⟩:=Region.waitsFor_spec hw
   have h1:=Zo af i oj ae ak x hx hb
   rcases Ay.1 hj with rfl|hj
   ·omega
   ·have:=hs j hj;omega
  rw[Qr q4 ai]
  exact q6 h' (LdOK.congr (λx hx=>(Qq ai x hx).symm) hh)
theorem z1l{K:Env->Za->Prop}{Q:Exit->Act->World->Prop}(B:World)(hmix:zjs ops=true){a0:Act}
    (hQ:∀e' a' d' h',Sat n e' a'->Same (Qx ops.toList) a0 a'->K e' h'->Q .normal a' (mk B d' h')):
    ∀(N:Nat) (U:List Nat) (listed:Array Bool) (f:Nat->Value) (a b:Act) (e:Env) (h:Za) (d:Nat) (done todo:List Nat),U.length=N->U.Nodup->(∀k,k∈U↔k<ops.size/\listed.getD k false=false) ->
      St7 P n ops h0 K md f a0 listed a b e h done todo->wpAny P .any ops Q N listed a (mk B d h):=by
  obtain⟨hng,hback,hnd,hsl⟩:=zkn hmix
  have hgd:∀(i:Nat) (o:Oper),ops[i]?=some o->Yc o.op=true/\Q3 ops i (zu8 ops o) ops.size=true:=λi o ho=>zii hng i o (Au.1 ho).1 ho
  have hslot0:∀k o,ops[k]?=some o->∀p t,p<ops.size->Qp ops p=some t->t∈tmpsOf o.op.operands.toList->Region.waitsFor .any ops k p=true:=λk o ho p t hp hd ht=>
    Zt (zav hsl k o (Au.1 ho).1 ho) p t hp hd ht
  have hbk:∀k p,Region.waitsFor .any ops k p=true->p<k:=λk p hw=>by
    obtain⟨oj,hoj,x,hx,hb,hon⟩:=Region.waitsFor_spec hw
    have:=Zo hback k oj (Au.1 hoj).1 hoj x hx hb
    omega
  have fin:∀{listed:Array Bool} {f:Nat->Value} {a b:Act} {e:Env} {h:Za} {d:Nat} {done todo:List Nat},(∀k,k<ops.size->listed.getD k false=true)->St7 P n ops h0 K md f a0 listed a b e h done todo->Q .normal a (mk B d h):=by
    intro listed f a b e h d done todo hall S
    have htodo:todo=[]:=by
      cases htd:todo with
      |nil=>rfl
      |cons j l=>
        have hm:j∈todo:=by rw[htd];simp
        have hj:=S.th j hm
        have:=(S.tt j hj).1 hm
        rw[hall j (zie.1 hj).1]at this;cases this
    obtain⟨fu,_,hw⟩:=S.wt
    rw[htodo]at hw
    have hw:K (clean e) h:=by cases fu <;> exact hw
    have hv:∀s,Zl a s=Zl b s:=λs=>S.ag s λi o ho hq hl=>by
      rw[hall i (Au.1 ho).1]at hl;cases hl
    have hs:Sat n e a:=⟨S.ad,S.sz,λx hx=>by
      have:=S.sb.all x hx
      have e1:Zl a=Zl b:=funext hv
      rw[e1];exact this⟩
    exact hQ _ _ _ _ hs.clean S.sm hw
  intro N
  induction N with
  |zero=>
    intro U listed f a b e h d done todo hU _ hmem S
    have hUn:U=[]:=Bj.1 hU
    subst hUn
    have hall:∀k,k<ops.size->listed.getD k false=true:=λk hk=>by
      cases hb:listed.getD k false with
      |true=>rfl
      |false=>exact absurd ((hmem k).2 ⟨hk,hb⟩) (by simp)
    refine⟨?_,fin hall S⟩
    rw[CY]
    intro j hj
    obtain⟨h1,o,ho,_⟩:=mem_ready.1 hj
    have hlt:=(Au.1 ho).1
    have:=hall j hlt
    have h2:=getD_both h1
    rw[this]at h2;cases h2
  |succ N ih=>
    intro U listed f a b e h d done todo hU hdup hmem S
    have hex:∃k,k<ops.size/\listed.getD k false=false:=by
      cases U with
      |nil=>cases hU
      |cons k U=>exact⟨k,(hmem k).1 AC⟩
    refine⟨λhr=>?_,λi hi=>?_⟩
    · exfalso
      obtain⟨k,hk1,hk2,hk3⟩:=Xb hex
      have:k∈Region.ready .any ops listed:=mem_ready.2 ⟨by rw[<-hk2];simp[S.inv.size,hk1],ops[k],A0 hk1,λx hx hb=>hk3 _ (Zo hback k ops[k] hk1 (A0 hk1) x hx hb)⟩
      rw[hr]at this;cases this
    · obtain⟨hun1,o,ho,hall⟩:=mem_ready.1 hi
      have hun:listed.getD i false=false:=getD_both hun1
      have hlt:i<ops.size:=(Au.1 ho).1
      obtain⟨hns,hgs⟩:=hgd i o ho
      have hils:i<listed.size:=by rw[S.inv.size];exact hlt
      have hU':(U.erase i).length=N:=by rw[C3 ((hmem i).2 ⟨hlt,hun⟩),hU];rfl
      have hdup':(U.erase i).Nodup:=hdup.erase i
      have hmem':∀k,k∈U.erase i↔k<ops.size/\(listed.setIfInBounds i true).getD k false=false:=λk=>by
        rw[hdup.mem_erase_iff,hmem k]
        by_cases hk:i=k
        · subst hk;simp[hils]
        · rw[getD_set_ne false hk];exact⟨λhx=>hx.2,λhx=>⟨λe=>hk e.symm,hx⟩⟩
      have inv':=S.inv.set hi hlt
      have hset:∀k,k≠i->(listed.setIfInBounds i true).getD k false=listed.getD k false:=λk hk=>getD_set_ne false (Ne.symm hk)
      have hsetI:(listed.setIfInBounds i true).getD i false=true:=by simp[hils]
      have hops:∀t∈tmpsOf o.op.operands.toList,Zl a t=Zl b t:=λt ht=>S.ag t λk ok hok hq hl hd=>by
        have hw:=hslot0 i o ho k t (Au.1 hok).1 (by rw[Zg hok,hd]) ht
        rw[Yo hi hw]at hl;cases hl
      have hexec:=Qr hns hops
      have hsame:∀v,Same (Qx ops.toList) a0 (a.put o.dst v):=λv=>S.sm.trans (Same.put a o.dst _ λt ht=>J6 (by
          obtain⟨hl2,e2⟩:=Au.1 ho
          rw[<-e2];simp) t ht)
      unfold wpOp
      rw[ho]
      simp only
      have hwab:BD o (yielded ops a.tmps)=BD o (yielded ops b.tmps):=zn3 λt ht=>S.ag t λk ok hok hq hl hd=>by
        have hw:=Zt hgs k t (Au.1 hok).1 (by rw[Zg hok,hd]) ht
        rw[Yo hi hw]at hl;cases hl
      cases hq:zbx ops i with
      |false=>
        have hwant:BD o (yielded ops a.tmps)=true:=by unfold BD;rw[z5w ho hq]
        rw[if_pos hwant]
        left
        unfold Oper.wp
        rw[hexec]
        have hrdyG:∀m k ok,k<m->ops[k]?=some ok->zbx ops k=false->(∀p,Region.waitsFor .any ops k p=true->listed.getD p false=true)->k∈Xz ops done ops.size:=by
          intro m
          induction m with
          |zero=>intro k ok hk;omega
          |succ m ihm=>
            intro k ok hk hok hkh hkw
            refine zl3 (Au.1 hok).1 hkh (zhv.2 λp hp hw=>⟨λhph=>?_,λhph=>?_⟩)
            · have hpl:=hkw p hw
              exact(S.ch p (zie.2 ⟨by have:=(Au.1 hok).1;omega,hph⟩)).1 hpl
            · have hps:p<ops.size:=by have:=(Au.1 hok).1;omega
              have hin:=ihm p ops[p] (by omega) (A0 hps) hph λq hq2=>Qb S.inv (hkw p hw) hq2
              obtain⟨_,g2,g3⟩:=Wj hin
              exact zl3 hp g2 g3
        have hrdy:=hrdyG (i+1) i o (by omega) ho hq λp hw=>Yo hi hw
        have hx:=S.qx i o ho hrdy h (by
          cases hl:Zi o with
          |false=>exact .inl hl
          |true=>exact S.kp i o ho hl hq hun) B d
        rw[hx,Oper.upon_value]
        have hnot:i∉hvL ops:=λhm=>by rw[(zie.1 hm).2]at hq;cases hq
        refine ih _ _ f _ b e h d done todo hU' hdup' hmem' { S with inv:=inv',ag:=λs hs=>?_,sz:=by rw[size_put];exact S.sz,ad:=by rw[Zs];exact S.ad,tt:=λj hj=>(by have:j≠i:=λe=>hnot (e ▸ hj);rw[hset j this];exact S.tt j hj),ch:=λj hj=>?_,kp:=λk ok hok hl hkh hk=>?_,sm:=hsame _ }
        · by_cases hd:o.dst=some s
          · obtain⟨hv,hsn⟩:=S.qv i o s ho hrdy hd
            rw[hd,Z4 (by rw[S.sz];exact hsn),hv]
          · rw[Zj hd]
            refine S.ag s λk ok hok hqk hlk=>?_
            by_cases hki:k=i
            · subst hki
              have:ok=o:=AL (hok.symm.trans ho)
              subst this;exact hd
            · exact hs k ok hok hqk (by rw[hset k hki];exact hlk)
        · have:j≠i:=λe=>hnot (e ▸ hj)
          rw[hset j this];exact S.ch j hj
        · by_cases hki:k=i
          · subst hki;rw[hsetI]at hk;cases hk
          · rw[hset k hki]at hk;exact S.kp k ok hok hl hkh hk
      |true=>
        have hin:i∈hvL ops:=zie.2 ⟨hlt,hq⟩
        have hit:i∈todo:=(S.tt i hin).2 hun
        obtain⟨fu,hfu,hW0⟩:=S.wt
        have hcl:∀p q,(listed.setIfInBounds i true).getD p false=true->Region.waitsFor .any ops p q=true->(listed.setIfInBounds i true).getD q false=true:=λp q h1 h2=>Qb inv' h1 h2
        have hcand:z1k ops todo i=true:=by
          unfold z1k
          rw[A5]
          intro k hk
          cases hki:Nat.beq k i with
          |true=>rfl
          |false=>
            have hne:k≠i:=λe=>by rw[e]at hki;simp at hki
            cases hr:memN (upL ops ops.size [i]) k with
            |false=>rfl
            |true=>
              exfalso
              have:=zl1 hcl (m:=ops.size) (S:=[i]) (λj hj=>by simp at hj;subst hj;exact hsetI) k (zau hr)
              rw[hset k hne]at this
              have h2:=(S.tt k (S.th k hk)).1 hk
              rw[this]at h2;cases h2
        have hW:match ops[i]? with
            |some o=>(match Xy ops e o.guard with|some c=>bif Z5 n c o.dst then opW P o e c h λv h'=>wI P n h' false ops (λe'=>zn2 md ops (i::done) e' h0 h' (wB7 P n ops h0 K md (fu-1) (i::done) (zgd i todo) e' h')) (Xt (Xz ops done ops.size) (Xz ops (i::done) ops.size) ops.size) (putO e o.dst c v)else False|none=>False)
            |none=>False:=by
          cases fu with
          |zero=>(have:todo.length=0:=by omega);rw[Bj.1 this]at hit;cases hit
          |succ fu=>
            have:=zu7 (show wB7 P n ops h0 K md (fu+1) done todo e h from hW0) hit hcand
            exact this
        rw[ho]at hW
        simp only at hW
        cases hch:Xy ops e o.guard with
        |none=>rw[hch]at hW;exact hW.elim
        |some c=>
        rw[hch]at hW
        simp only at hW
        cases hd:Z5 n c o.dst with
        |false=>rw[hd]at hW;exact hW.elim
        |true=>
          rw[hd,cond_true]at hW
          have hwv:=J8 S.sb hch
          have key:∀(v u:Value) (d':Nat) (h':Za),(valid (Zl b) c->u=v)->(¬valid (Zl b) c->u=undef)->wI P n h' false ops (λe'=>zn2 md ops (i::done) e' h0 h' (wB7 P n ops h0 K md (fu-1) (i::done) (zgd i todo) e' h')) (Xt (Xz ops done ops.size) (Xz ops (i::done) ops.size) ops.size) (putO e o.dst c v)->wpAny P .any ops Q N (listed.setIfInBounds i true) (a.put o.dst u) (mk B d' h'):=by
           intro v v2 d' h' hv1 hv0 hK
           have sb1:Sat n (putO e o.dst c v) (b.put o.dst v2):=S.sb.putO hd hv1 hv0
           generalize hbl:Xt (Xz ops done ops.size) (Xz ops (i::done) ops.size) ops.size=bl at hK
           have hbm:∀k,k∈bl↔k<ops.size/\k∈Xz ops (i::done) ops.size/\k∉Xz ops done ops.size:=λk=>by rw[<-hbl];exact zkj
           have hbsort:bl.Pairwise (· < ·):=by rw[<-hbl];exact ze7 _ _ _
           have hbnd:bl.Nodup:=hbsort.imp λh=>by omega
           obtain⟨f',e2,HK,sb2,hf0,hfx⟩:=zl4 f hbnd hK sb1
           have hbf:=zij hback hnd hsl (f:=f') (l:=bl) (b:=b.put o.dst v2) sb1.size (λk hk=>((hbm k).1 hk).1) hbsort hfx
           have hbnh:∀k∈bl,zbx ops k=false:=λk hk=>(Wj ((hbm k).1 hk).2.1).2.1
           have hlist':∀j,j∈hvL ops->((listed.setIfInBounds i true).getD j false=true↔j∈i::done):=λj hj=>by
             by_cases hji:j=i
             · subst hji;rw[hsetI];simp
             · rw[hset j hji,S.ch j hj];simp[hji]
           have hjl:∀j∈i::done,(listed.setIfInBounds i true).getD j false=true:=λj hj=>by
             rcases Ay.1 hj with rfl|hj
             · exact hsetI
             · exact getD_set_true ((S.ch j (S.dn j hj)).2 hj)
           have hup:∀k,k∈upL ops ops.size (i::done)->(listed.setIfInBounds i true).getD k false=true:=λk hk=>zl1 hcl hjl k hk
           have hundone:i∉done:=λhm=>by rw[(S.ch i hin).2 hm]at hun;cases hun
           have hslot1:∀k ok,ops[k]?=some ok->k∈Xz ops done ops.size->∀t∈tmpsOf ok.op.operands.toList,Zl (b.put o.dst v2) t=Zl b t:=λk ok hok hk t ht=>Zj λhdo=>by
             have hw:=hslot0 k ok hok i t hlt (by rw[Zg ho,hdo]) ht
             exact hundone ((zs2 hk (hbk k i hw) hw).1 hq)
           have hslot2:∀k ok,ops[k]?=some ok->k∈Xz ops done ops.size->∀t∈tmpsOf ok.op.operands.toList,Zl (Q4 ops f' bl (b.put o.dst v2)) t=Zl b t:=λk ok hok hk t ht=>by
             rw[Y4 λp hp hdp=>?_]
             · exact hslot1 k ok hok hk t ht
             · have hw:=hslot0 k ok hok p t ((hbm p).1 hp).1 hdp ht
               exact((hbm p).1 hp).2.2 ((zs2 hk (hbk k p hw) hw).2 (hbnh p hp))
           have hdist:∀k ok t,ops[k]?=some ok->k≠i->ok.dst=some t->o.dst≠some t:=λk ok t hok hki hdk hdo=>by
             have:=Z7 hnd k i t (Au.1 hok).1 hlt (by rw[Zg hok,hdk]) (by rw[Zg ho,hdo])
             exact hki this
           have hne_i:∀k,zbx ops k=false->k≠i:=λk hk e=>by rw[e,hq]at hk;cases hk
           have hkp':∀k ok,ops[k]?=some ok->Zi ok=true->zbx ops k=false->k∈Xz ops done ops.size->LdOK ok b.eval h0 h'->LdOK ok (Q4 ops f' bl (b.put o.dst v2)).eval h0 h':=λk ok hok _ _ hk hh=>
             LdOK.congr (λx hx=>(Qq (hslot2 k ok hok hk) x hx)) hh
           have hQK:wB7 P n ops h0 K md (fu-1) (i::done) (zgd i todo) e2 h'/\(∀k ok,ops[k]?=some ok->Zi ok=true->zbx ops k=false->(listed.setIfInBounds i true).getD k false=false->LdOK ok (Q4 ops f' bl (b.put o.dst v2)).eval h0 h'):=by
             unfold zn2 at HK
             cases hl:zxe ops (upL ops ops.size (i::done)) ops.size with
             |false=>
               rw[hl,cond_false]at HK
               exact⟨HK,λk ok hok hlo hkh hf=>by rw[hup k (zkl hl k ok (Au.1 hok).1 hok hlo hkh)]at hf;cases hf⟩
             |true=>
               rw[hl,cond_true]at HK
               cases md with
               |false=>exact⟨HK.2,λ_ _ _ _ _ _=>.inr (.inl HK.1)⟩
               |true=>
                 rw[cond_true]at HK
                 obtain⟨g1,g2⟩:=zih HK
                 refine⟨g1,λk ok hok hlo hkh hf=>.inr (.inr λt a p hop hp=>?_)⟩
                 obtain⟨t',a',p',e1,e2',e3,e4⟩:=g2 k ok (Au.1 hok).1 hok hlo hkh (λhm=>by rw[hup k hm]at hf;cases hf)
                 rw[hop]at e1
                 injection e1 with _ e1
                 subst e1
                 have eb:(Q4 ops f' bl (b.put o.dst v2)).eval a=rho e2 [] a:=Y2 sb2 (Z1 _) e2' a (by simp)
                 rw[eb,e3]at hp
                 injection hp with hp
                 injection hp with hp
                 rw[<-hp];exact e4
           have htt:∀j,j∈hvL ops->(j∈zgd i todo↔(listed.setIfInBounds i true).getD j false=false):=λj hj=>by
             rw[zat]
             by_cases hji:j=i
             · subst hji;rw[hsetI];simp
             · rw[hset j hji,<-S.tt j hj];exact⟨λhx=>hx.1,λhx=>⟨hx,hji⟩⟩
           refine ih _ _ f' _ (Q4 ops f' bl (b.put o.dst v2)) e2 h' d' (i::done) (zgd i todo) hU' hdup' hmem' ⟨inv',λs hs=>?_,by rw[size_put];exact S.sz,by rw[Zs];exact S.ad,sb2,λk ok t hok hk hdk=>?_,λk ok hok hk h'' hh=>?_,htt,hlist',(λj hj=>by
             rcases Ay.1 hj with rfl|hj
             · exact hin
             · exact S.dn j hj),(λj hj=>S.th j (zat.1 hj).1),zcv S.nd,⟨fu-1,by have:=zlz hit;omega,hQK.1⟩,hQK.2,hsame _⟩
           · -- slots
             have hs':∀k ok,ops[k]?=some ok->zbx ops k=false->listed.getD k false=false->ok.dst≠some s:=λk ok hok hqk hlk=>hs k ok hok hqk (by rw[hset k (hne_i k hqk)];exact hlk)
             have hbl:∀p∈bl,Qp ops p≠some s:=λp hp hdp=>by
               have hps:=((hbm p).1 hp).1
               have hok:ops[p]?=some ops[p]:=A0 hps
               have hph:=hbnh p hp
               refine hs p _ hok hph ?_ (by rw[<-Zg hok];exact hdp)
               cases hlp:(listed.setIfInBounds i true).getD p false with
               |false=>rfl
               |true=>
                 exfalso
                 rw[hset p (hne_i p hph)]at hlp
                 have:∀m q,q<m->q<ops.size->zbx ops q=false->listed.getD q false=true->q∈Xz ops done ops.size:=by
                   intro m
                   induction m with
                   |zero=>intro q hq;omega
                   |succ m ihm=>
                     intro q hqm hqs hqh hql
                     refine zl3 hqs hqh (zhv.2 λp2 hp2 hw2=>⟨λhph2=>?_,λhph2=>?_⟩)
                     · exact(S.ch p2 (zie.2 ⟨by omega,hph2⟩)).1 (Qb S.inv hql hw2)
                     · have hin2:=ihm p2 (by omega) (by omega) hph2 (Qb S.inv hql hw2)
                       obtain⟨_,g2,g3⟩:=Wj hin2
                       exact zl3 hp2 g2 g3
                 exact((hbm p).1 hp).2.2 (this (p+1) p (by omega) hps hph hlp)
             rw[Y4 hbl]
             by_cases hds:o.dst=some s
             · rw[hds]
               have hsn:s<n:=by
                 rw[hds]at hd
                 unfold Z5 at hd
                 simp at hd;exact hd.2
               rw[Z4 (by rw[S.sz];exact hsn),Z4 (by rw[S.sb.size];exact hsn)]
             · rw[Zj hds,Zj hds];exact S.ag s hs'
           · by_cases hkb:k∈bl
             · exact(hbf k ok hok hkb).1 t hdk
             · have hk0:k∈Xz ops done ops.size:=CU λhc=>hkb ((hbm k).2 ⟨(Au.1 hok).1,hk,hc⟩)
               have hkh:=(Wj hk0).2.1
               obtain⟨q1,q2⟩:=S.qv k ok t hok hk0 hdk
               refine⟨?_,q2⟩
               rw[Y4 λp hp hdp=>?_,Zj (hdist k ok t hok (hne_i k hkh) hdk),q1,hf0 k hkb]
               have:=Z7 hnd p k t ((hbm p).1 hp).1 (Au.1 hok).1 hdp (by rw[Zg hok,hdk])
               subst this;exact hkb hp
           · by_cases hkb:k∈bl
             · obtain⟨_,q2,q3⟩:=hbf k ok hok hkb
               exact q3 h'' (.inl (q2 rfl))
             · have hk0:k∈Xz ops done ops.size:=CU λhc=>hkb ((hbm k).2 ⟨(Au.1 hok).1,hk,hc⟩)
               rw[Qr (b:=b) (hgd k ok hok).1 (hslot2 k ok hok hk0),hf0 k hkb]
               exact S.qx k ok hok hk0 h'' (LdOK.congr (λx hx=>(Qq (hslot2 k ok hok hk0) x hx).symm) hh)
          by_cases hv:valid (Zl b) c
          · rw[if_pos (by rw[hwab];exact hwv.2 hv)]
            left
            unfold Oper.wp
            rw[hexec]
            refine X8 (b:=b) S.sb.defers ?_
            refine zia hW S.sb hv B d λv d' h' hK=>⟨by rw[Zs];exact S.sb.defers,λv2 hv2=>?_⟩
            have hbv:b.put o.dst v2=b.put o.dst v:=hv2.symm
            by_cases hds:∃t,o.dst=some t
            · obtain⟨t,ht⟩:=hds
              have htn:t<n:=by
                have hd2:=hd
                rw[ht]at hd2
                unfold Z5 at hd2
                simp at hd2;exact hd2.2
              have:v2=v:=by
                have e1:Zl (b.put o.dst v2) t=Zl (b.put o.dst v) t:=by rw[hbv]
                rw[ht,Z4 (by rw[S.sb.size];exact htn),Z4 (by rw[S.sb.size];exact htn)]at e1
                exact e1
              subst this
              exact key v2 v2 d' h' (λ_=>rfl) (λhx=>absurd hv hx) hK
            · have hdn:o.dst=none:=by
                cases hdx:o.dst with
                |none=>rfl
                |some t=>exact absurd ⟨t,hdx⟩ hds
              have e1:a.put o.dst v2=a.put o.dst v:=by rw[hdn];rfl
              rw[e1]
              exact key v v d' h' (λ_=>rfl) (λhx=>absurd hv hx) hK
          · rw[if_neg (by rw[hwab];exact λhx=>hv (hwv.1 hx))]
            obtain⟨v,hK⟩:=z4l hW S.sb hv
            exact key v undef d h (λhx=>absurd hx hv) (λ_=>rfl) hK
theorem zge{K:Env->Za->Prop}{Q:Exit->Act->World->Prop}(B:World)(ab:zjs ops=true)
  (H:wI P n h true ops (λe'=>wB7 P n ops h K md (hvL ops).length [] (hvL ops) e' h) (Xt [] (Xz ops [] ops.size) ops.size) e) (hs:Sat n e a)
  (hQ:∀e' a' d' h',Sat n e' a'->Same (Qx ops.toList) a a'->K e' h'->Q .normal a' (mk B d' h')) (d:Nat):wpAny P .any ops Q ops.size (Br ops.size false) a (mk B d h):=by
 obtain⟨az,ae,ay,ar⟩:=zkn ab
 have aa:∀k,k∈Xt [] (Xz ops [] ops.size) ops.size↔k∈Xz ops [] ops.size:=λk=>by
  rw[zkj]
  exact⟨λh=>h.2.1,λh=>⟨(Wj h).1,h,by simp⟩⟩
 have Z:=ze7 [] (Xz ops [] ops.size) ops.size
 generalize Xt [] (Xz ops [] ops.size) ops.size=bl at H aa Z
 have ai:bl.Nodup:=Z.imp λh=>by omega
 obtain⟨f,e2,HK,ak,_,an⟩:=zl4 (λ_=>undef) ai H hs
 have ah:=zij ae ay ar (f:=f) (l:=bl) (b:=a) hs.size (λk hk=>(Wj ((aa k).1 hk)).1) Z an
 have af:∀s,(∀i o,ops[i]?=some o->zbx ops i=false->(Br ops.size false).getD i false=false->o.dst≠some s)->Zl a s=Zl (Q4 ops f bl a) s:=λs au=>(Y4 λp hp ap=>by
  have am:=(Wj ((aa p).1 hp)).1
  have aj:ops[p]?=some ops[p]:=A0 am
  exact au p _ aj (Wj ((aa p).1 hp)).2.1 (getD_replicate_false _ _) (by rw[<-Zg aj];exact ap)).symm
 refine z1l B ab hQ ops.size (BS ops.size) _ f a (Q4 ops f bl a) e2 h d [] (hvL ops) DG Dm (λk=>by rw[BF,getD_replicate_false];simp) ⟨⟨by simp,λj oj _ hl=>(by rw[getD_replicate_false]at hl;cases hl),λt ht aA=>by omega⟩,af,hs.size,hs.defers,ak,λi o t ho hi hd=>(ah i o ho ((aa i).2 hi)).1 t hd,λi o ho hi=>(ah i o ho ((aa i).2 hi)).2.2,(λj hj=>by rw[getD_replicate_false];simp[hj]),(λj hj=>by rw[getD_replicate_false];simp),(λj hj=>by cases hj),(λj hj=>hj),zxc ops,⟨_,Av _,HK⟩,λ_ _ _ _ _ _=>.inr (.inl (Keep.refl _ _)),Same.refl _ _⟩
def zxg:List (Nat×Nat)->Nat->Option Nat
 |[],_=>none
 |(j,m)::l,i=>bif Nat.beq i j then some m else zxg l i
def regionF(P:Program)(n:Nat)(tl:List (Nat×Nat))(id:Nat)(ops:Array Oper)(Z:Bool)(K:Env->Za->Prop)(e:Env)(h:Za):Prop:=
 bif Z then(match zxg tl id with
  |none=>bif Region.lexB .any ops then wQ P n ops h true (λe'=>K (clean e') h) ops.toList e else False
  |some m=>bif Nat.beq m 2000 then(bif zu5 ops then wU P n h (λe'=>wT P n ops h K false [] (Zk 0 ops.toList) e' h) ops.toList e else False)else bif Nat.beq m 3000 then(bif zu5 ops then wU P n h (λe'=>wT P n ops h K true [] (Zk 0 ops.toList) e' h) ops.toList e else False)else bif Nat.beq m 5000 then(bif zn0 ops then wU P n h (λe'=>wB P n ops h K false (Zk 0 ops.toList).length [] (Zk 0 ops.toList) e' h) ops.toList e else False)else bif Nat.beq m 6000 then(bif zn0 ops then wU P n h (λe'=>wB P n ops h K true (Zk 0 ops.toList).length [] (Zk 0 ops.toList) e' h) ops.toList e else False)else bif Nat.beq m 7000 then(bif zjs ops then wI P n h true ops (λe'=>wB7 P n ops h K false (hvL ops).length [] (hvL ops) e' h) (Xt [] (Xz ops [] ops.size) ops.size) e else False)else bif Nat.beq m 8000 then(bif zjs ops then wI P n h true ops (λe'=>wB7 P n ops h K true (hvL ops).length [] (hvL ops) e' h) (Xt [] (Xz ops [] ops.size) ops.size) e else False)else bif Nat.beq m 1000 then(bif Region.lexB .any ops then wK P n ops h (λe'=>∀h',Keep h.size h h'->K (clean e') h') ops.toList e else False)
   else bif Region.lexTailB .any ops m then wQ P n ops h false (λe'=>wR P n ops K (ops.toList.drop m) e' h) (ops.toList.take m) e else False)
 else wR P n ops K ops.toList e h
theorem Jw(l m:List Oper):Qx (l++m)=Qx l++Qx m:=by
 induction l with
 |nil=>rfl
 |cons o l ih=>simp only[A8,Qx];split <;> simp[ih]
theorem ze8(hm:P.follows .mixedOrders=true){tl:List (Nat×Nat)}{id:Nat}{Z:Bool}{K:Env->Za->Prop}
  (H:regionF P n tl id ops Z K e h) (B:World) (d:Nat) (hs:Sat n e a) {Q:Exit->Act->World->Prop}
  (hQ:∀e' a' d' h',Sat n e' a'->Same (Qx ops.toList) a a'->K e' h'->Q .normal a' (mk B d' h')):(Em id ops Z).wp P Q a (mk B d h):=by
 unfold regionF at H
 cases Z with
 |false=>exact wp_region_list (zct B _ _ _ _ _ H hs hQ)
 |true=>
  simp only[cond_true]at H
  split at H
  ·cases hB:Region.lexB .any ops with
   |false=>rw[hB]at H;exact H.elim
   |true=>
    rw[hB]at H
    refine wp_region_quiet (C:=λw=>∃d,w=mk B d h) hm hB ⟨d+1,rfl⟩ ?_
    refine zsy B _ _ _ H hs λe' a' q1 q2 q3=>?_
    rintro w' ⟨d',rfl⟩
    exact hQ _ _ _ _ q1.clean q2 q3
  ·rename_i m _
   cases hX:Nat.beq m 2000 with
   |true=>
    rw[hX]at H
    simp only[cond_true]at H
    cases hB:zu5 ops with
    |false=>rw[hB]at H;exact H.elim
    |true=>
     rw[hB]at H
     exact wp_region_any hm (zid B hB H hs hQ (d+1))
   |false=>
   rw[hX]at H
   simp only[cond_false]at H
   cases hY:Nat.beq m 3000 with
   |true=>
    rw[hY]at H
    simp only[cond_true]at H
    cases hB:zu5 ops with
    |false=>rw[hB]at H;exact H.elim
    |true=>
     rw[hB]at H
     exact wp_region_any hm (zid B hB H hs hQ (d+1))
   |false=>
   rw[hY]at H
   simp only[cond_false]at H
   cases hZ:Nat.beq m 5000 with
   |true=>
    rw[hZ]at H
    simp only[cond_true]at H
    cases hB:zn0 ops with
    |false=>rw[hB]at H;exact H.elim
    |true=>
     rw[hB]at H
     exact wp_region_any hm (zki B hB H hs hQ (d+1))
   |false=>
   rw[hZ]at H
   simp only[cond_false]at H
   cases hY6:Nat.beq m 6000 with
   |true=>
    rw[hY6]at H
    simp only[cond_true]at H
    cases hB:zn0 ops with
    |false=>rw[hB]at H;exact H.elim
    |true=>
     rw[hB]at H
     exact wp_region_any hm (zki B hB H hs hQ (d+1))
   |false=>
   rw[hY6]at H
   simp only[cond_false]at H
   cases hY7:Nat.beq m 7000 with
   |true=>
    rw[hY7]at H
    simp only[cond_true]at H
    cases hB:zjs ops with
    |false=>rw[hB]at H;exact H.elim
    |true=>
     rw[hB]at H
     exact wp_region_any hm (zge B hB H hs hQ (d+1))
   |false=>
   rw[hY7]at H
   simp only[cond_false]at H
   cases hY8:Nat.beq m 8000 with
   |true=>
    rw[hY8]at H
    simp only[cond_true]at H
    cases hB:zjs ops with
    |false=>rw[hB]at H;exact H.elim
    |true=>
     rw[hB]at H
     exact wp_region_any hm (zge B hB H hs hQ (d+1))
   |false=>
   rw[hY8]at H
   simp only[cond_false]at H
   cases hM:Nat.beq m 1000 with
   |true=>
    rw[hM]at H
    simp only[cond_true]at H
    cases hB:Region.lexB .any ops with
    |false=>rw[hB]at H;exact H.elim
    |true=>
     rw[hB]at H
     refine wp_region_quiet (C:=λw=>∃d h',Keep h.size h h'/\w=mk B d h') hm hB ⟨d+1,h,Keep.refl _ _,rfl⟩ ?_
     refine zs0 B _ _ _ H hs λe' a' q1 q2 q3=>?_
     rintro w' ⟨d',h',hk,rfl⟩
     exact hQ _ _ _ _ q1.clean q2 (q3 h' hk)
   |false=>
   rw[hM]at H
   simp only[cond_false]at H
   cases hB:Region.lexTailB .any ops m with
   |false=>rw[hB]at H;exact H.elim
   |true=>
    rw[hB]at H
    have:=wp_region_still_tail (id:=id) (Q:=Q) (a:=a) (w:=mk B d h) (l:=ops.toList) m hm (by simpa using hB) (by
     simp only[Array.toArray_toList]
     refine zs1 B (d+1) _ _ _ H hs λe' a' q1 q2 q3=>?_
     refine zct B _ _ _ _ (d+1) q3 q1 λab ah ae af q4 q5 q6=>hQ ab ah ae af q4 ?_ q6
     have aa:Qx ops.toList=Qx (ops.toList.take m)++Qx (ops.toList.drop m):=by rw[<-Jw,Cm]
     rw[aa]
     exact(q2.mono λx hx=>AJ _ hx).trans (q5.mono λx hx=>AO _ hx))
    simpa using this
end
section
variable {n:Nat} {e:Env} {a:Act} {ms:List Nat} {P:Program} {h:Za} {R:Value -> Za -> Prop} {f:FuncId}
@[reducible] def zu9:List Atom->Type->Type
 |[],X=>X
 |t::l,X=>t.den->zu9 l X
def z9x{X:Type}:(l:List Atom)->zu9 l X->(List Value->X->Prop)->Prop
 |[],f,k=>k [] f
 |t::l,f,k=>∀x:t.den,z9x l (f x) λvs y=>k (t.enc x::vs) y
def zn4{X:Type}:(l:List Atom)->List Value->zu9 l X->Option X
 |[],[],f=>some f
 |t::l,v::vs,f=>match t.dec v with
  |some x=>zn4 l vs (f x)
  |none=>none
 |_,_,_=>none
def mkC{X:Type}:(l:List Atom)->(List Value->X)->zu9 l X
 |[],f=>f []
 |t::l,f=>λx=>mkC l λvs=>f (t.enc x::vs)
def zva{X Y:Type}:(l:List Atom)->zu9 l X->zu9 l Y->zu9 l (X×Y)
 |[],f,g=>(f,g)
 |_::l,f,g=>λx=>zva l (f x) (g x)
theorem zik{X:Type}:∀{l:List Atom} {vs:List Value} {f:zu9 l X} {x:X} {k:List Value->X->Prop},zn4 l vs f=some x->z9x l f k->k vs x
 |[],[],f,x,k,h,g=>by simp only[zn4,As]at h;subst h;exact g
 |[],_::_,f,x,k,h,g=>by simp[zn4]at h
 |_::_,[],f,x,k,h,g=>by simp[zn4]at h
 |t::l,v::vs,f,x,k,h,g=>by
  simp only[zn4]at h
  split at h
  ·rename_i y hy
   have:=zik h (g y)
   rw[Atom.enc_of_dec hy]at this
   exact this
  ·cases h
theorem zl5{X:Type}:∀{l:List Atom} {vs:List Value} {f:List Value->X} {x:X},zn4 l vs (mkC l f)=some x->x=f vs
 |[],[],f,x,h=>by simp only[zn4,mkC,As]at h;exact h.symm
 |[],_::_,f,x,h=>by simp[zn4]at h
 |_::_,[],f,x,h=>by simp[zn4]at h
 |t::l,v::vs,f,x,h=>by
  simp only[zn4,mkC]at h
  split at h
  ·rename_i y hy
   have:=zl5 h
   rw[Atom.enc_of_dec hy]at this
   exact this
  ·cases h
theorem zl6{X:Type}:∀{l:List Atom} {f:List Value->X} {k:List Value->X->Prop},(∀vs,k vs (f vs))->z9x l (mkC l f) k
 |[],_,_,h=>h []
 |_::_,_,_,h=>λ_=>zl6 λ_=>h _
abbrev Ann:=List (Nat×VT)
def Yq:Ann->List Atom
 |[]=>[]
 |(_,.one t)::J=>t::Yq J
 |(_,.agg l)::J=>l++Yq J
def zc5(σ:Nat->Option Value):Ann->Option (List Value)
 |[]=>some []
 |(i,.one _)::J=>match σ i,zc5 σ J with
  |some v,some vs=>some (v::vs)
  |_,_=>none
 |(i,.agg l)::J=>match σ i,zc5 σ J with
  |some (.agg cs),some vs=>bif Nat.beq cs.toList.length l.length then some (cs.toList++vs)else none
  |_,_=>none
def Xu:Ann->List Value->Env
 |[],_=>[]
 |(i,.one _)::J,v::vs=>(i,[],v)::Xu J vs
 |(_,.one _)::_,[]=>[]
 |(i,.agg l)::J,vs=>(i,[],.agg (vs.take l.length).toArray)::Xu J (vs.drop l.length)
def zq0(e:Env)(i:Nat):Option Value:=match look e i with
 |some ([],v)=>some v
 |_=>none
theorem zaw(h:Sat n e a){i:Nat}{v:Value}(hv:zq0 e i=some v):Zl a i=v:=by
 unfold zq0 at hv
 split at hv
 ·rename_i u hl
  simp only[As]at hv
  subst hv
  exact(h.all _ (zcr hl)).1 trivial
 ·cases hv
theorem Yf{n:Nat}{e:Env}{a:Act}(h:Sat n e a):∀{J:Ann} {vs:List Value},zc5 (zq0 e) J=some vs->zc5 (λi=>some (Zl a i)) J=some vs
 |[],vs,hv=>hv
 |(i,.one t)::J,vs,hv=>by
  simp only[zc5]at hv ⊢
  split at hv
  ·rename_i v us h1 h2
   simp only[Yf h h2,zaw h h1]
   exact hv
  ·cases hv
 |(i,.agg l)::J,vs,hv=>by
  simp only[zc5]at hv ⊢
  split at hv
  ·rename_i cs us h1 h2
   simp only[Yf h h2,zaw h h1]
   exact hv
  ·cases hv
theorem zb6{σ:Nat->Value}:∀{J:Ann} {vs:List Value},zc5 (λi=>some (σ i)) J=some vs->∀x∈Xu J vs,fact σ x
 |[],vs,_,x,hx=>by cases hx
 |(i,.one t)::J,vs,hv,x,hx=>by
  simp only[zc5]at hv
  split at hv
  ·rename_i v us h1 h2
   simp only[As]at h1 hv
   subst hv
   simp only[Xu,Ay]at hx
   rcases hx with rfl|hx
   ·exact⟨λ_=>h1,λhn=>absurd trivial hn⟩
   ·exact zb6 h2 x hx
  ·cases hv
 |(i,.agg l)::J,vs,hv,x,hx=>by
  simp only[zc5]at hv
  split at hv
  ·rename_i cs us h1 h2
   simp only[As]at h1
   cases hb:Nat.beq cs.toList.length l.length with
   |false=>rw[hb]at hv;cases hv
   |true=>
    rw[hb]at hv
    simp only[cond_true,As]at hv
    subst hv
    have Z:cs.toList.length=l.length:=Az hb
    simp only[Xu,Ay]at hx
    rcases hx with rfl|hx
    ·refine⟨λ_=>?_,λhn=>absurd trivial hn⟩
     simp only
     rw[h1,<-Z,Dn]
    ·rw[<-Z,De]at hx
     exact zb6 h2 x hx
  ·cases hv
def zb7(ms:List Nat):Env->Env
 |[]=>[]
 |(i,[],v)::e=>bif memN ms i then zb7 ms e else(i,[],v)::zb7 ms e
 |(_,_::_,_)::e=>zb7 ms e
theorem zxh{x:Nat×Zr×Value}(h:x∈zb7 ms e):x∈e/\x.2.1=[]/\x.1∉ms:=by
 induction e with
 |nil=>cases h
 |cons y e ih=>
  obtain⟨i,c,v⟩:=y
  cases c with
  |nil=>
   simp only[zb7]at h
   cases hm:memN ms i with
   |true=>rw[hm]at h;exact⟨Aw _ (ih h).1,(ih h).2⟩
   |false=>
    rw[hm]at h
    simp only[cond_false]at h
    rcases Ay.1 h with rfl|h
    ·exact⟨AC,rfl,Y7 hm⟩
    ·exact⟨Aw _ (ih h).1,(ih h).2⟩
  |cons g c=>
   simp only[zb7]at h
   exact⟨Aw _ (ih h).1,(ih h).2⟩
theorem ze9{a a1:Act}(hs:Sat n e a)(hd:a1.defers=[])(hz:a1.tmps.size=n)(Z:Same ms a a1){J:Ann}{vs:List Value}
  (hv:zc5 (λi=>some (Zl a1 i)) J=some vs):Sat n (Xu J vs++zb7 ms e) a1:=by
 refine⟨hd,hz,λx hx=>?_⟩
 rcases AP.1 hx with hx|hx
 ·exact zb6 hv x hx
 ·obtain⟨h1,h2,h3⟩:=zxh hx
  have hf:=hs.all x h1
  refine⟨λ_=>?_,λhn=>absurd (by rw[h2];trivial) hn⟩
  rw[Z _ h3]
  exact hf.1 (by rw[h2];trivial)
def Yi:Code->Option Nat
 |.region id _ _=>some id
 |.seq a b=>match Yi a with
  |some i=>some i
  |none=>Yi b
 |.cond _ a b=>match Yi a with
  |some i=>some i
  |none=>Yi b
 |.block _ b=>Yi b
 |.loop b=>Yi b
 |_=>none
def Wq:Code->List Nat
 |.region _ ops _=>Qx ops.toList
 |.seq a b=>Wq a++Wq b
 |.cond _ a b=>Wq a++Wq b
 |.block _ b=>Wq b
 |.loop b=>Wq b
 |_=>[]
structure Plan where
 tails:List (Nat×Nat)
 loops:List (Nat×Ann)
 joins:List (Nat×Ann)
def z9y:List (Nat×Ann)->Nat->Option Ann
 |[],_=>none
 |(j,m)::l,i=>bif Nat.beq i j then some m else z9y l i
def z1m(l:List (Nat×Ann)):Option Nat->Option Ann
 |some i=>z9y l i
 |none=>none
abbrev zdq:=Exit->Env->Za->Prop
def zq1(K:Env->Za->Prop)(Q:zdq):zdq
 |.normal,e,h=>K e h
 |x,e,h=>Q x e h
def zil(id:Nat)(Q:zdq):zdq
 |.exit i,e,h=>bif Nat.beq i id then Q .normal e h else Q (.exit i) e h
 |x,e,h=>Q x e h
def atC{X:Type}(J:Ann)(F:zu9 (Yq J) X)(e:Env)(k:X->Prop):Prop:=
 match zc5 (zq0 e) J with
 |some vs=>match zn4 (Yq J) vs F with
  |some q=>k q
  |none=>False
 |none=>False
def z9z(J:Ann)(rest:Env->Za->Prop)(F:(Env->Za->Prop)->Prop)(e0:Env):Prop:=
 ∀K:zu9 (Yq J) (Za->Prop),z9x (Yq J) K (λvs q=>∀h,rest (Xu J vs++e0) h->q h)->F λe h=>atC J K e λq=>q h
def z90(J:Ann)(body:(Env->Za->Prop)->Env->Za->Prop)(e0 e:Env)(h:Za):Prop:=
 ∃(I:zu9 (Yq J) (Za->Prop)) (μ:zu9 (Yq J) (Za->Nat)),(atC J (zva (Yq J) I μ) e λp=>p.1 h) /\
  z9x (Yq J) (zva (Yq J) I μ) λvs p=>∀h,p.1 h->body (λe' h'=>atC J (zva (Yq J) I μ) e' λq=>q.1 h'/\q.2 h'<p.2 h) (Xu J vs++e0) h
def W(P:Program)(n:Nat)(pl:Plan):Code->zdq->Env->Za->Prop
 |.skip,Q,e,h=>Q .normal e h
 |.ret,Q,e,h=>Q .ret e h
 |.exit id,Q,e,h=>Q (.exit id) e h
 |.label _,Q,e,h=>Q .normal e h
 |.goto l,Q,e,h=>Q (.goto l) e h
 |.region id ops draw,Q,e,h=>regionF P n pl.tails id ops draw (λe h=>Q .normal e h) e h
 |.seq x y,Q,e,h=>match z1m pl.joins (Yi y)with
  |none=>W P n pl x (zq1 (λe h=>W P n pl y Q e h) Q) e h
  |some J=>z9z J (λe h=>W P n pl y Q e h) (λK=>W P n pl x (zq1 K Q) e h) (zb7 (Wq x) e)
 |.cond c x y,Q,e,h=>match zaq e [] c with
  |some (.bool b)=>(b=true->W P n pl x Q e h)/\(b=false->W P n pl y Q e h)
  |_=>False
 |.block id x,Q,e,h=>W P n pl x (zil id Q) e h
 |.loop x,Q,e,h=>match z1m pl.loops (Yi x)with
  |some J=>z90 J (λQn e h=>W P n pl x (zq1 Qn Q) e h) (zb7 (Wq x) e) e h
  |none=>False
 |_,_,_,_=>False
def z92(n:Nat)(B:World)(ms:List Nat)(a0:Act)(Q:zdq):Exit->Act->World->Prop:=
 λx a w=>∃e d h,w=mk B d h/\Sat n e a/\Same ms a0 a/\Q x e h
theorem zgf{X:Type}{J:Ann}{F:zu9 (Yq J) X}{k:X->Prop}(h:atC J F e k):∃vs q,zc5 (zq0 e) J=some vs/\zn4 (Yq J) vs F=some q/\k q:=by
 unfold atC at h
 split at h
 ·rename_i vs hv
  split at h
  ·rename_i q hq
   exact⟨vs,q,hv,hq,h⟩
  ·exact h.elim
 ·exact h.elim
theorem z5x(hm:P.follows .mixedOrders=true){pl:Plan}:∀(c:Code) (Q:zdq) (e:Env) (h:Za),W P n pl c Q e h ->
  ∀(B:World) (d:Nat) (a:Act),Sat n e a->c.wp P (z92 n B (Wq c) a Q) a (mk B d h):=by
 intro c
 induction c with
 |skip=>exact λQ e h H B d a hs=>wp_skip ⟨e,d,h,rfl,hs,Same.refl _ _,H⟩
 |ret=>exact λQ e h H B d a hs=>wp_ret ⟨e,d,h,rfl,hs,Same.refl _ _,H⟩
 |exit id=>exact λQ e h H B d a hs=>wp_exit ⟨e,d,h,rfl,hs,Same.refl _ _,H⟩
 |label l=>exact λQ e h H B d a hs=>wp_label ⟨e,d,h,rfl,hs,Same.refl _ _,H⟩
 |goto l=>exact λQ e h H B d a hs=>wp_goto ⟨e,d,h,rfl,hs,Same.refl _ _,H⟩
 |region id ops aC=>
  exact λQ e h H B d a hs=>ze8 hm H B d hs λe' a' d' h' q1 q2 q3=>⟨e',d',h',rfl,q1,q2,q3⟩
 |seq x y aa ab=>
  intro Q e h H B d a hs
  simp only[W]at H
  have hl:∀i∈Wq x,i∈Wq (x.seq y):=λi hi=>AJ _ hi
  have hr:∀i∈Wq y,i∈Wq (x.seq y):=λi hi=>AO _ hi
  split at H
  ·refine wp_seq (wp_mono (aa _ _ _ H B d a hs) ?_)
   rintro ex a1 w1 ⟨e1,d1,h1,rfl,s1,m1,q1⟩
   cases ex with
   |normal=>
    refine wp_mono (ab _ _ _ q1 B d1 a1 s1) ?_
    rintro ex a2 w2 ⟨e2,d2,h2,rfl,s2,m2,q2⟩
    exact⟨e2,d2,h2,rfl,s2,(m1.mono hl).trans (m2.mono hr),q2⟩
   |_=>exact⟨e1,d1,h1,rfl,s1,m1.mono hl,q1⟩
  ·rename_i J hJ
   have H':=H (mkC (Yq J) λvs=>λh=>W P n pl y Q (Xu J vs++zb7 (Wq x) e) h) (zl6 λvs h hq=>hq)
   refine wp_seq (wp_mono (aa _ _ _ H' B d a hs) ?_)
   rintro ex a1 w1 ⟨e1,d1,h1,rfl,s1,m1,q1⟩
   cases ex with
   |normal=>
    obtain⟨vs,q,hv,hq,hk⟩:=zgf q1
    have an:=zl5 hq
    subst an
    have az:Sat n (Xu J vs++zb7 (Wq x) e) a1:=ze9 hs s1.defers s1.size m1 (Yf s1 hv)
    refine wp_mono (ab _ _ _ hk B d1 a1 az) ?_
    rintro ex a2 w2 ⟨e2,d2,h2,rfl,s2,m2,q2⟩
    exact⟨e2,d2,h2,rfl,s2,(m1.mono hl).trans (m2.mono hr),q2⟩
   |_=>exact⟨e1,d1,h1,rfl,s1,m1.mono hl,q1⟩
 |cond c x y aa ab=>
  intro Q e h H B d a hs
  simp only[W]at H
  have hl:∀i∈Wq x,i∈Wq (Ei c x y):=λi hi=>AJ _ hi
  have hr:∀i∈Wq y,i∈Wq (Ei c x y):=λi hi=>AO _ hi
  split at H
  ·rename_i b hb
   refine wp_cond_split (Qg hs (c:=[]) trivial hb) (λaB=>?_) (λar=>?_)
   ·refine wp_mono (aa _ _ _ (H.1 aB) B d a hs) ?_
    rintro ex a2 w2 ⟨e2,d2,h2,rfl,s2,m2,q2⟩
    exact⟨e2,d2,h2,rfl,s2,m2.mono hl,q2⟩
   ·refine wp_mono (ab _ _ _ (H.2 ar) B d a hs) ?_
    rintro ex a2 w2 ⟨e2,d2,h2,rfl,s2,m2,q2⟩
    exact⟨e2,d2,h2,rfl,s2,m2.mono hr,q2⟩
  ·exact H.elim
 |block id x ih=>
  intro Q e h H B d a hs
  refine wp_block (wp_mono (ih _ _ _ H B d a hs) ?_)
  rintro ex a1 w1 ⟨e1,d1,h1,rfl,s1,m1,q1⟩
  cases ex with
  |exit i=>
   simp only[zil]at q1
   simp only[Exit.inBlock]
   by_cases hb:Nat.beq i id=true
   ·rw[if_pos (Az hb)]
    simp only[hb,cond_true]at q1
    exact⟨e1,d1,h1,rfl,s1,m1,q1⟩
   ·rw[if_neg (λhe=>hb (by rw[he];simp))]
    simp only[hb,cond_false]at q1
    exact⟨e1,d1,h1,rfl,s1,m1,q1⟩
  |_=>exact⟨e1,d1,h1,rfl,s1,m1,q1⟩
 |loop x ih=>
  intro Q e h H B d a hs
  simp only[W]at H
  split at H
  ·rename_i J hJ
   obtain⟨I,μ,h0,ae⟩:=H
   obtain⟨au,p0,ah,ap,am⟩:=zgf h0
   let F:=zva (Yq J) I μ
   let at_:Act->Option ((Za->Prop)×(Za->Nat)):=λa1=>(zc5 (λi=>some (Zl a1 i)) J).bind λvs=>zn4 (Yq J) vs F
   refine wp_loop (λa1 w1=>∃d1 h1 vs p,w1=mk B d1 h1/\a1.defers=[]/\a1.tmps.size=n/\Same (Wq x) a a1/\zc5 (λi=>some (Zl a1 i)) J=some vs/\zn4 (Yq J) vs F=some p/\p.1 h1)
    (λa1 w1=>match at_ a1 with|some p=>p.2 w1.heap|none=>0) ⟨d,h,au,p0,rfl,hs.defers,hs.size,Same.refl _ _,Yf hs ah,ap,am⟩ ?_
   rintro a1 w1 ⟨d1,h1,vs,p,rfl,aA,ak,Z,hv,hp,hI⟩
   have s1:Sat n (Xu J vs++zb7 (Wq x) e) a1:=ze9 hs aA ak Z hv
   have hb:=zik hp ae h1 hI
   refine wp_mono (ih _ _ _ hb B d1 a1 s1) ?_
   rintro ex a2 w2 ⟨e2,d2,h2,rfl,s2,m2,q2⟩
   cases ex with
   |normal=>
    obtain⟨aj,q,af,hq,ai,ay⟩:=zgf q2
    refine⟨⟨d2,h2,aj,q,rfl,s2.defers,s2.size,Z.trans m2,Yf s2 af,hq,ai⟩,?_⟩
    have e1:at_ a1=some p:=by simp only[at_,hv,CX];exact hp
    have e2:at_ a2=some q:=by simp only[at_,Yf s2 af,CX];exact hq
    rw[e1,e2]
    exact ay
   |_=>exact⟨e2,d2,h2,rfl,s2,Z.trans m2,q2⟩
  ·exact H.elim
 |_=>exact λQ e h H=>H.elim
def zxi:Nat->List Value->Env
 |_,[]=>[]
 |i,v::vs=>(i,[],v)::zxi (i+1) vs
def zxj(P:Program)(h:Za)(e:Env):List ResultVar->(List Value->Prop)->Prop
 |[],K=>K []
 |.tmp t::l,K=>match zq0 e t with
  |some v=>zxj P h e l λvs=>K (v::vs)
  |none=>False
 |.cell a t::l,K=>match zq0 e a with
  |some p=>zlx P h t p none λv=>zxj P h e l λvs=>K (v::vs)
  |none=>False
def zim:List Value->Value
 |[v]=>v
 |vs=>.tuple vs.toArray
def qcc(P:Program)(rs:List ResultVar)(R:Value->Za->Prop):zdq
 |.normal,e,h=>zxj P h e rs λvs=>R (zim vs) h
 |.ret,e,h=>zxj P h e rs λvs=>R (zim vs) h
 |_,_,_=>False
def zin(tmps:Array Value):ResultVar->Sem Value
 |.tmp t=>pure (tmps.getD t undef)
 |.cell a t=>do loadVar t (<-asAddr (tmps.getD a undef))
theorem zgg{P:Program}{n:Nat}{h:Za}{e:Env}{a:Act}(hs:Sat n e a):∀{l:List ResultVar} {K:List Value->Prop},zxj P h e l K->∃vs,K vs/\vs.length=l.length/\QExec P (l.mapM (zin a.tmps)) h vs
 |[],K,H=>⟨[],H,rfl,λ_ _=>by simp⟩
 |.tmp t::l,K,H=>by
  simp only[zxj]at H
  split at H
  ·rename_i v hv
   obtain⟨vs,h1,h2,h3⟩:=zgg hs H
   refine⟨v::vs,h1,by simp[h2],?_⟩
   rw[Ee]
   refine QExec.bind (x:=v) ?_ (h3.bind (QExec.pure _))
   rw[<-zaw hs hv]
   exact QExec.pure _
  ·exact H.elim
 |.cell x t::l,K,H=>by
  simp only[zxj]at H
  split at H
  ·rename_i p hp
   obtain⟨v,hK,hq⟩:=zh4 H
   obtain⟨vs,h1,h2,h3⟩:=zgg hs hK
   refine⟨v::vs,h1,by simp[h2],?_⟩
   rw[Ee]
   refine QExec.bind (x:=v) ?_ (h3.bind (QExec.pure _))
   have hx:a.tmps.getD x undef=p:=zaw hs hp
   simp only[zin,hx]
   have Z:=hq trivial
   unfold DR at Z
   unfold zlx at H
   split at H
   ·exact Z
   ·exact Z
   ·exact H.elim
  ·exact H.elim
theorem Xc{fn:Func}(hs:Sat n e a){rs:List ResultVar}(hr:fn.results.toList=rs)(H:zxj P h e rs λvs=>R (zim vs) h):
  ∃v,R v h/\QExec P (results fn a.tmps) h v:=by
 obtain⟨vs,h1,h2,h3⟩:=zgg hs H
 refine⟨_,h1,?_⟩
 intro B d
 have e0:results fn a.tmps=(fn.results.mapM (zin a.tmps) >>= λvs=>Dg (if h:vs.size=1 then vs[0]else .tuple vs)):=by
  unfold results
  congr 1
 rw[e0,Array.mapM_eq_mapM_toList,hr,Sem.run_bind,Sem.run_map,h3 B d]
 simp only[Result.andThen_ok,Sem.run_pure]
 match vs,h2 with
 |[],_=>rfl
 |[v],_=>rfl
 |v::u::vs,_=>simp[zim]
theorem zcx(args:Array Value)(k:Nat):∀(vs:List Value) (i:Nat),(∀j v,vs[j]?=some v->(args++Br k undef).getD (i+j) undef=v) ->
  ∀x∈zxi i vs,fact (λi=>(args++Br k undef).getD i undef) x
 |[],_,_,x,hx=>by cases hx
 |v::vs,i,h,x,hx=>by
  simp only[zxi,Ay]at hx
  rcases hx with rfl|hx
  ·exact⟨λ_=>h 0 v rfl,λhn=>absurd trivial hn⟩
  ·exact zcx args k vs (i+1) (λj u hj=>by have:=h (j+1) u (by simpa using hj);rwa[show i+(j+1)=i+1+j by omega]at this) x hx
theorem z5y(hm:P.follows .mixedOrders=true){fn:Func}{c:Code}(pl:Plan)(vs:List Value){rs:List ResultVar}(hf:P.funcs[f]?=some fn)(hb:fn.body=some c)(hr:fn.results.toList=rs)(hn:fn.ntmps=n)
  (hz:Nat.ble vs.length n=true) (H:W P n pl c (qcc P rs R) (zxi 0 vs) h):XC P f vs.toArray h R:=by
 intro B d
 subst hn
 refine calls_of_wp hf hb ?_
 have aa:vs.length<=fn.ntmps:=Cd hz
 have hs:Sat fn.ntmps (zxi 0 vs) { tmps:=vs.toArray++Br (fn.ntmps-vs.toArray.size) undef,defers:=[] }:=by
  refine⟨rfl,by simp;omega,?_⟩
  refine zcx vs.toArray _ vs 0 λj v hj=>?_
  have Z:j<vs.length:=by
   rcases A1 j vs.length with h|h
   ·exact h
   ·rw[Ce h]at hj;cases hj
  simp only[AX,BO]
  rw[CN (by simpa using Z)]
  simp[hj]
 refine wp_mono (z5x hm c _ _ _ H B d _ hs) ?_
 rintro ex a w ⟨e1,d1,h1,rfl,s1,m1,q1⟩
 cases ex with
 |normal=>
  obtain⟨v,hv,hq⟩:=Xc s1 hr q1
  exact⟨s1.defers,v,hq B d1,v,d1,h1,rfl,rfl,hv⟩
 |ret=>
  obtain⟨v,hv,hq⟩:=Xc s1 hr q1
  exact⟨s1.defers,v,hq B d1,v,d1,h1,rfl,rfl,hv⟩
 |_=>exact q1.elim
def codeOf(fn:Func):Code:=match fn.body with
 |some c=>c
 |none=>.skip
def Xd(fn:Func):Bool:=match fn.body with
 |some _=>true
 |none=>false
theorem zvb(hm:P.follows .mixedOrders=true)(pl:Plan)(vs:List Value){fn:Func}{rs:List ResultVar}(hf:P.funcs[f]?=some fn)(hb:Xd fn=true)(hr:fn.results.toList=rs)(hn:fn.ntmps=n)
  (hz:Nat.ble vs.length n=true) (H:W P n pl (codeOf fn) (qcc P rs R) (zxi 0 vs) h):XC P f vs.toArray h R:=by
 have Z:fn.body=some (codeOf fn):=by
  unfold Xd at hb
  unfold codeOf
  split at hb
  ·rename_i c hc;rw[hc]
  ·cases hb
 exact z5y hm pl vs hf Z hr hn hz H
end
section
variable {n m k:Nat} {h h':Za} {a:Option Addr} {cs xs news:List Value} {v z:Value} {s:Sl} {e t ty:TypeId} {P:Program}
theorem Jh(h:Za)(o:Obj):(h.push o)[h.size]?=some o:=by simp
theorem zvc(k:Keep n h h'){a:Addr}(ha:a.block<n):Ze h' a=Ze h a:=by
 unfold Ze;rw[k.get _ ha]
def Arr(n:Nat)(h:Za)(a:Option Addr)(cs:List Value):Prop:=
 cs=[]\/∃b o,a=some ⟨b,o,none⟩/\b<n/\∀i v,cs[i]?=some v->Ze h ⟨b,o+i,none⟩=some v
theorem Arr.mono(H:Arr n h a cs)(hm:n<=m):Arr m h a cs:=by
 rcases H with e|⟨b,o,e,hb,hc⟩
 ·exact .inl e
 ·exact .inr ⟨b,o,e,by omega,hc⟩
theorem Arr.keep(H:Arr n h a cs)(k:Keep n h h'):Arr n h' a cs:=by
 rcases H with e|⟨b,o,e,hb,hc⟩
 ·exact .inl e
 ·exact .inr ⟨b,o,e,hb,λi v hi=>(zvc k (a:=⟨b,o+i,none⟩) hb).trans (hc i v hi)⟩
theorem Zq(b o i:Nat):(⟨b,o,none⟩:Addr).add i=⟨b,o+i,none⟩:=by
 unfold AD
 split
 ·rename_i h;rw[h];rfl
 ·rfl
theorem Arr.cell(H:Arr n h a cs)(hv:cs[k]?=some v):∃p:Addr,a=some p/\Ze h (p.add k)=some v:=by
 rcases H with e|⟨b,o,e,hb,hc⟩
 ·rw[e]at hv;simp at hv
 ·exact⟨⟨b,o,none⟩,e,by rw[Zq];exact hc k v hv⟩
def Strs(n:Nat)(h:Za)(s:Sl)(xs:List Bt):Prop:=s.len=xs.length/\Arr n h s.a (xs.map Dw)
theorem Strs.mono{xs:List Bt}(H:Strs n h s xs)(hm:n<=m):Strs m h s xs:=⟨H.1,H.2.mono hm⟩
theorem Strs.keep{xs:List Bt}(H:Strs n h s xs)(k:Keep n h h'):Strs n h' s xs:=⟨H.1,H.2.keep k⟩
theorem Strs.nil(n:Nat)(h:Za)(a:Option Addr)(c:Nat):Strs n h ⟨a,0,c⟩ []:=⟨rfl,.inl rfl⟩
theorem wrap64{n:Int}(h1:-9223372036854775808<=n)(h2:n<=9223372036854775807):Ar .i64 n=n:=by
 unfold Ar
 have e:(2:Int) ^ AB .i64=18446744073709551616:=by decide
 have e':(2:Int) ^ (AB .i64-1)=9223372036854775808:=by decide
 simp only[e,e']
 have hs:Do .i64=true:=rfl
 simp only[hs,Dj,decide_eq_true_eq]
 split <;> omega
theorem zxk(h:k<9223372036854775807):Ar .i64 ((k:Int)+1)=((k+1:Nat):Int):=by
 rw[wrap64 (by omega) (by omega)];omega
def Owns(h:Za)(base:Nat)(e:TypeId)(sz:Nat)(s:Sl)(xs:List Value):Prop:=
 (mk default 0 h).ownsRow base e sz (.slice s.a s.len s.cap) s.len xs
theorem Owns.nil(h:Za)(base:Nat)(e:TypeId)(sz:Nat):Owns h base e sz ⟨none,0,0⟩ []:=World.ownsRow_nil _ _ _ _
theorem Owns.length{base:Nat}{sz:Nat}(H:Owns h base e sz s xs):xs.length=s.len*sz:=H.1
theorem Owns.arr{base:Nat}{sz:Nat}(H:Owns h base e sz s xs):Arr h.size h s.a xs:=by
 rcases H.2 with⟨hv,h0⟩|⟨g,cap,Z,hv,hb,hg,af,hm,ae,ht⟩
 ·have hl:=H.1
  rw[h0]at hl
  exact .inl (by simpa using hl)
 ·simp only[A4]at hv
  have ab:g<h.size:=(Au.1 hg).1
  refine .inr ⟨g,0,hv.1,ab,λi v hi=>?_⟩
  have aa:h[g]?=some (.cells Z e (0,0)):=hg
  unfold Ze
  simp only[aa,AX,Option.isSome_none,Bv,if_false]
  rw[<-ht,AR]at hi
  split at hi
  ·simpa using hi
  ·cases hi
theorem Owns.base_le{base:Nat}{sz:Nat}(H:Owns h base e sz s xs):∀p,s.a=some p->base<=p.block/\p.block<h.size:=by
 intro p hp
 exact World.ownsRow.lt H p.block (by simp[Value.ownBlock,hp])
theorem Owns.keep{base:Nat}{sz:Nat}(H:Owns h base e sz s xs)(k:∀p,s.a=some p->h'[p.block]?=h[p.block]?):Owns h' base e sz s xs:=by
 refine⟨H.1,?_⟩
 rcases H.2 with hn|⟨g,cap,Z,hv,hb,hg,rest⟩
 ·exact .inl hn
 ·simp only[A4]at hv
  refine .inr ⟨g,cap,Z,by simp[hv],hb,?_,rest⟩
  have:=k _ hv.1
  exact this.trans hg
theorem Owns.keepN{base:Nat}{sz:Nat}(H:Owns h base e sz s xs)(k:Keep h.size h h'):Owns h' base e sz s xs:=
 H.keep λp hp=>k.get _ (H.base_le p hp).2
structure ElemT (P:Program) (t e:TypeId) (z:Value) (sz bytes:Nat):Prop where
 slice:P.underlying t=some (.slice e)
 info:∃i,P.info? e=some i/\i.zero=some z/\i.size=sz/\i.bytes=bytes
 zero:z.cells.size=sz
 pos:0<sz
theorem zg5{w:World}{i:TypeInfo}{sz bytes base:Nat}(ht:P.underlying t=some (.slice e))(hi:P.info? e=some i)(hz:i.zero=some z)(am:i.size=sz)(ak:i.bytes=bytes)(af:w.ownsRow base e sz v n xs){a:Addr}{m c:Nat}(hl:news.length=m*sz)(aa:∀j u,news[j]?=some u->w.cell? (a.add j)=some u)(h1:∀u∈news,u.oneCell'=true)
  (ar:n+m<=4611686018427387904) (ab:(n+m)*bytes<=140737488355328) {v':Value} {w':World} (r1:(AU #[t,t] ty #[v,.slice (some a) m c]).run P w=.ok v' w'):
  ∀p' l c',v'=.slice (some p') l c'->(∃p l0 c0,v=.slice (some p) l0 c0/\p'.block=p.block)\/p'.block=w.heap.size:=by
 subst am ak
 intro p' l c' Z
 rcases af.2 with⟨rfl,rfl⟩|⟨g,cap,ai,rfl,au,hg,az,ay,an,ap⟩
 ·by_cases hm:m=0
  ·subst hm
   have hn:news=[]:=Bb (by simpa using hl)
   subst hn
   have hr:(AU #[t,t] ty #[.slice none 0 0,.slice (some a) 0 c]).run P w=.ok (.slice none 0 0) w:=by
    simp[AU,run_underlying ht,sizeOf,typeInfo,hi,Builtin.lenOf,CZ,loadCells,loadCellsFrom]
   rw[hr]at r1
   simp only[Eo]at r1
   rw[<-r1.1]at Z;cases Z
  ·have hr:=run_append_nil (P:=P) (ty:=ty) w t e i z ht hi hz a m c news hl aa (by omega) (by omega) (by have hb:=ab;simp only[AX]at hb;omega)
   rw[hr]at r1
   simp only[Eo]at r1
   rw[<-r1.1]at Z
   simp only[A4,As]at Z
   exact .inr (by rw[<-Z.1])
 ·by_cases ae:n+m<=cap
  ·have aj:n*i.size+news.length<=ai.size:=by rw[hl,an,<-Cp];exact AZ _ ae
   have hr:=run_append_room (P:=P) (ty:=ty) w t e i ht hi g n cap ai hg a m c news hl aa h1 ae aj
   rw[hr]at r1
   simp only[Eo]at r1
   rw[<-r1.1]at Z
   simp only[A4,As]at Z
   exact .inl ⟨_,_,_,rfl,by rw[<-Z.1]⟩
  ·have ah:∀j u,xs[j]?=some u->w.cell? ((⟨g,0,none⟩:Addr).add j)=some u:=af.cells (g:=g) rfl
   have hr:=run_append_grow (P:=P) (ty:=ty) w t e i z ht hi hz ⟨g,0,none⟩ n cap xs af.1 ah a m c news hl aa (by omega) (by omega) (growslice_fits (by omega) ab)
   rw[hr]at r1
   simp only[Eo]at r1
   rw[<-r1.1]at Z
   simp only[A4,As]at Z
   exact .inr (by rw[<-Z.1])
theorem zvd{sz bytes:Nat}(T:ElemT P t e z sz bytes){base:Nat}(H:Owns h base e sz s xs)
  {src:Sl} (hs:Arr n h src.a news) (hl:news.length=src.len*sz) (h1:∀u∈news,u.oneCell'=true)
  (Z:(s.len+src.len)*bytes<=140737488355328) (af:s.len+src.len<=4611686018427387904) (ae:base<=h.size) {K:Value->Za->Prop}
  (hK:∀(s':Sl) (h':Za),s'.len=s.len+src.len->Owns h' base e sz s' (xs++news)->(∀i,i<h.size->(∀p,s.a=some p->i≠p.block)->h'[i]?=h[i]?)->h.size<=h'.size->(∀p',s'.a=some p'->(∃p,s.a=some p/\p'.block=p.block)\/p'.block=h.size)->K (.slice s'.a s'.len s'.cap) h'):
  XRun P (AU #[t,t] ty #[.slice s.a s.len s.cap,.slice src.a src.len src.cap]) h K:=by
 intro B d
 obtain⟨i,hi,hz,ai,ah⟩:=T.info
 have key:∃v' w',(AU #[t,t] ty #[.slice s.a s.len s.cap,.slice src.a src.len src.cap]).run P (mk B d h)=.ok v' w'/\w'.ownsRow base e sz v' (s.len+src.len) (xs++news)/\(mk B d h).grownBy w' (Value.ownBlock (.slice s.a s.len s.cap)) /\
   ∀p' l c',v'=.slice (some p') l c'->(∃p,s.a=some p/\p'.block=p.block)\/p'.block=h.size:=by
  have aa:(mk B d h).ownsRow base e sz (.slice s.a s.len s.cap) s.len xs:=H
  rcases hs with e0|⟨b,o,e0,hb,hc⟩
  ·subst e0
   have h0:src.len=0:=by
    rcases Dx src.len with h0|h0
    ·exact h0
    ·have:=Nat.mul_pos h0 T.pos;simp at hl;omega
   rw[h0]
   have ha:∃q,q=src.a:=⟨_,rfl⟩
   obtain⟨q,hq⟩:=ha
   rw[<-hq]
   cases q with
   |none=>
    refine⟨_,mk B d h,?_,by simpa using aa,⟨rfl,rfl,rfl,Av _,λ_ _ _=>rfl⟩,λp' l c' ab=>.inl ⟨p',by simp only[A4]at ab;exact ab.1,rfl⟩⟩
    have hT:=T.slice
    have an:s.len<=s.cap:=by
     rcases aa.2 with⟨e1,e2⟩|⟨g,cap,am,e1,_,_,au,_⟩
     ·omega
     ·simp only[A4]at e1;omega
    generalize s.a=sa at *
    cases sa <;> simp[AU,run_underlying hT,sizeOf,typeInfo,hi,Builtin.lenOf,CZ,an,storeCells]
   |some p=>
    obtain⟨v',w',r1,r2,r3,_⟩:=run_append_own (P:=P) (w:=mk B d h) base t ty e i z sz bytes T.slice hi hz ai ah T.zero T.pos (.slice s.a s.len s.cap) s.len xs aa p 0 src.cap [] (by simp) (by simp) (by simp) (by unfold maxLen;omega) (by rw[h0]at Z;exact Z) ae
    refine⟨v',w',r1,r2,r3,λp' l c' ab=>?_⟩
    rcases zg5 T.slice hi hz ai ah aa (news:=[]) (by simp) (by simp) (by simp) (by rw[h0]at af;exact af) (by rw[h0]at Z;exact Z) r1 p' l c' ab with⟨q,l0,c0,hq,hb⟩|hb
    ·simp only[A4]at hq;exact .inl ⟨q,hq.1,hb⟩
    ·exact .inr hb
  ·rw[e0]
   obtain⟨v',w',r1,r2,r3,_⟩:=run_append_own (P:=P) (w:=mk B d h) base t ty e i z sz bytes T.slice hi hz ai ah T.zero T.pos (.slice s.a s.len s.cap) s.len xs aa ⟨b,o,none⟩ src.len src.cap news hl
    (λj u hu=>by rw[Zq];exact hc j u hu) h1 (by unfold maxLen;omega) Z ae
   refine⟨v',w',r1,r2,r3,λp' l c' ab=>?_⟩
   rcases zg5 T.slice hi hz ai ah aa hl (λj u hu=>by rw[Zq];exact hc j u hu) h1 af Z r1 p' l c' ab with⟨q,l0,c0,hq,ak⟩|ak
   ·simp only[A4]at hq;exact .inl ⟨q,hq.1,ak⟩
   ·exact .inr ak
 obtain⟨v',w',r1,r2,r3,r4⟩:=key
 have hw:w'=mk B w'.drawn w'.heap:=by
  have e1:=r3.os;have e2:=r3.tape;have e3:=r3.output
  cases w';simp only[mk]at *;subst e1;subst e2;subst e3;rfl
 rw[hw]at r1
 have hv:∃s':Sl,v'=.slice s'.a s'.len s'.cap/\s'.len=s.len+src.len:=by
  rcases r2.2 with⟨e1,e2⟩|⟨g,cap,am,e1,_⟩
  ·exact⟨⟨none,0,0⟩,e1,e2.symm⟩
  ·exact⟨⟨some ⟨g,0,none⟩,s.len+src.len,cap⟩,e1,rfl⟩
 obtain⟨s',rfl,aj⟩:=hv
 refine⟨_,_,_,r1,hK s' w'.heap aj ?_ ?_ r3.size λp' ar=>r4 p' s'.len s'.cap (by rw[ar])⟩
 ·rw[<-aj]at r2;exact r2
 ·intro j hj ap
  refine r3.block j hj λhe=>?_
  cases ha:s.a with
  |none=>rw[ha]at he;cases he
  |some p=>
   rw[ha]at he
   simp only[Value.ownBlock,As]at he
   exact ap p ha he
end
section
variable {h:Za} {m:Nat} {P:Program} {kt t et:TypeId} {z:Value}
def zqm(l:List (Bt×Value))(k:Bt):Option Value:=match l with
 |[]=>none
 |p::l=>if p.1=k then some p.2 else zqm l k
def z08(l:List (Bt×Value))(k:Bt)(v:Value):List (Bt×Value):=match l with
 |[]=>[(k,v)]
 |p::l=>if p.1=k then(k,v)::l else p::z08 l k v
theorem zxl(l:List (Bt×Value))(k k':Bt)(v:Value):zqm (z08 l k v) k'=if k=k' then some v else zqm l k':=by
 induction l with
 |nil=>simp[z08,zqm]
 |cons p l ih=>
  simp only[z08]
  split
  ·rename_i h
   simp only[zqm]
   split <;> rename_i h2
   ·rfl
   ·rw[h];simp[h2]
  ·rename_i h
   simp only[zqm,ih]
   split <;> rename_i h2
   ·rw[if_neg (λe=>h (h2.trans e.symm))]
   ·rfl
def MapAt(h:Za)(m:Nat)(l:List (Bt×Value)):Prop:=∃es Z,h[m]?=some (.map es Z)/\es.toList.map (λe=>(e.key,e.val))=l.map λp=>(Dw p.1,p.2)
theorem MapAt.keep{h h':Za}{l:List (Bt×Value)}(H:MapAt h m l)(k:h'[m]?=h[m]?):MapAt h' m l:=by
 obtain⟨es,c,h1,h2⟩:=H;exact⟨es,c,k.trans h1,h2⟩
theorem MapAt.lt{l:List (Bt×Value)}(H:MapAt h m l):m<h.size:=by
 obtain⟨es,c,h1,h2⟩:=H;exact(Au.1 h1).1
theorem MapAt.new(h:Za):MapAt (h.push (.map #[] 0)) h.size []:=⟨#[],0,Jh _ _,rfl⟩
structure MapT (P:Program) (t kt et:TypeId) (z:Value):Prop where
 map:P.underlying t=some (.map kt et)
 key:P.underlying kt=some .string
 zero:∃i,P.info? et=some i/\i.zero=some z
theorem zn5(a b:Bt):(a==b)=decide (a=b):=by
 show ByteArray.beq a b=_
 cases a;cases b
 rw[A6]
 simp[ByteArray.beq]
instance lawfulBA:LawfulBEq Bt where
 eq_of_beq:=λ {a b} h=>by rw[zn5]at h;simpa using h
 rfl:=λ {a}=>by rw[zn5];simp
theorem zdr(k:Bt):∀(es:List MapEntry) (l:List (Bt×Value)) (i:Nat),es.map (λe=>(e.key,e.val))=l.map (λp=>(Dw p.1,p.2)) ->
  (zqm l k=none/\DZ .string (.string k) es i=some none)\/(∃j v e,zqm l k=some v/\es[j]?=some e/\e.key=.string k/\e.val=v/\DZ .string (.string k) es i=some (some (i+j,v)) /\
   ∀w,(es.modify j λe=>{ e with key:=.string k,val:=w }).map (λe=>(e.key,e.val))=(z08 l k w).map λp=>(Dw p.1,p.2))
 |[],l,i,h=>by
  have:l=[]:=by cases l <;> simp_all
  subst this
  exact .inl ⟨rfl,rfl⟩
 |e::es,l,i,h=>by
  cases l with
  |nil=>simp at h
  |cons p l=>
   simp only[Cf,Ca,Bn]at h
   obtain⟨⟨h1,h2⟩,h3⟩:=h
   by_cases hk:p.1=k
   ·refine .inr ⟨0,p.2,e,by simp[zqm,hk],rfl,by rw[h1,hk],h2,?_,λw=>?_⟩
    ·have Z:(k==p.1)=true:=by rw[zn5];simpa using hk.symm
     simp[DZ,Instr.sameNow,h1,h2,Z]
    ·simp[z08,hk,h3]
   ·have Z:(k==p.1)=false:=by rw[zn5];simpa using λe=>hk e.symm
    rcases zdr k es l (i+1) h3 with⟨g1,g2⟩|⟨j,v,e',g1,g2,g3,g4,g5,g6⟩
    ·refine .inl ⟨by simp[zqm,hk,g1],?_⟩
     simp[DZ,Instr.sameNow,h1,Z,g2]
    ·refine .inr ⟨j+1,v,e',by simp[zqm,hk,g1],by simpa using g2,g3,g4,?_,λw=>?_⟩
     ·simp[DZ,Instr.sameNow,h1,Z,g5];omega
     ·simp[z08,hk,h1,h2,g6 w]
theorem zg6(hk:P.underlying kt=some .string)(b:Bool)(k:Bt)(h:Za):QExec P (Instr.checkKey b 10000 kt (.string k)) h ():=by
 intro B d
 have hq:=QExec.underlying (h:=h) hk B d
 unfold Instr.checkKey
 rw[Sem.run_bind,hq]
 rfl
theorem zax(hk:P.underlying kt=some .string)(k:Bt)(es:List MapEntry)(r:Option (Nat×Value))(h:Za)(hf:DZ .string (.string k) es 0=some r):
  QExec P (Instr.findKey kt (.string k) es) h r:=by
 intro B d
 have hq:=QExec.underlying (h:=h) hk B d
 unfold Instr.findKey
 rw[Sem.run_bind,hq]
 simp only[Result.andThen_ok,hf]
 rfl
theorem zko{es:Array MapEntry}{c:Nat}(hm:h[m]?=some (.map es c)):QExec P (getObj m) h (.map es c):=by
 intro B d
 have:(mk B d h).heap[m]?=some (.map es c):=hm
 simp[getObj,Sem.run,this]
theorem z1n(hz:∃i,P.info? t=some i/\i.zero=some z):QExec P (zeroValue t) h z:=by
 obtain⟨i,h1,h2⟩:=hz
 intro B d
 simp[zeroValue,typeInfo,program,h1,h2,Sem.run]
def z9l(l:List (Bt×Value))(k:Bt)(z:Value):Value:=(zqm l k).getD z
theorem zq2(T:MapT P t kt et z){l:List (Bt×Value)}(H:MapAt h m l)(k:Bt)(ok:Bool):
  QExec P (Instr.lookup t (.map (some m)) (.string k) ok) h (if ok then .tuple #[z9l l k z,.bool (zqm l k).isSome]else z9l l k z):=by
 obtain⟨es,c,h1,h2⟩:=H
 intro B d
 have hu:=QExec.underlying (h:=h) T.map B d
 have hg:=zko (P:=P) h1 B d
 have hc:=zg6 T.key es.isEmpty k h B d
 unfold Instr.lookup
 rw[Sem.run_bind,hu]
 simp only[Result.andThen_ok,Sem.run_bind,hg,Sem.run_pure,hc]
 rcases zdr k es.toList l 0 h2 with⟨g1,g2⟩|⟨j,v,e,g1,g2,g3,g4,g5,_⟩
 ·rw[zax T.key k es.toList none h g2 B d]
  have hz:=z1n (h:=h) T.zero B d
  simp only[Result.andThen_ok,Sem.run_bind,hz,Sem.run_pure,z9l,g1]
  cases ok <;> rfl
 ·rw[zax T.key k es.toList _ h g5 B d]
  simp only[Result.andThen_ok,z9l,g1]
  cases ok <;> rfl
theorem zq3{l:List (Bt×Value)}{k:Bt}{v:Value}(g:zqm l k=none):z08 l k v=l++[(k,v)]:=by
 induction l with
 |nil=>rfl
 |cons p l ih=>
  simp only[zqm]at g
  split at g
  ·cases g
  ·rename_i hp
   simp[z08,hp,ih g]
theorem zxm(T:MapT P t kt et z){l:List (Bt×Value)}(H:MapAt h m l)(k:Bt)(v:Value){K:Za->Prop}
  (hK:∀h':Za,MapAt h' m (z08 l k v)->h'.size=h.size->(∀i,i≠m->h'[i]?=h[i]?)->K h'):XRunU P (D4 t (.map (some m)) (.string k) v) h K:=by
 have aa:=H.lt
 obtain⟨es,c,h1,h2⟩:=H
 intro B d
 have hu:=QExec.underlying (h:=h) T.map B d
 have hg:=zko (P:=P) h1 B d
 have hc:=zg6 T.key false k h B d
 have Z:∀o:Obj,(setObj m o).run P (mk B d h)=.ok () (mk B d (h.setIfInBounds m o)):=by
  intro o
  have:(mk B d h).heap[m]?=some (.map es c):=h1
  simp[setObj,Sem.run,this]
  rfl
 unfold D4
 rcases zdr k es.toList l 0 h2 with⟨g1,g2⟩|⟨j,v0,e,g1,g2,g3,g4,g5,g6⟩
 ·refine⟨d,h.setIfInBounds m (.map (es.push { key:=.string k,val:=v,born:=c }) (c+1)),?_,hK _ ⟨es.push { key:=.string k,val:=v,born:=c },c+1,by simp[aa],?_⟩ (by simp) (λi hi=>by rw[A3 (Ne.symm hi)])⟩
  ·rw[Sem.run_bind,hu]
   simp only[Result.andThen_ok,Sem.run_bind,hg,hc]
   rw[zax T.key k es.toList none h g2 B d]
   simp only[Result.andThen_ok]
   exact Z _
  ·rw[zq3 g1]
   simp[h2]
 ·have ae:j<es.size:=by
   have:=(AQ.1 g2).1
   simpa using this
  refine⟨d,_,?_,hK (h.setIfInBounds m (.map (es.modify j λe=>{ e with key:=.string k,val:=v }) c)) ⟨es.modify j λe=>{ e with key:=.string k,val:=v },c,by simp[aa],?_⟩ (by simp) (λi hi=>by rw[A3 (Ne.symm hi)])⟩
  ·rw[Sem.run_bind,hu]
   simp only[Result.andThen_ok,Sem.run_bind,hg,hc]
   rw[zax T.key k es.toList _ h g5 B d]
   simp only[Result.andThen_ok,AX]
   have ab:((es[j]?).map (·.key)).getD (.string k)=.string k:=by
    have:es[j]?=some e:=by simpa using g2
    rw[this];exact g3
   rw[ab]
   have hs:Instr.keyThatStays (.string k) (.string k)=pure (.string k):=by
    unfold Instr.keyThatStays
    rw[if_pos (by show(k==k)=true;rw[zn5];simp)]
   rw[hs]
   exact Z _
  ·have:=g6 v
   simpa using this
end
section
variable {h h':Za} {b n o:Nat} {cs:Array Value} {v:Value} {P:Program}
def Blk(h:Za)(b:Nat)(cs:Array Value):Prop:=∃T,h[b]?=some (.cells cs T (0,0))
theorem Blk.keep(H:Blk h b cs)(k:h'[b]?=h[b]?):Blk h' b cs:=by
 obtain⟨T,e⟩:=H;exact⟨T,k.trans e⟩
theorem Blk.keepN(H:Blk h b cs)(k:Keep n h h')(hb:b<n):Blk h' b cs:=H.keep (k.get b hb)
theorem Blk.new(h:Za)(cs:Array Value)(T:TypeId):Blk (h.push (.cells cs T)) h.size cs:=⟨T,Jh _ _⟩
theorem Blk.lt(H:Blk h b cs):b<h.size:=by
 obtain⟨T,e⟩:=H;exact(Au.1 e).1
theorem Blk.cell(H:Blk h b cs)(hv:cs[o]?=some v):Ze h ⟨b,o,none⟩=some v:=by
 obtain⟨T,e⟩:=H
 unfold Ze
 simp[e,hv]
theorem Blk.cellAdd{b o k:Nat}(H:Blk h b cs)(hv:cs[o+k]?=some v):Ze h ((⟨b,o,none⟩:Addr).add k)=some v:=by
 rw[Zq];exact H.cell hv
theorem Blk.ld{cs:List Value}(H:Blk h b cs.toArray):Zb h ⟨b,0,none⟩ 0 cs:=by
 have key:∀(l:List Value) (i:Nat),(∀j v,l[j]?=some v->cs[i+j]?=some v)->Zb h ⟨b,0,none⟩ i l:=by
  intro l
  induction l with
  |nil=>intro i _;trivial
  |cons v l ih=>
   intro i hi
   refine⟨?_,ih (i+1) λj u hu=>?_⟩
   ·rw[Zq,AX]
    exact H.cell (by have:=hi 0 v rfl;simpa using this)
   ·have:=hi (j+1) u (by simpa using hu)
    rwa[show i+(j+1)=i+1+j by omega]at this
 exact key cs 0 λj v hv=>by simpa using hv
theorem Keep.setBlk(o:Obj)(hb:n<=b):Keep n h (h.setIfInBounds b o):=
 ⟨by simp,λi hi=>by rw[A3 (by omega)]⟩
theorem zkp(H:Blk h b cs)(B:World)(d:Nat):(mk B d h).frozen? ⟨b,o,none⟩=false:=by
 obtain⟨T,e⟩:=H
 have:(mk B d h).heap[b]?=some (.cells cs T (0,0)):=e
 simp[World.frozen?,this]
theorem zfa{T:TypeId}(e:h[b]?=some (.cells cs T (0,0)))(ho:o<cs.size)(hv:v.oneCell'=true)(B:World)(d:Nat):
  (store ⟨b,o,none⟩ v).run P (mk B d h)=.ok () (mk B d (h.setIfInBounds b (.cells (cs.setIfInBounds o v) T (0,0)))):=by
 have hc:(mk B d h).cell? ⟨b,o,none⟩=some cs[o]:=Blk.cell (h:=h) ⟨T,e⟩ (by simp[ho])
 have hf:=zkp (o:=o) (⟨T,e⟩:Blk h b cs) B d
 have Z:(mk B d h).setCell ⟨b,o,none⟩ v=mk B d (h.setIfInBounds b (.cells (cs.setIfInBounds o v) T (0,0))):=by
  unfold World.setCell mk
  simp only
  congr 1
  have hb:b<h.size:=(Au.1 e).1
  apply Array.ext_getElem?
  intro i
  rw[Array.getElem?_modify]
  by_cases hi:i=b
  ·subst hi
   have e':h[i]=.cells cs T (0,0):=by
    have:=A0 hb
    rw[e]at this
    exact(AL this).symm
   simp[hb,e']
  ·rw[if_neg (Ne.symm hi),A3 (Ne.symm hi)]
 cases v with
 |agg x=>simp[Value.oneCell']at hv
 |tuple x=>simp[Value.oneCell']at hv
 |_=>simp only[store,Sem.run,hc,hf,Bv,if_false,Z]
theorem cells_one(hv:v.oneCell'=true):v.cells=#[v]:=by
 cases v <;> first|rfl|simp[Value.oneCell']at hv
theorem Ji{t:TypeId}(hi:Z6 P t=true)(hs:Qh P t=1)(H:Blk h b cs)(ho:o<cs.size)(hv:v.oneCell'=true){K:Za->Prop}
  (hK:∀h':Za,Blk h' b (cs.setIfInBounds o v)->h'.size=h.size->(∀i,i≠b->h'[i]?=h[i]?)->K h'):XRunU P (AI t (.pointer (some ⟨b,o,none⟩)) v) h K:=by
 obtain⟨T,e⟩:=H
 have hb:b<h.size:=(Au.1 e).1
 intro B d
 refine⟨d,_,?_,hK (h.setIfInBounds b (.cells (cs.setIfInBounds o v) T (0,0))) ⟨T,by simp[hb]⟩ (by simp) λi hi=>by rw[A3 (Ne.symm hi)]⟩
 have hz:=QExec.sizeOf (P:=P) (h:=h) (Q7 hi).choose_spec B d
 unfold AI DJ
 simp only[Sem.run_bind,Sem.run_pure,Result.andThen_ok]
 unfold storeVar
 rw[Sem.run_bind,hz]
 simp only[Result.andThen_ok]
 rw[hs,cells_one hv]
 simp only[List.size_toArray,AN,Bh,AX,ne_eq,not_true_eq_false,if_false]
 show Sem.run P (storeCells ⟨b,o,none⟩ [v]) _=_
 unfold storeCells
 rw[Sem.run_bind]
 have ha:(⟨b,o,none⟩:Addr).add 0=⟨b,o,none⟩:=by rw[Zq];rfl
 rw[ha,zfa e ho hv B d]
 rfl
theorem X0{P:Program}{b:Nat}{T:TypeId}(B:World)(d:Nat):∀(vs:List Value) (i:Nat) (h:Za) (cs:Array Value),h[b]?=some (.cells cs T (0,0))->i+vs.length<=cs.size->(∀v∈vs,v.oneCell'=true) ->
  ∃h',(storeCells ⟨b,0,none⟩ vs i).run P (mk B d h)=.ok () (mk B d h')/\h'[b]?=some (.cells (cs.toList.take i++vs++cs.toList.drop (i+vs.length)).toArray T (0,0))/\h'.size=h.size/\∀j,j≠b->h'[j]?=h[j]?
 |[],i,h,cs,e,_,_=>⟨h,rfl,by simpa using e,rfl,λ_ _=>rfl⟩
 |v::vs,i,h,cs,e,hl,hv=>by
  have hb:b<h.size:=(Au.1 e).1
  simp only[AN]at hl
  have h1:=zfa (P:=P) e (o:=i) (by omega) (hv v AC) B d
  have e':(h.setIfInBounds b (.cells (cs.setIfInBounds i v) T (0,0)))[b]?=some (.cells (cs.setIfInBounds i v) T (0,0)):=by simp[hb]
  have Z:i+1+vs.length<=(cs.setIfInBounds i v).size:=by rw[Bm];omega
  obtain⟨h',r1,r2,r3,r4⟩:=X0 (P:=P) B d vs (i+1) (h.setIfInBounds b (.cells (cs.setIfInBounds i v) T (0,0))) (cs.setIfInBounds i v) e' Z λu hu=>hv u (Aw _ hu)
  refine⟨h',?_,?_,by rw[r3];simp,λj hj=>by rw[r4 j hj,A3 (Ne.symm hj)]⟩
  ·unfold storeCells
   rw[Sem.run_bind,Zq,AX,h1]
   simp only[Result.andThen_ok]
   exact r1
  ·rw[r2]
   congr 3
   have hi:i<cs.toList.length:=by simp;omega
   simp only[Array.toList_setIfInBounds,AN]
   rw[List.take_set,List.drop_set_of_lt (by omega)]
   have e2:(cs.toList.take (i+1)).set i v=cs.toList.take i++[v]:=by
    rw[Ba hi,List.set_append_right _ _ (by simp;omega)]
    have:i-(cs.toList.take i).length=0:=by simp;omega
    rw[this];rfl
   rw[e2,show i+(vs.length+1)=i+1+vs.length by omega]
   simp
theorem Owns.base{h:Za}{base Z:Nat}{e:TypeId}{sz:Nat}{s:Sl}{xs:List Value}(H:Owns h base e sz s xs)(hb:Z<=base):Owns h Z e sz s xs:=by
 refine⟨H.1,?_⟩
 rcases H.2 with hn|⟨g,cap,aa,hv,ab,rest⟩
 ·exact .inl hn
 ·exact .inr ⟨g,cap,aa,hv,by omega,rest⟩
end
end Go.X
end
section
namespace Go.X
variable {cs:List Value}
inductive Tr where
 |mk (kind:Int) (text:Bt) (keys:List Bt) (items:List Tr)
namespace Tr
@[reducible] def kind:Tr->Int|mk k _ _ _=>k
@[reducible] def text:Tr->Bt|mk _ s _ _=>s
@[reducible] def keys:Tr->List Bt|mk _ _ ks _=>ks
@[reducible] def items:Tr->List Tr|mk _ _ _ xs=>xs
@[simp] theorem eta(t:Tr):mk t.kind t.text t.keys t.items=t:=by cases t;rfl
instance:Inhabited Tr:=⟨mk 0 ⟨#[]⟩ [] []⟩
end Tr
inductive Ty where
 |int (k:IntKind)|bool|str|row (t:Ty)|tree|unit|pair (a b:Ty)|ptr (t:Ty)|iter|err
 deriving DecidableEq
@[reducible] def El:Ty->Type
 |.int _=>Int
 |.bool=>Bool
 |.str=>Bt
 |.row t=>List (El t)
 |.tree=>Tr
 |.unit=>Unit
 |.pair a b=>El a×El b
 |.ptr t=>El t
 |.iter=>Bt×Nat
 |.err=>Bool
def z94:(t:Ty)->El t
 |.int _=>(0:Int)
 |.bool=>false
 |.str=>(⟨#[]⟩:Bt)
 |.row _=>[]
 |.tree=>default
 |.unit=>()
 |.pair a b=>(z94 a,z94 b)
 |.ptr t=>z94 t
 |.iter=>(⟨#[]⟩,0)
 |.err=>true
def sz:Ty->Nat
 |.tree=>4
 |.unit=>0
 |.pair a b=>sz a+sz b
 |_=>1
abbrev Fr:=Nat->Option (Array Value)
def Fr.le(M M':Fr):Prop:=∀b cs,M b=some cs->M' b=some cs
theorem Fr.le.refl(M:Fr):Fr.le M M:=λ_ _ h=>h
theorem Fr.le.trans{a b c:Fr}(h:Fr.le a b)(k:Fr.le b c):Fr.le a c:=λ_ _ e=>k _ _ (h _ _ e)
def cut(cs:Array Value)(o n:Nat):List Value:=(cs.toList.drop o).take n
def RowAt(M:Fr){α:Type}(R:α->List Value->Prop)(z:Nat)(xs:List α)(v:Value):Prop:=
 ∃a c,v=.slice a xs.length c/\(xs.length<=140737488355328/\xs.length<=c)/\(xs=[]\/∃b o cs,a=some ⟨b,o,none⟩/\M b=some cs/\∀i (h:i<xs.length),R xs[i] (cut cs (o+i*z) z))
inductive TrRd (M:Fr):Tr->List Value->Prop where
 |mk {k:Int} {s:Bt} {ks:List Bt} {xs:List Tr} {vk:Value} {a:Option Addr} {c b o:Nat} {cs:Array Value}
  (hk:RowAt M (λs cs=>cs=[.string s]) 1 ks vk) (hn:xs.length<=140737488355328/\xs.length<=c) (hz:xs=[]\/(a=some ⟨b,o,none⟩/\M b=some cs))
  (hi:∀i (h:i<xs.length),TrRd M xs[i] (cut cs (o+i*4) 4)):TrRd M (.mk k s ks xs) [.int .i64 k,.string s,vk,.slice a xs.length c]
def Jx(s:Bt)(p:Nat):Value:=.iface 0 (.agg #[.string s,.int .i64 p])
def Rd(M:Fr):(t:Ty)->El t->List Value->Prop
 |.int k,i,cs=>cs=[.int k i]
 |.bool,b,cs=>cs=[.bool b]
 |.str,s,cs=>cs=[.string s]
 |.row t,xs,cs=>∃v,cs=[v]/\RowAt M (Rd M t) (sz t) xs v
 |.tree,t,cs=>TrRd M t cs
 |.unit,_,cs=>cs=[]
 |.pair a b,x,cs=>∃c1 c2,cs=c1++c2/\Rd M a x.1 c1/\Rd M b x.2 c2
 |.ptr t,x,cs=>∃b o cc,cs=[.pointer (some ⟨b,o,none⟩)]/\M b=some cc/\Rd M t x (cut cc o (sz t))
 |.iter,x,cs=>cs=[Jx x.1 x.2]
 |.err,b,cs=>∃v,cs=[v]/\((b=true/\v=.nilIface)\/(b=false/\∃t u,v=.iface t u))
theorem RowAt.mono{M M':Fr}(hM:Fr.le M M'){α:Type}{R R':α->List Value->Prop}{z:Nat}{xs:List α}{v:Value}(H:RowAt M R z xs v)(hR:∀x∈xs,∀cs,R x cs->R' x cs):RowAt M' R' z xs v:=by
 obtain⟨a,c,e,hn,h⟩:=H
 refine⟨a,c,e,hn,h.imp id ?_⟩
 rintro⟨b,o,cs,e1,e2,h3⟩
 exact⟨b,o,cs,e1,hM _ _ e2,λi h=>hR _ (BG _) _ (h3 i h)⟩
theorem TrRd.mono{M M':Fr}(hM:Fr.le M M'){t:Tr}(H:TrRd M t cs):TrRd M' t cs:=by
 induction H with
 |mk hk hn hz _ ih=>exact .mk (hk.mono hM λ_ _ _ h=>h) hn (hz.imp id λh=>⟨h.1,hM _ _ h.2⟩) ih
theorem Rd.mono{M M':Fr}(hM:Fr.le M M'):∀{t:Ty} {x:El t} {cs:List Value},Rd M t x cs->Rd M' t x cs
 |.int _,_,_,h=>h
 |.bool,_,_,h=>h
 |.str,_,_,h=>h
 |.row _,_,_,⟨v,e,h⟩=>⟨v,e,h.mono hM λ_ _ _ h=>Rd.mono hM h⟩
 |.tree,_,_,h=>TrRd.mono hM h
 |.unit,_,_,h=>h
 |.pair _ _,_,_,⟨c1,c2,e,h1,h2⟩=>⟨c1,c2,e,Rd.mono hM h1,Rd.mono hM h2⟩
 |.ptr _,_,_,⟨b,o,cc,e,h1,h2⟩=>⟨b,o,cc,e,hM _ _ h1,Rd.mono hM h2⟩
 |.iter,_,_,h=>h
 |.err,_,_,h=>h
theorem Rd.len{M:Fr}:∀{t:Ty} {x:El t} {cs:List Value},Rd M t x cs->cs.length=sz t
 |.int _,_,_,h=>by rw[h];rfl
 |.bool,_,_,h=>by rw[h];rfl
 |.str,_,_,h=>by rw[h];rfl
 |.row t,_,_,⟨v,e,_⟩=>by rw[e];rfl
 |.tree,_,_,h=>by cases h;rfl
 |.unit,_,_,h=>by rw[h];rfl
 |.pair _ _,_,_,⟨c1,c2,e,h1,h2⟩=>by rw[e,AF,Rd.len h1,Rd.len h2];rfl
 |.ptr _,_,_,⟨b,o,cc,e,_⟩=>by rw[e];rfl
 |.iter,_,_,h=>by rw[h];rfl
 |.err,_,_,⟨v,e,_⟩=>by rw[e];rfl
theorem Rd.one{M:Fr}:∀{t:Ty} {x:El t} {cs:List Value},Rd M t x cs->∀v∈cs,v.oneCell'=true
 |.int _,_,_,h=>by rw[h];simp[Value.oneCell']
 |.bool,_,_,h=>by rw[h];simp[Value.oneCell']
 |.str,_,_,h=>by rw[h];simp[Value.oneCell']
 |.row t,_,_,⟨v,e,a,c,e2,_⟩=>by rw[e,e2];simp[Value.oneCell']
 |.tree,_,_,h=>by
  cases h with
  |mk hk _ _ _=>obtain⟨a,c,e,_⟩:=hk;rw[e];simp[Value.oneCell']
 |.unit,_,_,h=>by rw[h];simp
 |.pair _ _,_,_,⟨c1,c2,e,h1,h2⟩=>by
  intro v hv
  rw[e]at hv
  rcases AP.1 hv with hv|hv
  ·exact Rd.one h1 v hv
  ·exact Rd.one h2 v hv
 |.ptr _,_,_,⟨b,o,cc,e,_⟩=>by rw[e];simp[Value.oneCell']
 |.iter,_,_,h=>by rw[h];simp[Value.oneCell',Jx]
 |.err,_,_,⟨v,e,h⟩=>by
  rw[e]
  rcases h with⟨_,rfl⟩|⟨_,t,u,rfl⟩ <;> simp[Value.oneCell']
theorem TrRd.keys{M:Fr}{t:Tr}(H:TrRd M t cs):∃vk vi,cs=[.int .i64 t.kind,.string t.text,vk,vi]/\Rd M (.row .str) t.keys [vk]/\Rd M (.row .tree) t.items [vi]:=by
 cases H with
 | @mk k s ks xs vk a c b o cs hk hn hz hi=>
  exact⟨vk,_,rfl,⟨vk,rfl,hk⟩,⟨_,rfl,a,c,rfl,hn,hz.imp id λh=>⟨b,o,cs,h.1,h.2,hi⟩⟩⟩
theorem TrRd.of{M:Fr}{k:Int}{s:Bt}{ks:List Bt}{xs:List Tr}{vk vi:Value}(h1:Rd M (.row .str) ks [vk])(h2:Rd M (.row .tree) xs [vi]):TrRd M (.mk k s ks xs) [.int .i64 k,.string s,vk,vi]:=by
 obtain⟨v,e,h1⟩:=h1
 obtain⟨v',e',a,c,e2,hn,h2⟩:=h2
 cases e;cases e';subst e2
 rcases h2 with rfl|⟨b,o,cs,e1,e2,h3⟩
 ·exact .mk (b:=0) (o:=0) (cs:=#[]) h1 hn (.inl rfl) λi h=>absurd h (by simp)
 ·exact .mk h1 hn (.inr ⟨e1,e2⟩) h3
def Bd:(t:Ty)->El t->Prop
 |.row _,xs=>xs.length<=140737488355328
 |.tree,t=>t.keys.length<=140737488355328/\t.items.length<=140737488355328
 |.pair a b,x=>Bd a x.1/\Bd b x.2
 |_,_=>True
theorem Rd.bd{M:Fr}:∀{t:Ty} {x:El t} {cs:List Value},Rd M t x cs->Bd t x
 |.int _,_,_,_=>trivial
 |.bool,_,_,_=>trivial
 |.str,_,_,_=>trivial
 |.row t,_,_,⟨v,_,a,c,_,h,_⟩=>h.1
 |.tree,_,_,h=>by
  cases h with
  |mk hk hn _ _=>obtain⟨a,c,e,h,_⟩:=hk;exact⟨h.1,hn.1⟩
 |.unit,_,_,_=>trivial
 |.pair _ _,_,_,⟨_,_,_,h1,h2⟩=>⟨Rd.bd h1,Rd.bd h2⟩
 |.ptr _,_,_,_=>trivial
 |.iter,_,_,_=>trivial
 |.err,_,_,_=>trivial
inductive AA where
 |v (x:Value)
 |d (t:Ty) (x:El t)
 |box (c o:Nat)
 |own (c:Nat)
 |oelt (c z:Nat) (i:Nat) (o:Nat)
 |elt (t:Ty) (x:El t) (o:Nat)
 |dc (t:Ty) (xs:List (El t))
inductive AG where
 |a (x:AA)
 |agg (l:List AA)
inductive AV where
 |g (x:AG)
 |tup (l:List AG)
 |nx (b:Bool) (p:Int) (c:Int)
structure Gh where
 M:Fr
 β:Nat->Nat
 σ:Nat->Sl
def All2{α β:Type}(R:α->β->Prop):List α->List β->Prop
 |[],[]=>True
 |x::xs,y::ys=>R x y/\All2 R xs ys
 |_,_=>False
def slV(s:Sl):Value:=.slice s.a s.len s.cap
def DenA(γ:Gh):AA->Value->Prop
 |.v x,u=>u=x
 |.d t x,u=>Rd γ.M t x [u]
 |.box c o,u=>u=.pointer (some ⟨γ.β c,o,none⟩)
 |.own c,u=>u=slV (γ.σ c)
 |.oelt c z i o,u=>∃g,(γ.σ c).a=some ⟨g,0,none⟩/\u=.pointer (some ⟨g,i*z+o,none⟩)
 |.elt t x o,u=>∃b f cs,u=.pointer (some ⟨b,f+o,none⟩)/\γ.M b=some cs/\Rd γ.M t x (cut cs f (sz t))
 |.dc t xs,u=>∃s:Sl,u=slV s/\s.cap=s.len/\Rd γ.M (.row t) xs [u]
def DenG(γ:Gh):AG->Value->Prop
 |.a x,u=>DenA γ x u
 |.agg l,u=>∃us,u=.agg us.toArray/\All2 (DenA γ) l us
def DenV(γ:Gh):AV->Value->Prop
 |.g x,u=>DenG γ x u
 |.tup l,u=>∃us,u=.tuple us.toArray/\All2 (DenG γ) l us
 |.nx b p c,u=>(b=true->u=.tuple #[.bool true,.int .i64 p,.int .i32 c])/\(b=false->u=.tuple #[.bool false])
theorem All2.length{α β:Type}{R:α->β->Prop}:∀{l:List α} {m:List β},All2 R l m->l.length=m.length
 |[],[],_=>rfl
 |[],_::_,h=>h.elim
 |_::_,[],h=>h.elim
 |_::_,_::_,h=>by simp[All2.length h.2]
theorem All2.imp{α β:Type}{R R':α->β->Prop}:∀{l:List α} {m:List β},All2 R l m->(∀x∈l,∀y,R x y->R' x y)->All2 R' l m
 |[],[],_,_=>trivial
 |[],_::_,h,_=>h.elim
 |_::_,[],h,_=>h.elim
 |_::_,_::_,h,k=>⟨k _ AC _ h.1,All2.imp h.2 λx hx y hy=>k x (Aw _ hx) y hy⟩
theorem All2.append{α β:Type}{R:α->β->Prop}:∀{l l':List α} {m m':List β},All2 R l m->All2 R l' m'->All2 R (l++l') (m++m')
 |[],_,[],_,_,h=>h
 |[],_,_::_,_,h,_=>h.elim
 |_::_,_,[],_,h,_=>h.elim
 |_::_,_,_::_,_,h,k=>⟨h.1,All2.append h.2 k⟩
theorem All2.take{α β:Type}{R:α->β->Prop}:∀(n:Nat) {l:List α} {m:List β},All2 R l m->All2 R (l.take n) (m.take n)
 |0,_,_,_=>by simp[All2]
 |_+1,[],[],_=>trivial
 |_+1,[],_::_,h=>h.elim
 |_+1,_::_,[],h=>h.elim
 |n+1,_::_,_::_,h=>⟨h.1,All2.take n h.2⟩
theorem All2.drop{α β:Type}{R:α->β->Prop}:∀(n:Nat) {l:List α} {m:List β},All2 R l m->All2 R (l.drop n) (m.drop n)
 |0,_,_,h=>by simpa using h
 |_+1,[],[],_=>trivial
 |_+1,[],_::_,h=>h.elim
 |_+1,_::_,[],h=>h.elim
 |n+1,_::_,_::_,h=>by simpa using All2.drop n h.2
theorem All2.get{α β:Type}{R:α->β->Prop}:∀{l:List α} {m:List β} {i:Nat} {x:α},All2 R l m->l[i]?=some x->∃y,m[i]?=some y/\R x y
 |[],[],_,_,_,h=>by simp at h
 |[],_::_,_,_,h,_=>h.elim
 |_::_,[],_,_,h,_=>h.elim
 |_::_,y::_,0,_,h,e=>by simp at e;subst e;exact⟨y,rfl,h.1⟩
 |_::_,_::_,i+1,_,h,e=>by simpa using All2.get h.2 (by simpa using e)
def zaa:(t:Ty)->El t->List AA
 |.int k,i=>[.v (.int k i)]
 |.bool,b=>[.v (.bool b)]
 |.str,s=>[.v (.string s)]
 |.row t,xs=>[.d (.row t) xs]
 |.tree,t=>[.v (.int .i64 t.kind),.v (.string t.text),.d (.row .str) t.keys,.d (.row .tree) t.items]
 |.unit,_=>[]
 |.pair a b,x=>zaa a x.1++zaa b x.2
 |.ptr t,x=>[.elt t x 0]
 |.iter,x=>[.d .iter x]
 |.err,x=>[.d .err x]
theorem Ja{γ:Gh}:∀{t:Ty} {x:El t} {cs:List Value},Rd γ.M t x cs->All2 (DenA γ) (zaa t x) cs
 |.int _,_,_,h=>by rw[h];exact⟨rfl,trivial⟩
 |.bool,_,_,h=>by rw[h];exact⟨rfl,trivial⟩
 |.str,_,_,h=>by rw[h];exact⟨rfl,trivial⟩
 |.row t,_,_,⟨v,e,h⟩=>by rw[e];exact⟨⟨v,rfl,h⟩,trivial⟩
 |.tree,_,_,h=>by
  obtain⟨vk,vi,e,h1,h2⟩:=TrRd.keys h
  rw[e];exact⟨rfl,rfl,h1,h2,trivial⟩
 |.unit,_,_,h=>by rw[h];trivial
 |.pair _ _,_,_,⟨c1,c2,e,h1,h2⟩=>by rw[e];exact(Ja h1).append (Ja h2)
 |.ptr t,x,_,⟨b,o,cc,e,h1,h2⟩=>by rw[e];exact⟨⟨b,o,cc,rfl,h1,h2⟩,trivial⟩
 |.iter,x,_,h=>by rw[h];exact⟨rfl,trivial⟩
 |.err,x,_,⟨v,e,h⟩=>by rw[e];exact⟨⟨v,rfl,h⟩,trivial⟩
def zq4:Ty->Bool
 |.iter=>true
 |.err=>true
 |.pair a b=>bif zq4 a then true else zq4 b
 |_=>false
theorem Rd.noIt{M:Fr}:∀{t:Ty} {x:El t} {cs:List Value},zq4 t=false->Rd M t x cs->∀s p,Jx s p∉cs
 |.int _,_,_,_,h,s,p=>by rw[h];simp[Jx]
 |.bool,_,_,_,h,s,p=>by rw[h];simp[Jx]
 |.str,_,_,_,h,s,p=>by rw[h];simp[Jx]
 |.row t,_,_,_,⟨v,e,a,c,e2,_⟩,s,p=>by rw[e,e2];simp[Jx]
 |.tree,_,_,_,h,s,p=>by
  cases h with
  |mk hk _ _ _=>obtain⟨a,c,e,_⟩:=hk;rw[e];simp[Jx]
 |.unit,_,_,_,h,s,p=>by rw[h];simp
 |.pair a b,_,_,hi,⟨c1,c2,e,h1,h2⟩,s,p=>by
  simp only[zq4]at hi
  cases ha:zq4 a with
  |true=>rw[ha]at hi;cases hi
  |false=>
   rw[ha]at hi
   rw[e]
   intro hm
   rcases AP.1 hm with hm|hm
   ·exact Rd.noIt ha h1 s p hm
   ·exact Rd.noIt hi h2 s p hm
 |.ptr _,_,_,_,⟨b,o,cc,e,_⟩,s,p=>by rw[e];simp[Jx]
 |.iter,_,_,hi,_,_,_=>by cases hi
 |.err,_,_,hi,_,_,_=>by cases hi
def itB:List AA->Bool
 |[.d t _]=>zq4 t
 |[.v (.iface _ _)]=>true
 |_=>false
theorem zs3{γ:Gh}{l:List AA}{us:List Value}(h:itB l=false)(hd:All2 (DenA γ) l us)(s:Bt)(p:Nat):us≠[Jx s p]:=by
 intro e
 subst e
 match l,hd with
 |[x],hd=>
  cases x with
  |v y=>rw[<-show Jx s p=y from hd.1]at h;simp[itB,Jx]at h
  |d t y=>exact Rd.noIt (show zq4 t=false from h) (show Rd γ.M t y [Jx s p]from hd.1) s p (by simp)
  |box c o=>have:Jx s p=_:=hd.1;simp[Jx]at this
  |own c=>have:Jx s p=_:=hd.1;simp[Jx,slV]at this
  |oelt c z i o=>obtain⟨g,_,e⟩:=hd.1;simp[Jx]at e
  |elt t y o=>obtain⟨b,f,cs,e,_⟩:=hd.1;simp[Jx]at e
  |dc t xs=>obtain⟨s',e,_⟩:=hd.1;simp[Jx,slV]at e
 |[],hd=>exact hd.elim
 |_::_::_,hd=>exact hd.2.elim
inductive Ch where
 |box (l:List AA)
 |row (e:TypeId) (t:Ty) (xs:List (El t))
 |fz (t:Ty) (xs:List (El t))
abbrev CS:=List (Nat×Ch)
def Xe:CS->Nat->Option Ch
 |[],_=>none
 |(j,k)::l,i=>bif Nat.beq i j then some k else Xe l i
theorem Zu{l:CS}{i:Nat}{k:Ch}(h:Xe l i=some k):(i,k)∈l:=by
 induction l with
 |nil=>cases h
 |cons x l ih=>
  obtain⟨j,k'⟩:=x
  simp only[Xe]at h
  by_cases hb:Nat.beq i j=true
  ·simp only[hb,cond_true,As]at h
   subst h
   rw[Az hb];exact AC
  ·simp only[hb,cond_false]at h
   exact Aw _ (ih h)
def Wk(t t':Ty)(x:El t):Option (El t'):=if h:t=t' then some (h ▸ x)else none
theorem zay{M:Fr}{t t':Ty}{x:El t}{y:El t'}(h:Wk t t' x=some y)(r:Rd M t x cs):Rd M t' y cs:=by
 unfold Wk at h
 split at h
 ·rename_i e
  subst e
  simp only[As]at h
  subst h;exact r
 ·cases h
def zjt(cs:CS):(t:Ty)->AA->Option (El t)
 |.int k,.v (.int k' i)=>if k=k' then some i else none
 |.bool,.v (.bool b)=>some b
 |.str,.v (.string s)=>some s
 |.row t,.v (.slice none 0 0)=>some ([]:List (El t))
 |.row t,.d t' x=>Wk t' (.row t) x
 |.row t,.dc t' x=>Wk (.row t') (.row t) x
 |.row t,.own c=>match Xe cs c with
  |some (.fz t' xs)=>Wk (.row t') (.row t) xs
  |_=>none
 |.ptr t,.elt t' x 0=>Wk t' t x
 |.ptr t,.d t' x=>Wk t' (.ptr t) x
 |.iter,.d t' x=>Wk t' .iter x
 |.err,.d t' x=>Wk t' .err x
 |.err,.v .nilIface=>some true
 |.err,.v (.iface _ _)=>some false
 |_,_=>none
def collect(cs:CS):(t:Ty)->List AA->Option (El t×List AA)
 |.unit,l=>some ((),l)
 |.pair a b,l=>match collect cs a l with
  |some (x,l')=>match collect cs b l' with
   |some (y,l'')=>some ((x,y),l'')
   |none=>none
  |none=>none
 |.tree,k::s::ks::xs::l=>match zjt cs (.int .i64) k,zjt cs .str s,zjt cs (.row .str) ks,zjt cs (.row .tree) xs with
  |some k,some s,some ks,some xs=>some (Tr.mk k s ks xs,l)
  |_,_,_,_=>none
 |.tree,_=>none
 |t,x::l=>match zjt cs t x with
  |some y=>some (y,l)
  |none=>none
 |_,[]=>none
def z09(γ:Gh)(cs:CS):Prop:=∀c t xs,(c,Ch.fz t xs)∈cs->Rd γ.M (.row t) xs [slV (γ.σ c)]
theorem Yj{γ:Gh}{cs:CS}(hf:z09 γ cs){t:Ty}{x:AA}{y:El t}(h:zjt cs t x=some y){u:Value}(hd:DenA γ x u):Rd γ.M t y [u]:=by
 unfold zjt at h
 split at h
 ·split at h
  ·rename_i hk;simp only[As]at h;subst h;subst hk;exact congrArg (λu=>[u]) hd
  ·cases h
 ·simp only[As]at h;subst h;exact congrArg (λu=>[u]) hd
 ·simp only[As]at h;subst h;exact congrArg (λu=>[u]) hd
 ·simp only[As]at h;subst h
  exact⟨u,rfl,none,0,hd,by simp,.inl rfl⟩
 ·exact zay h hd
 ·obtain⟨s,_,_,hd⟩:=hd
  exact zay h hd
 ·split at h
  ·rename_i t' xs Z
   rw[show u=_ from hd]
   exact zay h (hf _ _ _ (Zu Z))
  ·cases h
 ·rename_i t t' x
  obtain⟨b,f,cs',e,h1,h2⟩:=hd
  exact⟨b,f,cs',by rw[e];rfl,h1,by
   unfold Wk at h
   split at h
   ·rename_i e;subst e;simp only[As]at h;subst h;exact h2
   ·cases h⟩
 ·exact zay h hd
 ·exact zay h hd
 ·exact zay h hd
 ·simp only[As]at h;subst h;exact⟨u,rfl,.inl ⟨rfl,hd⟩⟩
 ·rename_i t' x';simp only[As]at h;subst h;exact⟨u,rfl,.inr ⟨rfl,_,_,hd⟩⟩
 ·cases h
theorem zab{γ:Gh}{cs:CS}(hf:z09 γ cs):∀{t:Ty} {l l':List AA} {y:El t},collect cs t l=some (y,l')->∀{us:List Value},All2 (DenA γ) l us->∃c1 c2,us=c1++c2/\Rd γ.M t y c1/\All2 (DenA γ) l' c2
 |.unit,l,l',y,h,us,hu=>by
  simp only[collect,As,Bn]at h
  obtain⟨_,rfl⟩:=h
  exact⟨[],us,rfl,rfl,hu⟩
 |.pair a b,l,l',y,h,us,hu=>by
  simp only[collect]at h
  split at h
  ·rename_i x l1 h1
   split at h
   ·rename_i z l2 h2
    simp only[As,Bn]at h
    obtain⟨rfl,rfl⟩:=h
    obtain⟨c1,c2,rfl,r1,r2⟩:=zab hf h1 hu
    obtain⟨c3,c4,rfl,r3,r4⟩:=zab hf h2 r2
    exact⟨c1++c3,c4,by simp,⟨c1,c3,rfl,r1,r3⟩,r4⟩
   ·cases h
  ·cases h
 |.tree,l,l',y,h,us,hu=>by
  match l,us,hu,h with
  |k::s::ks::xs::l,u1::u2::u3::u4::us,hu,h=>
   simp only[collect]at h
   split at h
   ·rename_i k' s' ks' Z h1 h2 h3 h4
    simp only[As,Bn]at h
    obtain⟨rfl,rfl⟩:=h
    obtain⟨d1,d2,d3,d4,d5⟩:=hu
    have r1:=Yj hf h1 d1
    have r2:=Yj hf h2 d2
    have r3:=Yj hf h3 d3
    have r4:=Yj hf h4 d4
    refine⟨[u1,u2,u3,u4],us,rfl,?_,d5⟩
    have e1:[u1]=[Ep .i64 k']:=r1
    have e2:[u2]=[Dw s']:=r2
    cases e1;cases e2
    exact TrRd.of r3 r4
   ·cases h
  |[],_,_,h=>simp[collect]at h
  |[_],_,_,h=>simp[collect]at h
  |[_,_],_,_,h=>simp[collect]at h
  |[_,_,_],_,_,h=>simp[collect]at h
  |_::_::_::_::_,[],hu,_=>exact hu.elim
  |_::_::_::_::_,[_],hu,_=>exact hu.2.elim
  |_::_::_::_::_,[_,_],hu,_=>exact hu.2.2.elim
  |_::_::_::_::_,[_,_,_],hu,_=>exact hu.2.2.2.elim
 |.int k,x::l,l',y,h,u::us,hu=>by
  simp only[collect]at h
  split at h
  ·rename_i z hz;simp only[As,Bn]at h;obtain⟨rfl,rfl⟩:=h
   exact⟨[u],us,rfl,Yj hf hz hu.1,hu.2⟩
  ·cases h
 |.bool,x::l,l',y,h,u::us,hu=>by
  simp only[collect]at h
  split at h
  ·rename_i z hz;simp only[As,Bn]at h;obtain⟨rfl,rfl⟩:=h
   exact⟨[u],us,rfl,Yj hf hz hu.1,hu.2⟩
  ·cases h
 |.str,x::l,l',y,h,u::us,hu=>by
  simp only[collect]at h
  split at h
  ·rename_i z hz;simp only[As,Bn]at h;obtain⟨rfl,rfl⟩:=h
   exact⟨[u],us,rfl,Yj hf hz hu.1,hu.2⟩
  ·cases h
 |.row _,x::l,l',y,h,u::us,hu=>by
  simp only[collect]at h
  split at h
  ·rename_i z hz;simp only[As,Bn]at h;obtain⟨rfl,rfl⟩:=h
   exact⟨[u],us,rfl,Yj hf hz hu.1,hu.2⟩
  ·cases h
 |.ptr _,x::l,l',y,h,u::us,hu=>by
  simp only[collect]at h
  split at h
  ·rename_i z hz;simp only[As,Bn]at h;obtain⟨rfl,rfl⟩:=h
   exact⟨[u],us,rfl,Yj hf hz hu.1,hu.2⟩
  ·cases h
 |.iter,x::l,l',y,h,u::us,hu=>by
  simp only[collect]at h
  split at h
  ·rename_i z hz;simp only[As,Bn]at h;obtain⟨rfl,rfl⟩:=h
   exact⟨[u],us,rfl,Yj hf hz hu.1,hu.2⟩
  ·cases h
 |.iter,_::_,_,_,_,[],hu=>hu.elim
 |.iter,[],_,_,h,_,_=>by simp[collect]at h
 |.err,x::l,l',y,h,u::us,hu=>by
  simp only[collect]at h
  split at h
  ·rename_i z hz;simp only[As,Bn]at h;obtain⟨rfl,rfl⟩:=h
   exact⟨[u],us,rfl,Yj hf hz hu.1,hu.2⟩
  ·cases h
 |.err,_::_,_,_,_,[],hu=>hu.elim
 |.err,[],_,_,h,_,_=>by simp[collect]at h
 |.int _,_::_,_,_,_,[],hu=>hu.elim
 |.bool,_::_,_,_,_,[],hu=>hu.elim
 |.str,_::_,_,_,_,[],hu=>hu.elim
 |.row _,_::_,_,_,_,[],hu=>hu.elim
 |.ptr _,_::_,_,_,_,[],hu=>hu.elim
 |.int _,[],_,_,h,_,_=>by simp[collect]at h
 |.bool,[],_,_,h,_,_=>by simp[collect]at h
 |.str,[],_,_,h,_,_=>by simp[collect]at h
 |.row _,[],_,_,h,_,_=>by simp[collect]at h
 |.ptr _,[],_,_,h,_,_=>by simp[collect]at h
end Go.X
end
