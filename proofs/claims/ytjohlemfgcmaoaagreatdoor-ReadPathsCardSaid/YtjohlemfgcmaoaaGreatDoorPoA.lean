/- A part of the proof: nothing is stated here for its own sake. -/
import Derived.Deep.Quiet
import Derived.StillTail
import Derived.Laws.Strings
import Derived.Laws.Cover3
import Derived.Laws.Pointers
import Derived.Laws.OwnMore
open _root_.Go.Addr renaming add->Al
open _root_.Array renaming getD_eq_getD_getElem?->A7,getElem?_append_left->Ck,getElem?_eq_getElem->AI,getElem?_eq_some_iff->Ac,getElem?_push->BV,getElem?_setIfInBounds_ne->AN,getElem?_toList->Bw,replicate->Ba,size_setIfInBounds->AU
open _root_.Bool renaming and_eq_true->AY,eq_iff_iff->AH,false_eq_true->A3,false_or->Dx,not_eq_true'->CZ,true_and->Cd
open _root_.Go.Builtin renaming append_->AB,firstCells->CM,len_->DR
open _root_.Classical renaming byContradiction->CG
open _root_.Go.Code renaming cond->Ee,region->CW
open _root_.Go.Deferred renaming ofValue->Df
open _root_.Go.Instr renaming findNow->DY,indexAt->Ef,loadAt->DO,lookup->Em,mapUpdate->Dt,sliceAt->DX,storeAt->An,sureAddr->DG
open _root_.Go.IntKind renaming bits->Ao,signed->Di,wrap->Ab
open _root_.List renaming all_eq_true->AX,any_eq_true->DT,cons_append->AO,drop_eq_getElem_cons->AF,eq_nil_iff_forall_not_mem->CL,eq_nil_of_length_eq_zero->AJ,getElem?_append_right->A5,getElem?_drop->AE,getElem?_eq_getElem->Ai,getElem?_eq_none->BH,getElem?_eq_some_iff->Av,getElem?_take->Az,getElem_mem->AL,getElem_of_mem->BD,length_append->Ap,length_cons->Aw,length_eq_zero_iff->A8,length_erase_of_mem->CP,length_nil->BE,length_range->DC,mapM_cons->Ea,map_cons->A4,mem_append->As,mem_append_left->Am,mem_append_right->Au,mem_cons->Af,mem_cons_of_mem->Ae,mem_cons_self->Aj,mem_filter->Dv,mem_of_getElem?->Bh,mem_range->BL,nil_append->Bc,nodup_append->Bl,nodup_cons->C4,nodup_nil->DI,nodup_range->Dh,pairwise_append->Ct,pairwise_cons->BI,range->Bv,replicate->D7,take_append_drop->Cf,take_left->DJ,take_succ_cons->Be,take_succ_eq_append_getElem->AD,take_zero->Dg
open _root_.List.cons renaming injEq->Bu
open _root_.Nat renaming add_mul->BU,add_sub_cancel_left->C3,add_zero->Cu,blt_eq->Cs,eq_of_beq_eq_true->Ag,eq_or_lt_of_le->Dm,eq_zero_or_pos->Do,le_of_ble_eq_true->BG,le_refl->Ad,le_trans->D6,lt_of_lt_of_le->Dk,lt_or_ge->AR,mul_le_mul_right->AK,strongRecOn->Du,sub_zero->Dn,zero_add->Ay,zero_le->CV
open _root_.Go.Next renaming value->Dl
open _root_.Go.Op renaming equal->Er
open _root_.Option renaming bind_some->CK
open _root_.Option.some renaming inj->Aq,injEq->Aa
open _root_.Prod.mk renaming injEq->A9
open _root_.Pure renaming pure->Da
open _root_.Go.Region renaming wanted->Bo
open _root_.Go.Result.ok renaming injEq->Ek
open _root_.Go.Value renaming int->Ep,string->Cv
open _root_.Go.Value.slice renaming injEq->AP
set_option linter.unusedVariables false
set_option maxRecDepth 100000
namespace Go.X
end Go.X
namespace Go.Proofs
end Go.Proofs
open Go Go.X Go.Proofs
section
namespace Go.X
section
abbrev Bt:= ByteArray
variable {i n m:Nat} {v u:Value} {a:Act} {o:Oper}
abbrev za:=Array Obj
abbrev zt:=List (Nat×Bool)
abbrev Env:=List (Nat×zt×Value)
def mk(B:World)(d:Nat)(h:za):World:={ B with heap:=h,drawn:=d }
def look:Env->Nat->Option (zt×Value)
 |[],_=>none
 |(j,c,v)::e,i=>bif Nat.beq i j then some (c,v)else look e i
def valid(σ:Nat->Value):zt->Prop
 |[]=>True
 |(g,p)::c=>σ g=.bool p/\valid σ c
def zl(a:Act)(i:Nat):Value:=a.tmps.getD i undef
def fact(σ:Nat->Value)(x:Nat×zt×Value):Prop:=(valid σ x.2.1->σ x.1=x.2.2)/\(¬valid σ x.2.1->σ x.1=undef)
structure Sat (n:Nat) (e:Env) (a:Act):Prop where
 defers:a.defers=[]
 size:a.tmps.size=n
 all:∀x∈e,fact (zl a) x
def mentions:zt->Nat->Bool
 |[],_=>false
 |(g,_)::c,i=>bif Nat.beq i g then true else mentions c i
def del:Env->Nat->Env
 |[],_=>[]
 |(j,c,v)::e,i=>bif (bif Nat.beq i j then true else mentions c i)then del e i else(j,c,v)::del e i
def put(e:Env)(i:Nat)(c:zt)(v:Value):Env:=(i,c,v)::del e i
def putO(e:Env):Option Nat->zt->Value->Env
 |none,_,_=>e
 |some d,c,v=>put e d c v
def clean:Env->Env
 |[]=>[]
 |(j,[],v)::e=>(j,[],v)::clean e
 |(_,_::_,_)::e=>clean e
theorem Xh{e:Env}{c:zt}(h:look e i=some (c,v)):(i,c,v)∈e:=by
 induction e with
 |nil=>cases h
 |cons x e ih=>
  obtain⟨j,cj,vj⟩:=x
  simp only[look]at h
  by_cases hb:Nat.beq i j=true
  ·simp only[hb,cond_true,Aa,A9]at h
   obtain⟨rfl,rfl⟩:=h
   rw[Ag hb]
   exact Aj
  ·simp only[hb,cond_false]at h
   exact Ae _ (ih h)
theorem z4l{e:Env}{x:Nat×zt×Value}(h:x∈del e i):x∈e/\x.1≠i/\mentions x.2.1 i=false:=by
 induction e with
 |nil=>cases h
 |cons y e ih=>
  obtain⟨j,cj,vj⟩:=y
  simp only[del]at h
  by_cases hb:Nat.beq i j=true
  ·simp only[hb,cond_true]at h
   exact⟨Ae _ (ih h).1,(ih h).2⟩
  ·have ab:Nat.beq i j=false:=Bool.eq_false_iff.2 hb
   simp only[ab,cond_false]at h
   by_cases hm:mentions cj i=true
   ·simp only[hm,cond_true]at h
    exact⟨Ae _ (ih h).1,(ih h).2⟩
   ·have aa:mentions cj i=false:=by simpa using hm
    simp only[aa,cond_false]at h
    rcases Af.1 h with rfl|h
    ·refine⟨Aj,λZ=>?_,aa⟩
     simp only at Z
     rw[Z]at hb
     exact hb (by simp)
    ·exact⟨Ae _ (ih h).1,(ih h).2⟩
theorem zu8{e:Env}{x:Nat×zt×Value}(h:x∈clean e):x∈e/\x.2.1=[]:=by
 induction e with
 |nil=>cases h
 |cons y e ih=>
  obtain⟨j,cj,vj⟩:=y
  cases cj with
  |nil=>
   simp only[clean]at h
   rcases Af.1 h with rfl|h
   ·exact⟨Aj,rfl⟩
   ·exact⟨Ae _ (ih h).1,(ih h).2⟩
  |cons c cs=>
   simp only[clean]at h
   exact⟨Ae _ (ih h).1,(ih h).2⟩
theorem Sat.sub{e e':Env}(h:Sat n e a)(hs:∀x∈e',x∈e):Sat n e' a:=⟨h.defers,h.size,λx hx=>h.all x (hs x hx)⟩
theorem Sat.clean{n:Nat}{e:Env}{a:Act}(h:Sat n e a):Sat n (clean e) a:=h.sub λ_ hx=>(zu8 hx).1
theorem xm{σ τ:Nat->Value}{c:zt}(hm:mentions c i=false)(h:∀j,j≠i->σ j=τ j):valid σ c↔valid τ c:=by
 induction c with
 |nil=>exact Iff.rfl
 |cons x c ih=>
  obtain⟨g,p⟩:=x
  simp only[mentions]at hm
  by_cases hb:Nat.beq i g=true
  ·simp[hb]at hm
  ·simp only[hb,cond_false]at hm
   have hg:g≠i:=λe=>hb (by rw[e];simp)
   simp only[valid,h g hg,ih hm]
theorem qh(hi:i<a.tmps.size):zl (a.put (some i) u) i=u:=by
 simp[zl,Act.put,hi]
theorem qb{i j:Nat}(h:j≠i):zl (a.put (some i) u) j=zl a j:=by
 simp[zl,Act.put,AN (Ne.symm h)]
theorem size_put(a:Act)(d:Option Nat)(u:Value):(a.put d u).tmps.size=a.tmps.size:=by
 cases d <;> simp[Act.put]
theorem zu(a:Act)(d:Option Nat)(u:Value):(a.put d u).defers=a.defers:=by
 cases d <;> simp[Act.put]
theorem Sat.put{n:Nat}{e:Env}{a:Act}(h:Sat n e a){i:Nat}{c:zt}{v u:Value}(hi:i<n)(hm:mentions c i=false)
  (hy:valid (zl a) c->u=v) (hn:¬valid (zl a) c->u=undef):Sat n (put e i c v) (a.put (some i) u):=by
 refine⟨by rw[zu];exact h.defers,by rw[size_put];exact h.size,λx hx=>?_⟩
 have aa:i<a.tmps.size:=by rw[h.size];exact hi
 rcases Af.1 hx with rfl|hx
 ·have hv:=xm (σ:=zl (a.put (some i) u)) (τ:=zl a) hm (λj hj=>qb hj)
  refine⟨λhc=>?_,λhc=>?_⟩
  ·exact(qh aa).trans (hy (hv.1 hc))
  ·exact(qh aa).trans (hn (λZ=>hc (hv.2 Z)))
 ·obtain⟨h1,h2,h3⟩:=z4l hx
  have hv:=xm (σ:=zl (a.put (some i) u)) (τ:=zl a) h3 (λj hj=>qb hj)
  have hf:=h.all x h1
  refine⟨λhc=>?_,λhc=>?_⟩
  ·exact(qb h2).trans (hf.1 (hv.1 hc))
  ·exact(qb h2).trans (hf.2 (λZ=>hc (hv.2 Z)))
def qi(n:Nat)(c:zt):Option Nat->Bool
 |none=>true
 |some d=>bif mentions c d then false else Nat.blt d n
theorem Sat.putO{n:Nat}{e:Env}{a:Act}(h:Sat n e a){d:Option Nat}{c:zt}{v u:Value}(hd:qi n c d=true)
  (hy:valid (zl a) c->u=v) (hn:¬valid (zl a) c->u=undef):Sat n (putO e d c v) (a.put d u):=by
 cases d with
 |none=>exact h
 |some i=>
  simp only[qi]at hd
  by_cases hm:mentions c i=true
  ·simp[hm]at hd
  ·have Z:mentions c i=false:=by simpa using hm
   simp only[Z,cond_false]at hd
   exact h.put (by simpa[Cs]using hd) Z hy hn
def xn:zt->zt->Bool
 |[],[]=>true
 |(g,p)::c,(g',p')::c'=>bif Nat.beq g g' then(bif p then(bif p' then xn c c' else false)else(bif p' then false else xn c c'))else false
 |_,_=>false
theorem Yb:∀{c c':zt},xn c c'=true->c=c'
 |[],[],_=>rfl
 |[],_::_,h=>by simp[xn]at h
 |_::_,[],h=>by simp[xn]at h
 |(g,p)::c,(g',p')::c',h=>by
  simp only[xn]at h
  by_cases hb:Nat.beq g g'=true
  ·simp only[hb,cond_true]at h
   have e1:=Ag hb
   cases p <;> cases p' <;> simp at h <;> rw[e1,Yb h]
  ·simp[hb]at h
def suf(cs:zt):zt->Bool
 |[]=>xn cs []
 |x::c=>bif xn cs (x::c)then true else suf cs c
theorem Yc{σ:Nat->Value}{cs:zt}:∀{c:zt},suf cs c=true->valid σ c->valid σ cs
 |[],h,_=>by rw[Yb h];trivial
 |x::c,h,hv=>by
  simp only[suf]at h
  by_cases hb:xn cs (x::c)=true
  ·rw[Yb hb];exact hv
  ·simp only[hb,cond_false]at h
   exact Yc h hv.2
def Y4(e:Env)(c:zt):Operand->Option Value
 |.tmp t=>match look e t with
  |some (cs,v)=>bif suf cs c then some v else none
  |none=>none
 |.const v=>some v
 |.global g=>some (.pointer (some ⟨g,0,none⟩))
 |.func f=>some (.func (.func f) #[] #[])
theorem qy{e:Env}(h:Sat n e a){c:zt}(hc:valid (zl a) c){x:Operand}(hx:Y4 e c x=some v):a.eval x=v:=by
 cases x with
 |tmp t=>
  simp only[Y4]at hx
  split at hx
  ·rename_i cs u hl
   by_cases hs:suf cs c=true
   ·simp only[hs,cond_true,Aa]at hx
    subst hx
    exact(h.all _ (Xh hl)).1 (Yc hs hc)
   ·simp[hs]at hx
  ·cases hx
 |const u=>simp only[Y4,Aa]at hx;exact hx
 |global g=>simp only[Y4,Aa]at hx;exact hx
 |func f=>simp only[Y4,Aa]at hx;exact hx
def rho(e:Env)(c:zt)(x:Operand):Value:=match Y4 e c x with
 |some v=>v
 |none=>undef
def known(e:Env)(c:zt):List Operand->Bool
 |[]=>true
 |x::l=>match Y4 e c x with
  |some _=>known e c l
  |none=>false
theorem j7{e:Env}(h:Sat n e a){c:zt}(hc:valid (zl a) c){l:List Operand}(hk:known e c l=true):∀x∈l,a.eval x=rho e c x:=by
 induction l with
 |nil=>intro x hx;cases hx
 |cons y l ih=>
  intro x hx
  simp only[known]at hk
  split at hk
  ·rename_i v hv
   rcases Af.1 hx with rfl|hx
   ·rw[qy h hc hv];simp[rho,hv]
   ·exact ih hk x hx
  ·cases hk
def jb:Op->Bool
 |.select _ _=>false
 |_=>true
theorem Qr{e:Env}(h:Sat n e a){c:zt}(hc:valid (zl a) c)(hs:jb o.op=true)(hk:known e c o.op.operands.toList=true):
  execOp a.eval o=execOp (rho e c) o:=
 execOp_congr o (λcs b hb=>by rw[hb]at hs;cases hs) λx hx=>j7 h hc hk x (by simpa using hx)
def yf(ops:Array Oper)(j:Nat):Option Nat:=match ops[j]? with
 |some o=>o.dst
 |none=>none
def Q5(ops:Array Oper)(e:Env):Option (Nat×Bool)->Option zt
 |none=>some []
 |some (j,p)=>match yf ops j with
  |some g=>match look e g with
   |some (cg,.bool _)=>some ((g,p)::cg)
   |_=>none
  |none=>none
def zu9(e:Env):zt->Option Bool
 |[]=>some true
 |(g,p)::c=>match look e g with
  |some (cg,.bool b)=>bif xn cg c then(match zu9 e c with
    |some cb=>some (cb&&(bif p then b else !b))
    |none=>none)else none
  |_=>none
theorem zbl{b:Bool}:undef≠.bool b:=by simp[undef]
theorem zad{n:Nat}{e:Env}{a:Act}(h:Sat n e a):∀{c:zt} {b:Bool},zu9 e c=some b->(b=true↔valid (zl a) c)
 |[],b,hb=>by simp only[zu9,Aa]at hb;simp[<-hb,valid]
 |(g,p)::c,b,hb=>by
  simp only[zu9]at hb
  split at hb
  ·rename_i cg bg hl
   by_cases hq:xn cg c=true
   ·simp only[hq,cond_true]at hb
    split at hb
    ·rename_i cb Z
     simp only[Aa]at hb
     have ih:=zad h Z
     have hf:=h.all _ (Xh hl)
     rw[Yb hq]at hf
     by_cases hv:valid (zl a) c
     ·have h1:zl a g=.bool bg:=hf.1 hv
      have h2:=ih.2 hv
      subst hb
      simp only[valid,h1,hv,h2,Cd,and_true,Value.bool.injEq]
      cases p <;> cases bg <;> simp
     ·have h1:cb=false:=by cases cb with|false=>rfl|true=>exact absurd (ih.1 rfl) hv
      subst hb
      simp[valid,hv,h1]
    ·cases hb
   ·simp[hq]at hb
  ·cases hb
theorem xy{ops:Array Oper}{e:Env}(h:Sat n e a){c:zt}(hc:Q5 ops e o.guard=some c):
  Bo o (yielded ops a.tmps)=true↔valid (zl a) c:=by
 unfold Bo
 cases hg:o.guard with
 |none=>rw[hg]at hc;simp only[Q5,Aa]at hc;simp[<-hc,valid]
 |some jp=>
  obtain⟨j,p⟩:=jp
  rw[hg]at hc
  simp only[Q5]at hc
  split at hc
  ·rename_i g hd
   split at hc
   ·rename_i cg b hl
    simp only[Aa]at hc
    subst hc
    have aa:((ops[j]?).bind (·.dst))=some g:=by
     simp only[yf]at hd
     split at hd
     ·rename_i o' Z;simp[Z,hd]
     ·cases hd
    have hf:=h.all _ (Xh hl)
    have hy:yielded ops a.tmps j=some p↔zl a g=.bool p:=by
     unfold yielded zl
     rw[aa]
     simp only[CK]
     cases ht:a.tmps[g]? with
     |none=>simp[A7,ht,undef]
     |some v=>cases v <;> simp[A7,ht]
    simp only[beq_iff_eq,hy,valid]
    constructor
    ·intro h1
     refine⟨h1,?_⟩
     by_cases hv:valid (zl a) cg
     ·exact hv
     ·have:=hf.2 hv
      simp only at this
      rw[h1]at this
      exact absurd this.symm zbl
    ·exact λh1=>h1.1
   ·cases hc
  ·cases hc
structure Keep (n:Nat) (h h':za):Prop where
 size:h.size<=h'.size
 get:∀i,i<n->h'[i]?=h[i]?
theorem Keep.refl(n:Nat)(h:za):Keep n h h:=⟨Ad _,λ_ _=>rfl⟩
theorem Keep.trans{a b c:za}(h:Keep n a b)(k:Keep m b c)(hm:n<=m):Keep n a c:=
 ⟨D6 h.size k.size,λi hi=>(k.get i (Dk hi hm)).trans (h.get i hi)⟩
theorem Keep.mono{a b:za}(h:Keep n a b)(hm:m<=n):Keep m a b:=⟨h.size,λi hi=>h.get i (Dk hi hm)⟩
theorem Keep.push(h:za)(o:Obj)(hn:n<=h.size):Keep n h (h.push o):=
 ⟨by simp,λi hi=>by rw[BV,if_neg (by omega)]⟩
end
section
variable {P:Program} {α:Type} {h:za} {v x i:Value} {t:TypeId} {g:Option Bool} {n l r:Int}
def zd(h:za)(a:Addr):Option Value:=
 match h[a.block]? with
 |some (.cells c _ _)=>if a.spot.isSome then none else c[a.off]?
 |_=>none
theorem zva(B:World)(d:Nat)(h:za)(a:Addr):(mk B d h).cell? a=zd h a:=rfl
def Zu(P:Program){α:Type}:Sem α->Option α
 |.pure a=>some a
 |.program k=>Zu P (k P)
 |.mark _ k=>Zu P k
 |_=>none
def QExec(P:Program){α:Type}(s:Sem α)(h:za)(x:α):Prop:=∀B d,s.run P (mk B d h)=.ok x (mk B d h)
theorem Wi{s:Sem α}{x:α}(h:Zu P s=some x)(w:World):s.run P w=.ok x w:=by
 induction s with
 |pure a=>simp only[Zu,Aa]at h;subst h;rfl
 |program k ih=>exact ih P h
 |mark m k ih=>exact ih h
 |_=>simp[Zu]at h
theorem zhi{s:Sem α}{x:α}(h:Zu P s=some x)(hp:za):QExec P s hp x:=λ_ _=>Wi h _
theorem QExec.bind{α β:Type}{s:Sem α}{f:α->Sem β}{x:α}{y:β}(h1:QExec P s h x)(h2:QExec P (f x) h y):QExec P (s >>= f) h y:=by
 intro B d
 rw[Sem.run_bind,h1 B d]
 exact h2 B d
theorem QExec.pure(x:α):QExec P (Da x) h x:=λ_ _=>rfl
theorem QExec.val{s:Sem Value}(h1:QExec P s h v):QExec P (s >>= λx=>Da (Dl x)) h (Dl v):=h1.bind (QExec.pure _)
theorem QExec.underlying{d:TypeDesc}(hd:P.underlying t=some d):QExec P (Go.underlying t) h d:=by
 intro B e
 simp[Go.underlying,program,hd,Sem.run]
def qt(P:Program)(t:TypeId):Nat:=match P.info? t with
 |some i=>i.size
 |none=>0
theorem QExec.sizeOf{i:TypeInfo}(hi:P.info? t=some i):QExec P (Go.sizeOf t) h (qt P t):=by
 intro B d
 simp[Go.sizeOf,typeInfo,program,hi,Sem.run,qt]
theorem info_of_underlying{d:TypeDesc}(hd:P.underlying t=some d):∃i,P.info? t=some i:=by
 unfold Program.underlying at hd
 cases h:P.info? t with
 |none=>rw[h]at hd;cases hd
 |some i=>exact⟨i,rfl⟩
inductive Atom where
 |int (k:IntKind)|bool|str|sl|mp|ptr|raw|ad
structure Sl where
 a:Option Addr
 len:Nat
 cap:Nat
@[reducible] def Atom.den:Atom->Type
 |.int _=>Int | .bool=>Bool | .str=>Bt | .sl=>Sl | .mp=>Option Nat | .ptr=>Option Addr | .raw=>Value | .ad=>Addr
def Atom.enc:(t:Atom)->t.den->Value
 |.int k,n=>.int k n
 |.bool,b=>.bool b
 |.str,s=>.string s
 |.sl,s=>.slice s.a s.len s.cap
 |.mp,m=>.map m
 |.ptr,p=>.pointer p
 |.raw,v=>v
 |.ad,p=>.pointer (some p)
def Atom.dec:(t:Atom)->Value->Option t.den
 |.int k,.int k' n=>if k=k' then some n else none
 |.bool,.bool b=>some b
 |.str,.string s=>some s
 |.sl,.slice a l c=>some ⟨a,l,c⟩
 |.mp,.map m=>some m
 |.ptr,.pointer p=>some p
 |.raw,v=>some v
 |.ad,.pointer (some p)=>some p
 |_,_=>none
theorem Atom.dec_enc(t:Atom)(x:t.den):t.dec (t.enc x)=some x:=by
 cases t <;> simp[Atom.dec,Atom.enc]
theorem Atom.enc_of_dec{t:Atom}{x:t.den}(h:t.dec v=some x):t.enc x=v:=by
 cases t with
 |ad=>
  cases v with
  |pointer p=>
   cases p with
   |none=>simp[Atom.dec]at h
   |some a=>simp[Atom.dec]at h;rw[h];rfl
  |_=>simp[Atom.dec]at h
 |_=>cases v <;> simp_all[Atom.dec,Atom.enc] <;> (subst h;first|rfl|exact⟨rfl,rfl,rfl⟩)
inductive VT where
 |one (t:Atom)
 |agg (l:List Atom)
inductive RT where
 |one (v:VT)
 |tup (l:List VT)
def zj1:List Atom->(List Value->Prop)->Prop
 |[],F=>F []
 |t::l,F=>∃x:t.den,zj1 l λvs=>F (t.enc x::vs)
def qcd:VT->(Value->Prop)->Prop
 |.one t,F=>∃x:t.den,F (t.enc x)
 |.agg l,F=>zj1 l λvs=>F (.agg vs.toArray)
def z4m:List VT->(List Value->Prop)->Prop
 |[],F=>F []
 |t::l,F=>qcd t λv=>z4m l λvs=>F (v::vs)
def zz2:RT->(Value->Prop)->Prop
 |.one v,F=>qcd v F
 |.tup l,F=>z4m l λvs=>F (.tuple vs.toArray)
def zbm:List Atom->(List Value->Prop)->Prop
 |[],F=>F []
 |t::l,F=>∀x:t.den,zbm l λvs=>F (t.enc x::vs)
def zvb:VT->(Value->Prop)->Prop
 |.one t,F=>∀x:t.den,F (t.enc x)
 |.agg l,F=>zbm l λvs=>F (.agg vs.toArray)
def zic:List VT->(List Value->Prop)->Prop
 |[],F=>F []
 |t::l,F=>zvb t λv=>zic l λvs=>F (v::vs)
def z8w:RT->(Value->Prop)->Prop
 |.one v,F=>zvb v F
 |.tup l,F=>zic l λvs=>F (.tuple vs.toArray)
theorem Z0:∀{l:List Atom} {F G:List Value->Prop},zj1 l F->zbm l G->∃vs,vs.length=l.length/\F vs/\G vs
 |[],_,_,h,g=>⟨[],rfl,h,g⟩
 |_::_,_,_,⟨x,h⟩,g=>let ⟨vs,h0,h1,h2⟩:=Z0 h (g x);⟨_,by simp[h0],h1,h2⟩
theorem je:∀(l:List Atom),zbm l λ_=>True
 |[]=>trivial
 |_::l=>λ_=>je l
theorem zo4{v:VT}{F G:Value->Prop}(h:qcd v F)(g:zvb v G):∃u,F u/\G u:=by
 cases v with
 |one t=>obtain⟨x,h⟩:=h;exact⟨_,h,g x⟩
 |agg l=>obtain⟨vs,_,h1,h2⟩:=Z0 h g;exact⟨_,h1,h2⟩
theorem zo5(v:VT):zvb v λ_=>True:=by
 cases v with
 |one t=>exact λ_=>trivial
 |agg l=>exact je l
theorem zj2:∀{l:List VT} {F G:List Value->Prop},z4m l F->zic l G->∃vs,F vs/\G vs
 |[],_,_,h,g=>⟨[],h,g⟩
 |_::_,_,_,h,g=>let ⟨_,h1,h2⟩:=zo4 h g;let ⟨_,h3,h4⟩:=zj2 h1 h2;⟨_,h3,h4⟩
theorem zea:∀(l:List VT),zic l λ_=>True
 |[]=>trivial
 |v::l=>by
  have h:=zea l
  simp only[zic]
  cases v with
  |one t=>exact λ_=>h
  |agg l'=>
   simp only[zvb]
   have key:∀(l':List Atom) (f:List Value->List Value),zbm l' λ_=>zic l λ_=>True:=λl' _=>by
    induction l' with
    |nil=>exact h
    |cons t l' ih=>exact λ_=>ih
   exact key l' id
theorem zvc{r:RT}{F G:Value->Prop}(h:zz2 r F)(g:z8w r G):∃v,F v/\G v:=by
 cases r with
 |one v=>exact zo4 h g
 |tup l=>obtain⟨vs,h1,h2⟩:=zj2 h g;exact⟨_,h1,h2⟩
theorem zfi{r:RT}{F:Value->Prop}(h:zz2 r F):∃v,F v:=by
 cases r with
 |one v=>obtain⟨u,h1,_⟩:=zo4 h (zo5 v);exact⟨u,h1⟩
 |tup l=>obtain⟨vs,h1,_⟩:=zj2 h (zea l);exact⟨_,h1⟩
def z2y:TypeDesc->Atom
 |.int k=>.int k
 |.bool=>.bool
 |.string=>.str
 |.slice _=>.sl
 |.map _ _=>.mp
 |.pointer _=>.ptr
 |_=>.raw
def zj3(P:Program):Nat->TypeId->Option (List Atom)
 |0,_=>none
 |n+1,t=>match P.underlying t with
  |some (.struct fs)=>fs.toList.foldr (λf l=>match zj3 P n f.type,l with
    |some x,some y=>some (x++y)
    |_,_=>none) (some [])
  |some (.array m e)=>match zj3 P n e with
    |some x=>some (D7 m x).flatten
    |none=>none
  |some d=>some [z2y d]
  |none=>none
def zu2(P:Program)(t:TypeId):Option VT:=match P.underlying t with
 |some (.struct _)|some (.array _ _)=>match zj3 P 8 t with
  |some l=>bif Nat.beq l.length (qt P t)then some (.agg l)else none
  |none=>none
 |some d=>some (.one (z2y d))
 |none=>none
def z8x(P:Program):List TypeId->Option (List VT)
 |[]=>some []
 |t::l=>match zu2 P t,z8x P l with
  |some x,some y=>some (x::y)
  |_,_=>none
def z8r(P:Program)(t:TypeId):Option RT:=match P.underlying t with
 |some (.tuple ts)=>match z8x P ts.toList with
  |some l=>some (.tup l)
  |none=>none
 |_=>match zu2 P t with
  |some v=>some (.one v)
  |none=>none
def req:Option Bool->Prop->Prop
 |none,p=>p
 |some b,p=>b=true->p
def gok:Option Bool->Prop
 |none=>True
 |some b=>b=true
theorem req.out{p:Prop}(h:req g p)(hg:gok g):p:=by
 cases g with
 |none=>exact h
 |some b=>exact h hg
def ze(h:za)(p:Addr):Nat->List Value->Prop
 |_,[]=>True
 |i,v::vs=>zd h (p.add i)=some v/\ze h p (i+1) vs
def ld(h:za)(p:Addr):Value->Prop
 |.agg vs=>ze h p 0 vs.toList
 |v=>zd h p=some v
def zj4(P:Program)(h:za)(t:TypeId)(p:Value)(g:Option Bool)(K:Value->Prop):Prop:=
 match p,zu2 P t with
 |.pointer (some p),some (.one a)=>∃x:a.den,req g (zd h p=some (a.enc x))/\K (a.enc x)
 |.pointer (some p),some (.agg l)=>zj1 l λvs=>req g (ze h p 0 vs)/\K (.agg vs.toArray)
 |_,_=>False
theorem Wj{P:Program}{h:za}{p:Addr}:∀(vs:List Value) (i:Nat) (acc:Array Value),ze h p i vs->QExec P (loadCellsFrom p i vs.length acc) h (acc++vs.toArray)
 |[],i,acc,_=>by intro B d;simp[loadCellsFrom]
 |v::vs,i,acc,⟨h1,h2⟩=>by
  have ih:=Wj (P:=P) vs (i+1) (acc.push v) h2
  intro B d
  simp only[Aw,loadCellsFrom,Sem.run_bind,run_load]
  rw[zva,h1]
  simp only[Result.andThen_ok]
  rw[ih B d]
  simp
theorem zbn{a:Atom}{p:Addr}(ht:zu2 P t=some (.one a))(hc:zd h p=some v):QExec P (loadVar t p) h v:=by
 unfold zu2 at ht
 cases hu:P.underlying t with
 |none=>rw[hu]at ht;cases ht
 |some d=>
  rw[hu]at ht
  intro B e
  have hq:=QExec.underlying (h:=h) hu B e
  have Z:(isAgg t).run P (mk B e h)=.ok false (mk B e h):=by
   unfold isAgg
   rw[Sem.run_bind,hq]
   cases d <;> first|rfl|(exfalso;revert ht;dsimp only;split <;> first|(intro h;cases h;done)|(cases hb:Nat.beq _ _ <;> intro h <;> cases h))
  unfold loadVar
  rw[Sem.run_bind,Z]
  simp only[Result.andThen_ok,A3,if_false,run_load]
  rw[zva,hc]
theorem zbo{l:List Atom}{p:Addr}{vs:List Value}(ht:zu2 P t=some (.agg l))(hl:vs.length=l.length)(hc:ze h p 0 vs):QExec P (loadVar t p) h (.agg vs.toArray):=by
 unfold zu2 at ht
 cases hu:P.underlying t with
 |none=>rw[hu]at ht;cases ht
 |some d=>
  rw[hu]at ht
  obtain⟨i,hi⟩:=info_of_underlying hu
  have Z:(∃fs,d=.struct fs)\/(∃n e,d=.array n e):=by
   cases d <;> first|exact Or.inl ⟨_,rfl⟩|exact Or.inr ⟨_,_,rfl⟩|(simp at ht)
  have aa:qt P t=l.length:=by
   have hm:(match zj3 P 8 t with
     |some l=>bif Nat.beq l.length (qt P t)then some (VT.agg l)else none
     |none=>none)=some (.agg l):=by
    rcases Z with⟨fs,rfl⟩|⟨n,e,rfl⟩ <;> exact ht
   split at hm
   ·rename_i l' _
    cases hb:Nat.beq l'.length (qt P t)with
    |false=>rw[hb]at hm;cases hm
    |true=>
     rw[hb]at hm
     simp only[cond_true,Aa,VT.agg.injEq]at hm
     rw[<-hm];exact(Ag hb).symm
   ·cases hm
  intro B e
  have hq:=QExec.underlying (h:=h) hu B e
  have hA:(isAgg t).run P (mk B e h)=.ok true (mk B e h):=by
   unfold isAgg
   rw[Sem.run_bind,hq]
   rcases Z with⟨fs,rfl⟩|⟨n,e',rfl⟩ <;> rfl
  have hS:=QExec.sizeOf (h:=h) hi B e
  unfold loadVar
  rw[Sem.run_bind,hA]
  simp only[Result.andThen_ok,if_true]
  rw[Sem.run_bind,hS]
  simp only[Result.andThen_ok]
  have hL:=Wj (P:=P) vs 0 #[] hc B e
  unfold loadCells
  rw[Sem.run_bind,aa,<-hl,hL]
  simp
theorem zfj{p:Value}{K:Value->Prop}(H:zj4 P h t p g K):
  ∃v,K v/\(gok g->QExec P (DO t p) h v):=by
 unfold zj4 at H
 split at H
 ·rename_i q a hv
  obtain⟨x,h1,h2⟩:=H
  exact⟨_,h2,λhg=>zbn hv (h1.out hg)⟩
 ·rename_i q l hv
  obtain⟨vs,h0,⟨h1,h2⟩,_⟩:=Z0 H (je l)
  exact⟨_,h2,λhg=>zbo hv h0 (h1.out hg)⟩
 ·exact H.elim
def zl5(P:Program)(t:TypeId)(x i:Value)(g:Option Bool)(K:Value->Prop):Prop:=
 match P.underlying t with
 |some (.slice el)=>match x,i with
  |.slice base len _,.int _ n=>∃a:Addr,req g (base=some a/\0<=n/\n<(len:Int))/\K (.pointer (some (a.add (n.toNat*qt P el))))
  |_,_=>False
 |some (.array len el)=>match x,i with
  |.pointer base,.int _ n=>∃a:Addr,req g (base=some a/\0<=n/\n<(len:Int))/\K (.pointer (some (a.add (n.toNat*qt P el))))
  |_,_=>False
 |_=>False
def qd(P:Program)(t:TypeId):Bool:=match P.info? t with
 |some _=>true
 |none=>false
theorem y0(h:qd P t=true):∃i,P.info? t=some i:=by
 unfold qd at h
 split at h
 ·exact⟨_,by assumption⟩
 ·cases h
theorem jz(t:TypeId)(B:World)(d:Nat):(∃i,P.info? t=some i)->(Go.sizeOf t).run P (mk B d h)=.ok (qt P t) (mk B d h):=λ⟨_,hi⟩=>QExec.sizeOf hi B d
theorem we{K:Value->Prop}
  (Z:∀el,(P.underlying t=some (.slice el)\/∃n,P.underlying t=some (.array n el))->∃i,P.info? el=some i) (H:zl5 P t x i g K):
  ∃v,K v/\(gok g->∀h:za,QExec P (Ef t x i) h v):=by
 unfold zl5 at H
 split at H
 ·rename_i el hu
  split at H
  ·rename_i base len cap k n
   obtain⟨a,h1,h2⟩:=H
   refine⟨_,h2,λhg=>?_⟩
   obtain⟨rfl,h3,h4⟩:=h1.out hg
   intro h B d
   have hq:=QExec.underlying (h:=h) hu B d
   have hs:=jz (h:=h) el B d (Z el (Or.inl hu))
   unfold Ef
   simp[asIntOf,Sem.run_bind,hq,hs,h3,h4]
  ·exact H.elim
 ·rename_i len el hu
  split at H
  ·rename_i base k n
   obtain⟨a,h1,h2⟩:=H
   refine⟨_,h2,λhg=>?_⟩
   obtain⟨rfl,h3,h4⟩:=h1.out hg
   intro h B d
   have hq:=QExec.underlying (h:=h) hu B d
   have hs:=jz (h:=h) el B d (Z el (Or.inr ⟨_,hu⟩))
   unfold Ef
   simp[asIntOf,Sem.run_bind,hq,hs,h3,h4,DG]
  ·exact H.elim
 ·exact H.elim
def zb(s:Bt)(i:Nat):Int:=((s.data[i]?.getD 0).toNat:Int)
def zfk(x i:Value)(g:Option Bool)(K:Value->Prop):Prop:=
 match x,i with
 |.string s,.int _ n=>req g (0<=n/\n<(s.size:Int))/\K (.int .u8 (zb s n.toNat))
 |_,_=>False
theorem z8y(s:Bt)(i:Nat)(h:i<s.size):s[i]?=some (s.data[i]?.getD 0):=by
 have h':i<s.data.size:=h
 rw[getElem?_pos s i h]
 simp[AI h']
 rfl
theorem Wk{K:Value->Prop}(hu:P.underlying t=some .string)(H:zfk x i g K):
  ∃v,K v/\(gok g->∀h:za,QExec P (Instr.index t x i) h v):=by
 unfold zfk at H
 split at H
 ·rename_i s k n
  obtain⟨h1,h2⟩:=H
  refine⟨_,h2,λhg=>?_⟩
  obtain⟨h3,h4⟩:=h1.out hg
  intro h B d
  have hq:=QExec.underlying (h:=h) hu B d
  unfold Instr.index
  have hb:=z8y s n.toNat (by omega)
  simp only[asIntOf,Sem.run_bind,hq,Sem.run_pure,Result.andThen_ok,h3,if_true,hb,zb]
 ·exact H.elim
def zq7(a:Option Addr)(sz l m:Nat):Option Addr:=if m=l then a else a.map (·.add (l*sz))
def yq:Option Value->Int->Option Int
 |none,d=>some d
 |some (.int _ n),_=>some n
 |some _,_=>none
def zq8(P:Program)(t:TypeId)(x:Value)(lo hi mx:Option Value)(g:Option Bool)(K:Value->Prop):Prop:=
 match P.underlying t with
 |some .string=>match x,mx with
  |.string s,none=>match yq lo 0,yq hi (s.size:Int)with
   |some l,some r=>req g (0<=l/\l<=r/\r<=(s.size:Int))/\K (.string (s.extract l.toNat r.toNat))
   |_,_=>False
  |_,_=>False
 |some (.slice el)=>match x with
  |.slice a len cap=>match yq lo 0,yq hi (len:Int),yq mx (cap:Int)with
   |some l,some r,some m=>(mx=none\/∃v,hi=some v)/\req g (0<=l/\l<=r/\r<=m/\m<=(cap:Int))/\K (.slice (zq7 a (qt P el) l.toNat m.toNat) (r.toNat-l.toNat) (m.toNat-l.toNat))
   |_,_,_=>False
  |_=>False
 |some (.array n el)=>match x,mx with
  |.pointer (some a),none=>match yq lo 0,yq hi (n:Int)with
   |some l,some r=>req g (0<=l/\l<=r/\r<=(n:Int))/\K (.slice (zq7 (some a) (qt P el) l.toNat n) (r.toNat-l.toNat) (n-l.toNat))
   |_,_=>False
  |_,_=>False
 |_=>False
theorem y5{v:Option Value}{d n:Int}(h:yq v d=some n):(v=none/\n=d)\/∃k,v=some (.int k n):=by
 unfold yq at h
 split at h
 ·exact Or.inl ⟨rfl,by simpa using h.symm⟩
 ·simp only[Aa]at h
  exact Or.inr ⟨_,by rw[h]⟩
 ·cases h
theorem yv{k:IntKind}{y:Nat}{c:BoundsCode}(h0:0<=n)(h1:n<=(y:Int)):QExec P (Instr.sliceBound (.int k n) y c) h n.toNat:=by
 intro B d
 simp[Instr.sliceBound,asIntOf,h0,h1]
theorem zid{n:Nat}{lo hi:Option Value}(hl:yq lo 0=some l)(hr:yq hi (n:Int)=some r)(h3:0<=l)(h4:l<=r)(h5:r<=(n:Int)):
  QExec P (Instr.sliceBounds false n n lo hi none) h (l.toNat,r.toNat,n):=by
 have e:(r.toNat:Int)=r:=Int.toNat_of_nonneg (by omega)
 rcases y5 hl with⟨rfl,rfl⟩|⟨k,rfl⟩ <;> rcases y5 hr with⟨rfl,rfl⟩|⟨k',rfl⟩
 ·exact QExec.pure _
 ·exact QExec.bind (QExec.pure n) (QExec.bind (yv (by omega) h5) (QExec.pure _))
 ·exact QExec.bind (QExec.pure n) (QExec.bind (QExec.pure n) (QExec.bind (yv h3 h4) (QExec.pure _)))
 ·exact QExec.bind (QExec.pure n) (QExec.bind (yv (by omega) h5) (QExec.bind (yv h3 (by omega)) (QExec.pure _)))
theorem zl6{len cap:Nat}{lo hi mx:Option Value}{l r m:Int}(hl:yq lo 0=some l)(hr:yq hi (len:Int)=some r)(hm:yq mx (cap:Int)=some m)
  (h0:mx=none\/∃v,hi=some v) (h3:0<=l) (h4:l<=r) (h5:r<=m) (h6:m<=(cap:Int)):
  QExec P (Instr.sliceBounds true len cap lo hi mx) h (l.toNat,r.toNat,m.toNat):=by
 have e:(r.toNat:Int)=r:=Int.toNat_of_nonneg (by omega)
 have e2:(m.toNat:Int)=m:=Int.toNat_of_nonneg (by omega)
 rcases y5 hm with⟨rfl,rfl⟩|⟨km,rfl⟩
 ·rcases y5 hl with⟨rfl,rfl⟩|⟨k,rfl⟩ <;> rcases y5 hr with⟨rfl,rfl⟩|⟨k',rfl⟩
  ·exact QExec.pure _
  ·exact QExec.bind (QExec.pure cap) (QExec.bind (yv (by omega) h5) (QExec.pure _))
  ·exact QExec.bind (QExec.pure cap) (QExec.bind (QExec.pure len) (QExec.bind (yv h3 h4) (QExec.pure _)))
  ·exact QExec.bind (QExec.pure cap) (QExec.bind (yv (by omega) h5) (QExec.bind (yv h3 (by omega)) (QExec.pure _)))
 ·rcases h0 with h0|⟨v,rfl⟩
  ·cases h0
  ·rcases y5 hr with⟨h9,_⟩|⟨k',h9⟩
   ·cases h9
   ·cases h9
    rcases y5 hl with⟨rfl,rfl⟩|⟨k,rfl⟩
    ·exact QExec.bind (x:=m.toNat) (yv (by omega) h6) (QExec.bind (yv (by omega) (by omega)) (QExec.pure _))
    ·exact QExec.bind (x:=m.toNat) (yv (by omega) h6) (QExec.bind (yv (by omega) (by omega)) (QExec.bind (yv h3 (by omega)) (QExec.pure _)))
theorem Qs{lo hi mx:Option Value}{K:Value->Prop}
  (Z:∀el,(P.underlying t=some (.slice el)\/∃n,P.underlying t=some (.array n el))->∃i,P.info? el=some i) (H:zq8 P t x lo hi mx g K):
  ∃v,K v/\(gok g->∀h:za,QExec P (DX t x lo hi mx) h v):=by
 unfold zq8 at H
 split at H
 ·rename_i hu
  split at H
  ·rename_i s
   split at H
   ·rename_i l r hl hr
    obtain⟨h1,h2⟩:=H
    refine⟨_,h2,λhg=>?_⟩
    obtain⟨h3,h4,h5⟩:=h1.out hg
    intro h B d
    have hq:=QExec.underlying (h:=h) hu B d
    have bb:=zid (P:=P) (h:=h) hl hr h3 h4 h5 B d
    unfold DX
    rw[Sem.run_bind,hq]
    simp only[Result.andThen_ok]
    unfold Instr.slice
    rw[Sem.run_bind,hq]
    simp[bb]
   ·exact H.elim
  ·exact H.elim
 ·rename_i el hu
  split at H
  ·rename_i a len cap
   split at H
   ·rename_i l r m hl hr hm
    obtain⟨h0,h1,h2⟩:=H
    refine⟨_,h2,λhg=>?_⟩
    obtain⟨h3,h4,h5,h6⟩:=h1.out hg
    intro h B d
    have hq:=QExec.underlying (h:=h) hu B d
    have hs:=jz (h:=h) el B d (Z el (.inl hu))
    have bb:=zl6 (P:=P) (h:=h) hl hr hm h0 h3 h4 h5 h6 B d
    unfold DX
    rw[Sem.run_bind,hq]
    simp only[Result.andThen_ok]
    unfold Instr.slice
    rw[Sem.run_bind,hq]
    simp[bb,hs,zq7]
   ·exact H.elim
  ·exact H.elim
 ·rename_i n el hu
  split at H
  ·rename_i a
   split at H
   ·rename_i l r hl hr
    obtain⟨h1,h2⟩:=H
    refine⟨_,h2,λhg=>?_⟩
    obtain⟨h3,h4,h5⟩:=h1.out hg
    intro h B d
    have hq:=QExec.underlying (h:=h) hu B d
    have hs:=jz (h:=h) el B d (Z el (.inr ⟨n,hu⟩))
    have bb:=zid (P:=P) (h:=h) hl hr h3 h4 h5 B d
    unfold DX
    rw[Sem.run_bind,hq]
    simp only[Result.andThen_ok,DG,Sem.run_bind,Sem.run_pure,bb,hs]
    unfold zq7
    split <;> rfl
   ·exact H.elim
  ·exact H.elim
 ·exact H.elim
end
section
variable {P:Program} {f:FuncId} {h:za} {K:Value -> za -> Prop} {t ty t':TypeId} {g:Option Bool} {w w':World} {v:Value} {o:Oper} {ρ:Operand -> Value} {a:Act}
def XC(P:Program)(f:FuncId)(args:Array Value)(h:za)(R:Value->za->Prop):Prop:=
 ∀B d,Calls P f args (mk B d h) λe w'=>∃v d' h',e=.returned v/\w'=mk B d' h'/\R v h'
theorem XC.mono{args:Array Value}{R R':Value->za->Prop}(H:XC P f args h R)(hR:∀v h',R v h'->R' v h'):XC P f args h R':=
 λB d=>(H B d).mono λ_ _ ⟨v,d',h',e1,e2,r⟩=>⟨v,d',h',e1,e2,hR _ _ r⟩
def XRun(P:Program)(s:Sem Value)(h:za)(K:Value->za->Prop):Prop:=∀B d,∃v d' h',s.run P (mk B d h)=.ok v (mk B d' h')/\K v h'
def XRunU(P:Program)(s:Sem Unit)(h:za)(K:za->Prop):Prop:=∀B d,∃d' h',s.run P (mk B d h)=.ok () (mk B d' h')/\K h'
theorem XRun.mono{s:Sem Value}{K K':Value->za->Prop}(H:XRun P s h K)(hK:∀v h',K v h'->K' v h'):XRun P s h K':=
 λB d=>let ⟨v,d',h',e,k⟩:=H B d;⟨v,d',h',e,hK _ _ k⟩
theorem XRunU.mono{s:Sem Unit}{K K':za->Prop}(H:XRunU P s h K)(hK:∀h',K h'->K' h'):XRunU P s h K':=
 λB d=>let ⟨d',h',e,k⟩:=H B d;⟨d',h',e,hK _ k⟩
def Wl(n:Nat):Prop:=n<=9223372036854775807
def zcw(P:Program)(s:Sem Next)(K:Value->Prop):Prop:=match Zu P s with
 |some (.value v)=>K v
 |_=>False
def zz3(P:Program)(ty:TypeId)(s:Sem Value)(g:Option Bool)(h:za)(K:Value->Prop):Prop:=match z8r P ty with
 |some rt=>zz2 rt λv=>req g (QExec P s h v)/\K v
 |none=>False
def zs4(P:Program)(t:TypeId):Bool:=match P.underlying t with
 |some (.slice _)=>true
 |_=>false
def zs5(P:Program)(t:TypeId):Bool:=match P.underlying t with
 |some (.pointer e)=>Nat.beq e (P.pointee t)
 |_=>false
theorem zq9(h:zs5 P t=true):P.underlying t=some (.pointer (P.pointee t)):=by
 unfold zs5 at h
 split at h
 ·rename_i e hu;rw[hu,Ag h]
 ·cases h
def qbt(P:Program)(t:TypeId)(s:Sem Next)(op:BinOp)(x y:Value)(g:Option Bool)(K:Value->Prop):Prop:=
 match op,x,y with
 |.eql,.slice a _ _,.slice none 0 0=>bif zs4 P t then K (.bool a.isNone)else zcw P s K
 |.neq,.slice a _ _,.slice none 0 0=>bif zs4 P t then K (.bool (!a.isNone))else zcw P s K
 |.eql,.pointer a,.pointer none=>bif zs5 P t then K (.bool a.isNone)else zcw P s K
 |.neq,.pointer a,.pointer none=>bif zs5 P t then K (.bool (!a.isNone))else zcw P s K
 |.quo,.int k a,.int k' b=>k=k'/\req g (b≠0)/\K (.int k (k.wrap (a.tdiv b)))
 |.rem,.int k a,.int k' b=>k=k'/\req g (b≠0)/\K (.int k (a.tmod b))
 |.add,.string a,.string b=>req g (Wl (a.size+b.size))/\K (.string (a++b))
 |_,_,_=>zcw P s K
def z4n(op:BinOp)(y:Operand):Bool:=match y with
 |.const _=>false
 |_=>match op with
  |.shl | .shr=>true
  |_=>false
def shF(op:BinOp)(x y:Value)(g:Option Bool)(K:Value->Prop):Prop:=
 match x,y with
 |.int k a,.int _ b=>match op with
  |.shl=>req g (0<=b)/\K (.int k (k.wrap (a*2 ^ (min b.toNat k.bits))))
  |.shr=>req g (0<=b)/\K (.int k (a.fdiv (2 ^ (min b.toNat k.bits))))
  |_=>False
 |_,_=>False
def z8z(P:Program)(t:TypeId)(y:Operand):Bool:=match y with
 |.const .nilIface=>match P.underlying t with
  |some (.interface _)=>true
  |_=>false
 |_=>false
def ifc:Value->Bool
 |.nilIface=>true
 |.iface _ _=>true
 |_=>false
def z81:Value->Bool
 |.nilIface=>true
 |_=>false
def nvF(op:BinOp)(x y:Value)(g:Option Bool)(K:Value->Prop):Prop:=match y with
 |.nilIface=>match op with
  |.eql=>req g (ifc x=true)/\K (.bool (z81 x))
  |.neq=>req g (ifc x=true)/\K (.bool (!z81 x))
  |_=>False
 |_=>False
def zie(b:Builtin)(Z:Array TypeId)(aa:TypeId)(args:Array Value):Option (Sem Value):=
 match b with
 |.append=>some (AB Z aa args)
 |.copy=>some (Builtin.copy_ Z aa args)
 |.clear=>some (Builtin.clear_ Z aa args)
 |.delete=>some (Builtin.delete_ Z aa args)
 |.len=>some (DR Z aa args)
 |_=>none
def qce(P:Program)(s:Sem Next)(ty:TypeId)(Z:Array TypeId)(args:Array Value)(g:Option Bool)(h:za)(K:Value->Prop):Prop:=
 match (args[0]?:Option Value)with
 |some (Value.map _)=>zz3 P ty (DR Z ty args) g h K
 |_=>zcw P s K
def Wm(P:Program)(t:TypeId):Bool:=match P.underlying t with
 |some (.slice el)=>qd P el
 |some (.array _ el)=>qd P el
 |_=>true
theorem j8(h:Wm P t=true):∀el,(P.underlying t=some (.slice el)\/∃n,P.underlying t=some (.array n el))->∃i,P.info? el=some i:=by
 intro el Z
 unfold Wm at h
 rcases Z with Z|⟨n,Z⟩ <;> rw[Z]at h <;> exact y0 h
def zl7(P:Program)(t:TypeId):Bool:=match P.underlying t with
 |some .string=>true
 |_=>false
theorem zl8(h:zl7 P t=true):P.underlying t=some .string:=by
 unfold zl7 at h
 split at h
 ·assumption
 ·cases h
def qbu(P:Program)(s:Sem Next)(x:Value)(g:Option Bool)(K:Value->Prop):Prop:=match x with
 |.pointer p=>∃a:Addr,req g (p=some a)/\K (.pointer (some a))
 |_=>zcw P s K
def w9(P:Program)(o:Oper)(ρ:Operand->Value)(g:Option Bool)(h:za)(K:Value->Prop):Prop:=
 match o.op with
 |.load t a=>zj4 P h t (ρ a) g K
 |.indexAddr t x i=>bif Wm P t then zl5 P t (ρ x) (ρ i) g K else False
 |.index t x i=>bif zl7 P t then zfk (ρ x) (ρ i) g K else zcw P (execOp ρ o) K
 |.slice t x lo hi mx=>bif Wm P t then zq8 P t (ρ x) (lo.map ρ) (hi.map ρ) (mx.map ρ) g K else False
 |.binOp op t x y _=>bif z4n op y then shF op (ρ x) (ρ y) g K else bif z8z P t y then nvF op (ρ x) (ρ y) g K else qbt P t (execOp ρ o) op (ρ x) (ρ y) g K
 |.lookup t m k ok=>zz3 P o.type (Em t (ρ m) (ρ k) ok) g h K
 |.nilCheck x=>qbu P (execOp ρ o) (ρ x) g K
 |.call c=>match c.callee with
  |.builtin .len=>qce P (execOp ρ o) o.type c.argTypes (c.args.map ρ) g h K
  |_=>zcw P (execOp ρ o) K
 |_=>zcw P (execOp ρ o) K
theorem zm{s:Sem Next}{K:Value->Prop}(H:zcw P s K)(g:Option Bool):∃v,K v/\(gok g->∀h:za,QExec P s h (.value v)):=by
 unfold zcw at H
 split at H
 ·rename_i v hv
  exact⟨v,H,λ_ h=>zhi hv h⟩
 ·exact H.elim
theorem zfl{s:Sem Value}{K:Value->Prop}(H:zz3 P ty s g h K):∃v,K v/\(gok g->QExec P s h v):=by
 unfold zz3 at H
 split at H
 ·obtain⟨v,h1,h2⟩:=zfi H
  exact⟨v,h2,λhg=>h1.out hg⟩
 ·exact H.elim
theorem wq{op:BinOp}(t:TypeId)(x y:Operand)(a b:Value)(h1:(op matches .eql | .neq)=false):eqGuard op t x y a b=pure ():=by
 unfold eqGuard
 cases op <;> simp at h1 <;> rfl
theorem zra{s:Sem Value}(h:s.run P w=.ok v w'):(s >>= λx=>(Da (Dl x):Sem Next)).run P w=.ok (.value v) w':=by
 rw[Sem.run_bind,h];rfl
theorem zif{s:Sem Next}{K:Value->Prop}(h:za)(H:∃v,K v/\(gok g->∀h:za,QExec P s h (.value v))):∃v,K v/\(gok g->QExec P s h (.value v)):=
 let ⟨v,h1,h2⟩:=H;⟨v,h1,λhg=>h2 hg h⟩
theorem zz4{op:BinOp}{x y:Operand}(ho:o.op=.binOp op t x y t'){K:Value->Prop}
  (H:qbt P t (execOp ρ o) op (ρ x) (ρ y) g K):∃v,K v/\(gok g->∀h:za,QExec P (execOp ρ o) h (.value v)):=by
 have aa:∀(op:BinOp) (x y:Operand) (a b:Option Addr) (l c l' c':Nat) (w:World),(eqGuard op t x y (.slice a l c) (.slice b l' c')).run P w=.ok () w:=λop x y a b l c l' c' w=>by
  unfold eqGuard;cases op <;> rfl
 have Z:∀(op:BinOp) (x y:Operand) (a b:Option Addr) (w:World),(eqGuard op t x y (.pointer a) (.pointer b)).run P w=.ok () w:=λop x y a b w=>by
  unfold eqGuard;cases op <;> rfl
 unfold qbt at H
 split at H
 ·rename_i a l c hx hy
  cases hs:zs4 P t with
  |false=>rw[hs]at H;exact zm H g
  |true=>
   rw[hs,cond_true]at H
   refine⟨_,H,λhg h B d=>?_⟩
   have hu:∃el,P.underlying t=some (.slice el):=by
    unfold zs4 at hs
    split at hs
    ·rename_i el hu;exact⟨el,hu⟩
    ·cases hs
   obtain⟨el,hu⟩:=hu
   simp only[execOp,ho,hx,hy]
   refine zra ?_
   rw[Sem.run_bind,aa]
   simp only[Result.andThen_ok,binOp,Sem.run_bind,run_equal_slice_nil _ t _ _ _ _ hu];rfl
 ·rename_i a l c hx hy
  cases hs:zs4 P t with
  |false=>rw[hs]at H;exact zm H g
  |true=>
   rw[hs,cond_true]at H
   refine⟨_,H,λhg h B d=>?_⟩
   have hu:∃el,P.underlying t=some (.slice el):=by
    unfold zs4 at hs
    split at hs
    ·rename_i el hu;exact⟨el,hu⟩
    ·cases hs
   obtain⟨el,hu⟩:=hu
   simp only[execOp,ho,hx,hy]
   refine zra ?_
   rw[Sem.run_bind,aa]
   simp only[Result.andThen_ok,binOp,Sem.run_bind,run_equal_slice_nil _ t _ _ _ _ hu];rfl
 ·rename_i a hx hy
  cases hs:zs5 P t with
  |false=>rw[hs]at H;exact zm H g
  |true=>
   rw[hs,cond_true]at H
   refine⟨_,H,λhg h B d=>?_⟩
   have hu:=zq9 hs
   simp only[execOp,ho,hx,hy]
   refine zra ?_
   rw[Sem.run_bind,Z]
   simp only[Result.andThen_ok,binOp,Sem.run_bind,run_equal_pointer_nil _ t _ hu];rfl
 ·rename_i a hx hy
  cases hs:zs5 P t with
  |false=>rw[hs]at H;exact zm H g
  |true=>
   rw[hs,cond_true]at H
   refine⟨_,H,λhg h B d=>?_⟩
   have hu:=zq9 hs
   simp only[execOp,ho,hx,hy]
   refine zra ?_
   rw[Sem.run_bind,Z]
   simp only[Result.andThen_ok,binOp,Sem.run_bind,run_equal_pointer_nil _ t _ hu];rfl
 ·rename_i k a k' b hx hy
  obtain⟨rfl,h1,h2⟩:=H
  refine⟨_,h2,λhg=>?_⟩
  have hb:=h1.out hg
  intro h B d
  simp only[execOp,ho,hx,hy]
  rw[wq _ _ _ _ _ rfl]
  simp[binOp,Op.intDiv,hb]
 ·rename_i k a k' b hx hy
  obtain⟨rfl,h1,h2⟩:=H
  refine⟨_,h2,λhg=>?_⟩
  have hb:=h1.out hg
  intro h B d
  simp only[execOp,ho,hx,hy]
  rw[wq _ _ _ _ _ rfl]
  simp[binOp,Op.intDiv,hb]
 ·rename_i a b hx hy
  obtain⟨h1,h2⟩:=H
  refine⟨_,h2,λhg=>?_⟩
  have hb:=h1.out hg
  intro h B d
  simp only[execOp,ho,hx,hy]
  rw[wq _ _ _ _ _ rfl]
  have hm:¬((a.size+b.size:Nat):Int)>IntKind.i64.max:=by
   unfold Wl at hb
   have:IntKind.i64.max=9223372036854775807:=by decide
   omega
  simp only[binOp,Op.stringOp,if_neg hm]
  rfl
 ·exact zm H g
theorem z4o{op:BinOp}{x y:Operand}(ho:o.op=.binOp op t x y t'){K:Value->Prop}
  (H:shF op (ρ x) (ρ y) g K):∃v,K v/\(gok g->∀h:za,QExec P (execOp ρ o) h (.value v)):=by
 unfold shF at H
 split at H
 ·rename_i k a k' b hx hy
  split at H
  ·obtain⟨h1,h2⟩:=H
   refine⟨_,h2,λhg h B d=>?_⟩
   have hb:=h1.out hg
   simp only[execOp,ho,hx,hy]
   rw[wq _ _ _ _ _ rfl]
   simp only[binOp,Op.shift,if_neg (show¬b<0 by omega)];rfl
  ·obtain⟨h1,h2⟩:=H
   refine⟨_,h2,λhg h B d=>?_⟩
   have hb:=h1.out hg
   simp only[execOp,ho,hx,hy]
   rw[wq _ _ _ _ _ rfl]
   simp only[binOp,Op.shift,if_neg (show¬b<0 by omega)];rfl
  ·exact H.elim
 ·exact H.elim
theorem z4p{op:BinOp}{x y:Operand}(ho:o.op=.binOp op t x y t'){K:Value->Prop}
  (hb:z8z P t y=true) (H:nvF op (ρ x) (ρ y) g K):∃v,K v/\(gok g->∀h:za,QExec P (execOp ρ o) h (.value v)):=by
 have hu:∃ms,P.underlying t=some (.interface ms)/\y=.const .nilIface:=by
  unfold z8z at hb
  split at hb
  ·split at hb
   ·rename_i ms hu;exact⟨ms,hu,rfl⟩
   ·cases hb
  ·cases hb
 obtain⟨ms,hu,rfl⟩:=hu
 have key:∀{u:Value} (h:za),ifc u=true->QExec P (Er t u .nilIface) h (z81 u):=by
  intro u h hi B d
  have hq:=QExec.underlying (h:=h) hu B d
  unfold Er Op.maxDepth
  cases u <;> first|(cases hi;done)|(unfold Op.equalIn;rw[Sem.run_bind,hq];rfl)
 have hg:∀op u (h:za),ifc u=true->QExec P (eqGuard op t x (.const .nilIface) u .nilIface) h ():=by
  intro op u h hi B d
  unfold eqGuard
  cases u <;> first|(cases hi;done)|(cases op <;> simp)
 have Z:∀op u,ifc u=true->(binOp op t u .nilIface=match op with | .eql=>(do pure (.bool (<-Er t u .nilIface))) | .neq=>(do pure (.bool (!(<-Er t u .nilIface))))|_=>binOp op t u .nilIface):=by
  intro op u hi
  cases u <;> first|(cases hi;done)|(cases op <;> rfl)
 unfold nvF at H
 split at H
 ·rename_i hy
  split at H
  ·refine⟨_,H.2,λaa h=>?_⟩
   have hi:=H.1.out aa
   simp only[execOp,ho,hy]
   refine QExec.val ((hg _ _ h hi).bind ?_)
   rw[Z _ _ hi]
   exact(key h hi).bind (QExec.pure _)
  ·refine⟨_,H.2,λaa h=>?_⟩
   have hi:=H.1.out aa
   simp only[execOp,ho,hy]
   refine QExec.val ((hg _ _ h hi).bind ?_)
   rw[Z _ _ hi]
   exact(key h hi).bind (QExec.pure _)
  ·exact H.elim
 ·exact H.elim
theorem zj5{op:BinOp}{x y:Operand}(ho:o.op=.binOp op t x y t'){K:Value->Prop}
  (H:bif z4n op y then shF op (ρ x) (ρ y) g K else bif z8z P t y then nvF op (ρ x) (ρ y) g K else qbt P t (execOp ρ o) op (ρ x) (ρ y) g K):∃v,K v/\(gok g->∀h:za,QExec P (execOp ρ o) h (.value v)):=by
 cases hb:z4n op y with
 |true=>rw[hb]at H;exact z4o ho H
 |false=>
  rw[hb]at H
  cases hn:z8z P t y with
  |true=>rw[hn]at H;exact z4p ho hn H
  |false=>rw[hn]at H;exact zz4 ho H
theorem zs6{c:Call}(ho:o.op=.call c)(hc:c.callee=.builtin .len){K:Value->Prop}
  (H:qce P (execOp ρ o) o.type c.argTypes (c.args.map ρ) g h K):∃v,K v/\(gok g->QExec P (execOp ρ o) h (.value v)):=by
 unfold qce at H
 split at H
 ·obtain⟨v,h1,h2⟩:=zfl H
  refine⟨v,h1,λhg=>?_⟩
  have:=h2 hg
  intro B d
  simp only[execOp,ho,resolve,hc,Sem.run_bind,Sem.run_pure,Result.andThen_ok,invoke,builtin]
  rw[this B d]
  rfl
 ·exact zif h (zm H g)
theorem zae{K:Value->Prop}(H:w9 P o ρ g h K):∃v,K v/\(gok g->QExec P (execOp ρ o) h (.value v)):=by
 unfold w9 at H
 split at H
 ·rename_i t a ho
  obtain⟨v,h1,h2⟩:=zfj H
  refine⟨v,h1,λhg=>?_⟩
  simp only[execOp,ho]
  exact(h2 hg).val
 ·rename_i t x i ho
  cases he:Wm P t with
  |false=>rw[he]at H;exact H.elim
  |true=>
   rw[he]at H
   obtain⟨v,h1,h2⟩:=we (j8 he) H
   refine⟨v,h1,λhg=>?_⟩
   simp only[execOp,ho]
   exact(h2 hg h).val
 ·rename_i t x i ho
  cases he:zl7 P t with
  |false=>rw[he]at H;exact zif h (zm H g)
  |true=>
   rw[he]at H
   obtain⟨v,h1,h2⟩:=Wk (zl8 he) H
   refine⟨v,h1,λhg=>?_⟩
   simp only[execOp,ho]
   exact(h2 hg h).val
 ·rename_i t x lo hi mx ho
  cases he:Wm P t with
  |false=>rw[he]at H;exact H.elim
  |true=>
   rw[he]at H
   obtain⟨v,h1,h2⟩:=Qs (j8 he) H
   refine⟨v,h1,λhg=>?_⟩
   simp only[execOp,ho]
   exact(h2 hg h).val
 ·rename_i op t x y t' ho
  exact zif h (zj5 ho H)
 ·rename_i t m k ok ho
  obtain⟨v,h1,h2⟩:=zfl H
  refine⟨v,h1,λhg=>?_⟩
  simp only[execOp,ho]
  exact(h2 hg).val
 ·rename_i x ho
  unfold qbu at H
  split at H
  ·rename_i p hx
   obtain⟨a,h1,h2⟩:=H
   refine⟨_,h2,λhg=>?_⟩
   have hp:=h1.out hg
   subst hp
   intro B d
   simp only[execOp,ho,hx]
   rfl
  ·exact zif h (zm H g)
 ·rename_i c ho
  split at H
  ·rename_i hc
   exact zs6 ho hc H
  ·exact zif h (zm H g)
 ·exact zif h (zm H g)
def zem(o:Oper):Bool:=match o.op with
 |.lookup .. => false
 |.call c=>match c.callee with
  |.builtin .len=>false
  |_=>true
 |_=>true
theorem zz5{p:Addr}(H:zd h p=some v):p.block<h.size:=by
 unfold zd at H
 cases e:h[p.block]? with
 |none=>simp[e]at H
 |some o=>exact(Ac.1 e).1
theorem zfm{h h':za}(k:Keep h.size h h'){p:Addr}(H:zd h p=some v):zd h' p=some v:=by
 have:=zz5 H
 unfold zd at H ⊢
 rw[k.get _ this];exact H
theorem zfn{h h':za}(k:Keep h.size h h'){p:Addr}:∀{vs:List Value} {i:Nat},ze h p i vs->ze h' p i vs
 |[],_,_=>trivial
 |_::_,_,⟨h1,h2⟩=>⟨zfm k h1,zfn k h2⟩
theorem Xi{K:Value->Prop}(hf:zem o=true)(H:w9 P o ρ g h K):∃v,K v/\(gok g->∀h',Keep h.size h h'->QExec P (execOp ρ o) h' (.value v)):=by
 unfold w9 at H
 split at H
 ·rename_i t a ho
  unfold zj4 at H
  split at H
  ·rename_i q b hp hv
   obtain⟨x,h1,h2⟩:=H
   refine⟨_,h2,λhg h' hk=>?_⟩
   simp only[execOp,ho,hp]
   exact(zbn hv (zfm hk (h1.out hg))).val
  ·rename_i q l hp hv
   obtain⟨vs,h0,⟨h1,h2⟩,_⟩:=Z0 H (je l)
   refine⟨_,h2,λhg h' hk=>?_⟩
   simp only[execOp,ho,hp]
   exact(zbo hv h0 (zfn hk (h1.out hg))).val
  ·exact H.elim
 ·rename_i t x i ho
  cases he:Wm P t with
  |false=>rw[he]at H;exact H.elim
  |true=>
   rw[he]at H
   obtain⟨v,h1,h2⟩:=we (j8 he) H
   refine⟨v,h1,λhg h' _=>?_⟩
   simp only[execOp,ho]
   exact(h2 hg h').val
 ·rename_i t x i ho
  cases he:zl7 P t with
  |false=>
   rw[he]at H
   obtain⟨v,h1,h2⟩:=zm H g
   exact⟨v,h1,λhg h' _=>h2 hg h'⟩
  |true=>
   rw[he]at H
   obtain⟨v,h1,h2⟩:=Wk (zl8 he) H
   refine⟨v,h1,λhg h' _=>?_⟩
   simp only[execOp,ho]
   exact(h2 hg h').val
 ·rename_i t x lo hi mx ho
  cases he:Wm P t with
  |false=>rw[he]at H;exact H.elim
  |true=>
   rw[he]at H
   obtain⟨v,h1,h2⟩:=Qs (j8 he) H
   refine⟨v,h1,λhg h' _=>?_⟩
   simp only[execOp,ho]
   exact(h2 hg h').val
 ·rename_i op t x y t' ho
  obtain⟨v,h1,h2⟩:=zj5 ho H
  exact⟨v,h1,λhg h' _=>h2 hg h'⟩
 ·rename_i t m k ok ho
  simp[zem,ho]at hf
 ·rename_i x ho
  unfold qbu at H
  split at H
  ·rename_i p hx
   obtain⟨a,h1,h2⟩:=H
   refine⟨_,h2,λhg h' _=>?_⟩
   have hp:=h1.out hg
   subst hp
   intro B d
   simp only[execOp,ho,hx]
   rfl
  ·obtain⟨v,h1,h2⟩:=zm H g
   exact⟨v,h1,λhg h' _=>h2 hg h'⟩
 ·rename_i c ho
  split at H
  ·rename_i hc
   simp[zem,ho,hc]at hf
  ·obtain⟨v,h1,h2⟩:=zm H g
   exact⟨v,h1,λhg h' _=>h2 hg h'⟩
 ·obtain⟨v,h1,h2⟩:=zm H g
  exact⟨v,h1,λhg h' _=>h2 hg h'⟩
def wpN(P:Program){α:Type}:Sem α->za->(α->za->Prop)->Prop
 |.pure a,h,K=>K a h
 |.program k,h,K=>wpN P (k P) h K
 |.mark _ k,h,K=>wpN P k h K
 |.new o k,h,K=>wpN P (k h.size) (h.push o) K
 |_,_,_=>False
theorem zfo{α:Type}{s:Sem α}{K:α->za->Prop}(H:wpN P s h K)(B:World)(d:Nat):∃x h',s.run P (mk B d h)=.ok x (mk B d h')/\K x h':=by
 induction s generalizing h with
 |pure a=>exact⟨a,h,rfl,H⟩
 |program k ih=>exact ih P H
 |mark m k ih=>exact ih H
 |new o k ih=>
  obtain⟨x,h',h1,h2⟩:=ih h.size H
  exact⟨x,h',h1,h2⟩
 |_=>exact H.elim
def typed(P:Program)(ty:TypeId)(v:Value)(K:Value->Prop):Prop:=match z8r P ty with
 |some rt=>zz2 rt λv'=>v=v'/\K v'
 |none=>False
theorem wu{K:Value->Prop}(H:typed P ty v K):K v:=by
 unfold typed at H
 split at H
 ·obtain⟨v',h1,h2⟩:=zfi H;rw[h1];exact h2
 ·exact H.elim
def zp(P:Program)(f:FuncId):Bool:=match P.funcs[f]? with
 |some fn=>(match fn.body with
  |some _=>true
  | none => false) && !(fn.name == "runtime.NumGoroutine")
 |none=>false
theorem Qt(h:zp P f=true)(args:Array Value)(w:World):(callFunc f args).run P w=.ok (.enter f args) w:=by
 unfold zp at h
 split at h
 ·rename_i fn hf
  simp only[AY,CZ]at h
  obtain⟨h1,h2⟩:=h
  unfold callFunc
  simp only[program,Sem.run_bind,Sem.run,Result.andThen_ok,hf]
  split at h1
  ·rename_i b hb
   simp[h2,hb]
  ·cases h1
 ·cases h
def z9a(P:Program)(v:Value)(args:Array Value)(K:FuncId->Array Value->Prop):Prop:=match v with
 |.func (.func f) first cap=>zp P f=true/\K f (first++args++cap)
 |_=>False
theorem zig{c:Call}{x:Operand}(ho:o.op=.call c)(hc:c.callee=.value x){K:FuncId->Array Value->Prop}(H:z9a P (ρ x) (c.args.map ρ) K):
  ∃f args,K f args/\∀w,(execOp ρ o).run P w=.ok (.enter f args) w:=by
 unfold z9a at H
 split at H
 ·rename_i f first cap hv
  obtain⟨h1,h2⟩:=H
  refine⟨_,_,h2,λw=>?_⟩
  simp only[execOp,ho,resolve,hc,hv,Df,Sem.run_bind,Sem.run_pure,Result.andThen_ok,invoke]
  exact Qt h1 _ w
 ·exact H.elim
def Y5:Operand->Bool
 |.func _=>true
 |_=>false
def qcf(P:Program)(f:FuncId):Bool:=match P.funcs[f]? with
 |some fn=>(match fn.body with
  |some _=>false
  |none=>true)
 |none=>false
def qd5(P:Program)(f:FuncId)(args:Array Value)(h:za)(K:Value->za->Prop):Prop:=∀B d,∃v d' h',(callFunc f args).run P (mk B d h)=.ok (.value v) (mk B d' h')/\K v h'
def z2z(P:Program):Operand->Bool
 |.func f=>qcf P f
 |_=>false
def qcg(P:Program)(v:Value)(args:Array Value)(h:za)(K:Value->za->Prop):Prop:=match v with
 |.func (.func f) first cap=>qd5 P f (first++args++cap) h K
 |_=>False
theorem zs7{c:Call}{x:Operand}(ho:o.op=.call c)(hc:c.callee=.value x)(H:qcg P (ρ x) (c.args.map ρ) h K)(B:World)(d:Nat):
  ∃v d' h',(execOp ρ o).run P (mk B d h)=.ok (.value v) (mk B d' h')/\K v h':=by
 unfold qcg at H
 split at H
 ·rename_i f first cap hv
  obtain⟨v,d',h',h1,h2⟩:=H B d
  refine⟨v,d',h',?_,h2⟩
  simp only[execOp,ho,resolve,hc,hv,Df,Sem.run_bind,Sem.run_pure,Result.andThen_ok,invoke]
  exact h1
 ·exact H.elim
def z9b(P:Program)(t:TypeId):Bool:=match P.underlying t with
 |some (.map _ _)=>true
 |_=>false
def zrb(P:Program)(o:Oper)(ρ:Operand->Value)(h:za)(K:Value->za->Prop):Prop:=
 match o.op with
 |.store t a x=>XRunU P (An t (ρ a) (ρ x)) h λh'=>K undef h'
 |.mapUpdate t m k x=>XRunU P (Dt t (ρ m) (ρ k) (ρ x)) h λh'=>K undef h'
 |.insert t m k x=>XRunU P (Dt t (ρ m) (ρ k) (ρ x)) h λh'=>K undef h'
 |.entryStore t m s x=>XRunU P (Instr.entryStore t (ρ m) (ρ s) (ρ x)) h λh'=>K undef h'
 |.mapEntry t m k=>XRun P (Instr.mapEntry t (ρ m) (ρ k)) h λv h'=>typed P o.type v λv'=>K v' h'
 |.makeSlice t l c=>XRun P (Instr.makeSlice t (ρ l) (ρ c)) h λv h'=>typed P o.type v λv'=>K v' h'
 |.convert s t x=>XRun P (convert s t (ρ x)) h λv h'=>typed P o.type v λv'=>K v' h'
 |.typeAssert x t t' ok=>XRun P (Instr.typeAssert (ρ x) t t' ok) h λv h'=>typed P o.type v λv'=>K v' h'
 |.range t x=>bif z9b P t then XRun P (Instr.range t (ρ x)) h λv h'=>∃q:Option Addr,v=.pointer q/\K (.pointer q) h' else wpN P (execOp ρ o) h λnx h'=>match nx with
   |.value v=>K v h'
   |.skip=>K undef h'
   |_=>False
 |.next x s=>bif s then XRun P (Instr.next (ρ x) s o.type) h λv h'=>(v=.tuple #[.bool false]/\K (.tuple #[.bool false]) h')\/∃k u:Int,v=.tuple #[.bool true,.int .i64 k,.int .i32 u]/\K (.tuple #[.bool true,.int .i64 k,.int .i32 u]) h'
  else XRun P (Instr.next (ρ x) s o.type) h λv h'=>(v=.tuple #[.bool false]/\K (.tuple #[.bool false]) h')\/∃k u:Value,v=.tuple #[.bool true,k,u]/\K (.tuple #[.bool true,k,u]) h'
 |.entry x=>XRun P (Instr.entry (ρ x)) h λv h'=>∃k u:Value,v=.tuple #[k,u]/\K (.tuple #[k,u]) h'
 |.call c=>match c.callee with
  |.builtin b=>match zie b c.argTypes o.type (c.args.map ρ)with
   |some s=>XRun P s h λv h'=>typed P o.type v λv'=>K v' h'
   |none=>False
  |.value x=>bif z2z P x then qcg P (ρ x) (c.args.map ρ) h (λv h'=>typed P o.type v λv'=>K v' h')else bif Y5 x then(wpN P (execOp ρ o) h λnx h'=>match nx with
   |.enter f args=>XC P f args h' λv Z=>typed P o.type v λv'=>K v' Z
   |.value v=>K v h'
   |_=>False)else z9a P (ρ x) (c.args.map ρ) λf args=>XC P f args h λv Z=>typed P o.type v λv'=>K v' Z
  |_=>False
 |_=>wpN P (execOp ρ o) h λnx h'=>match nx with
   |.value v=>K v h'
   |.skip=>K undef h'
   |_=>False
def z9c:Builtin->Bool
 |.append | .copy | .clear | .delete=>true
 |_=>false
def zvd(P:Program)(s t:TypeId):Bool:=match P.underlying s,P.underlying t with
 |some (.int _),some (.int _)=>true
 |some .string,some .string=>true
 |_,_=>false
def isQ(P:Program)(o:Oper):Bool:=
 match o.op with
 |.load _ _ | .indexAddr _ _ _ | .index _ _ _ | .slice _ _ _ _ _ | .binOp _ _ _ _ _ | .lookup _ _ _ _ | .nilCheck _=>true
 |.move _ | .assign _ | .unOp _ _ _ | .build _ _ | .makeFunc _ _ _ | .makeInterface _ _ | .extract _ _ | .field _ _ _ | .fieldAddr _ _ _=>true
 |.convert s t _=>zvd P s t
 |.call c=>match c.callee with
  |.builtin b=>!z9c b
  |_=>false
 |_=>false
def zve(P:Program)(o:Oper)(ρ:Operand->Value)(b:Bool)(h:za)(K:Value->za->Prop):Prop:=
 match z8r P o.type with
 |some rt=>∃J:Value->za->Prop,(b=true->zrb P o ρ h J)/\(b=false->zz2 rt λv=>J v h)/\(b=true->∀v h',J v h'->zz2 rt λv'=>v=v')/\z8w rt λv=>∀h',J v h'->K v h'
 |none=>False
def stepW(P:Program)(o:Oper)(ρ:Operand->Value)(g:Option Bool)(h:za)(K:Value->za->Prop):Prop:=
 bif isQ P o then w9 P o ρ g h (λv=>K v h)else match g with
  |none=>zrb P o ρ h K
  |some b=>zve P o ρ b h K
theorem upon_value{next:Act->World->Prop}{Q:Exit->Act->World->Prop}{s:Sem Next}(h:s.run P w=.ok (.value v) w')(hn:next (a.put o.dst v) w'):
  o.upon P a next Q (s.run P w):=by rw[h];exact hn
theorem upon_skip{next:Act->World->Prop}{Q:Exit->Act->World->Prop}{s:Sem Next}(h:s.run P w=.ok .skip w')(hn:next (a.put o.dst undef) w'):
  o.upon P a next Q (s.run P w):=by rw[h];exact hn
theorem Qo{s:Sem Value}(h:s.run P w=.ok v w'):(s >>= λx=>(Da (Dl x):Sem Next)).run P w=.ok (.value v) w':=by
 rw[Sem.run_bind,h];rfl
theorem zs8{s:Sem Unit}(h:s.run P w=.ok () w'):(s >>= λ_=>(Da Next.skip:Sem Next)).run P w=.ok .skip w':=by
 rw[Sem.run_bind,h];rfl
theorem zeb(H:zrb P o ρ h K)(B:World)(d:Nat){next:Act->World->Prop}{Q:Exit->Act->World->Prop}
  (hn:∀v d' h',K v h'->next (a.put o.dst v) (mk B d' h')):o.upon P a next Q ((execOp ρ o).run P (mk B d h)):=by
 unfold zrb at H
 split at H
 case h_1 t x y ho=>
  obtain⟨d',h',h1,h2⟩:=H B d
  exact upon_skip (by simp only[execOp,ho];exact zs8 h1) (hn _ _ _ h2)
 case h_2 t m k x ho=>
  obtain⟨d',h',h1,h2⟩:=H B d
  exact upon_skip (by simp only[execOp,ho];exact zs8 h1) (hn _ _ _ h2)
 case h_3 t m k x ho=>
  obtain⟨d',h',h1,h2⟩:=H B d
  exact upon_skip (by simp only[execOp,ho];exact zs8 h1) (hn _ _ _ h2)
 case h_4 t m s x ho=>
  obtain⟨d',h',h1,h2⟩:=H B d
  exact upon_skip (by simp only[execOp,ho];exact zs8 h1) (hn _ _ _ h2)
 case h_5 t m k ho=>
  obtain⟨v,d',h',h1,h2⟩:=H B d
  exact upon_value (by simp only[execOp,ho];exact Qo h1) (hn _ _ _ (wu h2))
 case h_6 t l c ho=>
  obtain⟨v,d',h',h1,h2⟩:=H B d
  exact upon_value (by simp only[execOp,ho];exact Qo h1) (hn _ _ _ (wu h2))
 case h_7 s t x ho=>
  obtain⟨v,d',h',h1,h2⟩:=H B d
  exact upon_value (by simp only[execOp,ho];exact Qo h1) (hn _ _ _ (wu h2))
 case h_8 x t t' ok ho=>
  obtain⟨v,d',h',h1,h2⟩:=H B d
  exact upon_value (by simp only[execOp,ho];exact Qo h1) (hn _ _ _ (wu h2))
 case h_9 t x ho=>
  cases hm:z9b P t with
  |true=>
   rw[hm]at H
   obtain⟨v,d',h',h1,q,rfl,h2⟩:=H B d
   exact upon_value (by simp only[execOp,ho];exact Qo h1) (hn _ _ _ h2)
  |false=>
   rw[hm]at H
   obtain⟨nx,h',h1,h2⟩:=zfo H B d
   cases nx with
   |value v=>exact upon_value h1 (hn _ _ _ h2)
   |skip=>exact upon_skip h1 (hn _ _ _ h2)
   |_=>exact h2.elim
 case h_10 x s ho=>
  cases s with
  |true=>
   simp only[cond_true]at H
   obtain⟨v,d',h',h1,h2⟩:=H B d
   refine upon_value (v:=v) (w':=mk B d' h') (by simp only[execOp,ho];exact Qo h1) (hn _ _ _ ?_)
   rcases h2 with⟨rfl,h2⟩|⟨k,u,rfl,h2⟩ <;> exact h2
  |false=>
   simp only[cond_false]at H
   obtain⟨v,d',h',h1,h2⟩:=H B d
   refine upon_value (v:=v) (w':=mk B d' h') (by simp only[execOp,ho];exact Qo h1) (hn _ _ _ ?_)
   rcases h2 with⟨rfl,h2⟩|⟨k,u,rfl,h2⟩ <;> exact h2
 case h_11 x ho=>
  obtain⟨v,d',h',h1,k,u,rfl,h2⟩:=H B d
  exact upon_value (by simp only[execOp,ho];exact Qo h1) (hn _ _ _ h2)
 case h_12 c ho=>
  split at H
  ·rename_i b hb
   split at H
   ·rename_i s hs
    obtain⟨v,d',h',h1,h2⟩:=H B d
    refine upon_value (w':=mk B d' h') ?_ (hn _ _ _ (wu h2))
    have key:execOp ρ o=s >>= λx=>(Da (Dl x):Sem Next):=by
     simp only[execOp,ho,resolve,hb]
     unfold zie at hs
     split at hs <;> first
      |(simp only[Aa]at hs;subst hs;rfl)
      |cases hs
    rw[key]
    exact Qo h1
   ·exact H.elim
  ·rename_i x hx
   cases hex:z2z P x with
   |true=>
    rw[hex]at H
    obtain⟨v,d',h',h1,h2⟩:=zs7 ho hx H B d
    exact upon_value h1 (hn _ _ _ (wu h2))
   |false=>
   rw[hex]at H
   simp only[cond_false]at H
   cases hst:Y5 x with
   |true=>
    rw[hst]at H
    obtain⟨nx,h',h1,h2⟩:=zfo H B d
    cases nx with
    |enter f args=>
     rw[h1]
     refine(h2 B d).mono ?_
     rintro e w' ⟨v,d',Z,rfl,rfl,h3⟩
     exact hn _ _ _ (wu h3)
    |value v=>exact upon_value h1 (hn _ _ _ h2)
    |_=>exact h2.elim
   |false=>
    rw[hst]at H
    simp only[cond_false]at H
    obtain⟨f,args,h1,h2⟩:=zig ho hx H
    rw[h2]
    refine(h1 B d).mono ?_
    rintro e w' ⟨v,d',Z,rfl,rfl,h3⟩
    exact hn _ _ _ (wu h3)
  ·exact H.elim
 case h_13=>
  obtain⟨nx,h',h1,h2⟩:=zfo H B d
  cases nx with
  |value v=>exact upon_value h1 (hn _ _ _ h2)
  |skip=>exact upon_skip h1 (hn _ _ _ h2)
  |_=>exact h2.elim
theorem zo6(H:stepW P o ρ g h K)(hg:gok g)(B:World)(d:Nat){next:Act->World->Prop}{Q:Exit->Act->World->Prop}
  (hn:∀v d' h',K v h'->next (a.put o.dst v) (mk B d' h')):o.upon P a next Q ((execOp ρ o).run P (mk B d h)):=by
 unfold stepW at H
 cases hq:isQ P o with
 |true=>
  rw[hq]at H
  obtain⟨v,h1,h2⟩:=zae H
  exact upon_value (h2 hg B d) (hn _ _ _ h1)
 |false=>
  rw[hq]at H
  cases g with
  |none=>exact zeb H B d hn
  |some b=>
   have hb:b=true:=hg
   subst hb
   simp only[cond_false]at H
   unfold zve at H
   split at H
   ·rename_i rt Z
    obtain⟨J,h1,_,h3,h4⟩:=H
    refine zeb (h1 rfl) B d λv d' h' hJ=>?_
    obtain⟨v',e1,e2⟩:=zvc (h3 rfl v h' hJ) h4
    subst e1
    exact hn _ _ _ (e2 _ hJ)
   ·exact H.elim
theorem zo7(H:stepW P o ρ (some false) h K):∃v,K v h:=by
 unfold stepW at H
 cases hq:isQ P o with
 |true=>
  rw[hq]at H
  obtain⟨v,h1,_⟩:=zae H
  exact⟨v,h1⟩
 |false=>
  rw[hq]at H
  simp only[cond_false]at H
  unfold zve at H
  split at H
  ·obtain⟨J,_,h2,_,h4⟩:=H
   obtain⟨v,e1,e2⟩:=zvc (h2 rfl) h4
   exact⟨v,e2 _ e1⟩
  ·exact H.elim
end
section
variable {n:Nat} {e:Env} {a b:Act} {c:zt} {g:Option Bool} {P:Program} {o:Oper} {h:za} {K:Value -> za -> Prop} {ms:List Nat} {ρ:Operand -> Value}
def zaf(e:Env):zt->Option (Option Bool)
 |[]=>some none
 |c=>match zu9 e c with
  |some b=>some (some b)
  |none=>none
theorem Z6(hs:Sat n e a)(h:zaf e c=some g)(hv:valid (zl a) c):gok g:=by
 unfold zaf at h
 split at h
 ·simp only[Aa]at h;subst h;trivial
 ·split at h
  ·rename_i b hb
   simp only[Aa]at h
   subst h
   exact(zad hs hb).2 hv
  ·cases h
theorem zs9(hs:Sat n e a)(h:zaf e c=some g)(hv:¬valid (zl a) c):g=some false:=by
 unfold zaf at h
 split at h
 ·exact absurd trivial hv
 ·split at h
  ·rename_i b hb
   simp only[Aa]at h
   subst h
   cases b with
   |false=>rfl
   |true=>exact absurd ((zad hs hb).1 rfl) hv
  ·cases h
def zvf(b:Bool):Value->Value->Value
 |.bool x,.bool y=>.bool (bif b then x else y)
 |x,y=>bif b then x else y
theorem zrc(b:Bool)(x y:Value):zvf b x y=if b=true then x else y:=by
 unfold zvf
 split <;> cases b <;> rfl
def orV:Option Value->Option Value->Option Value
 |some v,_=>some v
 |none,w=>w
def zvg(e:Env)(c:zt)(x a b:Operand)(K:Value->Prop):Prop:=
 match x with
 |.tmp s=>match look e s with
  |some (cs,.bool t)=>bif suf cs c then(match orV (Y4 e c a) (Y4 e ((s,true)::cs) a),orV (Y4 e c b) (Y4 e ((s,false)::cs) b)with
    |some va,some vb=>K (zvf t va vb)
    |_,_=>False)else False
  |_=>False
 |_=>False
theorem Y6{Z:Act}(hs:Sat n e Z){x a b:Operand}{K:Value->Prop}(H:zvg e c x a b K):
  ∃v,K v/\(valid (zl Z) c->∃t,Z.eval x=.bool t/\(if t=true then Z.eval a else Z.eval b)=v):=by
 unfold zvg at H
 split at H
 ·rename_i s
  split at H
  ·rename_i cs t hl
   cases hsf:suf cs c with
   |false=>rw[hsf]at H;exact H.elim
   |true=>
    rw[hsf]at H
    simp only[cond_true]at H
    split at H
    ·rename_i va vb ha hb
     refine⟨_,H,λhv=>⟨t,?_,?_⟩⟩
     ·exact(hs.all _ (Xh hl)).1 (Yc hsf hv)
     ·have aa:=Yc hsf hv
      have hx:zl Z s=.bool t:=(hs.all _ (Xh hl)).1 aa
      rw[zrc]
      cases t with
      |true=>
       simp only[if_true]
       unfold orV at ha
       split at ha
       ·rename_i v _ h1
        simp only[Aa]at ha
        subst ha
        exact qy hs hv h1
       ·exact qy hs (c:=(s,true)::cs) ⟨hx,aa⟩ ha
      |false=>
       simp only[A3,if_false]
       unfold orV at hb
       split at hb
       ·rename_i v _ h1
        simp only[Aa]at hb
        subst hb
        exact qy hs hv h1
       ·exact qy hs (c:=(s,false)::cs) ⟨hx,aa⟩ hb
    ·exact H.elim
  ·exact H.elim
 ·exact H.elim
def opW(P:Program)(o:Oper)(e:Env)(c:zt)(h:za)(K:Value->za->Prop):Prop:=
 match o.op with
 |.pick x a b=>zvg e c x a b λv=>K v h
 |_=>bif jb o.op then(bif known e c o.op.operands.toList then(match zaf e c with
   |some g=>stepW P o (rho e c) g h K
   |none=>False)else False)else False
def wR(P:Program)(n:Nat)(ops:Array Oper)(K:Env->za->Prop):List Oper->Env->za->Prop
 |[],e,h=>K (clean e) h
 |o::rest,e,h=>match Q5 ops e o.guard with
  |some c=>bif qi n c o.dst then opW P o e c h λv h'=>wR P n ops K rest (putO e o.dst c v) h' else False
  |none=>False
theorem zfp(H:opW P o e c h K)(hs:Sat n e a)(hv:valid (zl a) c)(B:World)(d:Nat)
  {next:Act->World->Prop} {Q:Exit->Act->World->Prop} (hn:∀v d' h',K v h'->next (a.put o.dst v) (mk B d' h')):o.wp P a (mk B d h) next Q:=by
 unfold opW at H
 unfold Oper.wp
 split at H
 ·rename_i x y z ho
  obtain⟨v,h1,h2⟩:=Y6 hs H
  obtain⟨t,h3,h4⟩:=h2 hv
  refine upon_value (w':=mk B d h) (v:=v) ?_ (hn _ _ _ h1)
  simp only[execOp,ho,h3,asBool,Sem.run_bind,Sem.run_pure,Result.andThen_ok]
  rw[h4]
 ·cases hns:jb o.op with
  |false=>rw[hns]at H;exact H.elim
  |true=>
   rw[hns]at H
   cases hk:known e c o.op.operands.toList with
   |false=>rw[hk]at H;exact H.elim
   |true=>
    rw[hk]at H
    simp only[cond_true]at H
    split at H
    ·rename_i g hg
     rw[Qr hs hv hns hk]
     exact zo6 H (Z6 hs hg hv) B d hn
    ·exact H.elim
theorem z3a(H:opW P o e c h K)(hs:Sat n e a)(hv:¬valid (zl a) c):∃v,K v h:=by
 unfold opW at H
 split at H
 ·obtain⟨v,h1,_⟩:=Y6 hs H
  exact⟨v,h1⟩
 ·cases hns:jb o.op with
  |false=>rw[hns]at H;exact H.elim
  |true=>
   rw[hns]at H
   cases hk:known e c o.op.operands.toList with
   |false=>rw[hk]at H;exact H.elim
   |true=>
    rw[hk]at H
    simp only[cond_true]at H
    split at H
    ·rename_i g hg
     rw[zs9 hs hg hv]at H
     exact zo7 H
    ·exact H.elim
def yn:List Oper->List Nat
 |[]=>[]
 |o::l=>match o.dst with
  |some d=>d::yn l
  |none=>yn l
def Same(ms:List Nat)(a b:Act):Prop:=∀i,i∉ms->zl b i=zl a i
theorem Same.refl(ms:List Nat)(a:Act):Same ms a a:=λ_ _=>rfl
theorem Same.trans{a b c:Act}(h:Same ms a b)(k:Same ms b c):Same ms a c:=λi hi=>(k i hi).trans (h i hi)
theorem Same.mono{ms Z:List Nat}(h:Same ms a b)(hs:∀x∈ms,x∈Z):Same Z a b:=λi hi=>h i λhm=>hi (hs i hm)
theorem Same.put(a:Act)(d:Option Nat)(v:Value)(h:∀i,d=some i->i∈ms):Same ms a (a.put d v):=by
 intro i hi
 cases d with
 |none=>rfl
 |some j=>exact qb λe=>hi (e ▸ h j rfl)
theorem Qu{P:Program}{n:Nat}{ops:Array Oper}{K:Env->za->Prop}{Q:Exit->Act->World->Prop}(B:World):
  ∀(l:List Oper) (e:Env) (h:za) (a:Act) (d:Nat),wR P n ops K l e h->Sat n e a->(∀e' a' d' h',Sat n e' a'->Same (yn l) a a'->K e' h'->Q .normal a' (mk B d' h'))->wpList P ops Q l a (mk B d h)
 |[],e,h,a,d,H,hs,hQ=>hQ _ _ _ _ hs.clean (Same.refl _ _) H
 |o::rest,e,h,a,d,H,hs,hQ=>by
  unfold wR at H
  split at H
  ·rename_i c hc
   cases hd:qi n c o.dst with
   |false=>rw[hd]at H;exact H.elim
   |true=>
    rw[hd]at H
    simp only[cond_true]at H
    have hw:=xy hs hc
    have ae:∀i,o.dst=some i->i∈yn (o::rest):=λi hi=>by simp[yn,hi]
    have ab:∀x∈yn rest,x∈yn (o::rest):=λx hx=>by
     unfold yn
     split
     ·exact Ae _ hx
     ·exact hx
    have Z:∀v u d' h',(valid (zl a) c->u=v)->(¬valid (zl a) c->u=undef)->wR P n ops K rest (putO e o.dst c v) h'->wpList P ops Q rest (a.put o.dst u) (mk B d' h'):=λv u d' h' h1 h2 h3=>
     Qu B rest _ _ _ _ h3 (hs.putO hd h1 h2) λe' a' ah af q1 q2 q3=>hQ e' a' ah af q1 ((Same.put a o.dst u ae).trans (q2.mono ab)) q3
    unfold wpList
    by_cases hv:valid (zl a) c
    ·rw[if_pos (hw.2 hv)]
     exact .inl (zfp H hs hv B d λv d' h' hK=>Z v v d' h' (λ_=>rfl) (λaa=>absurd hv aa) hK)
    ·rw[if_neg (λhx=>hv (hw.1 hx))]
     obtain⟨v,hK⟩:=z3a H hs hv
     exact Z v undef d h (λaa=>absurd aa hv) (λ_=>rfl) hK
  ·exact H.elim
def z4q(P:Program)(o:Oper)(ρ:Operand->Value)(g:Option Bool)(h:za)(K:Value->Prop):Prop:=
 match o.op with
 |.call c=>match c.callee with
  |.value x=>bif Y5 x then(match Zu P (execOp ρ o)with
    |some (.enter f args)=>match z8r P o.type with
     |some rt=>zz2 rt λv=>req g (XC P f args h λv' h'=>v'=v/\h'=h)/\K v
     |none=>False
    |_=>False)else(match z8r P o.type with
     |some rt=>zz2 rt λv=>req g (z9a P (ρ x) (c.args.map ρ) λf args=>XC P f args h λv' h'=>v'=v/\h'=h)/\K v
     |none=>False)
  |_=>False
 |_=>False
theorem zo8{K:Value->Prop}(H:z4q P o ρ g h K):
  ∃v,K v/\(gok g->∃f args,(∀w,(execOp ρ o).run P w=.ok (.enter f args) w)/\XC P f args h λv' h'=>v'=v/\h'=h):=by
 unfold z4q at H
 split at H
 ·rename_i c ho
  split at H
  ·rename_i x hx
   cases hst:Y5 x with
   |true=>
    rw[hst]at H
    simp only[cond_true]at H
    split at H
    ·rename_i f args he
     split at H
     ·obtain⟨v,h1,h2⟩:=zfi H
      exact⟨v,h2,λhg=>⟨f,args,λw=>Wi he w,h1.out hg⟩⟩
     ·exact H.elim
    ·exact H.elim
   |false=>
    rw[hst]at H
    simp only[cond_false]at H
    split at H
    ·obtain⟨v,h1,h2⟩:=zfi H
     refine⟨v,h2,λhg=>?_⟩
     obtain⟨f,args,h3,h4⟩:=zig ho hx (h1.out hg)
     exact⟨f,args,h4,h3⟩
    ·exact H.elim
  ·exact H.elim
 ·exact H.elim
def zfq(o:Oper):Bool:=match o.op with
 |.call c=>match c.callee with
  |.builtin _=>false
  |_=>true
 |_=>false
def opQ(P:Program)(o:Oper)(e:Env)(c:zt)(h:za)(Z:Bool)(K:Value->Prop):Prop:=
 match o.op with
 |.pick x a b=>zvg e c x a b K
 |_=>bif jb o.op then(bif known e c o.op.operands.toList then(match zaf e c with
   |some g=>bif zfq o then(bif Z then z4q P o (rho e c) g h K else False)else w9 P o (rho e c) g h K
   |none=>False)else False)else False
def wQ(P:Program)(n:Nat)(ops:Array Oper)(h:za)(Z:Bool)(K:Env->Prop):List Oper->Env->Prop
 |[],e=>K e
 |o::rest,e=>match Q5 ops e o.guard with
  |some c=>bif qi n c o.dst then opQ P o e c h Z λv=>wQ P n ops h Z K rest (putO e o.dst c v)else False
  |none=>False
def YQ(P:Program)(o:Oper)(a:Act)(B:World)(h:za)(Z:Bool)(v:Value):Prop:=
 (∀d,(execOp a.eval o).run P (mk B d h)=.ok (.value v) (mk B d h)) \/
 (Z=true/\∃f args,(∀d,(execOp a.eval o).run P (mk B d h)=.ok (.enter f args) (mk B d h))/\XC P f args h λv' h'=>v'=v/\h'=h)
theorem zl9{Z:Bool}{K:Value->Prop}(H:opQ P o e c h Z K)(hs:Sat n e a)(B:World):
  ∃v,K v/\(valid (zl a) c->YQ P o a B h Z v):=by
 unfold opQ at H
 split at H
 ·rename_i x y z ho
  obtain⟨v,h1,h2⟩:=Y6 hs H
  refine⟨v,h1,λhv=>?_⟩
  obtain⟨t,h3,h4⟩:=h2 hv
  refine .inl λd=>?_
  simp only[execOp,ho,h3,asBool,Sem.run_bind,Sem.run_pure,Result.andThen_ok]
  rw[h4]
 ·cases hns:jb o.op with
  |false=>rw[hns]at H;exact H.elim
  |true=>
   rw[hns]at H
   cases hk:known e c o.op.operands.toList with
   |false=>rw[hk]at H;exact H.elim
   |true=>
    rw[hk]at H
    simp only[cond_true]at H
    split at H
    ·rename_i g hg
     cases hc:zfq o with
     |false=>
      rw[hc]at H
      obtain⟨v,h1,h2⟩:=zae H
      refine⟨v,h1,λhv=>.inl λd=>?_⟩
      rw[Qr hs hv hns hk]
      exact h2 (Z6 hs hg hv) B d
     |true=>
      rw[hc]at H
      cases Z with
      |false=>exact H.elim
      |true=>
       simp only[cond_true]at H
       obtain⟨v,h1,h2⟩:=zo8 H
       refine⟨v,h1,λhv=>?_⟩
       obtain⟨f,args,h3,h4⟩:=h2 (Z6 hs hg hv)
       refine .inr ⟨rfl,f,args,λd=>?_,h4⟩
       rw[Qr hs hv hns hk]
       exact h3 _
    ·exact H.elim
theorem zrd{P:Program}{n:Nat}{ops:Array Oper}{h:za}{ae:Bool}{K:Env->Prop}{Q:Act->Prop}(B:World):
  ∀(l:List Oper) (e:Env) (a:Act),wQ P n ops h ae K l e->Sat n e a->(∀e' a',Sat n e' a'->Same (yn l) a a'->K e'->Q a')->wpQuiet P ops (λw=>∃d,w=mk B d h) Q l a
 |[],e,a,H,hs,hQ=>hQ _ _ hs (Same.refl _ _) H
 |o::rest,e,a,H,hs,hQ=>by
  unfold wQ at H
  split at H
  ·rename_i c hc
   cases hd:qi n c o.dst with
   |false=>rw[hd]at H;exact H.elim
   |true=>
    rw[hd]at H
    simp only[cond_true]at H
    have hw:=xy hs hc
    have af:∀i,o.dst=some i->i∈yn (o::rest):=λi hi=>by simp[yn,hi]
    have ab:∀x∈yn rest,x∈yn (o::rest):=λx hx=>by
     unfold yn
     split
     ·exact Ae _ hx
     ·exact hx
    obtain⟨v,hK,hy⟩:=zl9 H hs B
    have Z:∀u,(valid (zl a) c->u=v)->(¬valid (zl a) c->u=undef)->wpQuiet P ops (λw=>∃d,w=mk B d h) Q rest (a.put o.dst u):=λu h1 h2=>
     zrd B rest _ _ hK (hs.putO hd h1 h2) λe' a' q1 q2 q3=>hQ e' a' q1 ((Same.put a o.dst u af).trans (q2.mono ab)) q3
    unfold wpQuiet
    by_cases hv:valid (zl a) c
    ·rw[if_pos (hw.2 hv)]
     refine⟨v,?_,Z v (λ_=>rfl) (λaa=>absurd hv aa)⟩
     rintro w ⟨d,rfl⟩
     unfold Oper.quietAt
     rcases hy hv with h1|⟨_,f,args,h1,h2⟩
     ·rw[h1 d];exact⟨rfl,rfl⟩
     ·rw[h1 d]
      refine⟨rfl,(h2 B d).mono ?_⟩
      rintro e' w'' ⟨v',d',h',rfl,rfl,rfl,rfl⟩
      exact⟨rfl,d',rfl⟩
    ·rw[if_neg (λhx=>hv (hw.1 hx))]
     exact Z undef (λaa=>absurd aa hv) (λ_=>rfl)
  ·exact H.elim
def z4r(P:Program)(o:Oper)(ρ:Operand->Value)(g:Option Bool)(h:za)(K:Value->Prop):Prop:=
 match o.op with
 |.call c=>match c.callee with
  |.value x=>bif Y5 x then(match Zu P (execOp ρ o)with
    |some (.enter f args)=>match z8r P o.type with
     |some rt=>zz2 rt λv=>req g (∀h1,Keep h.size h h1->XC P f args h1 λv' h'=>v'=v/\Keep h1.size h1 h')/\K v
     |none=>False
    |_=>False)else False
  |_=>False
 |_=>False
theorem zo9{K:Value->Prop}(H:z4r P o ρ g h K):
  ∃v,K v/\(gok g->∃f args,(∀w,(execOp ρ o).run P w=.ok (.enter f args) w)/\∀h1,Keep h.size h h1->XC P f args h1 λv' h'=>v'=v/\Keep h1.size h1 h'):=by
 unfold z4r at H
 split at H
 ·split at H
  ·rename_i x _
   cases hx:Y5 x with
   |false=>rw[hx]at H;exact H.elim
   |true=>
    rw[hx]at H
    simp only[cond_true]at H
    split at H
    ·rename_i f args hv
     split at H
     ·obtain⟨v,h1,h2⟩:=zfi H
      exact⟨v,h2,λhg=>⟨f,args,λw=>Wi hv w,h1.out hg⟩⟩
     ·exact H.elim
    ·exact H.elim
  ·exact H.elim
 ·exact H.elim
def opK(P:Program)(o:Oper)(e:Env)(c:zt)(h:za)(K:Value->Prop):Prop:=
 match o.op with
 |.pick x a b=>zvg e c x a b K
 |_=>bif jb o.op then(bif known e c o.op.operands.toList then(match zaf e c with
   |some g=>bif zfq o then z4r P o (rho e c) g h K else bif zem o then w9 P o (rho e c) g h K else False
   |none=>False)else False)else False
def wK(P:Program)(n:Nat)(ops:Array Oper)(h:za)(K:Env->Prop):List Oper->Env->Prop
 |[],e=>K e
 |o::rest,e=>match Q5 ops e o.guard with
  |some c=>bif qi n c o.dst then opK P o e c h λv=>wK P n ops h K rest (putO e o.dst c v)else False
  |none=>False
def YK(P:Program)(o:Oper)(a:Act)(B:World)(h:za)(v:Value):Prop:=
 (∀d h',Keep h.size h h'->(execOp a.eval o).run P (mk B d h')=.ok (.value v) (mk B d h')) \/
 (∃f args,(∀d h',(execOp a.eval o).run P (mk B d h')=.ok (.enter f args) (mk B d h'))/\∀h1,Keep h.size h h1->XC P f args h1 λv' h'=>v'=v/\Keep h1.size h1 h')
theorem zvh{K:Value->Prop}(H:opK P o e c h K)(hs:Sat n e a)(B:World):
  ∃v,K v/\(valid (zl a) c->YK P o a B h v):=by
 unfold opK at H
 split at H
 ·rename_i x y z ho
  obtain⟨v,h1,h2⟩:=Y6 hs H
  refine⟨v,h1,λhv=>?_⟩
  obtain⟨t,h3,h4⟩:=h2 hv
  refine .inl λd h' _=>?_
  simp only[execOp,ho,h3,asBool,Sem.run_bind,Sem.run_pure,Result.andThen_ok]
  rw[h4]
 ·cases hns:jb o.op with
  |false=>rw[hns]at H;exact H.elim
  |true=>
   rw[hns]at H
   cases hk:known e c o.op.operands.toList with
   |false=>rw[hk]at H;exact H.elim
   |true=>
    rw[hk]at H
    simp only[cond_true]at H
    split at H
    ·rename_i g hg
     cases hc:zfq o with
     |false=>
      rw[hc]at H
      cases hf:zem o with
      |false=>rw[hf]at H;exact H.elim
      |true=>
       rw[hf]at H
       obtain⟨v,h1,h2⟩:=Xi hf H
       refine⟨v,h1,λhv=>.inl λd h' Z=>?_⟩
       rw[Qr hs hv hns hk]
       exact h2 (Z6 hs hg hv) h' Z B d
     |true=>
      rw[hc]at H
      obtain⟨v,h1,h2⟩:=zo9 H
      refine⟨v,h1,λhv=>?_⟩
      obtain⟨f,args,h3,h4⟩:=h2 (Z6 hs hg hv)
      refine .inr ⟨f,args,λd h'=>?_,h4⟩
      rw[Qr hs hv hns hk]
      exact h3 _
    ·exact H.elim
theorem zre{P:Program}{n:Nat}{ops:Array Oper}{h:za}{K:Env->Prop}{Q:Act->Prop}(B:World):
  ∀(l:List Oper) (e:Env) (a:Act),wK P n ops h K l e->Sat n e a->(∀e' a',Sat n e' a'->Same (yn l) a a'->K e'->Q a')->wpQuiet P ops (λw=>∃d h',Keep h.size h h'/\w=mk B d h') Q l a
 |[],e,a,H,hs,hQ=>hQ _ _ hs (Same.refl _ _) H
 |o::rest,e,a,H,hs,hQ=>by
  unfold wK at H
  split at H
  ·rename_i c hc
   cases hd:qi n c o.dst with
   |false=>rw[hd]at H;exact H.elim
   |true=>
    rw[hd]at H
    simp only[cond_true]at H
    have hw:=xy hs hc
    have af:∀i,o.dst=some i->i∈yn (o::rest):=λi hi=>by simp[yn,hi]
    have ae:∀x∈yn rest,x∈yn (o::rest):=λx hx=>by
     unfold yn
     split
     ·exact Ae _ hx
     ·exact hx
    obtain⟨v,hK,hy⟩:=zvh H hs B
    have aa:∀u,(valid (zl a) c->u=v)->(¬valid (zl a) c->u=undef)->wpQuiet P ops (λw=>∃d h',Keep h.size h h'/\w=mk B d h') Q rest (a.put o.dst u):=λu h1 h2=>
     zre B rest _ _ hK (hs.putO hd h1 h2) λe' a' q1 q2 q3=>hQ e' a' q1 ((Same.put a o.dst u af).trans (q2.mono ae)) q3
    unfold wpQuiet
    by_cases hv:valid (zl a) c
    ·rw[if_pos (hw.2 hv)]
     refine⟨v,?_,aa v (λ_=>rfl) (λab=>absurd hv ab)⟩
     rintro w ⟨d,h0,Z,rfl⟩
     unfold Oper.quietAt
     rcases hy hv with h1|⟨f,args,h1,h2⟩
     ·rw[h1 d h0 Z];exact⟨rfl,rfl⟩
     ·rw[h1 d h0]
      refine⟨rfl,(h2 h0 Z B d).mono ?_⟩
      rintro e' w'' ⟨v',d',h',rfl,rfl,rfl,ah⟩
      exact⟨rfl,d',h',Z.trans ah Z.size,rfl⟩
    ·rw[if_neg (λhx=>hv (hw.1 hx))]
     exact aa undef (λab=>absurd ab hv) (λ_=>rfl)
  ·exact H.elim
theorem zrf{P:Program}{n:Nat}{ops:Array Oper}{h:za}{K:Env->Prop}{Q:Act->Prop}(B:World)(d:Nat):
  ∀(l:List Oper) (e:Env) (a:Act),wQ P n ops h false K l e->Sat n e a->(∀e' a',Sat n e' a'->Same (yn l) a a'->K e'->Q a')->wpStill P ops (mk B d h) Q l a
 |[],e,a,H,hs,hQ=>hQ _ _ hs (Same.refl _ _) H
 |o::rest,e,a,H,hs,hQ=>by
  unfold wQ at H
  split at H
  ·rename_i c hc
   cases hd:qi n c o.dst with
   |false=>rw[hd]at H;exact H.elim
   |true=>
    rw[hd]at H
    simp only[cond_true]at H
    have hw:=xy hs hc
    have ae:∀i,o.dst=some i->i∈yn (o::rest):=λi hi=>by simp[yn,hi]
    have ab:∀x∈yn rest,x∈yn (o::rest):=λx hx=>by
     unfold yn
     split
     ·exact Ae _ hx
     ·exact hx
    obtain⟨v,hK,hy⟩:=zl9 H hs B
    have Z:∀u,(valid (zl a) c->u=v)->(¬valid (zl a) c->u=undef)->wpStill P ops (mk B d h) Q rest (a.put o.dst u):=λu h1 h2=>
     zrf B d rest _ _ hK (hs.putO hd h1 h2) λe' a' q1 q2 q3=>hQ e' a' q1 ((Same.put a o.dst u ae).trans (q2.mono ab)) q3
    unfold wpStill
    by_cases hv:valid (zl a) c
    ·rw[if_pos (hw.2 hv)]
     unfold Oper.still
     rcases hy hv with h1|⟨h0,_⟩
     ·rw[h1 d,Oper.stillUpon_value];exact Z v (λ_=>rfl) (λaa=>absurd hv aa)
     ·cases h0
    ·rw[if_neg (λhx=>hv (hw.1 hx))]
     exact Z undef (λaa=>absurd aa hv) (λ_=>rfl)
  ·exact H.elim
end
section
variable {i n:Nat} {a b a0:Act} {o:Oper} {h h' h0:za} {P:Program} {ρ:Operand -> Value} {ops:Array Oper} {listed:Array Bool} {tr md:Bool} {e:Env}
def memN:List Nat->Nat->Bool
 |[],_=>false
 |j::l,i=>bif Nat.beq i j then true else memN l i
theorem wh{l:List Nat}(h:memN l i=false):i∉l:=by
 induction l with
 |nil=>simp
 |cons j l ih=>
  simp only[memN]at h
  by_cases hb:Nat.beq i j=true
  ·simp[hb]at h
  ·simp only[hb,cond_false]at h
   simp only[Af,not_or]
   exact⟨λe=>hb (by rw[e];simp),ih h⟩
def tmpsOf:List Operand->List Nat
 |[]=>[]
 |.tmp t::l=>t::tmpsOf l
 |_::l=>tmpsOf l
def xo(ops:Array Oper)(o:Oper):List Nat:=(match o.guard with
 |some (j,_)=>match yf ops j with
  |some g=>[g]
  |none=>[]
 |none=>[])++tmpsOf o.op.operands.toList
def yw(ops:Array Oper)(k:Nat)(S:List Nat):Nat->Bool
 |0=>true
 |p+1=>bif (match yf ops p with
  |some t=>bif memN S t then Region.waitsFor .any ops k p else true
  |none=>true)then yw ops k S p else false
theorem zx{ops:Array Oper}{k:Nat}{S:List Nat}:∀{m:Nat},yw ops k S m=true->∀p t,p<m->yf ops p=some t->t∈S->Region.waitsFor .any ops k p=true
 |0,_,p,t,hp,_,_=>by omega
 |m+1,h,p,t,hp,hd,ht=>by
  simp only[yw]at h
  cases hb:(match yf ops m with
   |some t=>bif memN S t then Region.waitsFor .any ops k m else true
   |none=>true)with
  |false=>rw[hb]at h;cases h
  |true=>
   rw[hb]at h
   rcases AR p m with h1|h1
   ·exact zx h p t h1 hd ht
   ·have:p=m:=by omega
    subst this
    rw[hd]at hb
    simp only at hb
    cases hm:memN S t with
    |false=>exact absurd ht (wh hm)
    |true=>rw[hm]at hb;exact hb
def qa(ops:Array Oper):Nat->Bool
 |0=>true
 |j+1=>bif (match ops[j]? with
  |some o=>o.after.toList.all λe=>!(Region.binds .any e)||Nat.blt e.on j
  |none=>true)then qa ops j else false
theorem zr{ops:Array Oper}:∀{n:Nat},qa ops n=true->∀j o,j<n->ops[j]?=some o->∀e∈o.after,Region.binds .any e=true->e.on<j
 |0,_,j,_,hj,_,_,_,_=>by omega
 |n+1,h,j,o,hj,ho,e,he,hb=>by
  simp only[qa]at h
  cases hc:(match ops[n]? with
   |some o=>o.after.toList.all λe=>!(Region.binds .any e)||Nat.blt e.on n
   |none=>true)with
  |false=>rw[hc]at h;cases h
  |true=>
   rw[hc]at h
   rcases AR j n with h1|h1
   ·exact zr h j o h1 ho e he hb
   ·have:j=n:=by omega
    subst this
    rw[ho]at hc
    have:=AX.1 hc e (by simpa using he)
    rw[hb]at this
    simpa[Cs]using this
def zvi(ops:Array Oper)(d:Nat):Nat->Bool
 |0=>false
 |p+1=>bif (match yf ops p with
  |some t=>Nat.beq t d
  |none=>false)then true else zvi ops d p
def jj(ops:Array Oper):Nat->Bool
 |0=>true
 |p+1=>bif (match yf ops p with
  |some t=>!(zvi ops t p)
  |none=>true)then jj ops p else false
theorem zcx{ops:Array Oper}{d:Nat}:∀{m:Nat},zvi ops d m=false->∀p,p<m->yf ops p≠some d
 |0,_,p,hp=>by omega
 |m+1,h,p,hp=>by
  simp only[zvi]at h
  cases hb:(match yf ops m with
   |some t=>Nat.beq t d
   |none=>false)with
  |true=>rw[hb]at h;cases h
  |false=>
   rw[hb]at h
   rcases AR p m with h1|h1
   ·exact zcx h p h1
   ·have:p=m:=by omega
    subst this
    intro e
    rw[e]at hb
    simp at hb
theorem qj{ops:Array Oper}:∀{m:Nat},jj ops m=true->∀p q t,p<m->q<m->yf ops p=some t->yf ops q=some t->p=q
 |0,_,p,q,t,hp,_,_,_=>by omega
 |m+1,h,p,q,t,hp,hq,e1,e2=>by
  simp only[jj]at h
  cases hb:(match yf ops m with
   |some t=>!(zvi ops t m)
   |none=>true)with
  |false=>rw[hb]at h;cases h
  |true=>
   rw[hb]at h
   rcases AR p m with h1|h1 <;> rcases AR q m with h2|h2
   ·exact qj h p q t h1 h2 e1 e2
   ·have:q=m:=by omega
    subst this
    rw[e2]at hb
    simp only[CZ]at hb
    exact absurd e1 (zcx hb p h1)
   ·have:p=m:=by omega
    subst this
    rw[e1]at hb
    simp only[CZ]at hb
    exact absurd e2 (zcx hb q h2)
   ·omega
def X5(o:Oper):Option Bool:=match o.op with
 |.fieldAddr _ _ _=>some true
 |.indexAddr _ _ _=>some true
 |.move _=>some true
 |.assign _=>match o.after.toList with
  |[]=>some true
  |_=>none
 |.nilCheck _=>some true
 |.slice _ _ _ _ _=>some true
 |.binOp _ _ _ _ _=>some true
 |.load _ _=>some false
 |_=>none
def zc(o:Oper):Bool:=match X5 o with
 |some _=>true
 |none=>false
def zh(o:Oper):Bool:=match X5 o with
 |some b=>!b
 |none=>false
def heavyL:Nat->List Oper->List Nat
 |_,[]=>[]
 |k,o::l=>bif zc o then heavyL (k+1) l else k::heavyL (k+1) l
def Yd(ops:Array Oper):List Nat->Bool
 |[]=>true
 |[_]=>true
 |i::j::l=>bif Region.waitsFor .any ops j i then Yd ops (j::l)else false
def jg(ops:Array Oper)(i:Nat):List Nat->Bool
 |[]=>false
 |j::l=>bif Region.waitsFor .any ops j i then true else jg ops i l
def zfr(ops:Array Oper)(T:List Nat):Nat->Bool
 |0=>false
 |k+1=>bif (match ops[k]? with
  |some o=>bif zh o then !(jg ops k T)else false
  |none=>false)then true else zfr ops T k
def xg(ops:Array Oper)(T:List Nat):Nat->Nat->Bool
 |0,k=>memN T k
 |f+1,k=>bif memN T k then true else(Bv ops.size).any λp=>bif Region.waitsFor .any ops p k then xg ops T f p else false
def zz6(ops:Array Oper)(T:List Nat):Nat->Bool
 |0=>false
 |k+1=>bif (match ops[k]? with
  |some o=>bif zh o then !(xg ops T ops.size k)else false
  |none=>false)then true else zz6 ops T k
def zma(tr:Bool)(ops:Array Oper)(T:List Nat)(m:Nat):Bool:=bif tr then zz6 ops T m else zfr ops T m
def j4(l:List Oper):Bool:=l.all λo=>match o.guard with
 |none=>jb o.op
 |some _=>false
def Ye(ops:Array Oper):Nat->Bool
 |0=>true
 |k+1=>bif (match ops[k]? with
  |some o=>bif yw ops k (tmpsOf o.op.operands.toList) ops.size then(bif zc o then(heavyL 0 ops.toList).all λj=>!(Region.waitsFor .any ops k j)||(match yf ops j with
   |some t=>!(memN (tmpsOf o.op.operands.toList) t)
   |none=>true)else true)else false
  |none=>true)then Ye ops k else false
def mixB(ops:Array Oper):Bool:=bif j4 ops.toList then(bif qa ops ops.size then(bif jj ops ops.size then(bif Yd ops (heavyL 0 ops.toList)then Ye ops ops.size else false)else false)else false)else false
def wU(P:Program)(n:Nat)(h:za)(K:Env->Prop):List Oper->Env->Prop
 |[],e=>K e
 |o::l,e=>bif zc o then(bif qi n [] o.dst then(bif jb o.op then(bif known e [] o.op.operands.toList then w9 P o (rho e []) none h λv=>wU P n h K l (putO e o.dst [] v)else False)else False)else False)else wU P n h K l e
def wT(P:Program)(n:Nat)(ops:Array Oper)(h0:za)(K:Env->za->Prop)(tr:Bool):List Nat->List Nat->Env->za->Prop
 |_,[],e,h=>K (clean e) h
 |T,j::l,e,h=>match ops[j]? with
  |some o=>bif qi n [] o.dst then opW P o e [] h λv h'=>(bif zma tr ops (j::T) ops.size then Keep h0.size h0 h'/\wT P n ops h0 K tr (j::T) l (putO e o.dst [] v) h' else wT P n ops h0 K tr (j::T) l (putO e o.dst [] v) h')else False
  |none=>False
def qe:Nat->List Oper->(Nat->Value)->Act->Act
 |_,[],_,a=>a
 |k,o::l,f,a=>qe (k+1) l f (bif zc o then a.put o.dst (f k)else a)
theorem yg{a b:Act}:∀{l:List Operand},(∀t∈tmpsOf l,zl a t=zl b t)->∀x∈l,a.eval x=b.eval x
 |[],_,x,hx=>by cases hx
 |y::l,h,x,hx=>by
  rcases Af.1 hx with rfl|hx
  ·cases x with
   |tmp t=>exact h t (by simp[tmpsOf])
   |const v=>rfl
   |global g=>rfl
   |func f=>rfl
  ·refine yg (l:=l) (λt ht=>h t ?_) x hx
   cases y <;> simp[tmpsOf,ht]
theorem yh(hs:jb o.op=true)(h:∀t∈tmpsOf o.op.operands.toList,zl a t=zl b t):execOp a.eval o=execOp b.eval o:=
 execOp_congr o (λcs b hb=>by rw[hb]at hs;cases hs) λx hx=>yg h x (by simpa using hx)
theorem zpa{p:Addr}(e:h'[p.block]?=h[p.block]?)(i:Nat):zd h' (p.add i)=zd h (p.add i):=by
 have hb:(p.add i).block=p.block:=by unfold Al;split <;> rfl
 unfold zd;rw[hb,e]
theorem zbp{h h':za}{p:Addr}(e:h'[p.block]?=h[p.block]?):∀{vs:List Value} {i:Nat},ze h p i vs->ze h' p i vs
 |[],_,_=>trivial
 |v::vs,i,⟨h1,h2⟩=>⟨(zpa e i).trans h1,zbp e h2⟩
theorem zpb{t:TypeId}{x:Value}{K:Value->Prop}(H:zj4 P h t x none K):∃v p,x=.pointer (some p)/\K v/\∀h',h'[p.block]?=h[p.block]?->QExec P (DO t x) h' v:=by
 unfold zj4 at H
 split at H
 ·rename_i q a hv
  obtain⟨x,h1,h2⟩:=H
  refine⟨_,q,rfl,h2,λh' e=>zbn hv ?_⟩
  have h1:zd h q=some _:=h1
  unfold zd at h1 ⊢
  rw[e];exact h1
 ·rename_i q l hv
  obtain⟨vs,h0,⟨h1,h2⟩,_⟩:=Z0 H (je l)
  exact⟨_,q,rfl,h2,λh' e=>zbo hv h0 (zbp e h1)⟩
 ·exact H.elim
def LdOK(o:Oper)(ρ:Operand->Value)(h h':za):Prop:=zh o=false\/Keep h.size h h'\/∀t a p,o.op=.load t a->ρ a=.pointer (some p)->h'[p.block]?=h[p.block]?
theorem LdOK.congr{ρ ρ':Operand->Value}(e:∀x∈o.op.operands.toList,ρ' x=ρ x)(H:LdOK o ρ h h'):LdOK o ρ' h h':=by
 rcases H with H|H|H
 ·exact .inl H
 ·exact .inr (.inl H)
 ·refine .inr (.inr λt a p ho hp=>H t a p ho ?_)
  rw[<-e a (by rw[ho];simp[Op.operands])];exact hp
theorem Xj(hq:zc o=true){K:Value->Prop}(H:w9 P o ρ none h K):
  ∃v,K v/\∀h',LdOK o ρ h h'->QExec P (execOp ρ o) h' (.value v):=by
 cases ho:o.op with
 |load t x=>
  have Z:zem o=true:=by unfold zem;rw[ho]
  obtain⟨v1,k1,k2⟩:=Xi Z H
  unfold w9 at H;rw[ho]at H
  simp only at H
  obtain⟨v,p,hx,h1,h2⟩:=zpb H
  have hv:v1=v:=by
   have a1:=k2 trivial h (Keep.refl _ _) default 0
   have a2:QExec P (execOp ρ o) h (.value v):=by simp only[execOp,ho];exact(h2 h rfl).val
   have a2:=a2 default 0
   rw[a1]at a2
   injection a2 with a2 _
   injection a2
  subst hv
  refine⟨v1,k1,λh' hk=>?_⟩
  rcases hk with hk|hk|hk
  ·unfold zh X5 at hk;rw[ho]at hk;cases hk
  ·exact k2 trivial h' hk
  ·have:=h2 h' (hk t x p ho hx)
   simp only[execOp,ho]
   exact this.val
 |fieldAddr t x i=>
  unfold w9 at H;rw[ho]at H
  obtain⟨v,h1,h2⟩:=zm H none
  exact⟨v,h1,λh' _=>h2 trivial h'⟩
 |indexAddr t x i=>
  unfold w9 at H;rw[ho]at H
  simp only at H
  cases he:Wm P t with
  |false=>rw[he]at H;exact H.elim
  |true=>
   rw[he]at H
   obtain⟨v,h1,h2⟩:=we (j8 he) H
   refine⟨v,h1,λh' _=>?_⟩
   simp only[execOp,ho]
   exact(h2 trivial h').val
 |move x=>
  unfold w9 at H;rw[ho]at H
  obtain⟨v,h1,h2⟩:=zm H none
  exact⟨v,h1,λh' _=>h2 trivial h'⟩
 |assign x=>
  unfold w9 at H;rw[ho]at H
  obtain⟨v,h1,h2⟩:=zm H none
  exact⟨v,h1,λh' _=>h2 trivial h'⟩
 |slice t x lo hi mx=>
  unfold w9 at H;rw[ho]at H
  simp only at H
  cases he:Wm P t with
  |false=>rw[he]at H;exact H.elim
  |true=>
   rw[he]at H
   obtain⟨v,h1,h2⟩:=Qs (j8 he) H
   refine⟨v,h1,λh' _=>?_⟩
   simp only[execOp,ho]
   exact(h2 (show gok none from trivial) h').val
 |binOp op t x y t'=>
  unfold w9 at H;rw[ho]at H
  obtain⟨v,h1,h2⟩:=zj5 ho H
  exact⟨v,h1,λh' _=>h2 trivial h'⟩
 |nilCheck x=>
  unfold w9 at H;rw[ho]at H
  simp only at H
  unfold qbu at H
  split at H
  ·rename_i p hx
   obtain⟨a,h1,h2⟩:=H
   have hp:=h1.out (g:=none) trivial
   subst hp
   refine⟨_,h2,λh' _ B d=>?_⟩
   simp only[execOp,ho,hx]
   rfl
  ·obtain⟨v,h1,h2⟩:=zm H none
   exact⟨v,h1,λh' _=>h2 trivial h'⟩
 |_=>unfold zc X5 at hq;rw[ho]at hq;cases hq
theorem qf(σ:Nat->Value):valid σ []:=by unfold valid;trivial
theorem Z1:∀{l:List Oper} {k:Nat} {f:Nat->Value} {a:Act},(qe k l f a).tmps.size=a.tmps.size/\(qe k l f a).defers=a.defers
 |[],_,_,_=>⟨rfl,rfl⟩
 |o::l,k,f,a=>by
  unfold qe
  have:=Z1 (l:=l) (k:=k+1) (f:=f) (a:=bif zc o then a.put o.dst (f k)else a)
  rw[this.1,this.2]
  cases zc o with
  |true=>exact⟨size_put _ _ _,zu _ _ _⟩
  |false=>exact⟨rfl,rfl⟩
theorem zi{d:Option Nat}{u:Value}{s:Nat}(h:d≠some s):zl (a.put d u) s=zl a s:=by
 cases d with
 |none=>rfl
 |some t=>exact qb λe=>h (by rw[e])
theorem qz{s:Nat}:∀{l:List Oper} {k:Nat} {f:Nat->Value} {a:Act},(∀o∈l,zc o=true->o.dst≠some s)->zl (qe k l f a) s=zl a s
 |[],_,_,_,_=>rfl
 |o::l,k,f,a,h=>by
  unfold qe
  rw[qz λo' Z=>h o' (Ae _ Z)]
  cases hq:zc o with
  |true=>exact zi (h o Aj hq)
  |false=>rfl
theorem Qv{P:Program}{n:Nat}{h:za}{K:Env->Prop}:∀{l:List Oper} {k:Nat} {e:Env} {a:Act},wU P n h K l e->Sat n e a->∃(f:Nat->Value) (e':Env),K e'/\Sat n e' (qe k l f a) /\
  ∀i o,l[i]?=some o->zc o=true->jb o.op=true/\qi n [] o.dst=true/\∀h',LdOK o (qe k (l.take i) f a).eval h h'->QExec P (execOp (qe k (l.take i) f a).eval o) h' (.value (f (k+i)))
 |[],k,e,a,H,hs=>⟨λ_=>undef,e,H,hs,λi o h=>by simp at h⟩
 |o::l,k,e,a,H,hs=>by
  unfold wU at H
  cases hq:zc o with
  |false=>
   rw[hq]at H
   obtain⟨f,e',h1,h2,h3⟩:=Qv (k:=k+1) H hs
   refine⟨f,e',h1,by unfold qe;rw[hq];exact h2,λi o' hi Z=>?_⟩
   cases i with
   |zero=>simp at hi;subst hi;rw[hq]at Z;cases Z
   |succ i=>
    have:=h3 i o' (by simpa using hi) Z
    rw[Be]
    unfold qe
    rw[hq,show k+(i+1)=k+1+i by omega];exact this
  |true=>
   rw[hq]at H
   simp only[cond_true]at H
   cases hd:qi n [] o.dst with
   |false=>rw[hd]at H;exact H.elim
   |true=>
    rw[hd]at H
    simp only[cond_true]at H
    cases hns:jb o.op with
    |false=>rw[hns]at H;exact H.elim
    |true=>
     rw[hns]at H
     simp only[cond_true]at H
     cases hk:known e [] o.op.operands.toList with
     |false=>rw[hk]at H;exact H.elim
     |true=>
      rw[hk]at H
      simp only[cond_true]at H
      obtain⟨v,H1,H2⟩:=Xj hq H
      obtain⟨f,e',h1,h2,h3⟩:=Qv (k:=k+1) (a:=a.put o.dst v) H1 (hs.putO hd (λ_=>rfl) λhv=>absurd (qf _) hv)
      have hf:∀(m:List Oper) (j:Nat) (b:Act),qe (k+1+j) m (λx=>if x=k then v else f x) b=qe (k+1+j) m f b:=by
       intro m
       induction m with
       |nil=>intro j b;rfl
       |cons o' m ih=>
        intro j b
        unfold qe
        dsimp only
        rw[if_neg (show¬k+1+j=k by omega),show k+1+j+1=k+1+(j+1)by omega,ih]
      refine⟨λx=>if x=k then v else f x,e',h1,?_,λi o' hi Z=>?_⟩
      ·unfold qe
       rw[hq,cond_true]
       dsimp only
       rw[if_pos rfl]
       have:=hf l 0 (a.put o.dst v)
       rw[Cu]at this
       rw[this];exact h2
      ·cases i with
       |zero=>
        simp at hi;subst hi
        rw[Dg,Cu]
        dsimp only
        rw[if_pos rfl]
        refine⟨hns,hd,λh' hh=>?_⟩
        show QExec P (execOp a.eval o) h' _
        rw[Qr hs (qf _) hns hk]
        exact H2 h' (LdOK.congr (λx hx=>(j7 hs (qf _) hk x hx).symm) hh)
       |succ i=>
        have:=h3 i o' (by simpa using hi) Z
        rw[Be]
        unfold qe
        rw[hq,cond_true]
        dsimp only
        rw[if_pos rfl]
        have e2:=hf (l.take i) 0 (a.put o.dst v)
        rw[Cu]at e2
        rw[e2,if_neg (show¬k+(i+1)=k by omega),show k+(i+1)=k+1+i by omega]
        exact this
theorem Yf{next:Act->World->Prop}{Q:Exit->Act->World->Prop}{r:Result Next}(hb:b.defers=[])
  (H:o.upon P b (λc w=>c.defers=[]/\∀v,c=b.put o.dst v->next (a.put o.dst v) w) (λ_ _ _=>False) r):o.upon P a next Q r:=by
 have lo:¬LetsOut (λ(_:Exit) (_:Act) (_:World)=>False):=λh=>by
  obtain⟨_,_,h⟩:=h
  exact h
 cases r with
 |ok x w=>
  cases x with
  |value v=>exact H.2 v rfl
  |skip=>exact H.2 undef rfl
  |defer d=>
   have:=H.1
   rw[zu]at this;cases this
  |enter f args=>
   refine Calls.mono (show Calls P f args w _ from H) λe w' he=>?_
   cases e with
   |returned v=>exact he.2 v rfl
   |panicked c=>exact he.elim
   |outgrown=>exact absurd he lo
  |row row args=>exact Rows.mono (show Rows P row args w _ from H) λv w' he=>he.2 v rfl
  |_=>exact H
 |halt x w=>cases x <;> first|exact H.elim|exact H
theorem ql{j:Nat}:∀{l:List Oper} {k:Nat},j∈heavyL k l↔k<=j/\∃o,l[j-k]?=some o/\zc o=false
 |[],k=>by simp[heavyL]
 |o::l,k=>by
  unfold heavyL
  cases hq:zc o with
  |true=>
   rw[cond_true,ql (l:=l)]
   constructor
   ·rintro⟨h1,o',h2,h3⟩
    exact⟨by omega,o',by rw[show j-k=(j-(k+1))+1 by omega];simpa using h2,h3⟩
   ·rintro⟨h1,o',h2,h3⟩
    rcases Dm h1 with e|e
    ·subst e
     simp at h2;subst h2;rw[hq]at h3;cases h3
    ·exact⟨by omega,o',by rw[show j-k=(j-(k+1))+1 by omega]at h2;simpa using h2,h3⟩
  |false=>
   rw[cond_false,Af,ql (l:=l)]
   constructor
   ·rintro(rfl|⟨h1,o',h2,h3⟩)
    ·exact⟨Ad _,o,by simp,hq⟩
    ·exact⟨by omega,o',by rw[show j-k=(j-(k+1))+1 by omega];simpa using h2,h3⟩
   ·rintro⟨h1,o',h2,h3⟩
    rcases Dm h1 with e|e
    ·exact .inl e.symm
    ·exact .inr ⟨by omega,o',by rw[show j-k=(j-(k+1))+1 by omega]at h2;simpa using h2,h3⟩
theorem yc:∀{l:List Oper} {k:Nat},(heavyL k l).Nodup
 |[],_=>DI
 |o::l,k=>by
  unfold heavyL
  cases zc o with
  |true=>exact yc
  |false=>exact C4.2 ⟨λh=>by have:=(ql.1 h).1;omega,yc⟩
theorem qk{ops:Array Oper}:∀{m:Nat},Ye ops m=true->∀k o,k<m->ops[k]?=some o->yw ops k (tmpsOf o.op.operands.toList) ops.size=true/\(zc o=true->∀j∈heavyL 0 ops.toList,Region.waitsFor .any ops k j=true->∀t,yf ops j=some t->t∉tmpsOf o.op.operands.toList)
 |0,_,k,o,hk,_=>by omega
 |m+1,h,k,o,hk,ho=>by
  unfold Ye at h
  split at h
  ·rename_i o' Z
   cases hs:yw ops m (tmpsOf o'.op.operands.toList) ops.size with
   |false=>rw[hs]at h;cases h
   |true=>
    rw[hs,cond_true]at h
    rcases AR k m with h1|h1
    ·refine qk (m:=m) ?_ k o h1 ho
     revert h
     cases(bif zc o' then(heavyL 0 ops.toList).all λj=>!(Region.waitsFor .any ops m j)||(match yf ops j with
      |some t=>!(memN (tmpsOf o'.op.operands.toList) t)
      |none=>true)else true) <;> intro h <;> first|exact h|cases h
    ·have:k=m:=by omega
     subst this
     have:o'=o:=Aq (Z.symm.trans ho)
     subst this
     refine⟨hs,λhq j hj hw t ht=>?_⟩
     rw[hq,cond_true]at h
     cases hall:(heavyL 0 ops.toList).all λj=>!(Region.waitsFor .any ops k j)||(match yf ops j with
      |some t=>!(memN (tmpsOf o'.op.operands.toList) t)
      |none=>true)with
     |false=>rw[hall]at h;cases h
     |true=>
      have:=AX.1 hall j hj
      rw[hw,ht]at this
      simp only[Bool.not_true,Dx,CZ]at this
      exact wh this
  ·rename_i Z
   rw[cond_true]at h
   rcases AR k m with h1|h1
   ·exact qk h k o h1 ho
   ·have:k=m:=by omega
    subst this
    rw[Z]at ho;cases ho
theorem Z7{ops:Array Oper}:∀{l:List Nat},Yd ops l=true->∀q i j,l[q]?=some i->l[q+1]?=some j->Region.waitsFor .any ops j i=true
 |[],_,q,i,j,h,_=>by simp at h
 |[_],_,q,i,j,_,h=>by simp at h
 |a::b::l,h,q,i,j,h1,h2=>by
  unfold Yd at h
  cases hw:Region.waitsFor .any ops b a with
  |false=>rw[hw]at h;cases h
  |true=>
   rw[hw,cond_true]at h
   cases q with
   |zero=>simp at h1 h2;subst h1;subst h2;exact hw
   |succ q=>exact Z7 h q i j (by simpa using h1) (by simpa using h2)
theorem wj{ops:Array Oper}{i:Nat}:∀{l:List Nat},jg ops i l=true->∃j∈l,Region.waitsFor .any ops j i=true
 |[],h=>by cases h
 |j::l,h=>by
  unfold jg at h
  cases hw:Region.waitsFor .any ops j i with
  |true=>exact⟨j,Aj,hw⟩
  |false=>
   rw[hw,cond_false]at h
   obtain⟨j',h1,h2⟩:=wj h
   exact⟨j',Ae _ h1,h2⟩
theorem Yg{ops:Array Oper}{T:List Nat}:∀{m:Nat},zfr ops T m=false->∀k o,k<m->ops[k]?=some o->zh o=true->jg ops k T=true
 |0,_,k,o,hk,_,_=>by omega
 |m+1,h,k,o,hk,ho,hl=>by
  unfold zfr at h
  cases hb:(match ops[m]? with
   |some o=>bif zh o then !(jg ops m T)else false
   |none=>false)with
  |true=>rw[hb]at h;cases h
  |false=>
   rw[hb,cond_false]at h
   rcases AR k m with h1|h1
   ·exact Yg h k o h1 ho hl
   ·have:k=m:=by omega
    subst this
    rw[ho]at hb
    simp only[hl,cond_true,Bool.not_eq_false']at hb
    exact hb
theorem xp{ops:Array Oper}{T:List Nat}:∀{f k:Nat},xg ops T f k=true->∀{listed:Array Bool},(∀i p,listed.getD i false=true->Region.waitsFor .any ops i p=true->listed.getD p false=true)->(∀j∈T,listed.getD j false=true)->listed.getD k false=true
 |0,k,h,_,_,hT=>by
  have hm:k∈T:=by
   unfold xg at h
   exact CG λhc=>by
    have:memN T k=false:=by
     clear h hT
     induction T with
     |nil=>rfl
     |cons x T ih=>
      simp only[Af,not_or]at hc
      simp only[memN]
      have:Nat.beq k x=false:=by
       cases hb:Nat.beq k x with
       |false=>rfl
       |true=>exact absurd (Ag hb) hc.1
      rw[this,cond_false];exact ih hc.2
    rw[this]at h;cases h
  exact hT k hm
 |f+1,k,h,listed,hc,hT=>by
  unfold xg at h
  cases hm:memN T k with
  |true=>exact xp (f:=0) (k:=k) (by unfold xg;exact hm) hc hT
  |false=>
   rw[hm,cond_false,DT]at h
   obtain⟨p,_,hp⟩:=h
   cases hw:Region.waitsFor .any ops p k with
   |false=>rw[hw]at hp;cases hp
   |true=>rw[hw,cond_true]at hp;exact hc p k (xp hp hc hT) hw
theorem zcy{ops:Array Oper}{T:List Nat}:∀{m:Nat},zz6 ops T m=false->∀k o,k<m->ops[k]?=some o->zh o=true->xg ops T ops.size k=true
 |0,_,k,o,hk,_,_=>by omega
 |m+1,h,k,o,hk,ho,hl=>by
  unfold zz6 at h
  cases hb:(match ops[m]? with
   |some o=>bif zh o then !(xg ops T ops.size m)else false
   |none=>false)with
  |true=>rw[hb]at h;cases h
  |false=>
   rw[hb,cond_false]at h
   rcases AR k m with h1|h1
   ·exact zcy h k o h1 ho hl
   ·have:k=m:=by omega
    subst this
    rw[ho]at hb
    simp only[hl,cond_true]at hb
    simpa using hb
theorem jo{i p:Nat}(hi:i∈Region.ready .any ops listed)(hw:Region.waitsFor .any ops i p=true):listed.getD p false=true:=by
 obtain⟨oj,ab,e,he,hb,aa⟩:=Region.waitsFor_spec hw
 obtain⟨_,o,ho,Z⟩:=mem_ready.1 hi
 have:oj=o:=Aq (ab.symm.trans ho)
 subst this
 rw[<-aa];exact Z e he hb
theorem qm(inv:HeadInv .any ops n listed){i p:Nat}(hi:listed.getD i false=true)(hw:Region.waitsFor .any ops i p=true):listed.getD p false=true:=by
 obtain⟨oj,aa,e,he,hb,Z⟩:=Region.waitsFor_spec hw
 rw[<-Z];exact inv.closed i oj aa hi e he hb
theorem Z8{p:Nat->Bool}{N:Nat}(h:∃k,k<N/\p k=false):∃k,k<N/\p k=false/\∀j,j<k->p j=true:=by
 obtain⟨k,h1,h2⟩:=h
 induction k using Du with
 |_ k ih=>
  by_cases hm:∃j,j<k/\p j=false
  ·obtain⟨j,h3,h4⟩:=hm
   exact ih j h3 (by omega) h4
  ·exact⟨k,h1,h2,λj hj=>by
    cases hb:p j with
    |true=>rfl
    |false=>exact absurd ⟨j,hj,hb⟩ hm⟩
theorem Wn(h:mixB ops=true):j4 ops.toList=true/\qa ops ops.size=true/\jj ops ops.size=true/\Yd ops (heavyL 0 ops.toList)=true/\Ye ops ops.size=true:=by
 unfold mixB at h
 cases h1:j4 ops.toList <;> cases h2:qa ops ops.size <;> cases h3:jj ops ops.size <;> cases h4:Yd ops (heavyL 0 ops.toList) <;> simp[h1,h2,h3,h4]at h ⊢
 exact h
theorem Zv{l:List Oper}(h:j4 l=true):∀o∈l,o.guard=none/\jb o.op=true:=by
 intro o ho
 have:=AX.1 h o ho
 cases hg:o.guard with
 |none=>rw[hg]at this;exact⟨rfl,this⟩
 |some g=>rw[hg]at this;cases this
theorem wl:∀{l m:List Oper} {k:Nat} {f:Nat->Value} {a:Act},qe k (l++m) f a=qe (k+l.length) m f (qe k l f a)
 |[],m,k,f,a=>rfl
 |o::l,m,k,f,a=>by
  have e:∀l',qe k (o::l') f a=qe (k+1) l' f (bif zc o then a.put o.dst (f k)else a):=λ_=>rfl
  rw[AO,e,e,wl,show k+1+l.length=k+(o::l).length by simp;omega]
theorem toL(ho:ops[i]?=some o):ops.toList[i]?=some o:=by rw[Bw];exact ho
theorem ofL(ho:ops.toList[i]?=some o):ops[i]?=some o:=by rw[Bw]at ho;exact ho
structure StM (P:Program) (n:Nat) (ops:Array Oper) (h0:za) (K:Env->za->Prop) (tr:Bool) (f:Nat->Value) (a0:Act) (listed:Array Bool) (a b:Act) (e:Env) (h:za) (done todo:List Nat):Prop where
 inv:HeadInv .any ops ops.size listed
 ag:∀s,(∀i o,ops[i]?=some o->zc o=true->listed.getD i false=false->o.dst≠some s)->zl a s=zl b s
 sz:a.tmps.size=n
 ad:a.defers=[]
 sb:Sat n e b
 qv:∀i o t,ops[i]?=some o->zc o=true->o.dst=some t->zl b t=f i/\t<n
 qx:∀i o,ops[i]?=some o->zc o=true->∀h',(zh o=false\/Keep h0.size h0 h')->QExec P (execOp b.eval o) h' (.value (f i))
 tt:heavyL 0 ops.toList=done.reverse++todo
 ch:∀j,j∈heavyL 0 ops.toList->(listed.getD j false=true↔j∈done)
 wt:wT P n ops h0 K tr done todo e h
 kp:∀i o,ops[i]?=some o->zh o=true->listed.getD i false=false->Keep h0.size h0 h
 sm:Same (yn ops.toList) a0 a
theorem xx{o:Oper}:∀{l:List Oper},o∈l->∀i,o.dst=some i->i∈yn l
 |[],h,_,_=>by cases h
 |x::l,h,i,hi=>by
  unfold yn
  rcases Af.1 h with rfl|h
  ·rw[hi];exact Aj
  ·have:=xx h i hi
   split
   ·exact Ae _ this
   ·exact this
theorem zf{k:Nat}(h:ops[k]?=some o):yf ops k=o.dst:=by simp[yf,h]
theorem zpc{K:Env->za->Prop}{Q:Exit->Act->World->Prop}(B:World)(bn:mixB ops=true){f:Nat->Value}
  (hQ:∀e' a' d' h',Sat n e' a'->Same (yn ops.toList) a0 a'->K e' h'->Q .normal a' (mk B d' h')):
  ∀(N:Nat) (U:List Nat) (listed:Array Bool) (a b:Act) (e:Env) (h:za) (d:Nat) (done todo:List Nat),U.length=N->U.Nodup->(∀k,k∈U↔k<ops.size/\listed.getD k false=false) ->
   StM P n ops h0 K tr f a0 listed a b e h done todo->wpAny P .any ops Q N listed a (mk B d h):=by
 obtain⟨bG,aY,bC,aB,an⟩:=Wn bn
 have a7:∀(i:Nat) (o:Oper),ops[i]?=some o->o.guard=none/\jb o.op=true:=λi o ho=>Zv bG o (by
  obtain⟨ab,e⟩:=Ac.1 ho
  rw[<-e];simp)
 have bB:∀{listed:Array Bool} {a b:Act} {e:Env} {h:za} {d:Nat} {done todo:List Nat},(∀k,k<ops.size->listed.getD k false=true)->StM P n ops h0 K tr f a0 listed a b e h done todo->Q .normal a (mk B d h):=by
  intro listed a b e h d done todo ae S
  have ak:todo=[]:=by
   cases todo with
   |nil=>rfl
   |cons j l=>
    have hj:j∈heavyL 0 ops.toList:=by rw[S.tt];simp
    have ab:j<ops.size:=by
     obtain⟨_,o,ho,_⟩:=ql.1 hj
     have:=(Av.1 ho).1
     simpa using this
    have hd:=(S.ch j hj).1 (ae j ab)
    have hn:=yc (l:=ops.toList) (k:=0)
    rw[S.tt,Bl]at hn
    exact absurd rfl (hn.2.2 j (by simpa using hd) j (by simp))
  have hw:=S.wt
  rw[ak]at hw
  unfold wT at hw
  have hv:∀s,zl a s=zl b s:=λs=>S.ag s λi o ho hq hl=>by
   rw[ae i (Ac.1 ho).1]at hl;cases hl
  have hs:Sat n e a:=⟨S.ad,S.sz,λx hx=>by
   have:=S.sb.all x hx
   have e1:zl a=zl b:=funext hv
   rw[e1];exact this⟩
  exact hQ _ _ _ _ hs.clean S.sm hw
 intro N
 induction N with
 |zero=>
  intro U listed a b e h d done todo hU _ af S
  have bq:U=[]:=A8.1 hU
  subst bq
  have ae:∀k,k<ops.size->listed.getD k false=true:=λk hk=>by
   cases hb:listed.getD k false with
   |true=>rfl
   |false=>exact absurd ((af k).2 ⟨hk,hb⟩) (by simp)
  refine⟨?_,bB ae S⟩
  rw[CL]
  intro j hj
  obtain⟨h1,o,ho,_⟩:=mem_ready.1 hj
  have ab:=(Ac.1 ho).1
  have:=ae j ab
  have h2:=getD_both h1
  rw[this]at h2;cases h2
 |succ N ih=>
  intro U listed a b e h d done todo hU aI af S
  have bz:∃k,k<ops.size/\listed.getD k false=false:=by
   cases U with
   |nil=>cases hU
   |cons k U=>exact⟨k,(af k).1 Aj⟩
  refine⟨λhr=>?_,λi hi=>?_⟩
  ·exfalso
   obtain⟨k,aA,aO,bF⟩:=Z8 bz
   have:k∈Region.ready .any ops listed:=mem_ready.2 ⟨by rw[<-aO];simp[S.inv.size,aA],ops[k],AI aA,λx hx hb=>bF _ (zr aY k ops[k] aA (AI aA) x hx hb)⟩
   rw[hr]at this;cases this
  ·obtain⟨bg,o,ho,ae⟩:=mem_ready.1 hi
   have aG:listed.getD i false=false:=getD_both bg
   have ab:i<ops.size:=(Ac.1 ho).1
   obtain⟨hg,bu⟩:=a7 i o ho
   have aL:i<listed.size:=by rw[S.inv.size];exact ab
   have a8:(U.erase i).length=N:=by rw[CP ((af i).2 ⟨ab,aG⟩),hU];rfl
   have ap:(U.erase i).Nodup:=aI.erase i
   have ar:∀k,k∈U.erase i↔k<ops.size/\(listed.setIfInBounds i true).getD k false=false:=λk=>by
    rw[aI.mem_erase_iff,af k]
    by_cases hk:i=k
    ·subst hk;simp[aL]
    ·rw[getD_set_ne false hk];exact⟨λhx=>hx.2,λhx=>⟨λe=>hk e.symm,hx⟩⟩
   have am:=S.inv.set hi ab
   have ai:∀k,k≠i->(listed.setIfInBounds i true).getD k false=listed.getD k false:=λk hk=>getD_set_ne false (Ne.symm hk)
   have aj:(listed.setIfInBounds i true).getD i false=true:=by simp[aL]
   obtain⟨aF,bL⟩:=qk an i o ab ho
   have bj:∀t∈tmpsOf o.op.operands.toList,zl a t=zl b t:=λt ht=>S.ag t λk ok Z hq hl hd=>by
    have hw:=zx aF k t (Ac.1 Z).1 (by rw[zf Z,hd]) ht
    rw[jo hi hw]at hl;cases hl
   have aN:=yh bu bj
   unfold wpOp
   rw[ho]
   simp only
   have aT:Bo o (yielded ops a.tmps)=true:=by unfold Bo;rw[hg]
   rw[if_pos aT]
   left
   unfold Oper.wp
   rw[aN]
   cases hq:zc o with
   |true=>
    have hx:=S.qx i o ho hq h (by
     cases hl:zh o with
     |false=>exact .inl rfl
     |true=>exact .inr (S.kp i o ho hl aG)) B d
    rw[hx,Oper.upon_value]
    have bi:i∉heavyL 0 ops.toList:=λhm=>by
     obtain⟨_,o',aZ,ba⟩:=ql.1 hm
     rw[Dn]at aZ
     have:o'=o:=by
      have h2:ops[i]?=some o':=ofL aZ
      exact Aq (h2.symm.trans ho)
     subst this;rw[hq]at ba;cases ba
    refine ih _ _ _ b e h d done todo a8 ap ar { S with inv:=am,ag:=λs hs=>?_,sz:=by rw[size_put];exact S.sz,ad:=by rw[zu];exact S.ad,ch:=λj hj=>?_,kp:=λk ok Z hl hk=>?_,sm:=S.sm.trans (Same.put a o.dst _ λt ht=>xx (by
     obtain⟨bD,e2⟩:=Ac.1 ho
     rw[<-e2];simp) t ht) }
    ·by_cases hd:o.dst=some s
     ·obtain⟨hv,az⟩:=S.qv i o s ho hq hd
      rw[hd,qh (by rw[S.sz];exact az),hv]
     ·rw[zi hd]
      refine S.ag s λk ok Z aa aV=>?_
      by_cases ah:k=i
      ·subst ah
       have:ok=o:=Aq (Z.symm.trans ho)
       subst this;exact hd
      ·exact hs k ok Z aa (by rw[ai k ah];exact aV)
    ·have:j≠i:=λe=>bi (e ▸ hj)
     rw[ai j this];exact S.ch j hj
    ·by_cases ah:k=i
     ·subst ah;rw[aj]at hk;cases hk
     ·rw[ai k ah]at hk;exact S.kp k ok Z hl hk
   |false=>
    have aU:i∈heavyL 0 ops.toList:=ql.2 ⟨CV _,o,by rw[Dn];exact toL ho,hq⟩
    have aJ:=yc (l:=ops.toList) (k:=0)
    have au:i∉done:=λhd=>by rw[(S.ch i aU).2 hd]at aG;cases aG
    have ak:∃rest,todo=i::rest:=by
     have bh:i∈todo:=by
      have:=aU
      rw[S.tt,As]at this
      rcases this with h1|h1
      ·exact absurd (by simpa using h1) au
      ·exact h1
     cases todo with
     |nil=>cases bh
     |cons j rest=>
      rcases Af.1 bh with rfl|hr
      ·exact⟨rest,rfl⟩
      ·exfalso
       obtain⟨m,hm,em⟩:=BD hr
       have hp:∃pr,(j::rest)[m]?=some pr:=⟨_,Ai (by simp;omega)⟩
       obtain⟨pr,be⟩:=hp
       have hw:=Z7 aB (done.reverse.length+m) pr i (by rw[S.tt,A5 (by omega),C3];exact be) (by
        rw[S.tt,A5 (by omega),show done.reverse.length+m+1-done.reverse.length=m+1 by omega,List.getElem?_cons_succ,Ai hm,em])
       have aH:pr∈j::rest:=Bh be
       have a6:pr∈heavyL 0 ops.toList:=by rw[S.tt];exact Au _ aH
       have hd:=(S.ch pr a6).1 (jo hi hw)
       rw[S.tt,Bl]at aJ
       exact aJ.2.2 pr (by simpa using hd) pr aH rfl
    obtain⟨rest,rfl⟩:=ak
    have hW:=S.wt
    unfold wT at hW
    rw[ho]at hW
    simp only at hW
    cases hd:qi n [] o.dst with
    |false=>rw[hd]at hW;exact hW.elim
    |true=>
     rw[hd,cond_true]at hW
     refine Yf (b:=b) S.sb.defers ?_
     refine zfp hW S.sb (qf _) B d λv d' h' hK=>⟨by rw[zu];exact S.sb.defers,λv2 bE=>?_⟩
     have bo:b.put o.dst v2=b.put o.dst v:=bE.symm
     have ay:∀j,j∈heavyL 0 ops.toList->((listed.setIfInBounds i true).getD j false=true↔j∈i::done):=λj hj=>by
      by_cases aP:j=i
      ·subst aP;rw[aj];simp
      ·rw[ai j aP,S.ch j hj];simp[aP]
     have aS:zma tr ops (i::done) ops.size=false->∀k ok,ops[k]?=some ok->zh ok=true->(listed.setIfInBounds i true).getD k false=true:=λhl k ok Z aE=>by
      have bm:∀j∈i::done,(listed.setIfInBounds i true).getD j false=true:=λj hj=>by
       rcases Af.1 hj with rfl|hj
       ·exact aj
       ·exact getD_set_true ((S.ch j (by rw[S.tt];simp[hj])).2 hj)
      cases tr with
      |false=>
       obtain⟨j,hj,hw⟩:=wj (Yg hl k ok (Ac.1 Z).1 Z aE)
       exact qm am (bm j hj) hw
      |true=>exact xp (zcy hl k ok (Ac.1 Z).1 Z aE) (λi p h1 h2=>qm am h1 h2) bm
     have a1:wT P n ops h0 K tr (i::done) rest (putO e o.dst [] v) h'/\(∀k ok,ops[k]?=some ok->zh ok=true->(listed.setIfInBounds i true).getD k false=false->Keep h0.size h0 h'):=by
      cases hl:zma tr ops (i::done) ops.size with
      |true=>rw[hl,cond_true]at hK;exact⟨hK.2,λ_ _ _ _ _=>hK.1⟩
      |false=>rw[hl,cond_false]at hK;exact⟨hK,λk ok Z aE hf=>by rw[aS hl k ok Z aE]at hf;cases hf⟩
     have aM:∀k ok t,ops[k]?=some ok->zc ok=true->ok.dst=some t->o.dst≠some t:=λk ok t Z aa aC ax=>by
      have:=qj bC k i t (Ac.1 Z).1 ab (by rw[zf Z,aC]) (by rw[zf ho,ax])
      subst this
      have:ok=o:=Aq (Z.symm.trans ho)
      subst this;rw[hq]at aa;cases aa
     refine ih _ _ _ (b.put o.dst v) (putO e o.dst [] v) h' d' (i::done) rest a8 ap ar ⟨am,λs hs=>?_,by rw[size_put];exact S.sz,by rw[zu];exact S.ad,S.sb.putO hd (λ_=>rfl) λhv=>absurd (qf _) hv,λk ok t Z aa aC=>?_,λk ok Z aa bH hh=>?_,by rw[S.tt];simp,ay,a1.1,a1.2,S.sm.trans (Same.put a o.dst _ λt ht=>xx (by
      obtain⟨bD,e2⟩:=Ac.1 ho
      rw[<-e2];simp) t ht)⟩
     ·have bJ:∀u,(∀k ok,ops[k]?=some ok->zc ok=true->listed.getD k false=false->ok.dst≠some s)->o.dst≠some s->zl (a.put o.dst u) s=zl (b.put o.dst v) s:=λu h1 h2=>by
       rw[zi h2,zi h2];exact S.ag s h1
      have bI:∀k ok,ops[k]?=some ok->zc ok=true->listed.getD k false=false->ok.dst≠some s:=λk ok Z aa aV=>by
       by_cases ah:k=i
       ·subst ah
        have:ok=o:=Aq (Z.symm.trans ho)
        subst this;rw[hq]at aa;cases aa
       ·exact hs k ok Z aa (by rw[ai k ah];exact aV)
      by_cases aQ:o.dst=some s
      ·rw[<-bo,aQ]
       have az:s<n:=by
        rw[aQ]at hd
        unfold qi at hd
        simp at hd;exact hd.2
       rw[qh (by rw[S.sz];exact az),qh (by rw[S.sb.size];exact az)]
      ·exact bJ v2 bI aQ
     ·have:=S.qv k ok t Z aa aC
      rw[zi (aM k ok t Z aa aC)];exact this
     ·have aO:=a7 k ok Z
      rw[yh (b:=b) aO.2 λt ht=>?_]
      ·exact S.qx k ok Z aa bH hh
      ·refine zi λax=>?_
       obtain⟨bA,br⟩:=qk an k ok (Ac.1 Z).1 Z
       have hw:=zx bA i t ab (by rw[zf ho,ax]) ht
       exact br aa i aU hw t (by rw[zf ho,ax]) ht
theorem mix_sound{K:Env->za->Prop}{Q:Exit->Act->World->Prop}(B:World)(ae:mixB ops=true)
  (H:wU P n h (λe'=>wT P n ops h K tr [] (heavyL 0 ops.toList) e' h) ops.toList e) (hs:Sat n e a)
  (hQ:∀e' a' d' h',Sat n e' a'->Same (yn ops.toList) a a'->K e' h'->Q .normal a' (mk B d' h')) (d:Nat):wpAny P .any ops Q ops.size (Ba ops.size false) a (mk B d h):=by
 obtain⟨aE,ai,ax,ap,ah⟩:=Wn ae
 obtain⟨f,e1,HT,ak,hf⟩:=Qv (k:=0) H hs
 have hl:∀(i:Nat) (o:Oper),ops[i]?=some o->ops.toList[i]?=some o:=λi o ho=>toL ho
 have Z:∀i,qe 0 ops.toList f a=qe (0+(ops.toList.take i).length) (ops.toList.drop i) f (qe 0 (ops.toList.take i) f a):=λi=>by
  rw[<-wl,Cf]
 refine zpc B ae (f:=f) hQ ops.size (Bv ops.size) _ a (qe 0 ops.toList f a) e1 h d [] (heavyL 0 ops.toList) DC Dh (λk=>by rw[BL,getD_replicate_false];simp) ⟨⟨by simp,λj oj _ hl=>(by rw[getD_replicate_false]at hl;cases hl),λt ht aC=>by omega⟩,λs au=>?_,hs.size,hs.defers,ak,λi o t ho hq hd=>?_,λi o ho hq h' hh=>?_,by simp,λj hj=>by rw[getD_replicate_false];simp,HT,λ_ _ _ _ _=>Keep.refl _ _,Same.refl _ _⟩
 ·refine(qz λo ho hq=>?_).symm
  obtain⟨i,hi,e⟩:=BD ho
  exact au i o (ofL (by rw[Ai hi,e])) hq (getD_replicate_false _ _)
 ·obtain⟨h1,h2,h3⟩:=hf i o (hl i o ho) hq
  have an:t<n:=by
   rw[hd]at h2
   unfold qi at h2
   simp at h2;exact h2.2
  refine⟨?_,an⟩
  have ab:=(Ac.1 ho).1
  have am:(ops.toList.take i).length=i:=by simp;omega
  rw[Z i,am,Ay]
  have az:ops.toList.drop i=o::ops.toList.drop (i+1):=by
   have:=(Av.1 (hl i o ho))
   rw[AF this.1,this.2]
  rw[az]
  unfold qe
  rw[hq,cond_true,qz λo' af aA aj=>?_]
  ·rw[hd,qh (by rw[Z1.1,hs.size];exact an)]
  ·obtain⟨m,hm,em⟩:=BD af
   have aa:ops[i+1+m]?=some o':=by
    have:ops.toList[i+1+m]?=some o':=by rw[<-AE,Ai hm,em]
    exact ofL this
   have:=qj ax i (i+1+m) t ab (Ac.1 aa).1 (by rw[zf ho,hd]) (by rw[zf aa,aj])
   omega
 ·obtain⟨h1,h2,h3⟩:=hf i o (hl i o ho) hq
  have:=h3 h' (hh.imp id Or.inl)
  rw[Ay]at this
  rw[yh h1 λt ht=>?_]
  ·exact this
  ·have ab:=(Ac.1 ho).1
   rw[Z i]
   refine qz λo' af aA aj=>?_
   obtain⟨m,hm,em⟩:=BD af
   have aa:ops[i+m]?=some o':=by
    have:ops.toList[i+m]?=some o':=by rw[<-AE,Ai hm,em]
    exact ofL this
   obtain⟨ar,_⟩:=qk ah i o ab ho
   have hw:=zx ar (i+m) t (Ac.1 aa).1 (by rw[zf aa,aj]) ht
   obtain⟨oj,ay,x,hx,hb,aB⟩:=Region.waitsFor_spec hw
   have:=zr ai i oj ab ay x hx hb
   omega
def zcz(j:Nat):List Nat->List Nat
 |[]=>[]
 |k::l=>bif Nat.beq k j then zcz j l else k::zcz j l
theorem Y7{j x:Nat}:∀{l:List Nat},x∈zcz j l↔x∈l/\x≠j
 |[]=>by simp[zcz]
 |k::l=>by
  simp only[zcz]
  cases hb:Nat.beq k j with
  |true=>
   have:=Ag hb
   subst this
   rw[cond_true,Y7,Af]
   exact⟨λh=>⟨.inr h.1,h.2⟩,λh=>⟨h.1.resolve_left h.2,h.2⟩⟩
  |false=>
   have Z:k≠j:=λe=>by rw[e]at hb;simp at hb
   rw[cond_false,Af,Af,Y7]
   constructor
   ·rintro(rfl|h)
    ·exact⟨.inl rfl,Z⟩
    ·exact⟨.inr h.1,h.2⟩
   ·rintro⟨rfl|h,h2⟩
    ·exact .inl rfl
    ·exact .inr ⟨h,h2⟩
theorem Xk{j:Nat}:∀{l:List Nat},l.Nodup->(zcz j l).Nodup
 |[],h=>h
 |k::l,h=>by
  simp only[zcz]
  rw[C4]at h
  cases Nat.beq k j with
  |true=>exact Xk h.2
  |false=>
   rw[cond_false,C4]
   exact⟨λhm=>h.1 (Y7.1 hm).1,Xk h.2⟩
theorem zvj{j:Nat}:∀{l:List Nat},(zcz j l).length<=l.length
 |[]=>Ad _
 |k::l=>by
  simp only[zcz]
  have:=zvj (j:=j) (l:=l)
  cases Nat.beq k j with
  |true=>rw[cond_true,Aw];omega
  |false=>rw[cond_false,Aw,Aw];omega
theorem zj6{j:Nat}:∀{l:List Nat},j∈l->(zcz j l).length+1<=l.length
 |[],h=>by cases h
 |k::l,h=>by
  simp only[zcz]
  cases hb:Nat.beq k j with
  |true=>
   have:=zvj (j:=j) (l:=l)
   rw[cond_true,Aw];omega
  |false=>
   have Z:k≠j:=λe=>by rw[e]at hb;simp at hb
   have:=zj6 (j:=j) (l:=l) (by
    rcases Af.1 h with rfl|h
    ·exact absurd rfl Z
    ·exact h)
   rw[cond_false,Aw,Aw];omega
def zz7(ops:Array Oper)(todo:List Nat)(j:Nat):Bool:=todo.all λk=>bif Nat.beq k j then true else !(xg ops [j] ops.size k)
def qbv(p:Nat->Prop):List Nat->Prop
 |[]=>True
 |[j]=>p j
 |j::k::l=>p j/\qbv p (k::l)
theorem zj7{p:Nat->Prop}:∀{l:List Nat},qbv p l->∀j∈l,p j
 |[],_,j,h=>by cases h
 |[k],H,j,h=>by simp at h;subst h;exact H
 |k::k2::l,H,j,h=>by
  rcases Af.1 h with rfl|h
  ·exact H.1
  ·exact zj7 H.2 j h
def zta(p:Nat->Bool):List Nat->List Nat
 |[]=>[]
 |j::l=>bif p j then j::zta p l else zta p l
theorem zbq{p:Nat->Bool}{j:Nat}:∀{l:List Nat},j∈l->p j=true->j∈zta p l
 |[],h,_=>by cases h
 |k::l,h,hp=>by
  simp only[zta]
  rcases Af.1 h with rfl|h
  ·rw[hp];exact Aj
  ·cases p k with
   |true=>exact Ae _ (zbq h hp)
   |false=>exact zbq h hp
def zmb(ops:Array Oper)(T:List Nat)(e:Env)(h0 h':za)(K:Prop):Nat->Prop
 |0=>K
 |k+1=>match ops[k]? with
  |some o=>bif zh o then(bif xg ops T ops.size k then zmb ops T e h0 h' K k else match o.op with
   |.load _ a=>bif known e [] [a]then(match rho e [] a with
    |.pointer (some p)=>h'[p.block]?=h0[p.block]?/\zmb ops T e h0 h' K k
    |_=>False)else False
   |_=>False)else zmb ops T e h0 h' K k
  |none=>zmb ops T e h0 h' K k
theorem zih{ops:Array Oper}{T:List Nat}{e:Env}{h0 h':za}{K:Prop}:∀{m:Nat},zmb ops T e h0 h' K m->K/\∀k o,k<m->ops[k]?=some o->zh o=true->xg ops T ops.size k=false ->
  ∃t a p,o.op=.load t a/\known e [] [a]=true/\rho e [] a=.pointer (some p)/\h'[p.block]?=h0[p.block]?
 |0,H=>⟨H,λk o hk=>by omega⟩
 |m+1,H=>by
  unfold zmb at H
  have step:zmb ops T e h0 h' K m->(∀o,ops[m]?=some o->zh o=true->xg ops T ops.size m=false->∃t a p,o.op=.load t a/\known e [] [a]=true/\rho e [] a=.pointer (some p)/\h'[p.block]?=h0[p.block]?) ->
    K/\∀k o,k<m+1->ops[k]?=some o->zh o=true->xg ops T ops.size k=false->∃t a p,o.op=.load t a/\known e [] [a]=true/\rho e [] a=.pointer (some p)/\h'[p.block]?=h0[p.block]?:=λH1 H2=>by
   obtain⟨h1,h2⟩:=zih H1
   refine⟨h1,λk o hk ho hl hr=>?_⟩
   rcases AR k m with h3|h3
   ·exact h2 k o h3 ho hl hr
   ·have:k=m:=by omega
    subst this
    exact H2 o ho hl hr
  cases ho:ops[m]? with
  |none=>rw[ho]at H;exact step H λo h1=>by rw[ho]at h1;cases h1
  |some o=>
   rw[ho]at H
   simp only at H
   have same:∀o',ops[m]?=some o'->o'=o:=λo' h1=>Aq (h1.symm.trans ho)
   cases hl:zh o with
   |false=>rw[hl]at H;exact step H λo' h1 h2=>by rw[same o' h1,hl]at h2;cases h2
   |true=>
    rw[hl,cond_true]at H
    cases hr:xg ops T ops.size m with
    |true=>rw[hr]at H;exact step H λo' h1 h2 h3=>by rw[hr]at h3;cases h3
    |false=>
     rw[hr,cond_false]at H
     split at H
     ·rename_i t a Z
      cases hk:known e [] [a]with
      |false=>rw[hk]at H;exact H.elim
      |true=>
       rw[hk,cond_true]at H
       split at H
       ·rename_i p hp
        exact step H.2 λo' h1 h2 h3=>⟨t,a,p,by rw[same o' h1];exact Z,hk,hp,H.1⟩
       ·exact H.elim
     ·exact H.elim
def zz8(md:Bool)(ops:Array Oper)(T:List Nat)(e:Env)(h0 h':za)(K:Prop):Prop:=bif md then zmb ops T e h0 h' K ops.size else Keep h0.size h0 h'/\K
def wB(P:Program)(n:Nat)(ops:Array Oper)(h0:za)(K:Env->za->Prop)(md:Bool):Nat->List Nat->List Nat->Env->za->Prop
 |_,_,[],e,h=>K (clean e) h
 |0,_,_::_,_,_=>False
 |f+1,T,j0::l0,e,h=>qbv (λj=>match ops[j]? with
  |some o=>bif qi n [] o.dst then opW P o e [] h λv h'=>(bif zma true ops (j::T) ops.size then zz8 md ops (j::T) e h0 h' (wB P n ops h0 K md f (j::T) (zcz j (j0::l0)) (putO e o.dst [] v) h')else wB P n ops h0 K md f (j::T) (zcz j (j0::l0)) (putO e o.dst [] v) h')else False
  |none=>False) (zta (zz7 ops (j0::l0)) (j0::l0))
theorem zvk{K:Env->za->Prop}{f:Nat}{T todo:List Nat}(H:wB P n ops h0 K md (f+1) T todo e h){j:Nat}(hj:j∈todo)(hc:zz7 ops todo j=true):match ops[j]? with
  |some o=>bif qi n [] o.dst then opW P o e [] h λv h'=>(bif zma true ops (j::T) ops.size then zz8 md ops (j::T) e h0 h' (wB P n ops h0 K md f (j::T) (zcz j todo) (putO e o.dst [] v) h')else wB P n ops h0 K md f (j::T) (zcz j todo) (putO e o.dst [] v) h')else False
  |none=>False:=by
 cases todo with
 |nil=>cases hj
 |cons j0 l0=>exact zj7 H j (zbq hj hc)
def zmc(ops:Array Oper):Bool:=bif j4 ops.toList then(bif qa ops ops.size then(bif jj ops ops.size then Ye ops ops.size else false)else false)else false
theorem zii(h:zmc ops=true):j4 ops.toList=true/\qa ops ops.size=true/\jj ops ops.size=true/\Ye ops ops.size=true:=by
 unfold zmc at h
 cases h1:j4 ops.toList <;> cases h2:qa ops ops.size <;> cases h3:jj ops ops.size <;> simp[h1,h2,h3]at h ⊢
 exact h
structure StB (P:Program) (n:Nat) (ops:Array Oper) (h0:za) (K:Env->za->Prop) (md:Bool) (f:Nat->Value) (a0:Act) (listed:Array Bool) (a b:Act) (e:Env) (h:za) (done todo:List Nat):Prop where
 inv:HeadInv .any ops ops.size listed
 ag:∀s,(∀i o,ops[i]?=some o->zc o=true->listed.getD i false=false->o.dst≠some s)->zl a s=zl b s
 sz:a.tmps.size=n
 ad:a.defers=[]
 sb:Sat n e b
 qv:∀i o t,ops[i]?=some o->zc o=true->o.dst=some t->zl b t=f i/\t<n
 qx:∀i o,ops[i]?=some o->zc o=true->∀h',LdOK o b.eval h0 h'->QExec P (execOp b.eval o) h' (.value (f i))
 tt:∀j,j∈heavyL 0 ops.toList->(j∈todo↔listed.getD j false=false)
 ch:∀j,j∈heavyL 0 ops.toList->(listed.getD j false=true↔j∈done)
 dn:∀j∈done,j∈heavyL 0 ops.toList
 th:∀j∈todo,j∈heavyL 0 ops.toList
 nd:todo.Nodup
 wt:∃fu,todo.length<=fu/\wB P n ops h0 K md fu done todo e h
 kp:∀i o,ops[i]?=some o->zh o=true->listed.getD i false=false->LdOK o b.eval h0 h
 sm:Same (yn ops.toList) a0 a
theorem zz9{K:Env->za->Prop}{Q:Exit->Act->World->Prop}(B:World)(bj:zmc ops=true){f:Nat->Value}
  (hQ:∀e' a' d' h',Sat n e' a'->Same (yn ops.toList) a0 a'->K e' h'->Q .normal a' (mk B d' h')):
  ∀(N:Nat) (U:List Nat) (listed:Array Bool) (a b:Act) (e:Env) (h:za) (d:Nat) (done todo:List Nat),U.length=N->U.Nodup->(∀k,k∈U↔k<ops.size/\listed.getD k false=false) ->
   StB P n ops h0 K md f a0 listed a b e h done todo->wpAny P .any ops Q N listed a (mk B d h):=by
 obtain⟨bF,aY,bA,ar⟩:=zii bj
 have a8:∀(i:Nat) (o:Oper),ops[i]?=some o->o.guard=none/\jb o.op=true:=λi o ho=>Zv bF o (by
  obtain⟨ah,e⟩:=Ac.1 ho
  rw[<-e];simp)
 have bz:∀{listed:Array Bool} {a b:Act} {e:Env} {h:za} {d:Nat} {done todo:List Nat},(∀k,k<ops.size->listed.getD k false=true)->StB P n ops h0 K md f a0 listed a b e h done todo->Q .normal a (mk B d h):=by
  intro listed a b e h d done todo aj S
  have aQ:todo=[]:=by
   cases htd:todo with
   |nil=>rfl
   |cons j l=>
    have hm:j∈todo:=by rw[htd];simp
    have hj:j∈heavyL 0 ops.toList:=S.th j hm
    have ah:j<ops.size:=by
     obtain⟨_,o,ho,_⟩:=ql.1 hj
     have:=(Av.1 ho).1
     simpa using this
    have:=(S.tt j hj).1 hm
    rw[aj j ah]at this;cases this
  obtain⟨fu,_,hw⟩:=S.wt
  rw[aQ]at hw
  have hw:K (clean e) h:=by cases fu <;> exact hw
  have hv:∀s,zl a s=zl b s:=λs=>S.ag s λi o ho hq hl=>by
   rw[aj i (Ac.1 ho).1]at hl;cases hl
  have hs:Sat n e a:=⟨S.ad,S.sz,λx hx=>by
   have:=S.sb.all x hx
   have e1:zl a=zl b:=funext hv
   rw[e1];exact this⟩
  exact hQ _ _ _ _ hs.clean S.sm hw
 intro N
 induction N with
 |zero=>
  intro U listed a b e h d done todo hU _ af S
  have bn:U=[]:=A8.1 hU
  subst bn
  have aj:∀k,k<ops.size->listed.getD k false=true:=λk hk=>by
   cases hb:listed.getD k false with
   |true=>rfl
   |false=>exact absurd ((af k).2 ⟨hk,hb⟩) (by simp)
  refine⟨?_,bz aj S⟩
  rw[CL]
  intro j hj
  obtain⟨h1,o,ho,_⟩:=mem_ready.1 hj
  have ah:=(Ac.1 ho).1
  have:=aj j ah
  have h2:=getD_both h1
  rw[this]at h2;cases h2
 |succ N ih=>
  intro U listed a b e h d done todo hU aH af S
  have br:∃k,k<ops.size/\listed.getD k false=false:=by
   cases U with
   |nil=>cases hU
   |cons k U=>exact⟨k,(af k).1 Aj⟩
  refine⟨λhr=>?_,λi hi=>?_⟩
  ·exfalso
   obtain⟨k,aB,aO,bD⟩:=Z8 br
   have:k∈Region.ready .any ops listed:=mem_ready.2 ⟨by rw[<-aO];simp[S.inv.size,aB],ops[k],AI aB,λx hx hb=>bD _ (zr aY k ops[k] aB (AI aB) x hx hb)⟩
   rw[hr]at this;cases this
  ·obtain⟨bg,o,ho,aj⟩:=mem_ready.1 hi
   have aZ:listed.getD i false=false:=getD_both bg
   have ah:i<ops.size:=(Ac.1 ho).1
   obtain⟨hg,bq⟩:=a8 i o ho
   have aJ:i<listed.size:=by rw[S.inv.size];exact ah
   have ba:(U.erase i).length=N:=by rw[CP ((af i).2 ⟨ah,aZ⟩),hU];rfl
   have au:(U.erase i).Nodup:=aH.erase i
   have ax:∀k,k∈U.erase i↔k<ops.size/\(listed.setIfInBounds i true).getD k false=false:=λk=>by
    rw[aH.mem_erase_iff,af k]
    by_cases hk:i=k
    ·subst hk;simp[aJ]
    ·rw[getD_set_ne false hk];exact⟨λhx=>hx.2,λhx=>⟨λe=>hk e.symm,hx⟩⟩
   have ak:=S.inv.set hi ah
   have ae:∀k,k≠i->(listed.setIfInBounds i true).getD k false=listed.getD k false:=λk hk=>getD_set_ne false (Ne.symm hk)
   have ab:(listed.setIfInBounds i true).getD i false=true:=by simp[aJ]
   obtain⟨aG,bL⟩:=qk ar i o ah ho
   have bi:∀t∈tmpsOf o.op.operands.toList,zl a t=zl b t:=λt ht=>S.ag t λk ok Z hq hl hd=>by
    have hw:=zx aG k t (Ac.1 Z).1 (by rw[zf Z,hd]) ht
    rw[jo hi hw]at hl;cases hl
   have aN:=yh bq bi
   unfold wpOp
   rw[ho]
   simp only
   have aT:Bo o (yielded ops a.tmps)=true:=by unfold Bo;rw[hg]
   rw[if_pos aT]
   left
   unfold Oper.wp
   rw[aN]
   cases hq:zc o with
   |true=>
    have hx:=S.qx i o ho hq h (by
     cases hl:zh o with
     |false=>exact .inl hl
     |true=>exact S.kp i o ho hl aZ) B d
    rw[hx,Oper.upon_value]
    have aI:i∉heavyL 0 ops.toList:=λhm=>by
     obtain⟨_,o',a6,be⟩:=ql.1 hm
     rw[Dn]at a6
     have:o'=o:=by
      have h2:ops[i]?=some o':=ofL a6
      exact Aq (h2.symm.trans ho)
     subst this;rw[hq]at be;cases be
    refine ih _ _ _ b e h d done todo ba au ax { S with inv:=ak,ag:=λs hs=>?_,sz:=by rw[size_put];exact S.sz,ad:=by rw[zu];exact S.ad,tt:=λj hj=>(by have:j≠i:=λe=>aI (e ▸ hj);rw[ae j this];exact S.tt j hj),ch:=λj hj=>?_,kp:=λk ok Z hl hk=>?_,sm:=S.sm.trans (Same.put a o.dst _ λt ht=>xx (by
     obtain⟨bB,e2⟩:=Ac.1 ho
     rw[<-e2];simp) t ht) }
    ·by_cases hd:o.dst=some s
     ·obtain⟨hv,az⟩:=S.qv i o s ho hq hd
      rw[hd,qh (by rw[S.sz];exact az),hv]
     ·rw[zi hd]
      refine S.ag s λk ok Z aa aV=>?_
      by_cases ai:k=i
      ·subst ai
       have:ok=o:=Aq (Z.symm.trans ho)
       subst this;exact hd
      ·exact hs k ok Z aa (by rw[ae k ai];exact aV)
    ·have:j≠i:=λe=>aI (e ▸ hj)
     rw[ae j this];exact S.ch j hj
    ·by_cases ai:k=i
     ·subst ai;rw[ab]at hk;cases hk
     ·rw[ae k ai]at hk;exact S.kp k ok Z hl hk
   |false=>
    have aU:i∈heavyL 0 ops.toList:=ql.2 ⟨CV _,o,by rw[Dn];exact toL ho,hq⟩
    have aF:i∈todo:=(S.tt i aU).2 aZ
    obtain⟨fu,bM,bE⟩:=S.wt
    have aL:zz7 ops todo i=true:=by
     unfold zz7
     rw[AX]
     intro k hk
     cases ai:Nat.beq k i with
     |true=>rfl
     |false=>
      have a1:k≠i:=λe=>by rw[e]at ai;simp at ai
      cases hr:xg ops [i] ops.size k with
      |false=>rfl
      |true=>
       exfalso
       have:=xp hr (listed:=listed.setIfInBounds i true) (λp q h1 h2=>qm ak h1 h2) (λj hj=>by simp at hj;subst hj;exact ab)
       rw[ae k a1]at this
       have h2:=(S.tt k (S.th k hk)).1 hk
       rw[this]at h2;cases h2
    have hW:match ops[i]? with
      |some o=>bif qi n [] o.dst then opW P o e [] h λv h'=>(bif zma true ops (i::done) ops.size then zz8 md ops (i::done) e h0 h' (wB P n ops h0 K md (fu-1) (i::done) (zcz i todo) (putO e o.dst [] v) h')else wB P n ops h0 K md (fu-1) (i::done) (zcz i todo) (putO e o.dst [] v) h')else False
      |none=>False:=by
     cases fu with
     |zero=>(have:todo.length=0:=by omega);rw[A8.1 this]at aF;cases aF
     |succ fu=>
      have:=zvk (show wB P n ops h0 K md (fu+1) done todo e h from bE) aF aL
      exact this
    rw[ho]at hW
    simp only at hW
    cases hd:qi n [] o.dst with
    |false=>rw[hd]at hW;exact hW.elim
    |true=>
     rw[hd,cond_true]at hW
     refine Yf (b:=b) S.sb.defers ?_
     refine zfp hW S.sb (qf _) B d λv d' h' hK=>⟨by rw[zu];exact S.sb.defers,λv2 bC=>?_⟩
     have bm:b.put o.dst v2=b.put o.dst v:=bC.symm
     have aA:∀j,j∈heavyL 0 ops.toList->((listed.setIfInBounds i true).getD j false=true↔j∈i::done):=λj hj=>by
      by_cases ap:j=i
      ·subst ap;rw[ab];simp
      ·rw[ae j ap,S.ch j hj];simp[ap]
     have aS:zma true ops (i::done) ops.size=false->∀k ok,ops[k]?=some ok->zh ok=true->(listed.setIfInBounds i true).getD k false=true:=λhl k ok Z am=>by
      have bJ:∀j∈i::done,(listed.setIfInBounds i true).getD j false=true:=λj hj=>by
       rcases Af.1 hj with rfl|hj
       ·exact ab
       ·exact getD_set_true ((S.ch j (S.dn j hj)).2 hj)
      exact xp (zcy hl k ok (Ac.1 Z).1 Z am) (λi p h1 h2=>qm ak h1 h2) bJ
     have an:∀k ok,ops[k]?=some ok->zc ok=true->∀t∈tmpsOf ok.op.operands.toList,zl (b.put o.dst v) t=zl b t:=λk ok Z aa t ht=>zi λay=>by
      obtain⟨bu,bo⟩:=qk ar k ok (Ac.1 Z).1 Z
      have hw:=zx bu i t ah (by rw[zf ho,ay]) ht
      exact bo aa i aU hw t (by rw[zf ho,ay]) ht
     have aC:∀k,xg ops (i::done) ops.size k=true->(listed.setIfInBounds i true).getD k false=true:=λk hr=>xp hr (λi p h1 h2=>qm ak h1 h2) λj hj=>by
      rcases Af.1 hj with rfl|hj
      ·exact ab
      ·exact getD_set_true ((S.ch j (S.dn j hj)).2 hj)
     have a7:wB P n ops h0 K md (fu-1) (i::done) (zcz i todo) (putO e o.dst [] v) h'/\(∀k ok,ops[k]?=some ok->zh ok=true->(listed.setIfInBounds i true).getD k false=false->LdOK ok (b.put o.dst v).eval h0 h'):=by
      cases hl:zma true ops (i::done) ops.size with
      |false=>rw[hl,cond_false]at hK;exact⟨hK,λk ok Z am hf=>by rw[aS hl k ok Z am]at hf;cases hf⟩
      |true=>
       rw[hl,cond_true]at hK
       unfold zz8 at hK
       cases md with
       |false=>exact⟨hK.2,λ_ _ _ _ _=>.inr (.inl hK.1)⟩
       |true=>
        rw[cond_true]at hK
        obtain⟨g1,g2⟩:=zih hK
        refine⟨g1,λk ok Z am hf=>.inr (.inr λt a p bh hp=>?_)⟩
        have hr:xg ops (i::done) ops.size k=false:=by
         cases hr:xg ops (i::done) ops.size k with
         |false=>rfl
         |true=>rw[aC k hr]at hf;cases hf
        obtain⟨t',a',p',e1,e2,e3,e4⟩:=g2 k ok (Ac.1 Z).1 Z am hr
        rw[bh]at e1
        injection e1 with _ e1
        subst e1
        have aa:zc ok=true:=by
         unfold zh at am
         unfold zc
         split at am
         ·rfl
         ·cases am
        have af:a∈ok.op.operands.toList:=by rw[bh];simp[Op.operands]
        have ea:=yg (an k ok Z aa) a af
        have eb:b.eval a=rho e [] a:=j7 S.sb (qf _) e2 a (by simp)
        rw[ea,eb,e3]at hp
        injection hp with hp
        injection hp with hp
        rw[<-hp];exact e4
     have bH:∀j,j∈heavyL 0 ops.toList->(j∈zcz i todo↔(listed.setIfInBounds i true).getD j false=false):=λj hj=>by
      rw[Y7]
      by_cases ap:j=i
      ·subst ap;rw[ab];simp
      ·rw[ae j ap,<-S.tt j hj];exact⟨λhx=>hx.1,λhx=>⟨hx,ap⟩⟩
     have aM:∀k ok t,ops[k]?=some ok->zc ok=true->ok.dst=some t->o.dst≠some t:=λk ok t Z aa aE ay=>by
      have:=qj bA k i t (Ac.1 Z).1 ah (by rw[zf Z,aE]) (by rw[zf ho,ay])
      subst this
      have:ok=o:=Aq (Z.symm.trans ho)
      subst this;rw[hq]at aa;cases aa
     refine ih _ _ _ (b.put o.dst v) (putO e o.dst [] v) h' d' (i::done) (zcz i todo) ba au ax ⟨ak,λs hs=>?_,by rw[size_put];exact S.sz,by rw[zu];exact S.ad,S.sb.putO hd (λ_=>rfl) λhv=>absurd (qf _) hv,λk ok t Z aa aE=>?_,λk ok Z aa bG hh=>?_,bH,aA,(λj hj=>by
      rcases Af.1 hj with rfl|hj
      ·exact aU
      ·exact S.dn j hj),(λj hj=>S.th j (Y7.1 hj).1),Xk S.nd,⟨fu-1,by have:=zj6 aF;omega,a7.1⟩,a7.2,S.sm.trans (Same.put a o.dst _ λt ht=>xx (by
      obtain⟨bB,e2⟩:=Ac.1 ho
      rw[<-e2];simp) t ht)⟩
     ·have a1:∀u,(∀k ok,ops[k]?=some ok->zc ok=true->listed.getD k false=false->ok.dst≠some s)->o.dst≠some s->zl (a.put o.dst u) s=zl (b.put o.dst v) s:=λu h1 h2=>by
       rw[zi h2,zi h2];exact S.ag s h1
      have bI:∀k ok,ops[k]?=some ok->zc ok=true->listed.getD k false=false->ok.dst≠some s:=λk ok Z aa aV=>by
       by_cases ai:k=i
       ·subst ai
        have:ok=o:=Aq (Z.symm.trans ho)
        subst this;rw[hq]at aa;cases aa
       ·exact hs k ok Z aa (by rw[ae k ai];exact aV)
      by_cases aP:o.dst=some s
      ·rw[<-bm,aP]
       have az:s<n:=by
        rw[aP]at hd
        unfold qi at hd
        simp at hd;exact hd.2
       rw[qh (by rw[S.sz];exact az),qh (by rw[S.sb.size];exact az)]
      ·exact a1 v2 bI aP
     ·have:=S.qv k ok t Z aa aE
      rw[zi (aM k ok t Z aa aE)];exact this
     ·have aO:=a8 k ok Z
      rw[yh (b:=b) aO.2 (an k ok Z aa)]
      exact S.qx k ok Z aa bG (LdOK.congr (λx hx=>(yg (an k ok Z aa) x hx).symm) hh)
theorem zij{K:Env->za->Prop}{Q:Exit->Act->World->Prop}(B:World)(ae:zmc ops=true)
  (H:wU P n h (λe'=>wB P n ops h K md (heavyL 0 ops.toList).length [] (heavyL 0 ops.toList) e' h) ops.toList e) (hs:Sat n e a)
  (hQ:∀e' a' d' h',Sat n e' a'->Same (yn ops.toList) a a'->K e' h'->Q .normal a' (mk B d' h')) (d:Nat):wpAny P .any ops Q ops.size (Ba ops.size false) a (mk B d h):=by
 obtain⟨aE,ai,ax,ah⟩:=zii ae
 obtain⟨f,e1,HT,am,hf⟩:=Qv (k:=0) H hs
 have hl:∀(i:Nat) (o:Oper),ops[i]?=some o->ops.toList[i]?=some o:=λi o ho=>toL ho
 have Z:∀i,qe 0 ops.toList f a=qe (0+(ops.toList.take i).length) (ops.toList.drop i) f (qe 0 (ops.toList.take i) f a):=λi=>by
  rw[<-wl,Cf]
 refine zz9 B ae (f:=f) hQ ops.size (Bv ops.size) _ a (qe 0 ops.toList f a) e1 h d [] (heavyL 0 ops.toList) DC Dh (λk=>by rw[BL,getD_replicate_false];simp) ⟨⟨by simp,λj oj _ hl=>(by rw[getD_replicate_false]at hl;cases hl),λt ht aC=>by omega⟩,λs au=>?_,hs.size,hs.defers,am,λi o t ho hq hd=>?_,λi o ho hq h' hh=>?_,(λj hj=>by rw[getD_replicate_false];simp[hj]),(λj hj=>by rw[getD_replicate_false];simp),(λj hj=>by cases hj),(λj hj=>hj),yc,⟨_,Ad _,HT⟩,λ_ _ _ _ _=>.inr (.inl (Keep.refl _ _)),Same.refl _ _⟩
 ·refine(qz λo ho hq=>?_).symm
  obtain⟨i,hi,e⟩:=BD ho
  exact au i o (ofL (by rw[Ai hi,e])) hq (getD_replicate_false _ _)
 ·obtain⟨h1,h2,h3⟩:=hf i o (hl i o ho) hq
  have ap:t<n:=by
   rw[hd]at h2
   unfold qi at h2
   simp at h2;exact h2.2
  refine⟨?_,ap⟩
  have ab:=(Ac.1 ho).1
  have an:(ops.toList.take i).length=i:=by simp;omega
  rw[Z i,an,Ay]
  have az:ops.toList.drop i=o::ops.toList.drop (i+1):=by
   have:=(Av.1 (hl i o ho))
   rw[AF this.1,this.2]
  rw[az]
  unfold qe
  rw[hq,cond_true,qz λo' af aA aj=>?_]
  ·rw[hd,qh (by rw[Z1.1,hs.size];exact ap)]
  ·obtain⟨m,hm,em⟩:=BD af
   have aa:ops[i+1+m]?=some o':=by
    have:ops.toList[i+1+m]?=some o':=by rw[<-AE,Ai hm,em]
    exact ofL this
   have:=qj ax i (i+1+m) t ab (Ac.1 aa).1 (by rw[zf ho,hd]) (by rw[zf aa,aj])
   omega
 ·obtain⟨h1,h2,h3⟩:=hf i o (hl i o ho) hq
  have ak:∀t∈tmpsOf o.op.operands.toList,zl (qe 0 ops.toList f a) t=zl (qe 0 (ops.toList.take i) f a) t:=λt ht=>by
   have ab:=(Ac.1 ho).1
   rw[Z i]
   refine qz λo' af aA aj=>?_
   obtain⟨m,hm,em⟩:=BD af
   have aa:ops[i+m]?=some o':=by
    have:ops.toList[i+m]?=some o':=by rw[<-AE,Ai hm,em]
    exact ofL this
   obtain⟨ar,_⟩:=qk ah i o ab ho
   have hw:=zx ar (i+m) t (Ac.1 aa).1 (by rw[zf aa,aj]) ht
   obtain⟨oj,ay,x,hx,hb,aB⟩:=Region.waitsFor_spec hw
   have:=zr ai i oj ab ay x hx hb
   omega
  have:=h3 h' (LdOK.congr (λx hx=>(yg ak x hx).symm) hh)
  rw[Ay]at this
  rw[yh h1 ak]
  exact this
end
section
variable {l done:List Nat} {i m n:Nat} {ops:Array Oper} {P:Program} {o:Oper} {h h0:za} {md:Bool} {e:Env} {a b:Act}
def z3b(o:Oper):Bool:=match o.op with
 |.extract _ _=>true
 |_=>false
def zmd(o:Oper):Bool:=bif zc o then true else z3b o
def upL(ops:Array Oper):Nat->List Nat->List Nat
 |0,S=>S
 |k+1,S=>upL ops k (bif S.any λp=>Region.waitsFor .any ops p k then k::S else S)
theorem zj8{ops:Array Oper}{listed:Array Bool}(hc:∀i p,listed.getD i false=true->Region.waitsFor .any ops i p=true->listed.getD p false=true):∀{m:Nat} {S:List Nat},(∀j∈S,listed.getD j false=true)->∀k∈upL ops m S,listed.getD k false=true
 |0,S,h,k,hk=>h k hk
 |m+1,S,h,k,hk=>by
  unfold upL at hk
  refine zj8 hc (m:=m) (λj hj=>?_) k hk
  cases ha:(S.any λp=>Region.waitsFor .any ops p m)with
  |false=>rw[ha]at hj;exact h j hj
  |true=>
   rw[ha,cond_true]at hj
   rcases Af.1 hj with rfl|hj
   ·obtain⟨p,hp,hw⟩:=DT.1 ha
    exact hc p _ (h p hp) hw
   ·exact h j hj
theorem Y8(h:memN l i=true):i∈l:=by
 induction l with
 |nil=>cases h
 |cons j l ih=>
  simp only[memN]at h
  cases hb:Nat.beq i j with
  |true=>rw[Ag hb];exact Aj
  |false=>rw[hb]at h;exact Ae _ (ih h)
theorem zj9(h:i∈l):memN l i=true:=by
 cases hm:memN l i with
 |true=>rfl
 |false=>exact absurd h (wh hm)
def qch(ops:Array Oper)(k:Nat):Bool:=match ops[k]? with
 |some o=>!(zmd o)
 |none=>false
def qd6(ops:Array Oper)(i:Nat):Bool:=(upL ops ops.size [i]).any (qch ops)
def gdd(o:Oper):Bool:=match o.guard with
 |none=>false
 |some _=>true
def Wg(ops:Array Oper)(i:Nat):Bool:=match ops[i]? with
 |some o=>bif gdd o then true else bif zmd o then(bif zh o then qd6 ops i else false)else true
 |none=>true
def hvL(ops:Array Oper):List Nat:=(Bv ops.size).filter (Wg ops)
theorem zfs{j:Nat}:j∈hvL ops↔j<ops.size/\Wg ops j=true:=by
 unfold hvL;rw[Dv,BL]
theorem zvl(ops:Array Oper):(hvL ops).Nodup:=Dh.filter _
def okW(ops:Array Oper)(done S:List Nat)(k:Nat):Nat->Bool
 |0=>true
 |p+1=>bif Region.waitsFor .any ops k p then(bif (bif Wg ops p then memN done p else memN S p)then okW ops done S k p else false)else okW ops done S k p
theorem ze7{ops:Array Oper}{done S:List Nat}{k:Nat}:∀{m:Nat},okW ops done S k m=true↔∀p,p<m->Region.waitsFor .any ops k p=true->(Wg ops p=true->p∈done)/\(Wg ops p=false->p∈S)
 |0=>⟨λ_ p hp=>by omega,λ_=>rfl⟩
 |m+1=>by
  unfold okW
  have ih:=ze7 (ops:=ops) (done:=done) (S:=S) (k:=k) (m:=m)
  constructor
  ·intro h p hp hw
   rcases AR p m with h1|h1
   ·refine ih.1 ?_ p h1 hw
    revert h
    cases Region.waitsFor .any ops k m with
    |false=>exact id
    |true=>
     cases(bif Wg ops m then memN done m else memN S m)with
     |false=>intro h;cases h
     |true=>exact id
   ·have:p=m:=by omega
    subst this
    rw[hw,cond_true]at h
    cases hi:Wg ops p with
    |true=>
     rw[hi,cond_true]at h
     cases hm:memN done p with
     |false=>rw[hm]at h;cases h
     |true=>exact⟨λ_=>Y8 hm,(λhc=>by cases hc)⟩
    |false=>
     rw[hi,cond_false]at h
     cases hm:memN S p with
     |false=>rw[hm]at h;cases h
     |true=>exact⟨(λhc=>by cases hc),λ_=>Y8 hm⟩
  ·intro h
   have h1:=ih.2 λp hp hw=>h p (by omega) hw
   cases hw:Region.waitsFor .any ops k m with
   |false=>exact h1
   |true=>
    obtain⟨a,b⟩:=h m (by omega) hw
    rw[cond_true]
    cases hi:Wg ops m with
    |true=>rw[cond_true,zj9 (a hi)];exact h1
    |false=>rw[cond_false,zj9 (b hi)];exact h1
def qbw(ops:Array Oper)(done S:List Nat)(k:Nat):List Nat:=bif Wg ops k then S else(bif okW ops done S k k then k::S else S)
def Q6(ops:Array Oper)(done:List Nat):Nat->List Nat
 |0=>[]
 |k+1=>qbw ops done (Q6 ops done k) k
theorem Zj{ops:Array Oper}{done:List Nat}:∀{m i:Nat},i∈Q6 ops done m->i<m/\Wg ops i=false/\okW ops done (Q6 ops done i) i i=true
 |0,i,h=>by cases h
 |m+1,i,h=>by
  unfold Q6 qbw at h
  cases hi:Wg ops m with
  |true=>rw[hi,cond_true]at h;have:=Zj h;exact⟨by omega,this.2⟩
  |false=>
   rw[hi,cond_false]at h
   cases ho:okW ops done (Q6 ops done m) m m with
   |false=>rw[ho,cond_false]at h;have:=Zj h;exact⟨by omega,this.2⟩
   |true=>
    rw[ho,cond_true]at h
    rcases Af.1 h with rfl|h
    ·exact⟨by omega,hi,ho⟩
    ·have:=Zj h;exact⟨by omega,this.2⟩
theorem zft{ops:Array Oper}{done:List Nat}{m:Nat}:∀{m' i:Nat},m<=m'->i∈Q6 ops done m->i∈Q6 ops done m'
 |0,i,h,hi=>by(have:m=0:=by omega);subst this;exact hi
 |m'+1,i,h,hi=>by
  rcases Dm h with e|e
  ·rw[<-e];exact hi
  ·have:=zft (m':=m') (by omega) hi
   unfold Q6 qbw
   cases Wg ops m' with
   |true=>exact this
   |false=>
    rw[cond_false]
    cases okW ops done (Q6 ops done m') m' m' with
    |true=>exact Ae _ this
    |false=>exact this
theorem zka(hm:i<m)(h1:Wg ops i=false)(h2:okW ops done (Q6 ops done i) i i=true):i∈Q6 ops done m:=by
 refine zft (m:=i+1) hm ?_
 unfold Q6 qbw
 rw[h1,h2];exact Aj
theorem zrg{m i p:Nat}(h:i∈Q6 ops done m)(hp:p<i)(hw:Region.waitsFor .any ops i p=true):(Wg ops p=true->p∈done)/\(Wg ops p=false->p∈Q6 ops done m):=by
 obtain⟨h1,h2,h3⟩:=Zj h
 obtain⟨a,b⟩:=ze7.1 h3 p hp hw
 exact⟨a,λhi=>zft (by omega) (b hi)⟩
def Qw(Z aa:List Nat)(n:Nat):List Nat:=(Bv n).filter λi=>bif memN aa i then !(memN Z i)else false
theorem zik{Z aa:List Nat}:i∈Qw Z aa n↔i<n/\i∈aa/\i∉Z:=by
 unfold Qw
 rw[Dv,BL]
 constructor
 ·rintro⟨h1,h2⟩
  cases hn:memN aa i with
  |false=>rw[hn]at h2;cases h2
  |true=>
   rw[hn,cond_true]at h2
   exact⟨h1,Y8 hn,λhm=>by rw[zj9 hm]at h2;cases h2⟩
 ·rintro⟨h1,h2,h3⟩
  refine⟨h1,?_⟩
  rw[zj9 h2,cond_true]
  cases hw:memN Z i with
  |false=>rfl
  |true=>exact absurd (Y8 hw) h3
theorem zbr(Z aa:List Nat)(n:Nat):(Qw Z aa n).Pairwise (· < ·):=List.pairwise_lt_range.filter _
def wI(P:Program)(n:Nat)(h:za)(ld:Bool)(ops:Array Oper)(K:Env->Prop):List Nat->Env->Prop
 |[],e=>K e
 |i::l,e=>match ops[i]? with
  |some o=>bif zmd o then(bif (bif ld then true else !(zh o))then(bif qi n [] o.dst then(bif jb o.op then(bif known e [] o.op.operands.toList then w9 P o (rho e []) none h λv=>wI P n h ld ops K l (putO e o.dst [] v)else False)else False)else False)else False)else False
  |none=>False
def yx(ops:Array Oper)(f:Nat->Value):List Nat->Act->Act
 |[],a=>a
 |i::l,a=>yx ops f l (a.put (yf ops i) (f i))
theorem zvm(hq:zmd o=true){ρ:Operand->Value}{K:Value->Prop}(H:w9 P o ρ none h K):
  ∃v,K v/\∀h',LdOK o ρ h h'->QExec P (execOp ρ o) h' (.value v):=by
 unfold zmd at hq
 cases hb:zc o with
 |true=>exact Xj hb H
 |false=>
  rw[hb,cond_false]at hq
  unfold z3b at hq
  split at hq
  ·rename_i x i ho
   unfold w9 at H;rw[ho]at H
   obtain⟨v,h1,h2⟩:=zm H none
   exact⟨v,h1,λh' _=>h2 trivial h'⟩
  ·cases hq
theorem zil{ops:Array Oper}{f:Nat->Value}:∀{l:List Nat} {a:Act},(yx ops f l a).tmps.size=a.tmps.size/\(yx ops f l a).defers=a.defers
 |[],_=>⟨rfl,rfl⟩
 |i::l,a=>by
  unfold yx
  have:=zil (ops:=ops) (f:=f) (l:=l) (a:=a.put (yf ops i) (f i))
  rw[this.1,this.2]
  exact⟨size_put _ _ _,zu _ _ _⟩
theorem j9{ops:Array Oper}{f:Nat->Value}{s:Nat}:∀{l:List Nat} {a:Act},(∀i∈l,yf ops i≠some s)->zl (yx ops f l a) s=zl a s
 |[],_,_=>rfl
 |i::l,a,h=>by
  unfold yx
  rw[j9 λj hj=>h j (Ae _ hj)]
  exact zi (h i Aj)
theorem zag{ops:Array Oper}{f:Nat->Value}:∀{l m:List Nat} {a:Act},yx ops f (l++m) a=yx ops f m (yx ops f l a)
 |[],_,_=>rfl
 |i::l,m,a=>by
  rw[AO]
  show yx ops f (l++m) _=yx ops f m (yx ops f l _)
  exact zag
theorem zkb{P:Program}{n:Nat}{h:za}{ld:Bool}{ops:Array Oper}{K:Env->Prop}(f0:Nat->Value):∀{l:List Nat} {e:Env} {a:Act},l.Nodup->wI P n h ld ops K l e->Sat n e a->∃(f:Nat->Value) (e':Env),K e'/\Sat n e' (yx ops f l a)/\(∀i,i∉l->f i=f0 i) /\
  ∀l1 i l2,l=l1++i::l2->∃o,ops[i]?=some o/\zmd o=true/\(ld=false->zh o=false)/\jb o.op=true/\qi n [] o.dst=true/\∀h',LdOK o (yx ops f l1 a).eval h h'->QExec P (execOp (yx ops f l1 a).eval o) h' (.value (f i))
 |[],e,a,_,H,hs=>⟨f0,e,H,hs,λ_ _=>rfl,λl1 i l2 h=>by simp at h⟩
 |i::l,e,a,hnd,H,hs=>by
  unfold wI at H
  cases ho:ops[i]? with
  |none=>rw[ho]at H;exact H.elim
  |some o=>
   rw[ho]at H
   simp only at H
   cases hq:zmd o with
   |false=>rw[hq]at H;exact H.elim
   |true=>
    rw[hq,cond_true]at H
    cases hld:(bif ld then true else !(zh o))with
    |false=>rw[hld]at H;exact H.elim
    |true=>
     rw[hld,cond_true]at H
     cases hd:qi n [] o.dst with
     |false=>rw[hd]at H;exact H.elim
     |true=>
      rw[hd,cond_true]at H
      cases hns:jb o.op with
      |false=>rw[hns]at H;exact H.elim
      |true=>
       rw[hns,cond_true]at H
       cases hk:known e [] o.op.operands.toList with
       |false=>rw[hk]at H;exact H.elim
       |true=>
        rw[hk,cond_true]at H
        rw[C4]at hnd
        obtain⟨v,H1,H2⟩:=zvm hq H
        have Z:yf ops i=o.dst:=zf ho
        obtain⟨f,e',g1,g2,g3,g4⟩:=zkb (λx=>if x=i then v else f0 x) (a:=a.put o.dst v) hnd.2 H1 (hs.putO hd (λ_=>rfl) λhv=>absurd (qf _) hv)
        have ab:f i=v:=by rw[g3 i hnd.1,if_pos rfl]
        have ae:yx ops f (i::l) a=yx ops f l (a.put o.dst v):=by
         show yx ops f l (a.put (yf ops i) (f i))=_
         rw[Z,ab]
        refine⟨f,e',g1,by rw[ae];exact g2,λj hj=>?_,λl1 j l2 hl=>?_⟩
        ·simp only[Af,not_or]at hj
         rw[g3 j hj.2,if_neg hj.1]
        ·cases l1 with
         |nil=>
          simp only[Bc,Bu]at hl
          obtain⟨rfl,rfl⟩:=hl
          refine⟨o,ho,hq,λhl=>by rw[hl]at hld;simpa using hld,hns,hd,λh' hh=>?_⟩
          show QExec P (execOp a.eval o) h' _
          rw[Qr hs (qf _) hns hk,ab]
          exact H2 h' (LdOK.congr (λx hx=>(j7 hs (qf _) hk x hx).symm) hh)
         |cons i' l1=>
          simp only[AO,Bu]at hl
          obtain⟨rfl,rfl⟩:=hl
          obtain⟨o',q1,q2,q3,q4,q5,q6⟩:=g4 l1 j l2 rfl
          have aa:yx ops f (i::l1) a=yx ops f l1 (a.put o.dst v):=by
           show yx ops f l1 (a.put (yf ops i) (f i))=_
           rw[Z,ab]
          refine⟨o',q1,q2,q3,q4,q5,λh' hh=>?_⟩
          rw[aa]at hh ⊢
          exact q6 h' hh
def zvn(ops:Array Oper)(U:List Nat):Nat->Bool
 |0=>false
 |k+1=>bif (match ops[k]? with
  |some o=>bif zh o then(bif Wg ops k then false else !(memN U k))else false
  |none=>false)then true else zvn ops U k
theorem zim{ops:Array Oper}{U:List Nat}:∀{m:Nat},zvn ops U m=false->∀k o,k<m->ops[k]?=some o->zh o=true->Wg ops k=false->k∈U
 |0,_,k,o,hk,_,_,_=>by omega
 |m+1,h,k,o,hk,ho,hl,hi=>by
  unfold zvn at h
  cases hb:(match ops[m]? with
   |some o=>bif zh o then(bif Wg ops m then false else !(memN U m))else false
   |none=>false)with
  |true=>rw[hb]at h;cases h
  |false=>
   rw[hb,cond_false]at h
   rcases AR k m with h1|h1
   ·exact zim h k o h1 ho hl hi
   ·have:k=m:=by omega
    subst this
    rw[ho]at hb
    simp only[hl,hi,cond_true,cond_false]at hb
    exact Y8 (by simpa using hb)
def zfu(ops:Array Oper)(U:List Nat)(e:Env)(h0 h':za)(K:Prop):Nat->Prop
 |0=>K
 |k+1=>match ops[k]? with
  |some o=>bif (bif zh o then(bif Wg ops k then false else !(memN U k))else false)then(match o.op with
   |.load _ a=>bif known e [] [a]then(match rho e [] a with
    |.pointer (some p)=>h'[p.block]?=h0[p.block]?/\zfu ops U e h0 h' K k
    |_=>False)else False
   |_=>False)else zfu ops U e h0 h' K k
  |none=>zfu ops U e h0 h' K k
theorem zfv{ops:Array Oper}{U:List Nat}{e:Env}{h0 h':za}{K:Prop}:∀{m:Nat},zfu ops U e h0 h' K m->K/\∀k o,k<m->ops[k]?=some o->zh o=true->Wg ops k=false->k∉U ->
  ∃t a p,o.op=.load t a/\known e [] [a]=true/\rho e [] a=.pointer (some p)/\h'[p.block]?=h0[p.block]?
 |0,H=>⟨H,λk o hk=>by omega⟩
 |m+1,H=>by
  unfold zfu at H
  have step:zfu ops U e h0 h' K m->(∀o,ops[m]?=some o->zh o=true->Wg ops m=false->m∉U->∃t a p,o.op=.load t a/\known e [] [a]=true/\rho e [] a=.pointer (some p)/\h'[p.block]?=h0[p.block]?) ->
    K/\∀k o,k<m+1->ops[k]?=some o->zh o=true->Wg ops k=false->k∉U->∃t a p,o.op=.load t a/\known e [] [a]=true/\rho e [] a=.pointer (some p)/\h'[p.block]?=h0[p.block]?:=λH1 H2=>by
   obtain⟨h1,h2⟩:=zfv H1
   refine⟨h1,λk o hk ho hl hi hr=>?_⟩
   rcases AR k m with h3|h3
   ·exact h2 k o h3 ho hl hi hr
   ·have:k=m:=by omega
    subst this
    exact H2 o ho hl hi hr
  cases ho:ops[m]? with
  |none=>rw[ho]at H;exact step H λo h1=>by rw[ho]at h1;cases h1
  |some o=>
   rw[ho]at H
   simp only at H
   have same:∀o',ops[m]?=some o'->o'=o:=λo' h1=>Aq (h1.symm.trans ho)
   cases hc:(bif zh o then(bif Wg ops m then false else !(memN U m))else false)with
   |false=>
    rw[hc]at H
    refine step H λo' h1 h2 h3 h4=>?_
    rw[same o' h1]at h2
    rw[h2,h3,cond_true,cond_false]at hc
    exact absurd (Y8 (by simpa using hc)) h4
   |true=>
    rw[hc,cond_true]at H
    split at H
    ·rename_i t a Z
     cases hk:known e [] [a]with
     |false=>rw[hk]at H;exact H.elim
     |true=>
      rw[hk,cond_true]at H
      split at H
      ·rename_i p hp
       exact step H.2 λo' h1 h2 h3 h4=>⟨t,a,p,by rw[same o' h1];exact Z,hk,hp,H.1⟩
      ·exact H.elim
    ·exact H.elim
def zme(md:Bool)(ops:Array Oper)(T:List Nat)(e:Env)(h0 h':za)(K:Prop):Prop:=bif zvn ops (upL ops ops.size T) ops.size then(bif md then zfu ops (upL ops ops.size T) e h0 h' K ops.size else Keep h0.size h0 h'/\K)else K
def z0a(ops:Array Oper)(todo:List Nat)(j:Nat):Bool:=todo.all λk=>bif Nat.beq k j then true else !(memN (upL ops ops.size [j]) k)
def wB7(P:Program)(n:Nat)(ops:Array Oper)(h0:za)(K:Env->za->Prop)(md:Bool):Nat->List Nat->List Nat->Env->za->Prop
 |_,_,[],e,h=>K (clean e) h
 |0,_,_::_,_,_=>False
 |f+1,T,j0::l0,e,h=>qbv (λj=>match ops[j]? with
  |some o=>(match Q5 ops e o.guard with|some c=>bif qi n c o.dst then opW P o e c h λv h'=>wI P n h' false ops (λe'=>zme md ops (j::T) e' h0 h' (wB7 P n ops h0 K md f (j::T) (zcz j (j0::l0)) e' h')) (Qw (Q6 ops T ops.size) (Q6 ops (j::T) ops.size) ops.size) (putO e o.dst c v)else False|none=>False)
  |none=>False) (zta (z0a ops (j0::l0)) (j0::l0))
theorem ztb{K:Env->za->Prop}{f:Nat}{T todo:List Nat}(H:wB7 P n ops h0 K md (f+1) T todo e h){j:Nat}(hj:j∈todo)(hc:z0a ops todo j=true):match ops[j]? with
  |some o=>(match Q5 ops e o.guard with|some c=>bif qi n c o.dst then opW P o e c h λv h'=>wI P n h' false ops (λe'=>zme md ops (j::T) e' h0 h' (wB7 P n ops h0 K md f (j::T) (zcz j todo) e' h')) (Qw (Q6 ops T ops.size) (Q6 ops (j::T) ops.size) ops.size) (putO e o.dst c v)else False|none=>False)
  |none=>False:=by
 cases todo with
 |nil=>cases hj
 |cons j0 l0=>exact zj7 H j (zbq hj hc)
def Xl(ops:Array Oper):Nat->Bool
 |0=>true
 |k+1=>bif (match ops[k]? with
  |some o=>yw ops k (tmpsOf o.op.operands.toList) ops.size
  |none=>true)then Xl ops k else false
theorem Y9{ops:Array Oper}:∀{m:Nat},Xl ops m=true->∀k o,k<m->ops[k]?=some o->yw ops k (tmpsOf o.op.operands.toList) ops.size=true
 |0,_,k,o,hk,_=>by omega
 |m+1,h,k,o,hk,ho=>by
  unfold Xl at h
  cases hb:(match ops[m]? with
   |some o=>yw ops m (tmpsOf o.op.operands.toList) ops.size
   |none=>true)with
  |false=>rw[hb]at h;cases h
  |true=>
   rw[hb,cond_true]at h
   rcases AR k m with h1|h1
   ·exact Y9 h k o h1 ho
   ·have:k=m:=by omega
    subst this
    rw[ho]at hb;exact hb
def ztc(ops:Array Oper)(o:Oper):List Nat:=match o.guard with
 |none=>[]
 |some (j,_)=>match yf ops j with
  |some t=>[t]
  |none=>[]
def zin(ops:Array Oper):Nat->Bool
 |0=>true
 |k+1=>bif (match ops[k]? with
  |some o=>bif jb o.op then yw ops k (ztc ops o) ops.size else false
  |none=>true)then zin ops k else false
theorem zfw{ops:Array Oper}:∀{m:Nat},zin ops m=true->∀k o,k<m->ops[k]?=some o->jb o.op=true/\yw ops k (ztc ops o) ops.size=true
 |0,_,k,o,hk,_=>by omega
 |m+1,h,k,o,hk,ho=>by
  unfold zin at h
  cases hb:(match ops[m]? with
   |some o=>bif jb o.op then yw ops m (ztc ops o) ops.size else false
   |none=>true)with
  |false=>rw[hb]at h;cases h
  |true=>
   rw[hb,cond_true]at h
   rcases AR k m with h1|h1
   ·exact zfw h k o h1 ho
   ·have:k=m:=by omega
    subst this
    rw[ho]at hb
    simp only at hb
    cases h2:jb o.op with
    |false=>rw[h2]at hb;cases hb
    |true=>rw[h2,cond_true]at hb;exact⟨rfl,hb⟩
theorem zmf(h:∀t∈ztc ops o,zl a t=zl b t):Bo o (yielded ops a.tmps)=Bo o (yielded ops b.tmps):=by
 unfold Bo
 cases hg:o.guard with
 |none=>rfl
 |some jp=>
  obtain⟨j,p⟩:=jp
  have:yielded ops a.tmps j=yielded ops b.tmps j:=by
   unfold yielded
   cases hd:(ops[j]?).bind (·.dst)with
   |none=>rfl
   |some t=>
    have Z:yf ops j=some t:=by
     unfold yf
     cases hoj:ops[j]? with
     |none=>rw[hoj]at hd;simp at hd
     |some oj=>rw[hoj]at hd;simpa using hd
    have ht:=h t (by unfold ztc;rw[hg];simp only;rw[Z];simp)
    unfold zl at ht
    simp only[A7]at ht
    simp only[CK]
    cases h1:a.tmps[t]? <;> cases h2:b.tmps[t]? <;> rw[h1,h2]at ht <;> simp at ht <;> first|rfl|(subst ht;rfl)|(rw[<-ht];rfl)|(rw[ht];rfl)
  simp only[this]
theorem zvo(h:gdd o=false):o.guard=none:=by
 unfold gdd at h
 cases hg:o.guard with
 |none=>rfl
 |some g=>rw[hg]at h;cases h
theorem z4s(ho:ops[i]?=some o)(h:Wg ops i=false):o.guard=none:=by
 unfold Wg at h
 rw[ho]at h
 simp only at h
 cases hg:gdd o with
 |true=>rw[hg]at h;cases h
 |false=>exact zvo hg
def zhj(ops:Array Oper):Bool:=bif zin ops ops.size then(bif qa ops ops.size then(bif jj ops ops.size then Xl ops ops.size else false)else false)else false
theorem zio(h:zhj ops=true):zin ops ops.size=true/\qa ops ops.size=true/\jj ops ops.size=true/\Xl ops ops.size=true:=by
 unfold zhj at h
 cases h1:zin ops ops.size <;> cases h2:qa ops ops.size <;> cases h3:jj ops ops.size <;> simp[h1,h2,h3]at h ⊢
 exact h
structure St7 (P:Program) (n:Nat) (ops:Array Oper) (h0:za) (K:Env->za->Prop) (md:Bool) (f:Nat->Value) (a0:Act) (listed:Array Bool) (a b:Act) (e:Env) (h:za) (done todo:List Nat):Prop where
 inv:HeadInv .any ops ops.size listed
 ag:∀s,(∀i o,ops[i]?=some o->Wg ops i=false->listed.getD i false=false->o.dst≠some s)->zl a s=zl b s
 sz:a.tmps.size=n
 ad:a.defers=[]
 sb:Sat n e b
 qv:∀i o t,ops[i]?=some o->i∈Q6 ops done ops.size->o.dst=some t->zl b t=f i/\t<n
 qx:∀i o,ops[i]?=some o->i∈Q6 ops done ops.size->∀h',LdOK o b.eval h0 h'->QExec P (execOp b.eval o) h' (.value (f i))
 tt:∀j,j∈hvL ops->(j∈todo↔listed.getD j false=false)
 ch:∀j,j∈hvL ops->(listed.getD j false=true↔j∈done)
 dn:∀j∈done,j∈hvL ops
 th:∀j∈todo,j∈hvL ops
 nd:todo.Nodup
 wt:∃fu,todo.length<=fu/\wB7 P n ops h0 K md fu done todo e h
 kp:∀i o,ops[i]?=some o->zh o=true->Wg ops i=false->listed.getD i false=false->LdOK o b.eval h0 h
 sm:Same (yn ops.toList) a0 a
theorem zfx{ld:Bool}(ah:qa ops ops.size=true)(an:jj ops ops.size=true)(am:Xl ops ops.size=true){f:Nat->Value}(ap:b.tmps.size=n)(ae:∀i∈l,i<ops.size)(Z:l.Pairwise (· < ·))
  (H:∀l1 i l2,l=l1++i::l2->∃o,ops[i]?=some o/\zmd o=true/\(ld=false->zh o=false)/\jb o.op=true/\qi n [] o.dst=true/\∀h',LdOK o (yx ops f l1 b).eval h h'->QExec P (execOp (yx ops f l1 b).eval o) h' (.value (f i))):
  ∀i o,ops[i]?=some o->i∈l->(∀t,o.dst=some t->zl (yx ops f l b) t=f i/\t<n)/\(ld=false->zh o=false)/\∀h',LdOK o (yx ops f l b).eval h h'->QExec P (execOp (yx ops f l b).eval o) h' (.value (f i)):=by
 intro i o ho hi
 obtain⟨l1,l2,rfl⟩:=List.append_of_mem hi
 obtain⟨o',q1,q2,q3,q4,q5,q6⟩:=H l1 i l2 rfl
 have:o'=o:=Aq (q1.symm.trans ho)
 subst this
 have af:i<ops.size:=ae i (by simp)
 have hs:∀j∈l2,i<j:=λj hj=>by
  rw[Ct]at Z
  exact(BI.1 Z.2.1).1 j hj
 have aa:yx ops f (l1++i::l2) b=yx ops f l2 ((yx ops f l1 b).put (yf ops i) (f i)):=by rw[zag];rfl
 have ab:yf ops i=o'.dst:=zf ho
 refine⟨λt ht=>?_,q3,λh' hh=>?_⟩
 ·have ai:t<n:=by
   rw[ht]at q5
   unfold qi at q5
   simp at q5;exact q5.2
  refine⟨?_,ai⟩
  rw[aa,j9 λj hj hd=>?_,ab,ht,qh (by rw[zil.1,ap];exact ai)]
  have:=qj an i j t af (ae j (by simp[hj])) (by rw[ab,ht]) hd
  have:=hs j hj
  omega
 ·have aj:∀t∈tmpsOf o'.op.operands.toList,zl (yx ops f (l1++i::l2) b) t=zl (yx ops f l1 b) t:=λt ht=>by
   have e1:yx ops f (l1++i::l2) b=yx ops f (i::l2) (yx ops f l1 b):=zag
   rw[e1]
   refine j9 λj hj hd=>?_
   have ak:j<ops.size:=ae j (by simp[hj])
   have hw:=zx (Y9 am i o' af ho) j t ak hd ht
   obtain⟨oj,ar,x,hx,hb,au⟩:=Region.waitsFor_spec hw
   have h1:=zr ah i oj af ar x hx hb
   rcases Af.1 hj with rfl|hj
   ·omega
   ·have:=hs j hj;omega
  rw[yh q4 aj]
  exact q6 h' (LdOK.congr (λx hx=>(yg aj x hx).symm) hh)
theorem z0b{K:Env->za->Prop}{Q:Exit->Act->World->Prop}(B:World)(hmix:zhj ops=true){a0:Act}
    (hQ:∀e' a' d' h',Sat n e' a'->Same (yn ops.toList) a0 a'->K e' h'->Q .normal a' (mk B d' h')):
    ∀(N:Nat) (U:List Nat) (listed:Array Bool) (f:Nat->Value) (a b:Act) (e:Env) (h:za) (d:Nat) (done todo:List Nat),U.length=N->U.Nodup->(∀k,k∈U↔k<ops.size/\listed.getD k false=false) ->
      St7 P n ops h0 K md f a0 listed a b e h done todo->wpAny P .any ops Q N listed a (mk B d h):=by
  obtain⟨hng,hback,hnd,hsl⟩:=zio hmix
  have hgd:∀(i:Nat) (o:Oper),ops[i]?=some o->jb o.op=true/\yw ops i (ztc ops o) ops.size=true:=λi o ho=>zfw hng i o (Ac.1 ho).1 ho
  have hslot0:∀k o,ops[k]?=some o->∀p t,p<ops.size->yf ops p=some t->t∈tmpsOf o.op.operands.toList->Region.waitsFor .any ops k p=true:=λk o ho p t hp hd ht=>
    zx (Y9 hsl k o (Ac.1 ho).1 ho) p t hp hd ht
  have hbk:∀k p,Region.waitsFor .any ops k p=true->p<k:=λk p hw=>by
    obtain⟨oj,hoj,x,hx,hb,hon⟩:=Region.waitsFor_spec hw
    have:=zr hback k oj (Ac.1 hoj).1 hoj x hx hb
    omega
  have fin:∀{listed:Array Bool} {f:Nat->Value} {a b:Act} {e:Env} {h:za} {d:Nat} {done todo:List Nat},(∀k,k<ops.size->listed.getD k false=true)->St7 P n ops h0 K md f a0 listed a b e h done todo->Q .normal a (mk B d h):=by
    intro listed f a b e h d done todo hall S
    have htodo:todo=[]:=by
      cases htd:todo with
      |nil=>rfl
      |cons j l=>
        have hm:j∈todo:=by rw[htd];simp
        have hj:=S.th j hm
        have:=(S.tt j hj).1 hm
        rw[hall j (zfs.1 hj).1]at this;cases this
    obtain⟨fu,_,hw⟩:=S.wt
    rw[htodo]at hw
    have hw:K (clean e) h:=by cases fu <;> exact hw
    have hv:∀s,zl a s=zl b s:=λs=>S.ag s λi o ho hq hl=>by
      rw[hall i (Ac.1 ho).1]at hl;cases hl
    have hs:Sat n e a:=⟨S.ad,S.sz,λx hx=>by
      have:=S.sb.all x hx
      have e1:zl a=zl b:=funext hv
      rw[e1];exact this⟩
    exact hQ _ _ _ _ hs.clean S.sm hw
  intro N
  induction N with
  |zero=>
    intro U listed f a b e h d done todo hU _ hmem S
    have hUn:U=[]:=A8.1 hU
    subst hUn
    have hall:∀k,k<ops.size->listed.getD k false=true:=λk hk=>by
      cases hb:listed.getD k false with
      |true=>rfl
      |false=>exact absurd ((hmem k).2 ⟨hk,hb⟩) (by simp)
    refine⟨?_,fin hall S⟩
    rw[CL]
    intro j hj
    obtain⟨h1,o,ho,_⟩:=mem_ready.1 hj
    have hlt:=(Ac.1 ho).1
    have:=hall j hlt
    have h2:=getD_both h1
    rw[this]at h2;cases h2
  |succ N ih=>
    intro U listed f a b e h d done todo hU hdup hmem S
    have hex:∃k,k<ops.size/\listed.getD k false=false:=by
      cases U with
      |nil=>cases hU
      |cons k U=>exact⟨k,(hmem k).1 Aj⟩
    refine⟨λhr=>?_,λi hi=>?_⟩
    · exfalso
      obtain⟨k,hk1,hk2,hk3⟩:=Z8 hex
      have:k∈Region.ready .any ops listed:=mem_ready.2 ⟨by rw[<-hk2];simp[S.inv.size,hk1],ops[k],AI hk1,λx hx hb=>hk3 _ (zr hback k ops[k] hk1 (AI hk1) x hx hb)⟩
      rw[hr]at this;cases this
    · obtain⟨hun1,o,ho,hall⟩:=mem_ready.1 hi
      have hun:listed.getD i false=false:=getD_both hun1
      have hlt:i<ops.size:=(Ac.1 ho).1
      obtain⟨hns,hgs⟩:=hgd i o ho
      have hils:i<listed.size:=by rw[S.inv.size];exact hlt
      have hU':(U.erase i).length=N:=by rw[CP ((hmem i).2 ⟨hlt,hun⟩),hU];rfl
      have hdup':(U.erase i).Nodup:=hdup.erase i
      have hmem':∀k,k∈U.erase i↔k<ops.size/\(listed.setIfInBounds i true).getD k false=false:=λk=>by
        rw[hdup.mem_erase_iff,hmem k]
        by_cases hk:i=k
        · subst hk;simp[hils]
        · rw[getD_set_ne false hk];exact⟨λhx=>hx.2,λhx=>⟨λe=>hk e.symm,hx⟩⟩
      have inv':=S.inv.set hi hlt
      have hset:∀k,k≠i->(listed.setIfInBounds i true).getD k false=listed.getD k false:=λk hk=>getD_set_ne false (Ne.symm hk)
      have hsetI:(listed.setIfInBounds i true).getD i false=true:=by simp[hils]
      have hops:∀t∈tmpsOf o.op.operands.toList,zl a t=zl b t:=λt ht=>S.ag t λk ok hok hq hl hd=>by
        have hw:=hslot0 i o ho k t (Ac.1 hok).1 (by rw[zf hok,hd]) ht
        rw[jo hi hw]at hl;cases hl
      have hexec:=yh hns hops
      have hsame:∀v,Same (yn ops.toList) a0 (a.put o.dst v):=λv=>S.sm.trans (Same.put a o.dst _ λt ht=>xx (by
          obtain⟨hl2,e2⟩:=Ac.1 ho
          rw[<-e2];simp) t ht)
      unfold wpOp
      rw[ho]
      simp only
      have hwab:Bo o (yielded ops a.tmps)=Bo o (yielded ops b.tmps):=zmf λt ht=>S.ag t λk ok hok hq hl hd=>by
        have hw:=zx hgs k t (Ac.1 hok).1 (by rw[zf hok,hd]) ht
        rw[jo hi hw]at hl;cases hl
      cases hq:Wg ops i with
      |false=>
        have hwant:Bo o (yielded ops a.tmps)=true:=by unfold Bo;rw[z4s ho hq]
        rw[if_pos hwant]
        left
        unfold Oper.wp
        rw[hexec]
        have hrdyG:∀m k ok,k<m->ops[k]?=some ok->Wg ops k=false->(∀p,Region.waitsFor .any ops k p=true->listed.getD p false=true)->k∈Q6 ops done ops.size:=by
          intro m
          induction m with
          |zero=>intro k ok hk;omega
          |succ m ihm=>
            intro k ok hk hok hkh hkw
            refine zka (Ac.1 hok).1 hkh (ze7.2 λp hp hw=>⟨λhph=>?_,λhph=>?_⟩)
            · have hpl:=hkw p hw
              exact(S.ch p (zfs.2 ⟨by have:=(Ac.1 hok).1;omega,hph⟩)).1 hpl
            · have hps:p<ops.size:=by have:=(Ac.1 hok).1;omega
              have hin:=ihm p ops[p] (by omega) (AI hps) hph λq hq2=>qm S.inv (hkw p hw) hq2
              obtain⟨_,g2,g3⟩:=Zj hin
              exact zka hp g2 g3
        have hrdy:=hrdyG (i+1) i o (by omega) ho hq λp hw=>jo hi hw
        have hx:=S.qx i o ho hrdy h (by
          cases hl:zh o with
          |false=>exact .inl hl
          |true=>exact S.kp i o ho hl hq hun) B d
        rw[hx,Oper.upon_value]
        have hnot:i∉hvL ops:=λhm=>by rw[(zfs.1 hm).2]at hq;cases hq
        refine ih _ _ f _ b e h d done todo hU' hdup' hmem' { S with inv:=inv',ag:=λs hs=>?_,sz:=by rw[size_put];exact S.sz,ad:=by rw[zu];exact S.ad,tt:=λj hj=>(by have:j≠i:=λe=>hnot (e ▸ hj);rw[hset j this];exact S.tt j hj),ch:=λj hj=>?_,kp:=λk ok hok hl hkh hk=>?_,sm:=hsame _ }
        · by_cases hd:o.dst=some s
          · obtain⟨hv,hsn⟩:=S.qv i o s ho hrdy hd
            rw[hd,qh (by rw[S.sz];exact hsn),hv]
          · rw[zi hd]
            refine S.ag s λk ok hok hqk hlk=>?_
            by_cases hki:k=i
            · subst hki
              have:ok=o:=Aq (hok.symm.trans ho)
              subst this;exact hd
            · exact hs k ok hok hqk (by rw[hset k hki];exact hlk)
        · have:j≠i:=λe=>hnot (e ▸ hj)
          rw[hset j this];exact S.ch j hj
        · by_cases hki:k=i
          · subst hki;rw[hsetI]at hk;cases hk
          · rw[hset k hki]at hk;exact S.kp k ok hok hl hkh hk
      |true=>
        have hin:i∈hvL ops:=zfs.2 ⟨hlt,hq⟩
        have hit:i∈todo:=(S.tt i hin).2 hun
        obtain⟨fu,hfu,hW0⟩:=S.wt
        have hcl:∀p q,(listed.setIfInBounds i true).getD p false=true->Region.waitsFor .any ops p q=true->(listed.setIfInBounds i true).getD q false=true:=λp q h1 h2=>qm inv' h1 h2
        have hcand:z0a ops todo i=true:=by
          unfold z0a
          rw[AX]
          intro k hk
          cases hki:Nat.beq k i with
          |true=>rfl
          |false=>
            have hne:k≠i:=λe=>by rw[e]at hki;simp at hki
            cases hr:memN (upL ops ops.size [i]) k with
            |false=>rfl
            |true=>
              exfalso
              have:=zj8 hcl (m:=ops.size) (S:=[i]) (λj hj=>by simp at hj;subst hj;exact hsetI) k (Y8 hr)
              rw[hset k hne]at this
              have h2:=(S.tt k (S.th k hk)).1 hk
              rw[this]at h2;cases h2
        have hW:match ops[i]? with
            |some o=>(match Q5 ops e o.guard with|some c=>bif qi n c o.dst then opW P o e c h λv h'=>wI P n h' false ops (λe'=>zme md ops (i::done) e' h0 h' (wB7 P n ops h0 K md (fu-1) (i::done) (zcz i todo) e' h')) (Qw (Q6 ops done ops.size) (Q6 ops (i::done) ops.size) ops.size) (putO e o.dst c v)else False|none=>False)
            |none=>False:=by
          cases fu with
          |zero=>(have:todo.length=0:=by omega);rw[A8.1 this]at hit;cases hit
          |succ fu=>
            have:=ztb (show wB7 P n ops h0 K md (fu+1) done todo e h from hW0) hit hcand
            exact this
        rw[ho]at hW
        simp only at hW
        cases hch:Q5 ops e o.guard with
        |none=>rw[hch]at hW;exact hW.elim
        |some c=>
        rw[hch]at hW
        simp only at hW
        cases hd:qi n c o.dst with
        |false=>rw[hd]at hW;exact hW.elim
        |true=>
          rw[hd,cond_true]at hW
          have hwv:=xy S.sb hch
          have key:∀(v u:Value) (d':Nat) (h':za),(valid (zl b) c->u=v)->(¬valid (zl b) c->u=undef)->wI P n h' false ops (λe'=>zme md ops (i::done) e' h0 h' (wB7 P n ops h0 K md (fu-1) (i::done) (zcz i todo) e' h')) (Qw (Q6 ops done ops.size) (Q6 ops (i::done) ops.size) ops.size) (putO e o.dst c v)->wpAny P .any ops Q N (listed.setIfInBounds i true) (a.put o.dst u) (mk B d' h'):=by
           intro v v2 d' h' hv1 hv0 hK
           have sb1:Sat n (putO e o.dst c v) (b.put o.dst v2):=S.sb.putO hd hv1 hv0
           generalize hbl:Qw (Q6 ops done ops.size) (Q6 ops (i::done) ops.size) ops.size=bl at hK
           have hbm:∀k,k∈bl↔k<ops.size/\k∈Q6 ops (i::done) ops.size/\k∉Q6 ops done ops.size:=λk=>by rw[<-hbl];exact zik
           have hbsort:bl.Pairwise (· < ·):=by rw[<-hbl];exact zbr _ _ _
           have hbnd:bl.Nodup:=hbsort.imp λh=>by omega
           obtain⟨f',e2,HK,sb2,hf0,hfx⟩:=zkb f hbnd hK sb1
           have hbf:=zfx hback hnd hsl (f:=f') (l:=bl) (b:=b.put o.dst v2) sb1.size (λk hk=>((hbm k).1 hk).1) hbsort hfx
           have hbnh:∀k∈bl,Wg ops k=false:=λk hk=>(Zj ((hbm k).1 hk).2.1).2.1
           have hlist':∀j,j∈hvL ops->((listed.setIfInBounds i true).getD j false=true↔j∈i::done):=λj hj=>by
             by_cases hji:j=i
             · subst hji;rw[hsetI];simp
             · rw[hset j hji,S.ch j hj];simp[hji]
           have hjl:∀j∈i::done,(listed.setIfInBounds i true).getD j false=true:=λj hj=>by
             rcases Af.1 hj with rfl|hj
             · exact hsetI
             · exact getD_set_true ((S.ch j (S.dn j hj)).2 hj)
           have hup:∀k,k∈upL ops ops.size (i::done)->(listed.setIfInBounds i true).getD k false=true:=λk hk=>zj8 hcl hjl k hk
           have hundone:i∉done:=λhm=>by rw[(S.ch i hin).2 hm]at hun;cases hun
           have hslot1:∀k ok,ops[k]?=some ok->k∈Q6 ops done ops.size->∀t∈tmpsOf ok.op.operands.toList,zl (b.put o.dst v2) t=zl b t:=λk ok hok hk t ht=>zi λhdo=>by
             have hw:=hslot0 k ok hok i t hlt (by rw[zf ho,hdo]) ht
             exact hundone ((zrg hk (hbk k i hw) hw).1 hq)
           have hslot2:∀k ok,ops[k]?=some ok->k∈Q6 ops done ops.size->∀t∈tmpsOf ok.op.operands.toList,zl (yx ops f' bl (b.put o.dst v2)) t=zl b t:=λk ok hok hk t ht=>by
             rw[j9 λp hp hdp=>?_]
             · exact hslot1 k ok hok hk t ht
             · have hw:=hslot0 k ok hok p t ((hbm p).1 hp).1 hdp ht
               exact((hbm p).1 hp).2.2 ((zrg hk (hbk k p hw) hw).2 (hbnh p hp))
           have hdist:∀k ok t,ops[k]?=some ok->k≠i->ok.dst=some t->o.dst≠some t:=λk ok t hok hki hdk hdo=>by
             have:=qj hnd k i t (Ac.1 hok).1 hlt (by rw[zf hok,hdk]) (by rw[zf ho,hdo])
             exact hki this
           have hne_i:∀k,Wg ops k=false->k≠i:=λk hk e=>by rw[e,hq]at hk;cases hk
           have hkp':∀k ok,ops[k]?=some ok->zh ok=true->Wg ops k=false->k∈Q6 ops done ops.size->LdOK ok b.eval h0 h'->LdOK ok (yx ops f' bl (b.put o.dst v2)).eval h0 h':=λk ok hok _ _ hk hh=>
             LdOK.congr (λx hx=>(yg (hslot2 k ok hok hk) x hx)) hh
           have hQK:wB7 P n ops h0 K md (fu-1) (i::done) (zcz i todo) e2 h'/\(∀k ok,ops[k]?=some ok->zh ok=true->Wg ops k=false->(listed.setIfInBounds i true).getD k false=false->LdOK ok (yx ops f' bl (b.put o.dst v2)).eval h0 h'):=by
             unfold zme at HK
             cases hl:zvn ops (upL ops ops.size (i::done)) ops.size with
             |false=>
               rw[hl,cond_false]at HK
               exact⟨HK,λk ok hok hlo hkh hf=>by rw[hup k (zim hl k ok (Ac.1 hok).1 hok hlo hkh)]at hf;cases hf⟩
             |true=>
               rw[hl,cond_true]at HK
               cases md with
               |false=>exact⟨HK.2,λ_ _ _ _ _ _=>.inr (.inl HK.1)⟩
               |true=>
                 rw[cond_true]at HK
                 obtain⟨g1,g2⟩:=zfv HK
                 refine⟨g1,λk ok hok hlo hkh hf=>.inr (.inr λt a p hop hp=>?_)⟩
                 obtain⟨t',a',p',e1,e2',e3,e4⟩:=g2 k ok (Ac.1 hok).1 hok hlo hkh (λhm=>by rw[hup k hm]at hf;cases hf)
                 rw[hop]at e1
                 injection e1 with _ e1
                 subst e1
                 have eb:(yx ops f' bl (b.put o.dst v2)).eval a=rho e2 [] a:=j7 sb2 (qf _) e2' a (by simp)
                 rw[eb,e3]at hp
                 injection hp with hp
                 injection hp with hp
                 rw[<-hp];exact e4
           have htt:∀j,j∈hvL ops->(j∈zcz i todo↔(listed.setIfInBounds i true).getD j false=false):=λj hj=>by
             rw[Y7]
             by_cases hji:j=i
             · subst hji;rw[hsetI];simp
             · rw[hset j hji,<-S.tt j hj];exact⟨λhx=>hx.1,λhx=>⟨hx,hji⟩⟩
           refine ih _ _ f' _ (yx ops f' bl (b.put o.dst v2)) e2 h' d' (i::done) (zcz i todo) hU' hdup' hmem' ⟨inv',λs hs=>?_,by rw[size_put];exact S.sz,by rw[zu];exact S.ad,sb2,λk ok t hok hk hdk=>?_,λk ok hok hk h'' hh=>?_,htt,hlist',(λj hj=>by
             rcases Af.1 hj with rfl|hj
             · exact hin
             · exact S.dn j hj),(λj hj=>S.th j (Y7.1 hj).1),Xk S.nd,⟨fu-1,by have:=zj6 hit;omega,hQK.1⟩,hQK.2,hsame _⟩
           · -- slots
             have hs':∀k ok,ops[k]?=some ok->Wg ops k=false->listed.getD k false=false->ok.dst≠some s:=λk ok hok hqk hlk=>hs k ok hok hqk (by rw[hset k (hne_i k hqk)];exact hlk)
             have hbl:∀p∈bl,yf ops p≠some s:=λp hp hdp=>by
               have hps:=((hbm p).1 hp).1
               have hok:ops[p]?=some ops[p]:=AI hps
               have hph:=hbnh p hp
               refine hs p _ hok hph ?_ (by rw[<-zf hok];exact hdp)
               cases hlp:(listed.setIfInBounds i true).getD p false with
               |false=>rfl
               |true=>
                 exfalso
                 rw[hset p (hne_i p hph)]at hlp
                 have:∀m q,q<m->q<ops.size->Wg ops q=false->listed.getD q false=true->q∈Q6 ops done ops.size:=by
                   intro m
                   induction m with
                   |zero=>intro q hq;omega
                   |succ m ihm=>
                     intro q hqm hqs hqh hql
                     refine zka hqs hqh (ze7.2 λp2 hp2 hw2=>⟨λhph2=>?_,λhph2=>?_⟩)
                     · exact(S.ch p2 (zfs.2 ⟨by omega,hph2⟩)).1 (qm S.inv hql hw2)
                     · have hin2:=ihm p2 (by omega) (by omega) hph2 (qm S.inv hql hw2)
                       obtain⟨_,g2,g3⟩:=Zj hin2
                       exact zka hp2 g2 g3
                 exact((hbm p).1 hp).2.2 (this (p+1) p (by omega) hps hph hlp)
             rw[j9 hbl]
             by_cases hds:o.dst=some s
             · rw[hds]
               have hsn:s<n:=by
                 rw[hds]at hd
                 unfold qi at hd
                 simp at hd;exact hd.2
               rw[qh (by rw[S.sz];exact hsn),qh (by rw[S.sb.size];exact hsn)]
             · rw[zi hds,zi hds];exact S.ag s hs'
           · by_cases hkb:k∈bl
             · exact(hbf k ok hok hkb).1 t hdk
             · have hk0:k∈Q6 ops done ops.size:=CG λhc=>hkb ((hbm k).2 ⟨(Ac.1 hok).1,hk,hc⟩)
               have hkh:=(Zj hk0).2.1
               obtain⟨q1,q2⟩:=S.qv k ok t hok hk0 hdk
               refine⟨?_,q2⟩
               rw[j9 λp hp hdp=>?_,zi (hdist k ok t hok (hne_i k hkh) hdk),q1,hf0 k hkb]
               have:=qj hnd p k t ((hbm p).1 hp).1 (Ac.1 hok).1 hdp (by rw[zf hok,hdk])
               subst this;exact hkb hp
           · by_cases hkb:k∈bl
             · obtain⟨_,q2,q3⟩:=hbf k ok hok hkb
               exact q3 h'' (.inl (q2 rfl))
             · have hk0:k∈Q6 ops done ops.size:=CG λhc=>hkb ((hbm k).2 ⟨(Ac.1 hok).1,hk,hc⟩)
               rw[yh (b:=b) (hgd k ok hok).1 (hslot2 k ok hok hk0),hf0 k hkb]
               exact S.qx k ok hok hk0 h'' (LdOK.congr (λx hx=>(yg (hslot2 k ok hok hk0) x hx).symm) hh)
          by_cases hv:valid (zl b) c
          · rw[if_pos (by rw[hwab];exact hwv.2 hv)]
            left
            unfold Oper.wp
            rw[hexec]
            refine Yf (b:=b) S.sb.defers ?_
            refine zfp hW S.sb hv B d λv d' h' hK=>⟨by rw[zu];exact S.sb.defers,λv2 hv2=>?_⟩
            have hbv:b.put o.dst v2=b.put o.dst v:=hv2.symm
            by_cases hds:∃t,o.dst=some t
            · obtain⟨t,ht⟩:=hds
              have htn:t<n:=by
                have hd2:=hd
                rw[ht]at hd2
                unfold qi at hd2
                simp at hd2;exact hd2.2
              have:v2=v:=by
                have e1:zl (b.put o.dst v2) t=zl (b.put o.dst v) t:=by rw[hbv]
                rw[ht,qh (by rw[S.sb.size];exact htn),qh (by rw[S.sb.size];exact htn)]at e1
                exact e1
              subst this
              exact key v2 v2 d' h' (λ_=>rfl) (λhx=>absurd hv hx) hK
            · have hdn:o.dst=none:=by
                cases hdx:o.dst with
                |none=>rfl
                |some t=>exact absurd ⟨t,hdx⟩ hds
              have e1:a.put o.dst v2=a.put o.dst v:=by rw[hdn];rfl
              rw[e1]
              exact key v v d' h' (λ_=>rfl) (λhx=>absurd hv hx) hK
          · rw[if_neg (by rw[hwab];exact λhx=>hv (hwv.1 hx))]
            obtain⟨v,hK⟩:=z3a hW S.sb hv
            exact key v undef d h (λhx=>absurd hx hv) (λ_=>rfl) hK
theorem zc0{K:Env->za->Prop}{Q:Exit->Act->World->Prop}(B:World)(ab:zhj ops=true)
  (H:wI P n h true ops (λe'=>wB7 P n ops h K md (hvL ops).length [] (hvL ops) e' h) (Qw [] (Q6 ops [] ops.size) ops.size) e) (hs:Sat n e a)
  (hQ:∀e' a' d' h',Sat n e' a'->Same (yn ops.toList) a a'->K e' h'->Q .normal a' (mk B d' h')) (d:Nat):wpAny P .any ops Q ops.size (Ba ops.size false) a (mk B d h):=by
 obtain⟨az,ae,ar,an⟩:=zio ab
 have aa:∀k,k∈Qw [] (Q6 ops [] ops.size) ops.size↔k∈Q6 ops [] ops.size:=λk=>by
  rw[zik]
  exact⟨λh=>h.2.1,λh=>⟨(Zj h).1,h,by simp⟩⟩
 have Z:=zbr [] (Q6 ops [] ops.size) ops.size
 generalize Qw [] (Q6 ops [] ops.size) ops.size=bl at H aa Z
 have ai:bl.Nodup:=Z.imp λh=>by omega
 obtain⟨f,e2,HK,am,_,ak⟩:=zkb (λ_=>undef) ai H hs
 have ah:=zfx ae ar an (f:=f) (l:=bl) (b:=a) hs.size (λk hk=>(Zj ((aa k).1 hk)).1) Z ak
 have aj:∀s,(∀i o,ops[i]?=some o->Wg ops i=false->(Ba ops.size false).getD i false=false->o.dst≠some s)->zl a s=zl (yx ops f bl a) s:=λs ax=>(j9 λp hp ap=>by
  have au:=(Zj ((aa p).1 hp)).1
  have af:ops[p]?=some ops[p]:=AI au
  exact ax p _ af (Zj ((aa p).1 hp)).2.1 (getD_replicate_false _ _) (by rw[<-zf af];exact ap)).symm
 refine z0b B ab hQ ops.size (Bv ops.size) _ f a (yx ops f bl a) e2 h d [] (hvL ops) DC Dh (λk=>by rw[BL,getD_replicate_false];simp) ⟨⟨by simp,λj oj _ hl=>(by rw[getD_replicate_false]at hl;cases hl),λt ht ay=>by omega⟩,aj,hs.size,hs.defers,am,λi o t ho hi hd=>(ah i o ho ((aa i).2 hi)).1 t hd,λi o ho hi=>(ah i o ho ((aa i).2 hi)).2.2,(λj hj=>by rw[getD_replicate_false];simp[hj]),(λj hj=>by rw[getD_replicate_false];simp),(λj hj=>by cases hj),(λj hj=>hj),zvl ops,⟨_,Ad _,HK⟩,λ_ _ _ _ _ _=>.inr (.inl (Keep.refl _ _)),Same.refl _ _⟩
def zvp:List (Nat×Nat)->Nat->Option Nat
 |[],_=>none
 |(j,m)::l,i=>bif Nat.beq i j then some m else zvp l i
def regionF(P:Program)(n:Nat)(tl:List (Nat×Nat))(id:Nat)(ops:Array Oper)(Z:Bool)(K:Env->za->Prop)(e:Env)(h:za):Prop:=
 bif Z then(match zvp tl id with
  |none=>bif Region.lexB .any ops then wQ P n ops h true (λe'=>K (clean e') h) ops.toList e else False
  |some m=>bif Nat.beq m 2000 then(bif mixB ops then wU P n h (λe'=>wT P n ops h K false [] (heavyL 0 ops.toList) e' h) ops.toList e else False)else bif Nat.beq m 3000 then(bif mixB ops then wU P n h (λe'=>wT P n ops h K true [] (heavyL 0 ops.toList) e' h) ops.toList e else False)else bif Nat.beq m 5000 then(bif zmc ops then wU P n h (λe'=>wB P n ops h K false (heavyL 0 ops.toList).length [] (heavyL 0 ops.toList) e' h) ops.toList e else False)else bif Nat.beq m 6000 then(bif zmc ops then wU P n h (λe'=>wB P n ops h K true (heavyL 0 ops.toList).length [] (heavyL 0 ops.toList) e' h) ops.toList e else False)else bif Nat.beq m 7000 then(bif zhj ops then wI P n h true ops (λe'=>wB7 P n ops h K false (hvL ops).length [] (hvL ops) e' h) (Qw [] (Q6 ops [] ops.size) ops.size) e else False)else bif Nat.beq m 8000 then(bif zhj ops then wI P n h true ops (λe'=>wB7 P n ops h K true (hvL ops).length [] (hvL ops) e' h) (Qw [] (Q6 ops [] ops.size) ops.size) e else False)else bif Nat.beq m 1000 then(bif Region.lexB .any ops then wK P n ops h (λe'=>∀h',Keep h.size h h'->K (clean e') h') ops.toList e else False)
   else bif Region.lexTailB .any ops m then wQ P n ops h false (λe'=>wR P n ops K (ops.toList.drop m) e' h) (ops.toList.take m) e else False)
 else wR P n ops K ops.toList e h
theorem xq(l m:List Oper):yn (l++m)=yn l++yn m:=by
 induction l with
 |nil=>rfl
 |cons o l ih=>simp only[AO,yn];split <;> simp[ih]
theorem zbs(hm:P.follows .mixedOrders=true){tl:List (Nat×Nat)}{id:Nat}{Z:Bool}{K:Env->za->Prop}
  (H:regionF P n tl id ops Z K e h) (B:World) (d:Nat) (hs:Sat n e a) {Q:Exit->Act->World->Prop}
  (hQ:∀e' a' d' h',Sat n e' a'->Same (yn ops.toList) a a'->K e' h'->Q .normal a' (mk B d' h')):(CW id ops Z).wp P Q a (mk B d h):=by
 unfold regionF at H
 cases Z with
 |false=>exact wp_region_list (Qu B _ _ _ _ _ H hs hQ)
 |true=>
  simp only[cond_true]at H
  split at H
  ·cases hB:Region.lexB .any ops with
   |false=>rw[hB]at H;exact H.elim
   |true=>
    rw[hB]at H
    refine wp_region_quiet (C:=λw=>∃d,w=mk B d h) hm hB ⟨d+1,rfl⟩ ?_
    refine zrd B _ _ _ H hs λe' a' q1 q2 q3=>?_
    rintro w' ⟨d',rfl⟩
    exact hQ _ _ _ _ q1.clean q2 q3
  ·rename_i m _
   cases hX:Nat.beq m 2000 with
   |true=>
    rw[hX]at H
    simp only[cond_true]at H
    cases hB:mixB ops with
    |false=>rw[hB]at H;exact H.elim
    |true=>
     rw[hB]at H
     exact wp_region_any hm (mix_sound B hB H hs hQ (d+1))
   |false=>
   rw[hX]at H
   simp only[cond_false]at H
   cases hY:Nat.beq m 3000 with
   |true=>
    rw[hY]at H
    simp only[cond_true]at H
    cases hB:mixB ops with
    |false=>rw[hB]at H;exact H.elim
    |true=>
     rw[hB]at H
     exact wp_region_any hm (mix_sound B hB H hs hQ (d+1))
   |false=>
   rw[hY]at H
   simp only[cond_false]at H
   cases hZ:Nat.beq m 5000 with
   |true=>
    rw[hZ]at H
    simp only[cond_true]at H
    cases hB:zmc ops with
    |false=>rw[hB]at H;exact H.elim
    |true=>
     rw[hB]at H
     exact wp_region_any hm (zij B hB H hs hQ (d+1))
   |false=>
   rw[hZ]at H
   simp only[cond_false]at H
   cases hY6:Nat.beq m 6000 with
   |true=>
    rw[hY6]at H
    simp only[cond_true]at H
    cases hB:zmc ops with
    |false=>rw[hB]at H;exact H.elim
    |true=>
     rw[hB]at H
     exact wp_region_any hm (zij B hB H hs hQ (d+1))
   |false=>
   rw[hY6]at H
   simp only[cond_false]at H
   cases hY7:Nat.beq m 7000 with
   |true=>
    rw[hY7]at H
    simp only[cond_true]at H
    cases hB:zhj ops with
    |false=>rw[hB]at H;exact H.elim
    |true=>
     rw[hB]at H
     exact wp_region_any hm (zc0 B hB H hs hQ (d+1))
   |false=>
   rw[hY7]at H
   simp only[cond_false]at H
   cases hY8:Nat.beq m 8000 with
   |true=>
    rw[hY8]at H
    simp only[cond_true]at H
    cases hB:zhj ops with
    |false=>rw[hB]at H;exact H.elim
    |true=>
     rw[hB]at H
     exact wp_region_any hm (zc0 B hB H hs hQ (d+1))
   |false=>
   rw[hY8]at H
   simp only[cond_false]at H
   cases hM:Nat.beq m 1000 with
   |true=>
    rw[hM]at H
    simp only[cond_true]at H
    cases hB:Region.lexB .any ops with
    |false=>rw[hB]at H;exact H.elim
    |true=>
     rw[hB]at H
     refine wp_region_quiet (C:=λw=>∃d h',Keep h.size h h'/\w=mk B d h') hm hB ⟨d+1,h,Keep.refl _ _,rfl⟩ ?_
     refine zre B _ _ _ H hs λe' a' q1 q2 q3=>?_
     rintro w' ⟨d',h',hk,rfl⟩
     exact hQ _ _ _ _ q1.clean q2 (q3 h' hk)
   |false=>
   rw[hM]at H
   simp only[cond_false]at H
   cases hB:Region.lexTailB .any ops m with
   |false=>rw[hB]at H;exact H.elim
   |true=>
    rw[hB]at H
    have:=wp_region_still_tail (id:=id) (Q:=Q) (a:=a) (w:=mk B d h) (l:=ops.toList) m hm (by simpa using hB) (by
     simp only[Array.toArray_toList]
     refine zrf B (d+1) _ _ _ H hs λe' a' q1 q2 q3=>?_
     refine Qu B _ _ _ _ (d+1) q3 q1 λah ab af ae q4 q5 q6=>hQ ah ab af ae q4 ?_ q6
     have aa:yn ops.toList=yn (ops.toList.take m)++yn (ops.toList.drop m):=by rw[<-xq,Cf]
     rw[aa]
     exact(q2.mono λx hx=>Am _ hx).trans (q5.mono λx hx=>Au _ hx))
    simpa using this
end
section
variable {n:Nat} {e:Env} {a:Act} {ms:List Nat} {P:Program} {h:za} {R:Value -> za -> Prop} {f:FuncId}
@[reducible] def ztd:List Atom->Type->Type
 |[],X=>X
 |t::l,X=>t.den->ztd l X
def z9d{X:Type}:(l:List Atom)->ztd l X->(List Value->X->Prop)->Prop
 |[],f,k=>k [] f
 |t::l,f,k=>∀x:t.den,z9d l (f x) λvs y=>k (t.enc x::vs) y
def zmg{X:Type}:(l:List Atom)->List Value->ztd l X->Option X
 |[],[],f=>some f
 |t::l,v::vs,f=>match t.dec v with
  |some x=>zmg l vs (f x)
  |none=>none
 |_,_,_=>none
def mkC{X:Type}:(l:List Atom)->(List Value->X)->ztd l X
 |[],f=>f []
 |t::l,f=>λx=>mkC l λvs=>f (t.enc x::vs)
def zte{X Y:Type}:(l:List Atom)->ztd l X->ztd l Y->ztd l (X×Y)
 |[],f,g=>(f,g)
 |_::l,f,g=>λx=>zte l (f x) (g x)
theorem zfy{X:Type}:∀{l:List Atom} {vs:List Value} {f:ztd l X} {x:X} {k:List Value->X->Prop},zmg l vs f=some x->z9d l f k->k vs x
 |[],[],f,x,k,h,g=>by simp only[zmg,Aa]at h;subst h;exact g
 |[],_::_,f,x,k,h,g=>by simp[zmg]at h
 |_::_,[],f,x,k,h,g=>by simp[zmg]at h
 |t::l,v::vs,f,x,k,h,g=>by
  simp only[zmg]at h
  split at h
  ·rename_i y hy
   have:=zfy h (g y)
   rw[Atom.enc_of_dec hy]at this
   exact this
  ·cases h
theorem zkc{X:Type}:∀{l:List Atom} {vs:List Value} {f:List Value->X} {x:X},zmg l vs (mkC l f)=some x->x=f vs
 |[],[],f,x,h=>by simp only[zmg,mkC,Aa]at h;exact h.symm
 |[],_::_,f,x,h=>by simp[zmg]at h
 |_::_,[],f,x,h=>by simp[zmg]at h
 |t::l,v::vs,f,x,h=>by
  simp only[zmg,mkC]at h
  split at h
  ·rename_i y hy
   have:=zkc h
   rw[Atom.enc_of_dec hy]at this
   exact this
  ·cases h
theorem zkd{X:Type}:∀{l:List Atom} {f:List Value->X} {k:List Value->X->Prop},(∀vs,k vs (f vs))->z9d l (mkC l f) k
 |[],_,_,h=>h []
 |_::_,_,_,h=>λ_=>zkd λ_=>h _
abbrev Ann:=List (Nat×VT)
def jr:Ann->List Atom
 |[]=>[]
 |(_,.one t)::J=>t::jr J
 |(_,.agg l)::J=>l++jr J
def Xu(σ:Nat->Option Value):Ann->Option (List Value)
 |[]=>some []
 |(i,.one _)::J=>match σ i,Xu σ J with
  |some v,some vs=>some (v::vs)
  |_,_=>none
 |(i,.agg l)::J=>match σ i,Xu σ J with
  |some (.agg cs),some vs=>bif Nat.beq cs.toList.length l.length then some (cs.toList++vs)else none
  |_,_=>none
def Qx:Ann->List Value->Env
 |[],_=>[]
 |(i,.one _)::J,v::vs=>(i,[],v)::Qx J vs
 |(_,.one _)::_,[]=>[]
 |(i,.agg l)::J,vs=>(i,[],.agg (vs.take l.length).toArray)::Qx J (vs.drop l.length)
def zc1(e:Env)(i:Nat):Option Value:=match look e i with
 |some ([],v)=>some v
 |_=>none
theorem y7(h:Sat n e a){i:Nat}{v:Value}(hv:zc1 e i=some v):zl a i=v:=by
 unfold zc1 at hv
 split at hv
 ·rename_i u hl
  simp only[Aa]at hv
  subst hv
  exact(h.all _ (Xh hl)).1 trivial
 ·cases hv
theorem jf{n:Nat}{e:Env}{a:Act}(h:Sat n e a):∀{J:Ann} {vs:List Value},Xu (zc1 e) J=some vs->Xu (λi=>some (zl a i)) J=some vs
 |[],vs,hv=>hv
 |(i,.one t)::J,vs,hv=>by
  simp only[Xu]at hv ⊢
  split at hv
  ·rename_i v us h1 h2
   simp only[jf h h2,y7 h h1]
   exact hv
  ·cases hv
 |(i,.agg l)::J,vs,hv=>by
  simp only[Xu]at hv ⊢
  split at hv
  ·rename_i cs us h1 h2
   simp only[jf h h2,y7 h h1]
   exact hv
  ·cases hv
theorem Wo{σ:Nat->Value}:∀{J:Ann} {vs:List Value},Xu (λi=>some (σ i)) J=some vs->∀x∈Qx J vs,fact σ x
 |[],vs,_,x,hx=>by cases hx
 |(i,.one t)::J,vs,hv,x,hx=>by
  simp only[Xu]at hv
  split at hv
  ·rename_i v us h1 h2
   simp only[Aa]at h1 hv
   subst hv
   simp only[Qx,Af]at hx
   rcases hx with rfl|hx
   ·exact⟨λ_=>h1,λhn=>absurd trivial hn⟩
   ·exact Wo h2 x hx
  ·cases hv
 |(i,.agg l)::J,vs,hv,x,hx=>by
  simp only[Xu]at hv
  split at hv
  ·rename_i cs us h1 h2
   simp only[Aa]at h1
   cases hb:Nat.beq cs.toList.length l.length with
   |false=>rw[hb]at hv;cases hv
   |true=>
    rw[hb]at hv
    simp only[cond_true,Aa]at hv
    subst hv
    have Z:cs.toList.length=l.length:=Ag hb
    simp only[Qx,Af]at hx
    rcases hx with rfl|hx
    ·refine⟨λ_=>?_,λhn=>absurd trivial hn⟩
     simp only
     rw[h1,<-Z,DJ]
    ·rw[<-Z,List.drop_left]at hx
     exact Wo h2 x hx
  ·cases hv
def Wp(ms:List Nat):Env->Env
 |[]=>[]
 |(i,[],v)::e=>bif memN ms i then Wp ms e else(i,[],v)::Wp ms e
 |(_,_::_,_)::e=>Wp ms e
theorem zvq{x:Nat×zt×Value}(h:x∈Wp ms e):x∈e/\x.2.1=[]/\x.1∉ms:=by
 induction e with
 |nil=>cases h
 |cons y e ih=>
  obtain⟨i,c,v⟩:=y
  cases c with
  |nil=>
   simp only[Wp]at h
   cases hm:memN ms i with
   |true=>rw[hm]at h;exact⟨Ae _ (ih h).1,(ih h).2⟩
   |false=>
    rw[hm]at h
    simp only[cond_false]at h
    rcases Af.1 h with rfl|h
    ·exact⟨Aj,rfl,wh hm⟩
    ·exact⟨Ae _ (ih h).1,(ih h).2⟩
  |cons g c=>
   simp only[Wp]at h
   exact⟨Ae _ (ih h).1,(ih h).2⟩
theorem zbt{a a1:Act}(hs:Sat n e a)(hd:a1.defers=[])(hz:a1.tmps.size=n)(Z:Same ms a a1){J:Ann}{vs:List Value}
  (hv:Xu (λi=>some (zl a1 i)) J=some vs):Sat n (Qx J vs++Wp ms e) a1:=by
 refine⟨hd,hz,λx hx=>?_⟩
 rcases As.1 hx with hx|hx
 ·exact Wo hv x hx
 ·obtain⟨h1,h2,h3⟩:=zvq hx
  have hf:=hs.all x h1
  refine⟨λ_=>?_,λhn=>absurd (by rw[h2];trivial) hn⟩
  rw[Z _ h3]
  exact hf.1 (by rw[h2];trivial)
def jh:Code->Option Nat
 |.region id _ _=>some id
 |.seq a b=>match jh a with
  |some i=>some i
  |none=>jh b
 |.cond _ a b=>match jh a with
  |some i=>some i
  |none=>jh b
 |.block _ b=>jh b
 |.loop b=>jh b
 |_=>none
def Zq:Code->List Nat
 |.region _ ops _=>yn ops.toList
 |.seq a b=>Zq a++Zq b
 |.cond _ a b=>Zq a++Zq b
 |.block _ b=>Zq b
 |.loop b=>Zq b
 |_=>[]
structure Plan where
 tails:List (Nat×Nat)
 loops:List (Nat×Ann)
 joins:List (Nat×Ann)
def z9e:List (Nat×Ann)->Nat->Option Ann
 |[],_=>none
 |(j,m)::l,i=>bif Nat.beq i j then some m else z9e l i
def z0c(l:List (Nat×Ann)):Option Nat->Option Ann
 |some i=>z9e l i
 |none=>none
abbrev zah:=Exit->Env->za->Prop
def zpd(K:Env->za->Prop)(Q:zah):zah
 |.normal,e,h=>K e h
 |x,e,h=>Q x e h
def zfz(id:Nat)(Q:zah):zah
 |.exit i,e,h=>bif Nat.beq i id then Q .normal e h else Q (.exit i) e h
 |x,e,h=>Q x e h
def atC{X:Type}(J:Ann)(F:ztd (jr J) X)(e:Env)(k:X->Prop):Prop:=
 match Xu (zc1 e) J with
 |some vs=>match zmg (jr J) vs F with
  |some q=>k q
  |none=>False
 |none=>False
def z9f(J:Ann)(rest:Env->za->Prop)(F:(Env->za->Prop)->Prop)(e0:Env):Prop:=
 ∀K:ztd (jr J) (za->Prop),z9d (jr J) K (λvs q=>∀h,rest (Qx J vs++e0) h->q h)->F λe h=>atC J K e λq=>q h
def z9g(J:Ann)(body:(Env->za->Prop)->Env->za->Prop)(e0 e:Env)(h:za):Prop:=
 ∃(I:ztd (jr J) (za->Prop)) (μ:ztd (jr J) (za->Nat)),(atC J (zte (jr J) I μ) e λp=>p.1 h) /\
  z9d (jr J) (zte (jr J) I μ) λvs p=>∀h,p.1 h->body (λe' h'=>atC J (zte (jr J) I μ) e' λq=>q.1 h'/\q.2 h'<p.2 h) (Qx J vs++e0) h
def W(P:Program)(n:Nat)(pl:Plan):Code->zah->Env->za->Prop
 |.skip,Q,e,h=>Q .normal e h
 |.ret,Q,e,h=>Q .ret e h
 |.exit id,Q,e,h=>Q (.exit id) e h
 |.label _,Q,e,h=>Q .normal e h
 |.goto l,Q,e,h=>Q (.goto l) e h
 |.region id ops draw,Q,e,h=>regionF P n pl.tails id ops draw (λe h=>Q .normal e h) e h
 |.seq x y,Q,e,h=>match z0c pl.joins (jh y)with
  |none=>W P n pl x (zpd (λe h=>W P n pl y Q e h) Q) e h
  |some J=>z9f J (λe h=>W P n pl y Q e h) (λK=>W P n pl x (zpd K Q) e h) (Wp (Zq x) e)
 |.cond c x y,Q,e,h=>match Y4 e [] c with
  |some (.bool b)=>(b=true->W P n pl x Q e h)/\(b=false->W P n pl y Q e h)
  |_=>False
 |.block id x,Q,e,h=>W P n pl x (zfz id Q) e h
 |.loop x,Q,e,h=>match z0c pl.loops (jh x)with
  |some J=>z9g J (λQn e h=>W P n pl x (zpd Qn Q) e h) (Wp (Zq x) e) e h
  |none=>False
 |_,_,_,_=>False
def z9h(n:Nat)(B:World)(ms:List Nat)(a0:Act)(Q:zah):Exit->Act->World->Prop:=
 λx a w=>∃e d h,w=mk B d h/\Sat n e a/\Same ms a0 a/\Q x e h
theorem zc2{X:Type}{J:Ann}{F:ztd (jr J) X}{k:X->Prop}(h:atC J F e k):∃vs q,Xu (zc1 e) J=some vs/\zmg (jr J) vs F=some q/\k q:=by
 unfold atC at h
 split at h
 ·rename_i vs hv
  split at h
  ·rename_i q hq
   exact⟨vs,q,hv,hq,h⟩
  ·exact h.elim
 ·exact h.elim
theorem z4t(hm:P.follows .mixedOrders=true){pl:Plan}:∀(c:Code) (Q:zah) (e:Env) (h:za),W P n pl c Q e h ->
  ∀(B:World) (d:Nat) (a:Act),Sat n e a->c.wp P (z9h n B (Zq c) a Q) a (mk B d h):=by
 intro c
 induction c with
 |skip=>exact λQ e h H B d a hs=>wp_skip ⟨e,d,h,rfl,hs,Same.refl _ _,H⟩
 |ret=>exact λQ e h H B d a hs=>wp_ret ⟨e,d,h,rfl,hs,Same.refl _ _,H⟩
 |exit id=>exact λQ e h H B d a hs=>wp_exit ⟨e,d,h,rfl,hs,Same.refl _ _,H⟩
 |label l=>exact λQ e h H B d a hs=>wp_label ⟨e,d,h,rfl,hs,Same.refl _ _,H⟩
 |goto l=>exact λQ e h H B d a hs=>wp_goto ⟨e,d,h,rfl,hs,Same.refl _ _,H⟩
 |region id ops aB=>
  exact λQ e h H B d a hs=>zbs hm H B d hs λe' a' d' h' q1 q2 q3=>⟨e',d',h',rfl,q1,q2,q3⟩
 |seq x y aa ab=>
  intro Q e h H B d a hs
  simp only[W]at H
  have hl:∀i∈Zq x,i∈Zq (x.seq y):=λi hi=>Am _ hi
  have hr:∀i∈Zq y,i∈Zq (x.seq y):=λi hi=>Au _ hi
  split at H
  ·refine wp_seq (wp_mono (aa _ _ _ H B d a hs) ?_)
   rintro ex a1 w1 ⟨e1,d1,h1,rfl,s1,m1,q1⟩
   cases ex with
   |normal=>
    refine wp_mono (ab _ _ _ q1 B d1 a1 s1) ?_
    rintro ex a2 w2 ⟨e2,d2,h2,rfl,s2,m2,q2⟩
    exact⟨e2,d2,h2,rfl,s2,(m1.mono hl).trans (m2.mono hr),q2⟩
   |_=>exact⟨e1,d1,h1,rfl,s1,m1.mono hl,q1⟩
  ·rename_i J hJ
   have H':=H (mkC (jr J) λvs=>λh=>W P n pl y Q (Qx J vs++Wp (Zq x) e) h) (zkd λvs h hq=>hq)
   refine wp_seq (wp_mono (aa _ _ _ H' B d a hs) ?_)
   rintro ex a1 w1 ⟨e1,d1,h1,rfl,s1,m1,q1⟩
   cases ex with
   |normal=>
    obtain⟨vs,q,hv,hq,hk⟩:=zc2 q1
    have ar:=zkc hq
    subst ar
    have aA:Sat n (Qx J vs++Wp (Zq x) e) a1:=zbt hs s1.defers s1.size m1 (jf s1 hv)
    refine wp_mono (ab _ _ _ hk B d1 a1 aA) ?_
    rintro ex a2 w2 ⟨e2,d2,h2,rfl,s2,m2,q2⟩
    exact⟨e2,d2,h2,rfl,s2,(m1.mono hl).trans (m2.mono hr),q2⟩
   |_=>exact⟨e1,d1,h1,rfl,s1,m1.mono hl,q1⟩
 |cond c x y aa ab=>
  intro Q e h H B d a hs
  simp only[W]at H
  have hl:∀i∈Zq x,i∈Zq (Ee c x y):=λi hi=>Am _ hi
  have hr:∀i∈Zq y,i∈Zq (Ee c x y):=λi hi=>Au _ hi
  split at H
  ·rename_i b hb
   refine wp_cond_split (qy hs (c:=[]) trivial hb) (λaz=>?_) (λax=>?_)
   ·refine wp_mono (aa _ _ _ (H.1 az) B d a hs) ?_
    rintro ex a2 w2 ⟨e2,d2,h2,rfl,s2,m2,q2⟩
    exact⟨e2,d2,h2,rfl,s2,m2.mono hl,q2⟩
   ·refine wp_mono (ab _ _ _ (H.2 ax) B d a hs) ?_
    rintro ex a2 w2 ⟨e2,d2,h2,rfl,s2,m2,q2⟩
    exact⟨e2,d2,h2,rfl,s2,m2.mono hr,q2⟩
  ·exact H.elim
 |block id x ih=>
  intro Q e h H B d a hs
  refine wp_block (wp_mono (ih _ _ _ H B d a hs) ?_)
  rintro ex a1 w1 ⟨e1,d1,h1,rfl,s1,m1,q1⟩
  cases ex with
  |exit i=>
   simp only[zfz]at q1
   simp only[Exit.inBlock]
   by_cases hb:Nat.beq i id=true
   ·rw[if_pos (Ag hb)]
    simp only[hb,cond_true]at q1
    exact⟨e1,d1,h1,rfl,s1,m1,q1⟩
   ·rw[if_neg (λhe=>hb (by rw[he];simp))]
    simp only[hb,cond_false]at q1
    exact⟨e1,d1,h1,rfl,s1,m1,q1⟩
  |_=>exact⟨e1,d1,h1,rfl,s1,m1,q1⟩
 |loop x ih=>
  intro Q e h H B d a hs
  simp only[W]at H
  split at H
  ·rename_i J hJ
   obtain⟨I,μ,h0,ae⟩:=H
   obtain⟨ai,p0,ay,ah,au⟩:=zc2 h0
   let F:=zte (jr J) I μ
   let at_:Act->Option ((za->Prop)×(za->Nat)):=λa1=>(Xu (λi=>some (zl a1 i)) J).bind λvs=>zmg (jr J) vs F
   refine wp_loop (λa1 w1=>∃d1 h1 vs p,w1=mk B d1 h1/\a1.defers=[]/\a1.tmps.size=n/\Same (Zq x) a a1/\Xu (λi=>some (zl a1 i)) J=some vs/\zmg (jr J) vs F=some p/\p.1 h1)
    (λa1 w1=>match at_ a1 with|some p=>p.2 w1.heap|none=>0) ⟨d,h,ai,p0,rfl,hs.defers,hs.size,Same.refl _ _,jf hs ay,ah,au⟩ ?_
   rintro a1 w1 ⟨d1,h1,vs,p,rfl,ak,am,Z,hv,hp,hI⟩
   have s1:Sat n (Qx J vs++Wp (Zq x) e) a1:=zbt hs ak am Z hv
   have hb:=zfy hp ae h1 hI
   refine wp_mono (ih _ _ _ hb B d1 a1 s1) ?_
   rintro ex a2 w2 ⟨e2,d2,h2,rfl,s2,m2,q2⟩
   cases ex with
   |normal=>
    obtain⟨aj,q,af,hq,an,ap⟩:=zc2 q2
    refine⟨⟨d2,h2,aj,q,rfl,s2.defers,s2.size,Z.trans m2,jf s2 af,hq,an⟩,?_⟩
    have e1:at_ a1=some p:=by simp only[at_,hv,CK];exact hp
    have e2:at_ a2=some q:=by simp only[at_,jf s2 af,CK];exact hq
    rw[e1,e2]
    exact ap
   |_=>exact⟨e2,d2,h2,rfl,s2,Z.trans m2,q2⟩
  ·exact H.elim
 |_=>exact λQ e h H=>H.elim
def ztf:Nat->List Value->Env
 |_,[]=>[]
 |i,v::vs=>(i,[],v)::ztf (i+1) vs
def ztg(P:Program)(h:za)(e:Env):List ResultVar->(List Value->Prop)->Prop
 |[],K=>K []
 |.tmp t::l,K=>match zc1 e t with
  |some v=>ztg P h e l λvs=>K (v::vs)
  |none=>False
 |.cell a t::l,K=>match zc1 e a with
  |some p=>zj4 P h t p none λv=>ztg P h e l λvs=>K (v::vs)
  |none=>False
def zc3:List Value->Value
 |[v]=>v
 |vs=>.tuple vs.toArray
def qbx(P:Program)(rs:List ResultVar)(R:Value->za->Prop):zah
 |.normal,e,h=>ztg P h e rs λvs=>R (zc3 vs) h
 |.ret,e,h=>ztg P h e rs λvs=>R (zc3 vs) h
 |_,_,_=>False
def zf0(tmps:Array Value):ResultVar->Sem Value
 |.tmp t=>pure (tmps.getD t undef)
 |.cell a t=>do loadVar t (<-asAddr (tmps.getD a undef))
theorem zc4{P:Program}{n:Nat}{h:za}{e:Env}{a:Act}(hs:Sat n e a):∀{l:List ResultVar} {K:List Value->Prop},ztg P h e l K->∃vs,K vs/\vs.length=l.length/\QExec P (l.mapM (zf0 a.tmps)) h vs
 |[],K,H=>⟨[],H,rfl,λ_ _=>by simp⟩
 |.tmp t::l,K,H=>by
  simp only[ztg]at H
  split at H
  ·rename_i v hv
   obtain⟨vs,h1,h2,h3⟩:=zc4 hs H
   refine⟨v::vs,h1,by simp[h2],?_⟩
   rw[Ea]
   refine QExec.bind (x:=v) ?_ (h3.bind (QExec.pure _))
   rw[<-y7 hs hv]
   exact QExec.pure _
  ·exact H.elim
 |.cell x t::l,K,H=>by
  simp only[ztg]at H
  split at H
  ·rename_i p hp
   obtain⟨v,hK,hq⟩:=zfj H
   obtain⟨vs,h1,h2,h3⟩:=zc4 hs hK
   refine⟨v::vs,h1,by simp[h2],?_⟩
   rw[Ea]
   refine QExec.bind (x:=v) ?_ (h3.bind (QExec.pure _))
   have hx:a.tmps.getD x undef=p:=y7 hs hp
   simp only[zf0,hx]
   have Z:=hq trivial
   unfold DO at Z
   unfold zj4 at H
   split at H
   ·exact Z
   ·exact Z
   ·exact H.elim
  ·exact H.elim
theorem xr{fn:Func}(hs:Sat n e a){rs:List ResultVar}(hr:fn.results.toList=rs)(H:ztg P h e rs λvs=>R (zc3 vs) h):
  ∃v,R v h/\QExec P (results fn a.tmps) h v:=by
 obtain⟨vs,h1,h2,h3⟩:=zc4 hs H
 refine⟨_,h1,?_⟩
 intro B d
 have e0:results fn a.tmps=(fn.results.mapM (zf0 a.tmps) >>= λvs=>Da (if h:vs.size=1 then vs[0]else .tuple vs)):=by
  unfold results
  congr 1
 rw[e0,Array.mapM_eq_mapM_toList,hr,Sem.run_bind,Sem.run_map,h3 B d]
 simp only[Result.andThen_ok,Sem.run_pure]
 match vs,h2 with
 |[],_=>rfl
 |[v],_=>rfl
 |v::u::vs,_=>simp[zc3]
theorem Yh(args:Array Value)(k:Nat):∀(vs:List Value) (i:Nat),(∀j v,vs[j]?=some v->(args++Ba k undef).getD (i+j) undef=v) ->
  ∀x∈ztf i vs,fact (λi=>(args++Ba k undef).getD i undef) x
 |[],_,_,x,hx=>by cases hx
 |v::vs,i,h,x,hx=>by
  simp only[ztf,Af]at hx
  rcases hx with rfl|hx
  ·exact⟨λ_=>h 0 v rfl,λhn=>absurd trivial hn⟩
  ·exact Yh args k vs (i+1) (λj u hj=>by have:=h (j+1) u (by simpa using hj);rwa[show i+(j+1)=i+1+j by omega]at this) x hx
theorem z4u(hm:P.follows .mixedOrders=true){fn:Func}{c:Code}(pl:Plan)(vs:List Value){rs:List ResultVar}(hf:P.funcs[f]?=some fn)(hb:fn.body=some c)(hr:fn.results.toList=rs)(hn:fn.ntmps=n)
  (hz:Nat.ble vs.length n=true) (H:W P n pl c (qbx P rs R) (ztf 0 vs) h):XC P f vs.toArray h R:=by
 intro B d
 subst hn
 refine calls_of_wp hf hb ?_
 have aa:vs.length<=fn.ntmps:=BG hz
 have hs:Sat fn.ntmps (ztf 0 vs) { tmps:=vs.toArray++Ba (fn.ntmps-vs.toArray.size) undef,defers:=[] }:=by
  refine⟨rfl,by simp;omega,?_⟩
  refine Yh vs.toArray _ vs 0 λj v hj=>?_
  have Z:j<vs.length:=by
   rcases AR j vs.length with h|h
   ·exact h
   ·rw[BH h]at hj;cases hj
  simp only[Ay,A7]
  rw[Ck (by simpa using Z)]
  simp[hj]
 refine wp_mono (z4t hm c _ _ _ H B d _ hs) ?_
 rintro ex a w ⟨e1,d1,h1,rfl,s1,m1,q1⟩
 cases ex with
 |normal=>
  obtain⟨v,hv,hq⟩:=xr s1 hr q1
  exact⟨s1.defers,v,hq B d1,v,d1,h1,rfl,rfl,hv⟩
 |ret=>
  obtain⟨v,hv,hq⟩:=xr s1 hr q1
  exact⟨s1.defers,v,hq B d1,v,d1,h1,rfl,rfl,hv⟩
 |_=>exact q1.elim
def codeOf(fn:Func):Code:=match fn.body with
 |some c=>c
 |none=>.skip
def Z9(fn:Func):Bool:=match fn.body with
 |some _=>true
 |none=>false
theorem zth(hm:P.follows .mixedOrders=true)(pl:Plan)(vs:List Value){fn:Func}{rs:List ResultVar}(hf:P.funcs[f]?=some fn)(hb:Z9 fn=true)(hr:fn.results.toList=rs)(hn:fn.ntmps=n)
  (hz:Nat.ble vs.length n=true) (H:W P n pl (codeOf fn) (qbx P rs R) (ztf 0 vs) h):XC P f vs.toArray h R:=by
 have Z:fn.body=some (codeOf fn):=by
  unfold Z9 at hb
  unfold codeOf
  split at hb
  ·rename_i c hc;rw[hc]
  ·cases hb
 exact z4u hm pl vs hf Z hr hn hz H
end
section
variable {n m k:Nat} {h h':za} {a:Option Addr} {cs xs news:List Value} {v z:Value} {s:Sl} {e t ty:TypeId} {P:Program}
theorem j5(h:za)(o:Obj):(h.push o)[h.size]?=some o:=by simp
theorem zti(k:Keep n h h'){a:Addr}(ha:a.block<n):zd h' a=zd h a:=by
 unfold zd;rw[k.get _ ha]
def Arr(n:Nat)(h:za)(a:Option Addr)(cs:List Value):Prop:=
 cs=[]\/∃b o,a=some ⟨b,o,none⟩/\b<n/\∀i v,cs[i]?=some v->zd h ⟨b,o+i,none⟩=some v
theorem Arr.mono(H:Arr n h a cs)(hm:n<=m):Arr m h a cs:=by
 rcases H with e|⟨b,o,e,hb,hc⟩
 ·exact .inl e
 ·exact .inr ⟨b,o,e,by omega,hc⟩
theorem Arr.keep(H:Arr n h a cs)(k:Keep n h h'):Arr n h' a cs:=by
 rcases H with e|⟨b,o,e,hb,hc⟩
 ·exact .inl e
 ·exact .inr ⟨b,o,e,hb,λi v hi=>(zti k (a:=⟨b,o+i,none⟩) hb).trans (hc i v hi)⟩
theorem zq(b o i:Nat):(⟨b,o,none⟩:Addr).add i=⟨b,o+i,none⟩:=by
 unfold Al
 split
 ·rename_i h;rw[h];rfl
 ·rfl
theorem Arr.cell(H:Arr n h a cs)(hv:cs[k]?=some v):∃p:Addr,a=some p/\zd h (p.add k)=some v:=by
 rcases H with e|⟨b,o,e,hb,hc⟩
 ·rw[e]at hv;simp at hv
 ·exact⟨⟨b,o,none⟩,e,by rw[zq];exact hc k v hv⟩
def Strs(n:Nat)(h:za)(s:Sl)(xs:List Bt):Prop:=s.len=xs.length/\Arr n h s.a (xs.map Cv)
theorem Strs.mono{xs:List Bt}(H:Strs n h s xs)(hm:n<=m):Strs m h s xs:=⟨H.1,H.2.mono hm⟩
theorem Strs.keep{xs:List Bt}(H:Strs n h s xs)(k:Keep n h h'):Strs n h' s xs:=⟨H.1,H.2.keep k⟩
theorem Strs.nil(n:Nat)(h:za)(a:Option Addr)(c:Nat):Strs n h ⟨a,0,c⟩ []:=⟨rfl,.inl rfl⟩
theorem wrap64{n:Int}(h1:-9223372036854775808<=n)(h2:n<=9223372036854775807):Ab .i64 n=n:=by
 unfold Ab
 have e:(2:Int) ^ Ao .i64=18446744073709551616:=by decide
 have e':(2:Int) ^ (Ao .i64-1)=9223372036854775808:=by decide
 simp only[e,e']
 have hs:Di .i64=true:=rfl
 simp only[hs,Cd,decide_eq_true_eq]
 split <;> omega
theorem zvr(h:k<9223372036854775807):Ab .i64 ((k:Int)+1)=((k+1:Nat):Int):=by
 rw[wrap64 (by omega) (by omega)];omega
def Owns(h:za)(base:Nat)(e:TypeId)(sz:Nat)(s:Sl)(xs:List Value):Prop:=
 (mk default 0 h).ownsRow base e sz (.slice s.a s.len s.cap) s.len xs
theorem Owns.nil(h:za)(base:Nat)(e:TypeId)(sz:Nat):Owns h base e sz ⟨none,0,0⟩ []:=World.ownsRow_nil _ _ _ _
theorem Owns.length{base:Nat}{sz:Nat}(H:Owns h base e sz s xs):xs.length=s.len*sz:=H.1
theorem Owns.arr{base:Nat}{sz:Nat}(H:Owns h base e sz s xs):Arr h.size h s.a xs:=by
 rcases H.2 with⟨hv,h0⟩|⟨g,cap,Z,hv,hb,hg,ae,hm,af,ht⟩
 ·have hl:=H.1
  rw[h0]at hl
  exact .inl (by simpa using hl)
 ·simp only[AP]at hv
  have ab:g<h.size:=(Ac.1 hg).1
  refine .inr ⟨g,0,hv.1,ab,λi v hi=>?_⟩
  have aa:h[g]?=some (.cells Z e (0,0)):=hg
  unfold zd
  simp only[aa,Ay,Option.isSome_none,A3,if_false]
  rw[<-ht,Az]at hi
  split at hi
  ·simpa using hi
  ·cases hi
theorem Owns.base_le{base:Nat}{sz:Nat}(H:Owns h base e sz s xs):∀p,s.a=some p->base<=p.block/\p.block<h.size:=by
 intro p hp
 exact World.ownsRow.lt H p.block (by simp[Value.ownBlock,hp])
theorem Owns.keep{base:Nat}{sz:Nat}(H:Owns h base e sz s xs)(k:∀p,s.a=some p->h'[p.block]?=h[p.block]?):Owns h' base e sz s xs:=by
 refine⟨H.1,?_⟩
 rcases H.2 with hn|⟨g,cap,Z,hv,hb,hg,rest⟩
 ·exact .inl hn
 ·simp only[AP]at hv
  refine .inr ⟨g,cap,Z,by simp[hv],hb,?_,rest⟩
  have:=k _ hv.1
  exact this.trans hg
theorem Owns.keepN{base:Nat}{sz:Nat}(H:Owns h base e sz s xs)(k:Keep h.size h h'):Owns h' base e sz s xs:=
 H.keep λp hp=>k.get _ (H.base_le p hp).2
structure ElemT (P:Program) (t e:TypeId) (z:Value) (sz bytes:Nat):Prop where
 slice:P.underlying t=some (.slice e)
 info:∃i,P.info? e=some i/\i.zero=some z/\i.size=sz/\i.bytes=bytes
 zero:z.cells.size=sz
 pos:0<sz
theorem zec{w:World}{i:TypeInfo}{sz bytes base:Nat}(ht:P.underlying t=some (.slice e))(hi:P.info? e=some i)(hz:i.zero=some z)(an:i.size=sz)(am:i.bytes=bytes)(ae:w.ownsRow base e sz v n xs){a:Addr}{m c:Nat}(hl:news.length=m*sz)(aa:∀j u,news[j]?=some u->w.cell? (a.add j)=some u)(h1:∀u∈news,u.oneCell'=true)
  (ar:n+m<=4611686018427387904) (ab:(n+m)*bytes<=140737488355328) {v':Value} {w':World} (r1:(AB #[t,t] ty #[v,.slice (some a) m c]).run P w=.ok v' w'):
  ∀p' l c',v'=.slice (some p') l c'->(∃p l0 c0,v=.slice (some p) l0 c0/\p'.block=p.block)\/p'.block=w.heap.size:=by
 subst an am
 intro p' l c' Z
 rcases ae.2 with⟨rfl,rfl⟩|⟨g,cap,aj,rfl,ax,hg,ay,au,ap,ak⟩
 ·by_cases hm:m=0
  ·subst hm
   have hn:news=[]:=AJ (by simpa using hl)
   subst hn
   have hr:(AB #[t,t] ty #[.slice none 0 0,.slice (some a) 0 c]).run P w=.ok (.slice none 0 0) w:=by
    simp[AB,run_underlying ht,sizeOf,typeInfo,hi,Builtin.lenOf,CM,loadCells,loadCellsFrom]
   rw[hr]at r1
   simp only[Ek]at r1
   rw[<-r1.1]at Z;cases Z
  ·have hr:=run_append_nil (P:=P) (ty:=ty) w t e i z ht hi hz a m c news hl aa (by omega) (by omega) (by have hb:=ab;simp only[Ay]at hb;omega)
   rw[hr]at r1
   simp only[Ek]at r1
   rw[<-r1.1]at Z
   simp only[AP,Aa]at Z
   exact .inr (by rw[<-Z.1])
 ·by_cases af:n+m<=cap
  ·have ai:n*i.size+news.length<=aj.size:=by rw[hl,ap,<-BU];exact AK _ af
   have hr:=run_append_room (P:=P) (ty:=ty) w t e i ht hi g n cap aj hg a m c news hl aa h1 af ai
   rw[hr]at r1
   simp only[Ek]at r1
   rw[<-r1.1]at Z
   simp only[AP,Aa]at Z
   exact .inl ⟨_,_,_,rfl,by rw[<-Z.1]⟩
  ·have ah:∀j u,xs[j]?=some u->w.cell? ((⟨g,0,none⟩:Addr).add j)=some u:=ae.cells (g:=g) rfl
   have hr:=run_append_grow (P:=P) (ty:=ty) w t e i z ht hi hz ⟨g,0,none⟩ n cap xs ae.1 ah a m c news hl aa (by omega) (by omega) (growslice_fits (by omega) ab)
   rw[hr]at r1
   simp only[Ek]at r1
   rw[<-r1.1]at Z
   simp only[AP,Aa]at Z
   exact .inr (by rw[<-Z.1])
theorem zc5{sz bytes:Nat}(T:ElemT P t e z sz bytes){base:Nat}(H:Owns h base e sz s xs)
  {src:Sl} (hs:Arr n h src.a news) (hl:news.length=src.len*sz) (h1:∀u∈news,u.oneCell'=true)
  (Z:(s.len+src.len)*bytes<=140737488355328) (ae:s.len+src.len<=4611686018427387904) (af:base<=h.size) {K:Value->za->Prop}
  (hK:∀(s':Sl) (h':za),s'.len=s.len+src.len->Owns h' base e sz s' (xs++news)->(∀i,i<h.size->(∀p,s.a=some p->i≠p.block)->h'[i]?=h[i]?)->h.size<=h'.size->(∀p',s'.a=some p'->(∃p,s.a=some p/\p'.block=p.block)\/p'.block=h.size)->K (.slice s'.a s'.len s'.cap) h'):
  XRun P (AB #[t,t] ty #[.slice s.a s.len s.cap,.slice src.a src.len src.cap]) h K:=by
 intro B d
 obtain⟨i,hi,hz,ai,ah⟩:=T.info
 have key:∃v' w',(AB #[t,t] ty #[.slice s.a s.len s.cap,.slice src.a src.len src.cap]).run P (mk B d h)=.ok v' w'/\w'.ownsRow base e sz v' (s.len+src.len) (xs++news)/\(mk B d h).grownBy w' (Value.ownBlock (.slice s.a s.len s.cap)) /\
   ∀p' l c',v'=.slice (some p') l c'->(∃p,s.a=some p/\p'.block=p.block)\/p'.block=h.size:=by
  have aa:(mk B d h).ownsRow base e sz (.slice s.a s.len s.cap) s.len xs:=H
  rcases hs with e0|⟨b,o,e0,hb,hc⟩
  ·subst e0
   have h0:src.len=0:=by
    rcases Do src.len with h0|h0
    ·exact h0
    ·have:=Nat.mul_pos h0 T.pos;simp at hl;omega
   rw[h0]
   have ha:∃q,q=src.a:=⟨_,rfl⟩
   obtain⟨q,hq⟩:=ha
   rw[<-hq]
   cases q with
   |none=>
    refine⟨_,mk B d h,?_,by simpa using aa,⟨rfl,rfl,rfl,Ad _,λ_ _ _=>rfl⟩,λp' l c' ab=>.inl ⟨p',by simp only[AP]at ab;exact ab.1,rfl⟩⟩
    have hT:=T.slice
    have ar:s.len<=s.cap:=by
     rcases aa.2 with⟨e1,e2⟩|⟨g,cap,an,e1,_,_,au,_⟩
     ·omega
     ·simp only[AP]at e1;omega
    generalize s.a=sa at *
    cases sa <;> simp[AB,run_underlying hT,sizeOf,typeInfo,hi,Builtin.lenOf,CM,ar,storeCells]
   |some p=>
    obtain⟨v',w',r1,r2,r3,_⟩:=run_append_own (P:=P) (w:=mk B d h) base t ty e i z sz bytes T.slice hi hz ai ah T.zero T.pos (.slice s.a s.len s.cap) s.len xs aa p 0 src.cap [] (by simp) (by simp) (by simp) (by unfold maxLen;omega) (by rw[h0]at Z;exact Z) af
    refine⟨v',w',r1,r2,r3,λp' l c' ab=>?_⟩
    rcases zec T.slice hi hz ai ah aa (news:=[]) (by simp) (by simp) (by simp) (by rw[h0]at ae;exact ae) (by rw[h0]at Z;exact Z) r1 p' l c' ab with⟨q,l0,c0,hq,hb⟩|hb
    ·simp only[AP]at hq;exact .inl ⟨q,hq.1,hb⟩
    ·exact .inr hb
  ·rw[e0]
   obtain⟨v',w',r1,r2,r3,_⟩:=run_append_own (P:=P) (w:=mk B d h) base t ty e i z sz bytes T.slice hi hz ai ah T.zero T.pos (.slice s.a s.len s.cap) s.len xs aa ⟨b,o,none⟩ src.len src.cap news hl
    (λj u hu=>by rw[zq];exact hc j u hu) h1 (by unfold maxLen;omega) Z af
   refine⟨v',w',r1,r2,r3,λp' l c' ab=>?_⟩
   rcases zec T.slice hi hz ai ah aa hl (λj u hu=>by rw[zq];exact hc j u hu) h1 ae Z r1 p' l c' ab with⟨q,l0,c0,hq,ak⟩|ak
   ·simp only[AP]at hq;exact .inl ⟨q,hq.1,ak⟩
   ·exact .inr ak
 obtain⟨v',w',r1,r2,r3,r4⟩:=key
 have hw:w'=mk B w'.drawn w'.heap:=by
  have e1:=r3.os;have e2:=r3.tape;have e3:=r3.output
  cases w';simp only[mk]at *;subst e1;subst e2;subst e3;rfl
 rw[hw]at r1
 have hv:∃s':Sl,v'=.slice s'.a s'.len s'.cap/\s'.len=s.len+src.len:=by
  rcases r2.2 with⟨e1,e2⟩|⟨g,cap,an,e1,_⟩
  ·exact⟨⟨none,0,0⟩,e1,e2.symm⟩
  ·exact⟨⟨some ⟨g,0,none⟩,s.len+src.len,cap⟩,e1,rfl⟩
 obtain⟨s',rfl,aj⟩:=hv
 refine⟨_,_,_,r1,hK s' w'.heap aj ?_ ?_ r3.size λp' am=>r4 p' s'.len s'.cap (by rw[am])⟩
 ·rw[<-aj]at r2;exact r2
 ·intro j hj ap
  refine r3.block j hj λhe=>?_
  cases ha:s.a with
  |none=>rw[ha]at he;cases he
  |some p=>
   rw[ha]at he
   simp only[Value.ownBlock,Aa]at he
   exact ap p ha he
end
section
variable {h:za} {m:Nat} {P:Program} {kt t et:TypeId} {z:Value}
def zo2(l:List (Bt×Value))(k:Bt):Option Value:=match l with
 |[]=>none
 |p::l=>if p.1=k then some p.2 else zo2 l k
def zzx(l:List (Bt×Value))(k:Bt)(v:Value):List (Bt×Value):=match l with
 |[]=>[(k,v)]
 |p::l=>if p.1=k then(k,v)::l else p::zzx l k v
theorem zmh(l:List (Bt×Value))(k k':Bt)(v:Value):zo2 (zzx l k v) k'=if k=k' then some v else zo2 l k':=by
 induction l with
 |nil=>simp[zzx,zo2]
 |cons p l ih=>
  simp only[zzx]
  split
  ·rename_i h
   simp only[zo2]
   split <;> rename_i h2
   ·rfl
   ·rw[h];simp[h2]
  ·rename_i h
   simp only[zo2,ih]
   split <;> rename_i h2
   ·rw[if_neg (λe=>h (h2.trans e.symm))]
   ·rfl
def MapAt(h:za)(m:Nat)(l:List (Bt×Value)):Prop:=∃es Z,h[m]?=some (.map es Z)/\es.toList.map (λe=>(e.key,e.val))=l.map λp=>(Cv p.1,p.2)
theorem MapAt.keep{h h':za}{l:List (Bt×Value)}(H:MapAt h m l)(k:h'[m]?=h[m]?):MapAt h' m l:=by
 obtain⟨es,c,h1,h2⟩:=H;exact⟨es,c,k.trans h1,h2⟩
theorem MapAt.lt{l:List (Bt×Value)}(H:MapAt h m l):m<h.size:=by
 obtain⟨es,c,h1,h2⟩:=H;exact(Ac.1 h1).1
theorem MapAt.new(h:za):MapAt (h.push (.map #[] 0)) h.size []:=⟨#[],0,j5 _ _,rfl⟩
structure MapT (P:Program) (t kt et:TypeId) (z:Value):Prop where
 map:P.underlying t=some (.map kt et)
 key:P.underlying kt=some .string
 zero:∃i,P.info? et=some i/\i.zero=some z
theorem zmi(a b:Bt):(a==b)=decide (a=b):=by
 show ByteArray.beq a b=_
 cases a;cases b
 rw[AH]
 simp[ByteArray.beq]
instance lawfulBA:LawfulBEq Bt where
 eq_of_beq:=λ {a b} h=>by rw[zmi]at h;simpa using h
 rfl:=λ {a}=>by rw[zmi];simp
theorem zai(k:Bt):∀(es:List MapEntry) (l:List (Bt×Value)) (i:Nat),es.map (λe=>(e.key,e.val))=l.map (λp=>(Cv p.1,p.2)) ->
  (zo2 l k=none/\DY .string (.string k) es i=some none)\/(∃j v e,zo2 l k=some v/\es[j]?=some e/\e.key=.string k/\e.val=v/\DY .string (.string k) es i=some (some (i+j,v)) /\
   ∀w,(es.modify j λe=>{ e with key:=.string k,val:=w }).map (λe=>(e.key,e.val))=(zzx l k w).map λp=>(Cv p.1,p.2))
 |[],l,i,h=>by
  have:l=[]:=by cases l <;> simp_all
  subst this
  exact .inl ⟨rfl,rfl⟩
 |e::es,l,i,h=>by
  cases l with
  |nil=>simp at h
  |cons p l=>
   simp only[A4,Bu,A9]at h
   obtain⟨⟨h1,h2⟩,h3⟩:=h
   by_cases hk:p.1=k
   ·refine .inr ⟨0,p.2,e,by simp[zo2,hk],rfl,by rw[h1,hk],h2,?_,λw=>?_⟩
    ·have Z:(k==p.1)=true:=by rw[zmi];simpa using hk.symm
     simp[DY,Instr.sameNow,h1,h2,Z]
    ·simp[zzx,hk,h3]
   ·have Z:(k==p.1)=false:=by rw[zmi];simpa using λe=>hk e.symm
    rcases zai k es l (i+1) h3 with⟨g1,g2⟩|⟨j,v,e',g1,g2,g3,g4,g5,g6⟩
    ·refine .inl ⟨by simp[zo2,hk,g1],?_⟩
     simp[DY,Instr.sameNow,h1,Z,g2]
    ·refine .inr ⟨j+1,v,e',by simp[zo2,hk,g1],by simpa using g2,g3,g4,?_,λw=>?_⟩
     ·simp[DY,Instr.sameNow,h1,Z,g5];omega
     ·simp[zzx,hk,h1,h2,g6 w]
theorem zed(hk:P.underlying kt=some .string)(b:Bool)(k:Bt)(h:za):QExec P (Instr.checkKey b 10000 kt (.string k)) h ():=by
 intro B d
 have hq:=QExec.underlying (h:=h) hk B d
 unfold Instr.checkKey
 rw[Sem.run_bind,hq]
 rfl
theorem Ja(hk:P.underlying kt=some .string)(k:Bt)(es:List MapEntry)(r:Option (Nat×Value))(h:za)(hf:DY .string (.string k) es 0=some r):
  QExec P (Instr.findKey kt (.string k) es) h r:=by
 intro B d
 have hq:=QExec.underlying (h:=h) hk B d
 unfold Instr.findKey
 rw[Sem.run_bind,hq]
 simp only[Result.andThen_ok,hf]
 rfl
theorem ziq{es:Array MapEntry}{c:Nat}(hm:h[m]?=some (.map es c)):QExec P (getObj m) h (.map es c):=by
 intro B d
 have:(mk B d h).heap[m]?=some (.map es c):=hm
 simp[getObj,Sem.run,this]
theorem z0d(hz:∃i,P.info? t=some i/\i.zero=some z):QExec P (zeroValue t) h z:=by
 obtain⟨i,h1,h2⟩:=hz
 intro B d
 simp[zeroValue,typeInfo,program,h1,h2,Sem.run]
def z0e(l:List (Bt×Value))(k:Bt)(z:Value):Value:=(zo2 l k).getD z
theorem zf1(T:MapT P t kt et z){l:List (Bt×Value)}(H:MapAt h m l)(k:Bt)(ok:Bool):
  QExec P (Em t (.map (some m)) (.string k) ok) h (if ok then .tuple #[z0e l k z,.bool (zo2 l k).isSome]else z0e l k z):=by
 obtain⟨es,c,h1,h2⟩:=H
 intro B d
 have hu:=QExec.underlying (h:=h) T.map B d
 have hg:=ziq (P:=P) h1 B d
 have hc:=zed T.key es.isEmpty k h B d
 unfold Em
 rw[Sem.run_bind,hu]
 simp only[Result.andThen_ok,Sem.run_bind,hg,Sem.run_pure,hc]
 rcases zai k es.toList l 0 h2 with⟨g1,g2⟩|⟨j,v,e,g1,g2,g3,g4,g5,_⟩
 ·rw[Ja T.key k es.toList none h g2 B d]
  have hz:=z0d (h:=h) T.zero B d
  simp only[Result.andThen_ok,Sem.run_bind,hz,Sem.run_pure,z0e,g1]
  cases ok <;> rfl
 ·rw[Ja T.key k es.toList _ h g5 B d]
  simp only[Result.andThen_ok,z0e,g1]
  cases ok <;> rfl
theorem zpe{l:List (Bt×Value)}{k:Bt}{v:Value}(g:zo2 l k=none):zzx l k v=l++[(k,v)]:=by
 induction l with
 |nil=>rfl
 |cons p l ih=>
  simp only[zo2]at g
  split at g
  ·cases g
  ·rename_i hp
   simp[zzx,hp,ih g]
theorem zmj(T:MapT P t kt et z){l:List (Bt×Value)}(H:MapAt h m l)(k:Bt)(v:Value){K:za->Prop}
  (hK:∀h':za,MapAt h' m (zzx l k v)->h'.size=h.size->(∀i,i≠m->h'[i]?=h[i]?)->K h'):XRunU P (Dt t (.map (some m)) (.string k) v) h K:=by
 have aa:=H.lt
 obtain⟨es,c,h1,h2⟩:=H
 intro B d
 have hu:=QExec.underlying (h:=h) T.map B d
 have hg:=ziq (P:=P) h1 B d
 have hc:=zed T.key false k h B d
 have Z:∀o:Obj,(setObj m o).run P (mk B d h)=.ok () (mk B d (h.setIfInBounds m o)):=by
  intro o
  have:(mk B d h).heap[m]?=some (.map es c):=h1
  simp[setObj,Sem.run,this]
  rfl
 unfold Dt
 rcases zai k es.toList l 0 h2 with⟨g1,g2⟩|⟨j,v0,e,g1,g2,g3,g4,g5,g6⟩
 ·refine⟨d,h.setIfInBounds m (.map (es.push { key:=.string k,val:=v,born:=c }) (c+1)),?_,hK _ ⟨es.push { key:=.string k,val:=v,born:=c },c+1,by simp[aa],?_⟩ (by simp) (λi hi=>by rw[AN (Ne.symm hi)])⟩
  ·rw[Sem.run_bind,hu]
   simp only[Result.andThen_ok,Sem.run_bind,hg,hc]
   rw[Ja T.key k es.toList none h g2 B d]
   simp only[Result.andThen_ok]
   exact Z _
  ·rw[zpe g1]
   simp[h2]
 ·have ae:j<es.size:=by
   have:=(Av.1 g2).1
   simpa using this
  refine⟨d,_,?_,hK (h.setIfInBounds m (.map (es.modify j λe=>{ e with key:=.string k,val:=v }) c)) ⟨es.modify j λe=>{ e with key:=.string k,val:=v },c,by simp[aa],?_⟩ (by simp) (λi hi=>by rw[AN (Ne.symm hi)])⟩
  ·rw[Sem.run_bind,hu]
   simp only[Result.andThen_ok,Sem.run_bind,hg,hc]
   rw[Ja T.key k es.toList _ h g5 B d]
   simp only[Result.andThen_ok,Ay]
   have ab:((es[j]?).map (·.key)).getD (.string k)=.string k:=by
    have:es[j]?=some e:=by simpa using g2
    rw[this];exact g3
   rw[ab]
   have hs:Instr.keyThatStays (.string k) (.string k)=pure (.string k):=by
    unfold Instr.keyThatStays
    rw[if_pos (by show(k==k)=true;rw[zmi];simp)]
   rw[hs]
   exact Z _
  ·have:=g6 v
   simpa using this
end
section
variable {h h':za} {b n o:Nat} {cs:Array Value} {v:Value} {P:Program}
def Blk(h:za)(b:Nat)(cs:Array Value):Prop:=∃T,h[b]?=some (.cells cs T (0,0))
theorem Blk.keep(H:Blk h b cs)(k:h'[b]?=h[b]?):Blk h' b cs:=by
 obtain⟨T,e⟩:=H;exact⟨T,k.trans e⟩
theorem Blk.keepN(H:Blk h b cs)(k:Keep n h h')(hb:b<n):Blk h' b cs:=H.keep (k.get b hb)
theorem Blk.new(h:za)(cs:Array Value)(T:TypeId):Blk (h.push (.cells cs T)) h.size cs:=⟨T,j5 _ _⟩
theorem Blk.lt(H:Blk h b cs):b<h.size:=by
 obtain⟨T,e⟩:=H;exact(Ac.1 e).1
theorem Blk.cell(H:Blk h b cs)(hv:cs[o]?=some v):zd h ⟨b,o,none⟩=some v:=by
 obtain⟨T,e⟩:=H
 unfold zd
 simp[e,hv]
theorem Blk.cellAdd{b o k:Nat}(H:Blk h b cs)(hv:cs[o+k]?=some v):zd h ((⟨b,o,none⟩:Addr).add k)=some v:=by
 rw[zq];exact H.cell hv
theorem Blk.ld{cs:List Value}(H:Blk h b cs.toArray):ze h ⟨b,0,none⟩ 0 cs:=by
 have key:∀(l:List Value) (i:Nat),(∀j v,l[j]?=some v->cs[i+j]?=some v)->ze h ⟨b,0,none⟩ i l:=by
  intro l
  induction l with
  |nil=>intro i _;trivial
  |cons v l ih=>
   intro i hi
   refine⟨?_,ih (i+1) λj u hu=>?_⟩
   ·rw[zq,Ay]
    exact H.cell (by have:=hi 0 v rfl;simpa using this)
   ·have:=hi (j+1) u (by simpa using hu)
    rwa[show i+(j+1)=i+1+j by omega]at this
 exact key cs 0 λj v hv=>by simpa using hv
theorem Keep.setBlk(o:Obj)(hb:n<=b):Keep n h (h.setIfInBounds b o):=
 ⟨by simp,λi hi=>by rw[AN (by omega)]⟩
theorem zir(H:Blk h b cs)(B:World)(d:Nat):(mk B d h).frozen? ⟨b,o,none⟩=false:=by
 obtain⟨T,e⟩:=H
 have:(mk B d h).heap[b]?=some (.cells cs T (0,0)):=e
 simp[World.frozen?,this]
theorem zbu{T:TypeId}(e:h[b]?=some (.cells cs T (0,0)))(ho:o<cs.size)(hv:v.oneCell'=true)(B:World)(d:Nat):
  (store ⟨b,o,none⟩ v).run P (mk B d h)=.ok () (mk B d (h.setIfInBounds b (.cells (cs.setIfInBounds o v) T (0,0)))):=by
 have hc:(mk B d h).cell? ⟨b,o,none⟩=some cs[o]:=Blk.cell (h:=h) ⟨T,e⟩ (by simp[ho])
 have hf:=zir (o:=o) (⟨T,e⟩:Blk h b cs) B d
 have Z:(mk B d h).setCell ⟨b,o,none⟩ v=mk B d (h.setIfInBounds b (.cells (cs.setIfInBounds o v) T (0,0))):=by
  unfold World.setCell mk
  simp only
  congr 1
  have hb:b<h.size:=(Ac.1 e).1
  apply Array.ext_getElem?
  intro i
  rw[Array.getElem?_modify]
  by_cases hi:i=b
  ·subst hi
   have e':h[i]=.cells cs T (0,0):=by
    have:=AI hb
    rw[e]at this
    exact(Aq this).symm
   simp[hb,e']
  ·rw[if_neg (Ne.symm hi),AN (Ne.symm hi)]
 cases v with
 |agg x=>simp[Value.oneCell']at hv
 |tuple x=>simp[Value.oneCell']at hv
 |_=>simp only[store,Sem.run,hc,hf,A3,if_false,Z]
theorem cells_one(hv:v.oneCell'=true):v.cells=#[v]:=by
 cases v <;> first|rfl|simp[Value.oneCell']at hv
theorem xh{t:TypeId}(hi:qd P t=true)(hs:qt P t=1)(H:Blk h b cs)(ho:o<cs.size)(hv:v.oneCell'=true){K:za->Prop}
  (hK:∀h':za,Blk h' b (cs.setIfInBounds o v)->h'.size=h.size->(∀i,i≠b->h'[i]?=h[i]?)->K h'):XRunU P (An t (.pointer (some ⟨b,o,none⟩)) v) h K:=by
 obtain⟨T,e⟩:=H
 have hb:b<h.size:=(Ac.1 e).1
 intro B d
 refine⟨d,_,?_,hK (h.setIfInBounds b (.cells (cs.setIfInBounds o v) T (0,0))) ⟨T,by simp[hb]⟩ (by simp) λi hi=>by rw[AN (Ne.symm hi)]⟩
 have hz:=QExec.sizeOf (P:=P) (h:=h) (y0 hi).choose_spec B d
 unfold An DG
 simp only[Sem.run_bind,Sem.run_pure,Result.andThen_ok]
 unfold storeVar
 rw[Sem.run_bind,hz]
 simp only[Result.andThen_ok]
 rw[hs,cells_one hv]
 simp only[List.size_toArray,Aw,BE,Ay,ne_eq,not_true_eq_false,if_false]
 show Sem.run P (storeCells ⟨b,o,none⟩ [v]) _=_
 unfold storeCells
 rw[Sem.run_bind]
 have ha:(⟨b,o,none⟩:Addr).add 0=⟨b,o,none⟩:=by rw[zq];rfl
 rw[ha,zbu e ho hv B d]
 rfl
theorem Q7{P:Program}{b:Nat}{T:TypeId}(B:World)(d:Nat):∀(vs:List Value) (i:Nat) (h:za) (cs:Array Value),h[b]?=some (.cells cs T (0,0))->i+vs.length<=cs.size->(∀v∈vs,v.oneCell'=true) ->
  ∃h',(storeCells ⟨b,0,none⟩ vs i).run P (mk B d h)=.ok () (mk B d h')/\h'[b]?=some (.cells (cs.toList.take i++vs++cs.toList.drop (i+vs.length)).toArray T (0,0))/\h'.size=h.size/\∀j,j≠b->h'[j]?=h[j]?
 |[],i,h,cs,e,_,_=>⟨h,rfl,by simpa using e,rfl,λ_ _=>rfl⟩
 |v::vs,i,h,cs,e,hl,hv=>by
  have hb:b<h.size:=(Ac.1 e).1
  simp only[Aw]at hl
  have h1:=zbu (P:=P) e (o:=i) (by omega) (hv v Aj) B d
  have e':(h.setIfInBounds b (.cells (cs.setIfInBounds i v) T (0,0)))[b]?=some (.cells (cs.setIfInBounds i v) T (0,0)):=by simp[hb]
  have Z:i+1+vs.length<=(cs.setIfInBounds i v).size:=by rw[AU];omega
  obtain⟨h',r1,r2,r3,r4⟩:=Q7 (P:=P) B d vs (i+1) (h.setIfInBounds b (.cells (cs.setIfInBounds i v) T (0,0))) (cs.setIfInBounds i v) e' Z λu hu=>hv u (Ae _ hu)
  refine⟨h',?_,?_,by rw[r3];simp,λj hj=>by rw[r4 j hj,AN (Ne.symm hj)]⟩
  ·unfold storeCells
   rw[Sem.run_bind,zq,Ay,h1]
   simp only[Result.andThen_ok]
   exact r1
  ·rw[r2]
   congr 3
   have hi:i<cs.toList.length:=by simp;omega
   simp only[Array.toList_setIfInBounds,Aw]
   rw[List.take_set,List.drop_set_of_lt (by omega)]
   have e2:(cs.toList.take (i+1)).set i v=cs.toList.take i++[v]:=by
    rw[AD hi,List.set_append_right _ _ (by simp;omega)]
    have:i-(cs.toList.take i).length=0:=by simp;omega
    rw[this];rfl
   rw[e2,show i+(vs.length+1)=i+1+vs.length by omega]
   simp
theorem Owns.base{h:za}{base Z:Nat}{e:TypeId}{sz:Nat}{s:Sl}{xs:List Value}(H:Owns h base e sz s xs)(hb:Z<=base):Owns h Z e sz s xs:=by
 refine⟨H.1,?_⟩
 rcases H.2 with hn|⟨g,cap,aa,hv,ab,rest⟩
 ·exact .inl hn
 ·exact .inr ⟨g,cap,aa,hv,by omega,rest⟩
end
end Go.X
end
section
namespace Go.X
variable {cs:List Value}
inductive Tr where
 |mk (kind:Int) (text:Bt) (keys:List Bt) (items:List Tr)
namespace Tr
@[reducible] def kind:Tr->Int|mk k _ _ _=>k
@[reducible] def text:Tr->Bt|mk _ s _ _=>s
@[reducible] def keys:Tr->List Bt|mk _ _ ks _=>ks
@[reducible] def items:Tr->List Tr|mk _ _ _ xs=>xs
@[simp] theorem eta(t:Tr):mk t.kind t.text t.keys t.items=t:=by cases t;rfl
instance:Inhabited Tr:=⟨mk 0 ⟨#[]⟩ [] []⟩
end Tr
inductive Ty where
 |int (k:IntKind)|bool|str|row (t:Ty)|tree|unit|pair (a b:Ty)|ptr (t:Ty)|iter|err
 deriving DecidableEq
@[reducible] def El:Ty->Type
 |.int _=>Int
 |.bool=>Bool
 |.str=>Bt
 |.row t=>List (El t)
 |.tree=>Tr
 |.unit=>Unit
 |.pair a b=>El a×El b
 |.ptr t=>El t
 |.iter=>Bt×Nat
 |.err=>Bool
def z9i:(t:Ty)->El t
 |.int _=>(0:Int)
 |.bool=>false
 |.str=>(⟨#[]⟩:Bt)
 |.row _=>[]
 |.tree=>default
 |.unit=>()
 |.pair a b=>(z9i a,z9i b)
 |.ptr t=>z9i t
 |.iter=>(⟨#[]⟩,0)
 |.err=>true
def sz:Ty->Nat
 |.tree=>4
 |.unit=>0
 |.pair a b=>sz a+sz b
 |_=>1
abbrev Fr:=Nat->Option (Array Value)
def Fr.le(M M':Fr):Prop:=∀b cs,M b=some cs->M' b=some cs
theorem Fr.le.refl(M:Fr):Fr.le M M:=λ_ _ h=>h
theorem Fr.le.trans{a b c:Fr}(h:Fr.le a b)(k:Fr.le b c):Fr.le a c:=λ_ _ e=>k _ _ (h _ _ e)
def cut(cs:Array Value)(o n:Nat):List Value:=(cs.toList.drop o).take n
def RowAt(M:Fr){α:Type}(R:α->List Value->Prop)(z:Nat)(xs:List α)(v:Value):Prop:=
 ∃a c,v=.slice a xs.length c/\(xs.length<=140737488355328/\xs.length<=c)/\(xs=[]\/∃b o cs,a=some ⟨b,o,none⟩/\M b=some cs/\∀i (h:i<xs.length),R xs[i] (cut cs (o+i*z) z))
inductive TrRd (M:Fr):Tr->List Value->Prop where
 |mk {k:Int} {s:Bt} {ks:List Bt} {xs:List Tr} {vk:Value} {a:Option Addr} {c b o:Nat} {cs:Array Value}
  (hk:RowAt M (λs cs=>cs=[.string s]) 1 ks vk) (hn:xs.length<=140737488355328/\xs.length<=c) (hz:xs=[]\/(a=some ⟨b,o,none⟩/\M b=some cs))
  (hi:∀i (h:i<xs.length),TrRd M xs[i] (cut cs (o+i*4) 4)):TrRd M (.mk k s ks xs) [.int .i64 k,.string s,vk,.slice a xs.length c]
def xt(s:Bt)(p:Nat):Value:=.iface 0 (.agg #[.string s,.int .i64 p])
def Rd(M:Fr):(t:Ty)->El t->List Value->Prop
 |.int k,i,cs=>cs=[.int k i]
 |.bool,b,cs=>cs=[.bool b]
 |.str,s,cs=>cs=[.string s]
 |.row t,xs,cs=>∃v,cs=[v]/\RowAt M (Rd M t) (sz t) xs v
 |.tree,t,cs=>TrRd M t cs
 |.unit,_,cs=>cs=[]
 |.pair a b,x,cs=>∃c1 c2,cs=c1++c2/\Rd M a x.1 c1/\Rd M b x.2 c2
 |.ptr t,x,cs=>∃b o cc,cs=[.pointer (some ⟨b,o,none⟩)]/\M b=some cc/\Rd M t x (cut cc o (sz t))
 |.iter,x,cs=>cs=[xt x.1 x.2]
 |.err,b,cs=>∃v,cs=[v]/\((b=true/\v=.nilIface)\/(b=false/\∃t u,v=.iface t u))
theorem RowAt.mono{M M':Fr}(hM:Fr.le M M'){α:Type}{R R':α->List Value->Prop}{z:Nat}{xs:List α}{v:Value}(H:RowAt M R z xs v)(hR:∀x∈xs,∀cs,R x cs->R' x cs):RowAt M' R' z xs v:=by
 obtain⟨a,c,e,hn,h⟩:=H
 refine⟨a,c,e,hn,h.imp id ?_⟩
 rintro⟨b,o,cs,e1,e2,h3⟩
 exact⟨b,o,cs,e1,hM _ _ e2,λi h=>hR _ (AL _) _ (h3 i h)⟩
theorem TrRd.mono{M M':Fr}(hM:Fr.le M M'){t:Tr}(H:TrRd M t cs):TrRd M' t cs:=by
 induction H with
 |mk hk hn hz _ ih=>exact .mk (hk.mono hM λ_ _ _ h=>h) hn (hz.imp id λh=>⟨h.1,hM _ _ h.2⟩) ih
theorem Rd.mono{M M':Fr}(hM:Fr.le M M'):∀{t:Ty} {x:El t} {cs:List Value},Rd M t x cs->Rd M' t x cs
 |.int _,_,_,h=>h
 |.bool,_,_,h=>h
 |.str,_,_,h=>h
 |.row _,_,_,⟨v,e,h⟩=>⟨v,e,h.mono hM λ_ _ _ h=>Rd.mono hM h⟩
 |.tree,_,_,h=>TrRd.mono hM h
 |.unit,_,_,h=>h
 |.pair _ _,_,_,⟨c1,c2,e,h1,h2⟩=>⟨c1,c2,e,Rd.mono hM h1,Rd.mono hM h2⟩
 |.ptr _,_,_,⟨b,o,cc,e,h1,h2⟩=>⟨b,o,cc,e,hM _ _ h1,Rd.mono hM h2⟩
 |.iter,_,_,h=>h
 |.err,_,_,h=>h
theorem Rd.len{M:Fr}:∀{t:Ty} {x:El t} {cs:List Value},Rd M t x cs->cs.length=sz t
 |.int _,_,_,h=>by rw[h];rfl
 |.bool,_,_,h=>by rw[h];rfl
 |.str,_,_,h=>by rw[h];rfl
 |.row t,_,_,⟨v,e,_⟩=>by rw[e];rfl
 |.tree,_,_,h=>by cases h;rfl
 |.unit,_,_,h=>by rw[h];rfl
 |.pair _ _,_,_,⟨c1,c2,e,h1,h2⟩=>by rw[e,Ap,Rd.len h1,Rd.len h2];rfl
 |.ptr _,_,_,⟨b,o,cc,e,_⟩=>by rw[e];rfl
 |.iter,_,_,h=>by rw[h];rfl
 |.err,_,_,⟨v,e,_⟩=>by rw[e];rfl
theorem Rd.one{M:Fr}:∀{t:Ty} {x:El t} {cs:List Value},Rd M t x cs->∀v∈cs,v.oneCell'=true
 |.int _,_,_,h=>by rw[h];simp[Value.oneCell']
 |.bool,_,_,h=>by rw[h];simp[Value.oneCell']
 |.str,_,_,h=>by rw[h];simp[Value.oneCell']
 |.row t,_,_,⟨v,e,a,c,e2,_⟩=>by rw[e,e2];simp[Value.oneCell']
 |.tree,_,_,h=>by
  cases h with
  |mk hk _ _ _=>obtain⟨a,c,e,_⟩:=hk;rw[e];simp[Value.oneCell']
 |.unit,_,_,h=>by rw[h];simp
 |.pair _ _,_,_,⟨c1,c2,e,h1,h2⟩=>by
  intro v hv
  rw[e]at hv
  rcases As.1 hv with hv|hv
  ·exact Rd.one h1 v hv
  ·exact Rd.one h2 v hv
 |.ptr _,_,_,⟨b,o,cc,e,_⟩=>by rw[e];simp[Value.oneCell']
 |.iter,_,_,h=>by rw[h];simp[Value.oneCell',xt]
 |.err,_,_,⟨v,e,h⟩=>by
  rw[e]
  rcases h with⟨_,rfl⟩|⟨_,t,u,rfl⟩ <;> simp[Value.oneCell']
theorem TrRd.keys{M:Fr}{t:Tr}(H:TrRd M t cs):∃vk vi,cs=[.int .i64 t.kind,.string t.text,vk,vi]/\Rd M (.row .str) t.keys [vk]/\Rd M (.row .tree) t.items [vi]:=by
 cases H with
 | @mk k s ks xs vk a c b o cs hk hn hz hi=>
  exact⟨vk,_,rfl,⟨vk,rfl,hk⟩,⟨_,rfl,a,c,rfl,hn,hz.imp id λh=>⟨b,o,cs,h.1,h.2,hi⟩⟩⟩
theorem TrRd.of{M:Fr}{k:Int}{s:Bt}{ks:List Bt}{xs:List Tr}{vk vi:Value}(h1:Rd M (.row .str) ks [vk])(h2:Rd M (.row .tree) xs [vi]):TrRd M (.mk k s ks xs) [.int .i64 k,.string s,vk,vi]:=by
 obtain⟨v,e,h1⟩:=h1
 obtain⟨v',e',a,c,e2,hn,h2⟩:=h2
 cases e;cases e';subst e2
 rcases h2 with rfl|⟨b,o,cs,e1,e2,h3⟩
 ·exact .mk (b:=0) (o:=0) (cs:=#[]) h1 hn (.inl rfl) λi h=>absurd h (by simp)
 ·exact .mk h1 hn (.inr ⟨e1,e2⟩) h3
def Bd:(t:Ty)->El t->Prop
 |.row _,xs=>xs.length<=140737488355328
 |.tree,t=>t.keys.length<=140737488355328/\t.items.length<=140737488355328
 |.pair a b,x=>Bd a x.1/\Bd b x.2
 |_,_=>True
theorem Rd.bd{M:Fr}:∀{t:Ty} {x:El t} {cs:List Value},Rd M t x cs->Bd t x
 |.int _,_,_,_=>trivial
 |.bool,_,_,_=>trivial
 |.str,_,_,_=>trivial
 |.row t,_,_,⟨v,_,a,c,_,h,_⟩=>h.1
 |.tree,_,_,h=>by
  cases h with
  |mk hk hn _ _=>obtain⟨a,c,e,h,_⟩:=hk;exact⟨h.1,hn.1⟩
 |.unit,_,_,_=>trivial
 |.pair _ _,_,_,⟨_,_,_,h1,h2⟩=>⟨Rd.bd h1,Rd.bd h2⟩
 |.ptr _,_,_,_=>trivial
 |.iter,_,_,_=>trivial
 |.err,_,_,_=>trivial
inductive AA where
 |v (x:Value)
 |d (t:Ty) (x:El t)
 |box (c o:Nat)
 |own (c:Nat)
 |oelt (c z:Nat) (i:Nat) (o:Nat)
 |elt (t:Ty) (x:El t) (o:Nat)
 |dc (t:Ty) (xs:List (El t))
inductive AG where
 |a (x:AA)
 |agg (l:List AA)
inductive AV where
 |g (x:AG)
 |tup (l:List AG)
 |nx (b:Bool) (p:Int) (c:Int)
structure Gh where
 M:Fr
 β:Nat->Nat
 σ:Nat->Sl
def All2{α β:Type}(R:α->β->Prop):List α->List β->Prop
 |[],[]=>True
 |x::xs,y::ys=>R x y/\All2 R xs ys
 |_,_=>False
def slV(s:Sl):Value:=.slice s.a s.len s.cap
def DenA(γ:Gh):AA->Value->Prop
 |.v x,u=>u=x
 |.d t x,u=>Rd γ.M t x [u]
 |.box c o,u=>u=.pointer (some ⟨γ.β c,o,none⟩)
 |.own c,u=>u=slV (γ.σ c)
 |.oelt c z i o,u=>∃g,(γ.σ c).a=some ⟨g,0,none⟩/\u=.pointer (some ⟨g,i*z+o,none⟩)
 |.elt t x o,u=>∃b f cs,u=.pointer (some ⟨b,f+o,none⟩)/\γ.M b=some cs/\Rd γ.M t x (cut cs f (sz t))
 |.dc t xs,u=>∃s:Sl,u=slV s/\s.cap=s.len/\Rd γ.M (.row t) xs [u]
def DenG(γ:Gh):AG->Value->Prop
 |.a x,u=>DenA γ x u
 |.agg l,u=>∃us,u=.agg us.toArray/\All2 (DenA γ) l us
def DenV(γ:Gh):AV->Value->Prop
 |.g x,u=>DenG γ x u
 |.tup l,u=>∃us,u=.tuple us.toArray/\All2 (DenG γ) l us
 |.nx b p c,u=>(b=true->u=.tuple #[.bool true,.int .i64 p,.int .i32 c])/\(b=false->u=.tuple #[.bool false])
theorem All2.length{α β:Type}{R:α->β->Prop}:∀{l:List α} {m:List β},All2 R l m->l.length=m.length
 |[],[],_=>rfl
 |[],_::_,h=>h.elim
 |_::_,[],h=>h.elim
 |_::_,_::_,h=>by simp[All2.length h.2]
theorem All2.imp{α β:Type}{R R':α->β->Prop}:∀{l:List α} {m:List β},All2 R l m->(∀x∈l,∀y,R x y->R' x y)->All2 R' l m
 |[],[],_,_=>trivial
 |[],_::_,h,_=>h.elim
 |_::_,[],h,_=>h.elim
 |_::_,_::_,h,k=>⟨k _ Aj _ h.1,All2.imp h.2 λx hx y hy=>k x (Ae _ hx) y hy⟩
theorem All2.append{α β:Type}{R:α->β->Prop}:∀{l l':List α} {m m':List β},All2 R l m->All2 R l' m'->All2 R (l++l') (m++m')
 |[],_,[],_,_,h=>h
 |[],_,_::_,_,h,_=>h.elim
 |_::_,_,[],_,h,_=>h.elim
 |_::_,_,_::_,_,h,k=>⟨h.1,All2.append h.2 k⟩
theorem All2.take{α β:Type}{R:α->β->Prop}:∀(n:Nat) {l:List α} {m:List β},All2 R l m->All2 R (l.take n) (m.take n)
 |0,_,_,_=>by simp[All2]
 |_+1,[],[],_=>trivial
 |_+1,[],_::_,h=>h.elim
 |_+1,_::_,[],h=>h.elim
 |n+1,_::_,_::_,h=>⟨h.1,All2.take n h.2⟩
theorem All2.drop{α β:Type}{R:α->β->Prop}:∀(n:Nat) {l:List α} {m:List β},All2 R l m->All2 R (l.drop n) (m.drop n)
 |0,_,_,h=>by simpa using h
 |_+1,[],[],_=>trivial
 |_+1,[],_::_,h=>h.elim
 |_+1,_::_,[],h=>h.elim
 |n+1,_::_,_::_,h=>by simpa using All2.drop n h.2
theorem All2.get{α β:Type}{R:α->β->Prop}:∀{l:List α} {m:List β} {i:Nat} {x:α},All2 R l m->l[i]?=some x->∃y,m[i]?=some y/\R x y
 |[],[],_,_,_,h=>by simp at h
 |[],_::_,_,_,h,_=>h.elim
 |_::_,[],_,_,h,_=>h.elim
 |_::_,y::_,0,_,h,e=>by simp at e;subst e;exact⟨y,rfl,h.1⟩
 |_::_,_::_,i+1,_,h,e=>by simpa using All2.get h.2 (by simpa using e)
def Yi:(t:Ty)->El t->List AA
 |.int k,i=>[.v (.int k i)]
 |.bool,b=>[.v (.bool b)]
 |.str,s=>[.v (.string s)]
 |.row t,xs=>[.d (.row t) xs]
 |.tree,t=>[.v (.int .i64 t.kind),.v (.string t.text),.d (.row .str) t.keys,.d (.row .tree) t.items]
 |.unit,_=>[]
 |.pair a b,x=>Yi a x.1++Yi b x.2
 |.ptr t,x=>[.elt t x 0]
 |.iter,x=>[.d .iter x]
 |.err,x=>[.d .err x]
theorem wm{γ:Gh}:∀{t:Ty} {x:El t} {cs:List Value},Rd γ.M t x cs->All2 (DenA γ) (Yi t x) cs
 |.int _,_,_,h=>by rw[h];exact⟨rfl,trivial⟩
 |.bool,_,_,h=>by rw[h];exact⟨rfl,trivial⟩
 |.str,_,_,h=>by rw[h];exact⟨rfl,trivial⟩
 |.row t,_,_,⟨v,e,h⟩=>by rw[e];exact⟨⟨v,rfl,h⟩,trivial⟩
 |.tree,_,_,h=>by
  obtain⟨vk,vi,e,h1,h2⟩:=TrRd.keys h
  rw[e];exact⟨rfl,rfl,h1,h2,trivial⟩
 |.unit,_,_,h=>by rw[h];trivial
 |.pair _ _,_,_,⟨c1,c2,e,h1,h2⟩=>by rw[e];exact(wm h1).append (wm h2)
 |.ptr t,x,_,⟨b,o,cc,e,h1,h2⟩=>by rw[e];exact⟨⟨b,o,cc,rfl,h1,h2⟩,trivial⟩
 |.iter,x,_,h=>by rw[h];exact⟨rfl,trivial⟩
 |.err,x,_,⟨v,e,h⟩=>by rw[e];exact⟨⟨v,rfl,h⟩,trivial⟩
def zpf:Ty->Bool
 |.iter=>true
 |.err=>true
 |.pair a b=>bif zpf a then true else zpf b
 |_=>false
theorem Rd.noIt{M:Fr}:∀{t:Ty} {x:El t} {cs:List Value},zpf t=false->Rd M t x cs->∀s p,xt s p∉cs
 |.int _,_,_,_,h,s,p=>by rw[h];simp[xt]
 |.bool,_,_,_,h,s,p=>by rw[h];simp[xt]
 |.str,_,_,_,h,s,p=>by rw[h];simp[xt]
 |.row t,_,_,_,⟨v,e,a,c,e2,_⟩,s,p=>by rw[e,e2];simp[xt]
 |.tree,_,_,_,h,s,p=>by
  cases h with
  |mk hk _ _ _=>obtain⟨a,c,e,_⟩:=hk;rw[e];simp[xt]
 |.unit,_,_,_,h,s,p=>by rw[h];simp
 |.pair a b,_,_,hi,⟨c1,c2,e,h1,h2⟩,s,p=>by
  simp only[zpf]at hi
  cases ha:zpf a with
  |true=>rw[ha]at hi;cases hi
  |false=>
   rw[ha]at hi
   rw[e]
   intro hm
   rcases As.1 hm with hm|hm
   ·exact Rd.noIt ha h1 s p hm
   ·exact Rd.noIt hi h2 s p hm
 |.ptr _,_,_,_,⟨b,o,cc,e,_⟩,s,p=>by rw[e];simp[xt]
 |.iter,_,_,hi,_,_,_=>by cases hi
 |.err,_,_,hi,_,_,_=>by cases hi
def itB:List AA->Bool
 |[.d t _]=>zpf t
 |[.v (.iface _ _)]=>true
 |_=>false
theorem zrh{γ:Gh}{l:List AA}{us:List Value}(h:itB l=false)(hd:All2 (DenA γ) l us)(s:Bt)(p:Nat):us≠[xt s p]:=by
 intro e
 subst e
 match l,hd with
 |[x],hd=>
  cases x with
  |v y=>rw[<-show xt s p=y from hd.1]at h;simp[itB,xt]at h
  |d t y=>exact Rd.noIt (show zpf t=false from h) (show Rd γ.M t y [xt s p]from hd.1) s p (by simp)
  |box c o=>have:xt s p=_:=hd.1;simp[xt]at this
  |own c=>have:xt s p=_:=hd.1;simp[xt,slV]at this
  |oelt c z i o=>obtain⟨g,_,e⟩:=hd.1;simp[xt]at e
  |elt t y o=>obtain⟨b,f,cs,e,_⟩:=hd.1;simp[xt]at e
  |dc t xs=>obtain⟨s',e,_⟩:=hd.1;simp[xt,slV]at e
 |[],hd=>exact hd.elim
 |_::_::_,hd=>exact hd.2.elim
inductive Ch where
 |box (l:List AA)
 |row (e:TypeId) (t:Ty) (xs:List (El t))
 |fz (t:Ty) (xs:List (El t))
abbrev CS:=List (Nat×Ch)
def Qa:CS->Nat->Option Ch
 |[],_=>none
 |(j,k)::l,i=>bif Nat.beq i j then some k else Qa l i
theorem zy{l:CS}{i:Nat}{k:Ch}(h:Qa l i=some k):(i,k)∈l:=by
 induction l with
 |nil=>cases h
 |cons x l ih=>
  obtain⟨j,k'⟩:=x
  simp only[Qa]at h
  by_cases hb:Nat.beq i j=true
  ·simp only[hb,cond_true,Aa]at h
   subst h
   rw[Ag hb];exact Aj
  ·simp only[hb,cond_false]at h
   exact Ae _ (ih h)
def Zk(t t':Ty)(x:El t):Option (El t'):=if h:t=t' then some (h ▸ x)else none
theorem Jb{M:Fr}{t t':Ty}{x:El t}{y:El t'}(h:Zk t t' x=some y)(r:Rd M t x cs):Rd M t' y cs:=by
 unfold Zk at h
 split at h
 ·rename_i e
  subst e
  simp only[Aa]at h
  subst h;exact r
 ·cases h
def zhk(cs:CS):(t:Ty)->AA->Option (El t)
 |.int k,.v (.int k' i)=>if k=k' then some i else none
 |.bool,.v (.bool b)=>some b
 |.str,.v (.string s)=>some s
 |.row t,.v (.slice none 0 0)=>some ([]:List (El t))
 |.row t,.d t' x=>Zk t' (.row t) x
 |.row t,.dc t' x=>Zk (.row t') (.row t) x
 |.row t,.own c=>match Qa cs c with
  |some (.fz t' xs)=>Zk (.row t') (.row t) xs
  |_=>none
 |.ptr t,.elt t' x 0=>Zk t' t x
 |.ptr t,.d t' x=>Zk t' (.ptr t) x
 |.iter,.d t' x=>Zk t' .iter x
 |.err,.d t' x=>Zk t' .err x
 |.err,.v .nilIface=>some true
 |.err,.v (.iface _ _)=>some false
 |_,_=>none
def collect(cs:CS):(t:Ty)->List AA->Option (El t×List AA)
 |.unit,l=>some ((),l)
 |.pair a b,l=>match collect cs a l with
  |some (x,l')=>match collect cs b l' with
   |some (y,l'')=>some ((x,y),l'')
   |none=>none
  |none=>none
 |.tree,k::s::ks::xs::l=>match zhk cs (.int .i64) k,zhk cs .str s,zhk cs (.row .str) ks,zhk cs (.row .tree) xs with
  |some k,some s,some ks,some xs=>some (Tr.mk k s ks xs,l)
  |_,_,_,_=>none
 |.tree,_=>none
 |t,x::l=>match zhk cs t x with
  |some y=>some (y,l)
  |none=>none
 |_,[]=>none
def zzy(γ:Gh)(cs:CS):Prop:=∀c t xs,(c,Ch.fz t xs)∈cs->Rd γ.M (.row t) xs [slV (γ.σ c)]
theorem ji{γ:Gh}{cs:CS}(hf:zzy γ cs){t:Ty}{x:AA}{y:El t}(h:zhk cs t x=some y){u:Value}(hd:DenA γ x u):Rd γ.M t y [u]:=by
 unfold zhk at h
 split at h
 ·split at h
  ·rename_i hk;simp only[Aa]at h;subst h;subst hk;exact congrArg (λu=>[u]) hd
  ·cases h
 ·simp only[Aa]at h;subst h;exact congrArg (λu=>[u]) hd
 ·simp only[Aa]at h;subst h;exact congrArg (λu=>[u]) hd
 ·simp only[Aa]at h;subst h
  exact⟨u,rfl,none,0,hd,by simp,.inl rfl⟩
 ·exact Jb h hd
 ·obtain⟨s,_,_,hd⟩:=hd
  exact Jb h hd
 ·split at h
  ·rename_i t' xs Z
   rw[show u=_ from hd]
   exact Jb h (hf _ _ _ (zy Z))
  ·cases h
 ·rename_i t t' x
  obtain⟨b,f,cs',e,h1,h2⟩:=hd
  exact⟨b,f,cs',by rw[e];rfl,h1,by
   unfold Zk at h
   split at h
   ·rename_i e;subst e;simp only[Aa]at h;subst h;exact h2
   ·cases h⟩
 ·exact Jb h hd
 ·exact Jb h hd
 ·exact Jb h hd
 ·simp only[Aa]at h;subst h;exact⟨u,rfl,.inl ⟨rfl,hd⟩⟩
 ·rename_i t' x';simp only[Aa]at h;subst h;exact⟨u,rfl,.inr ⟨rfl,_,_,hd⟩⟩
 ·cases h
theorem Yj{γ:Gh}{cs:CS}(hf:zzy γ cs):∀{t:Ty} {l l':List AA} {y:El t},collect cs t l=some (y,l')->∀{us:List Value},All2 (DenA γ) l us->∃c1 c2,us=c1++c2/\Rd γ.M t y c1/\All2 (DenA γ) l' c2
 |.unit,l,l',y,h,us,hu=>by
  simp only[collect,Aa,A9]at h
  obtain⟨_,rfl⟩:=h
  exact⟨[],us,rfl,rfl,hu⟩
 |.pair a b,l,l',y,h,us,hu=>by
  simp only[collect]at h
  split at h
  ·rename_i x l1 h1
   split at h
   ·rename_i z l2 h2
    simp only[Aa,A9]at h
    obtain⟨rfl,rfl⟩:=h
    obtain⟨c1,c2,rfl,r1,r2⟩:=Yj hf h1 hu
    obtain⟨c3,c4,rfl,r3,r4⟩:=Yj hf h2 r2
    exact⟨c1++c3,c4,by simp,⟨c1,c3,rfl,r1,r3⟩,r4⟩
   ·cases h
  ·cases h
 |.tree,l,l',y,h,us,hu=>by
  match l,us,hu,h with
  |k::s::ks::xs::l,u1::u2::u3::u4::us,hu,h=>
   simp only[collect]at h
   split at h
   ·rename_i k' s' ks' Z h1 h2 h3 h4
    simp only[Aa,A9]at h
    obtain⟨rfl,rfl⟩:=h
    obtain⟨d1,d2,d3,d4,d5⟩:=hu
    have r1:=ji hf h1 d1
    have r2:=ji hf h2 d2
    have r3:=ji hf h3 d3
    have r4:=ji hf h4 d4
    refine⟨[u1,u2,u3,u4],us,rfl,?_,d5⟩
    have e1:[u1]=[Ep .i64 k']:=r1
    have e2:[u2]=[Cv s']:=r2
    cases e1;cases e2
    exact TrRd.of r3 r4
   ·cases h
  |[],_,_,h=>simp[collect]at h
  |[_],_,_,h=>simp[collect]at h
  |[_,_],_,_,h=>simp[collect]at h
  |[_,_,_],_,_,h=>simp[collect]at h
  |_::_::_::_::_,[],hu,_=>exact hu.elim
  |_::_::_::_::_,[_],hu,_=>exact hu.2.elim
  |_::_::_::_::_,[_,_],hu,_=>exact hu.2.2.elim
  |_::_::_::_::_,[_,_,_],hu,_=>exact hu.2.2.2.elim
 |.int k,x::l,l',y,h,u::us,hu=>by
  simp only[collect]at h
  split at h
  ·rename_i z hz;simp only[Aa,A9]at h;obtain⟨rfl,rfl⟩:=h
   exact⟨[u],us,rfl,ji hf hz hu.1,hu.2⟩
  ·cases h
 |.bool,x::l,l',y,h,u::us,hu=>by
  simp only[collect]at h
  split at h
  ·rename_i z hz;simp only[Aa,A9]at h;obtain⟨rfl,rfl⟩:=h
   exact⟨[u],us,rfl,ji hf hz hu.1,hu.2⟩
  ·cases h
 |.str,x::l,l',y,h,u::us,hu=>by
  simp only[collect]at h
  split at h
  ·rename_i z hz;simp only[Aa,A9]at h;obtain⟨rfl,rfl⟩:=h
   exact⟨[u],us,rfl,ji hf hz hu.1,hu.2⟩
  ·cases h
 |.row _,x::l,l',y,h,u::us,hu=>by
  simp only[collect]at h
  split at h
  ·rename_i z hz;simp only[Aa,A9]at h;obtain⟨rfl,rfl⟩:=h
   exact⟨[u],us,rfl,ji hf hz hu.1,hu.2⟩
  ·cases h
 |.ptr _,x::l,l',y,h,u::us,hu=>by
  simp only[collect]at h
  split at h
  ·rename_i z hz;simp only[Aa,A9]at h;obtain⟨rfl,rfl⟩:=h
   exact⟨[u],us,rfl,ji hf hz hu.1,hu.2⟩
  ·cases h
 |.iter,x::l,l',y,h,u::us,hu=>by
  simp only[collect]at h
  split at h
  ·rename_i z hz;simp only[Aa,A9]at h;obtain⟨rfl,rfl⟩:=h
   exact⟨[u],us,rfl,ji hf hz hu.1,hu.2⟩
  ·cases h
 |.iter,_::_,_,_,_,[],hu=>hu.elim
 |.iter,[],_,_,h,_,_=>by simp[collect]at h
 |.err,x::l,l',y,h,u::us,hu=>by
  simp only[collect]at h
  split at h
  ·rename_i z hz;simp only[Aa,A9]at h;obtain⟨rfl,rfl⟩:=h
   exact⟨[u],us,rfl,ji hf hz hu.1,hu.2⟩
  ·cases h
 |.err,_::_,_,_,_,[],hu=>hu.elim
 |.err,[],_,_,h,_,_=>by simp[collect]at h
 |.int _,_::_,_,_,_,[],hu=>hu.elim
 |.bool,_::_,_,_,_,[],hu=>hu.elim
 |.str,_::_,_,_,_,[],hu=>hu.elim
 |.row _,_::_,_,_,_,[],hu=>hu.elim
 |.ptr _,_::_,_,_,_,[],hu=>hu.elim
 |.int _,[],_,_,h,_,_=>by simp[collect]at h
 |.bool,[],_,_,h,_,_=>by simp[collect]at h
 |.str,[],_,_,h,_,_=>by simp[collect]at h
 |.row _,[],_,_,h,_,_=>by simp[collect]at h
 |.ptr _,[],_,_,h,_,_=>by simp[collect]at h
end Go.X
end
