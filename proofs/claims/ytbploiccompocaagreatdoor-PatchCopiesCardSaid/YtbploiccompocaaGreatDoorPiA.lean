/- A part of the proof: nothing is stated here for its own sake. -/
import Derived.Calls
import Derived.Orders
import Derived.Deep.Quiet
import Derived.StillTail
import Derived.KernelRfl
import Derived.Laws.Sem
import Derived.Laws.Strings
import Derived.Laws.Cover3
import Derived.Laws.Pointers
import Derived.Laws.AppendOwn
import Derived.Laws.OwnMore
section
namespace Go.X
open Go
abbrev Heap:=Array Obj
abbrev Chain:=List (Nat×Bool)
abbrev Env:=List (Nat×Chain×Value)
def mk (B:World) (d:Nat) (h:Heap):World:={ B with heap:=h,drawn:=d }
def look:Env→Nat→Option (Chain×Value)
 | [],_=>none
 | (j,c,v)::e,i=>bif Nat.beq i j then some (c,v) else look e i
def valid (σ:Nat→Value):Chain→Prop
 | []=>True
 | (g,p)::c=>σ g=.bool p∧valid σ c
def vals (a:Act) (i:Nat):Value:=a.tmps.getD i undef
def fact (σ:Nat→Value) (x:Nat×Chain×Value):Prop:=(valid σ x.2.1→σ x.1=x.2.2)∧(¬ valid σ x.2.1→σ x.1=undef)
structure Sat (n:Nat) (e:Env) (a:Act):Prop where
 defers:a.defers=[]
 size:a.tmps.size=n
 all:∀ x∈e,fact (vals a) x
def mentions:Chain→Nat→Bool
 | [],_=>false
 | (g,_)::c,i=>bif Nat.beq i g then true else mentions c i
def del:Env→Nat→Env
 | [],_=>[]
 | (j,c,v)::e,i=>bif (bif Nat.beq i j then true else mentions c i) then del e i else(j,c,v)::del e i
def put (e:Env) (i:Nat) (c:Chain) (v:Value):Env:=(i,c,v)::del e i
def putO (e:Env):Option Nat→Chain→Value→Env
 | none,_,_=>e
 | some d,c,v=>put e d c v
def clean:Env→Env
 | []=>[]
 | (j,[],v)::e=>(j,[],v)::clean e
 | (_,_::_,_)::e=>clean e
theorem look_mem {e:Env} {i:Nat} {c:Chain} {v:Value} (h:look e i=some (c,v)):(i,c,v)∈e:=by
 induction e with
 | nil=>cases h
 | cons x e ih=>
  obtain⟨j,cj,vj⟩:=x
  simp only [look] at h
  by_cases hb:Nat.beq i j=true
  ·simp only [hb,cond_true,Option.some.injEq,Prod.mk.injEq] at h
   obtain⟨rfl,rfl⟩:=h
   rw [Nat.eq_of_beq_eq_true hb]
   exact List.mem_cons_self
  ·simp only [hb,cond_false] at h
   exact List.mem_cons_of_mem _ (ih h)
theorem mem_del {e:Env} {i:Nat} {x:Nat×Chain×Value} (h:x∈del e i):x∈e∧x.1≠i∧mentions x.2.1 i=false:=by
 induction e with
 | nil=>cases h
 | cons y e ih=>
  obtain⟨j,cj,vj⟩:=y
  simp only [del] at h
  by_cases hb:Nat.beq i j=true
  ·simp only [hb,cond_true] at h
   exact⟨List.mem_cons_of_mem _ (ih h).1,(ih h).2⟩
  ·have hb':Nat.beq i j=false:=Bool.eq_false_iff.2 hb
   simp only [hb',cond_false] at h
   by_cases hm:mentions cj i=true
   ·simp only [hm,cond_true] at h
    exact⟨List.mem_cons_of_mem _ (ih h).1,(ih h).2⟩
   ·have hm':mentions cj i=false:=by simpa using hm
    simp only [hm',cond_false] at h
    rcases List.mem_cons.1 h with rfl | h
    ·refine⟨List.mem_cons_self,fun hji=>?_,hm'⟩
     simp only at hji
     rw [hji] at hb
     exact hb (by simp)
    ·exact⟨List.mem_cons_of_mem _ (ih h).1,(ih h).2⟩
theorem mem_clean {e:Env} {x:Nat×Chain×Value} (h:x∈clean e):x∈e∧x.2.1=[]:=by
 induction e with
 | nil=>cases h
 | cons y e ih=>
  obtain⟨j,cj,vj⟩:=y
  cases cj with
  | nil=>
   simp only [clean] at h
   rcases List.mem_cons.1 h with rfl | h
   ·exact⟨List.mem_cons_self,rfl⟩
   ·exact⟨List.mem_cons_of_mem _ (ih h).1,(ih h).2⟩
  | cons c cs=>
   simp only [clean] at h
   exact⟨List.mem_cons_of_mem _ (ih h).1,(ih h).2⟩
theorem Sat.sub {n:Nat} {e e':Env} {a:Act} (h:Sat n e a) (hs:∀ x∈e',x∈e):Sat n e' a:=⟨h.defers,h.size,fun x hx=>h.all x (hs x hx)⟩
theorem Sat.clean {n:Nat} {e:Env} {a:Act} (h:Sat n e a):Sat n (clean e) a:=h.sub fun _ hx=>(mem_clean hx).1
theorem valid_congr {σ τ:Nat→Value} {c:Chain} {i:Nat} (hm:mentions c i=false) (h:∀ j,j≠i→σ j=τ j):valid σ c↔valid τ c:=by
 induction c with
 | nil=>exact Iff.rfl
 | cons x c ih=>
  obtain⟨g,p⟩:=x
  simp only [mentions] at hm
  by_cases hb:Nat.beq i g=true
  ·simp [hb] at hm
  ·simp only [hb,cond_false] at hm
   have hg:g≠i:=fun e=>hb (by rw [e];simp)
   simp only [valid,h g hg,ih hm]
theorem vals_put {a:Act} {i:Nat} {u:Value} (hi:i < a.tmps.size):vals (a.put (some i) u) i=u:=by
 simp [vals,Act.put,hi]
theorem vals_put_ne {a:Act} {i j:Nat} {u:Value} (h:j≠i):vals (a.put (some i) u) j=vals a j:=by
 simp [vals,Act.put,Array.getElem?_setIfInBounds_ne (Ne.symm h)]
theorem size_put (a:Act) (d:Option Nat) (u:Value):(a.put d u).tmps.size=a.tmps.size:=by
 cases d <;> simp [Act.put]
theorem defers_put (a:Act) (d:Option Nat) (u:Value):(a.put d u).defers=a.defers:=by
 cases d <;> simp [Act.put]
theorem Sat.put {n:Nat} {e:Env} {a:Act} (h:Sat n e a) {i:Nat} {c:Chain} {v u:Value} (hi:i < n) (hm:mentions c i=false)
  (hy:valid (vals a) c→u=v) (hn:¬ valid (vals a) c→u=undef):Sat n (put e i c v) (a.put (some i) u):=by
 refine⟨by rw [defers_put];exact h.defers,by rw [size_put];exact h.size,fun x hx=>?_⟩
 have hi':i < a.tmps.size:=by rw [h.size];exact hi
 rcases List.mem_cons.1 hx with rfl | hx
 ·have hv:=valid_congr (σ:=vals (a.put (some i) u)) (τ:=vals a) hm (fun j hj=>vals_put_ne hj)
  refine⟨fun hc=>?_,fun hc=>?_⟩
  ·exact(vals_put hi').trans (hy (hv.1 hc))
  ·exact(vals_put hi').trans (hn (fun hc'=>hc (hv.2 hc')))
 ·obtain⟨h1,h2,h3⟩:=mem_del hx
  have hv:=valid_congr (σ:=vals (a.put (some i) u)) (τ:=vals a) h3 (fun j hj=>vals_put_ne hj)
  have hf:=h.all x h1
  refine⟨fun hc=>?_,fun hc=>?_⟩
  ·exact(vals_put_ne h2).trans (hf.1 (hv.1 hc))
  ·exact(vals_put_ne h2).trans (hf.2 (fun hc'=>hc (hv.2 hc')))
def okDst (n:Nat) (c:Chain):Option Nat→Bool
 | none=>true
 | some d=>bif mentions c d then false else Nat.blt d n
theorem Sat.putO {n:Nat} {e:Env} {a:Act} (h:Sat n e a) {d:Option Nat} {c:Chain} {v u:Value} (hd:okDst n c d=true)
  (hy:valid (vals a) c→u=v) (hn:¬ valid (vals a) c→u=undef):Sat n (putO e d c v) (a.put d u):=by
 cases d with
 | none=>exact h
 | some i=>
  simp only [okDst] at hd
  by_cases hm:mentions c i=true
  ·simp [hm] at hd
  ·have hm':mentions c i=false:=by simpa using hm
   simp only [hm',cond_false] at hd
   exact h.put (by simpa [Nat.blt_eq] using hd) hm' hy hn
def chainEq:Chain→Chain→Bool
 | [],[]=>true
 | (g,p)::c,(g',p')::c'=>bif Nat.beq g g' then(bif p then(bif p' then chainEq c c' else false) else(bif p' then false else chainEq c c')) else false
 | _,_=>false
theorem chainEq_eq:∀ {c c':Chain},chainEq c c'=true→c=c'
 | [],[],_=>rfl
 | [],_::_,h=>by simp [chainEq] at h
 | _::_,[],h=>by simp [chainEq] at h
 | (g,p)::c,(g',p')::c',h=>by
  simp only [chainEq] at h
  by_cases hb:Nat.beq g g'=true
  ·simp only [hb,cond_true] at h
   have e1:=Nat.eq_of_beq_eq_true hb
   cases p <;> cases p' <;> simp at h <;> rw [e1,chainEq_eq h]
  ·simp [hb] at h
def suf (cs:Chain):Chain→Bool
 | []=>chainEq cs []
 | x::c=>bif chainEq cs (x::c) then true else suf cs c
theorem suf_valid {σ:Nat→Value} {cs:Chain}:∀ {c:Chain},suf cs c=true→valid σ c→valid σ cs
 | [],h,_=>by rw [chainEq_eq h];trivial
 | x::c,h,hv=>by
  simp only [suf] at h
  by_cases hb:chainEq cs (x::c)=true
  ·rw [chainEq_eq hb];exact hv
  ·simp only [hb,cond_false] at h
   exact suf_valid h hv.2
def opdAt (e:Env) (c:Chain):Operand→Option Value
 | .tmp t=>match look e t with
  | some (cs,v)=>bif suf cs c then some v else none
  | none=>none
 | .const v=>some v
 | .global g=>some (.pointer (some ⟨g,0,none⟩))
 | .func f=>some (.func (.func f) #[] #[])
theorem opdAt_sound {n:Nat} {e:Env} {a:Act} (h:Sat n e a) {c:Chain} (hc:valid (vals a) c) {x:Operand} {v:Value} (hx:opdAt e c x=some v):a.eval x=v:=by
 cases x with
 | tmp t=>
  simp only [opdAt] at hx
  split at hx
  ·rename_i cs u hl
   by_cases hs:suf cs c=true
   ·simp only [hs,cond_true,Option.some.injEq] at hx
    subst hx
    exact(h.all _ (look_mem hl)).1 (suf_valid hs hc)
   ·simp [hs] at hx
  ·cases hx
 | const u=>simp only [opdAt,Option.some.injEq] at hx;exact hx
 | global g=>simp only [opdAt,Option.some.injEq] at hx;exact hx
 | func f=>simp only [opdAt,Option.some.injEq] at hx;exact hx
def rho (e:Env) (c:Chain) (x:Operand):Value:=match opdAt e c x with
 | some v=>v
 | none=>undef
def known (e:Env) (c:Chain):List Operand→Bool
 | []=>true
 | x::l=>match opdAt e c x with
  | some _=>known e c l
  | none=>false
theorem known_sound {n:Nat} {e:Env} {a:Act} (h:Sat n e a) {c:Chain} (hc:valid (vals a) c) {l:List Operand} (hk:known e c l=true):∀ x∈l,a.eval x=rho e c x:=by
 induction l with
 | nil=>intro x hx;cases hx
 | cons y l ih=>
  intro x hx
  simp only [known] at hk
  split at hk
  ·rename_i v hv
   rcases List.mem_cons.1 hx with rfl | hx
   ·rw [opdAt_sound h hc hv];simp [rho,hv]
   ·exact ih hk x hx
  ·cases hk
def noSel:Op→Bool
 | .select _ _=>false
 | _=>true
theorem exec_rho {n:Nat} {e:Env} {a:Act} (h:Sat n e a) {c:Chain} (hc:valid (vals a) c) {o:Oper} (hs:noSel o.op=true) (hk:known e c o.op.operands.toList=true):
  execOp a.eval o=execOp (rho e c) o:=
 execOp_congr o (fun cs b hb=>by rw [hb] at hs;cases hs) fun x hx=>known_sound h hc hk x (by simpa using hx)
def dstOf (ops:Array Oper) (j:Nat):Option Nat:=match ops[j]? with
 | some o=>o.dst
 | none=>none
def chainOf (ops:Array Oper) (e:Env):Option (Nat×Bool)→Option Chain
 | none=>some []
 | some (j,p)=>match dstOf ops j with
  | some g=>match look e g with
   | some (cg,.bool _)=>some ((g,p)::cg)
   | _=>none
  | none=>none
def condE (e:Env):Chain→Option Bool
 | []=>some true
 | (g,p)::c=>match look e g with
  | some (cg,.bool b)=>bif chainEq cg c then(match condE e c with
    | some cb=>some (cb && (bif p then b else !b))
    | none=>none) else none
  | _=>none
theorem undef_ne_bool {b:Bool}:undef≠.bool b:=by simp [undef]
theorem condE_sound {n:Nat} {e:Env} {a:Act} (h:Sat n e a):∀ {c:Chain} {b:Bool},condE e c=some b→(b=true↔valid (vals a) c)
 | [],b,hb=>by simp only [condE,Option.some.injEq] at hb;simp [← hb,valid]
 | (g,p)::c,b,hb=>by
  simp only [condE] at hb
  split at hb
  ·rename_i cg bg hl
   by_cases hq:chainEq cg c=true
   ·simp only [hq,cond_true] at hb
    split at hb
    ·rename_i cb hcb
     simp only [Option.some.injEq] at hb
     have ih:=condE_sound h hcb
     have hf:=h.all _ (look_mem hl)
     rw [chainEq_eq hq] at hf
     by_cases hv:valid (vals a) c
     ·have h1:vals a g=.bool bg:=hf.1 hv
      have h2:=ih.2 hv
      subst hb
      simp only [valid,h1,hv,h2,Bool.true_and,and_true,Value.bool.injEq]
      cases p <;> cases bg <;> simp
     ·have h1:cb=false:=by cases cb with | false=>rfl | true=>exact absurd (ih.1 rfl) hv
      subst hb
      simp [valid,hv,h1]
    ·cases hb
   ·simp [hq] at hb
  ·cases hb
theorem wanted_sound {n:Nat} {ops:Array Oper} {e:Env} {a:Act} (h:Sat n e a) {o:Oper} {c:Chain} (hc:chainOf ops e o.guard=some c):
  Region.wanted o (yielded ops a.tmps)=true↔valid (vals a) c:=by
 unfold Region.wanted
 cases hg:o.guard with
 | none=>rw [hg] at hc;simp only [chainOf,Option.some.injEq] at hc;simp [← hc,valid]
 | some jp=>
  obtain⟨j,p⟩:=jp
  rw [hg] at hc
  simp only [chainOf] at hc
  split at hc
  ·rename_i g hd
   split at hc
   ·rename_i cg b hl
    simp only [Option.some.injEq] at hc
    subst hc
    have hd':((ops[j]?).bind (·.dst))=some g:=by
     simp only [dstOf] at hd
     split at hd
     ·rename_i o' ho';simp [ho',hd]
     ·cases hd
    have hf:=h.all _ (look_mem hl)
    have hy:yielded ops a.tmps j=some p↔vals a g=.bool p:=by
     unfold yielded vals
     rw [hd']
     simp only [Option.bind_some]
     cases ht:a.tmps[g]? with
     | none=>simp [Array.getD_eq_getD_getElem?,ht,undef]
     | some v=>cases v <;> simp [Array.getD_eq_getD_getElem?,ht]
    simp only [beq_iff_eq,hy,valid]
    constructor
    ·intro h1
     refine⟨h1,?_⟩
     by_cases hv:valid (vals a) cg
     ·exact hv
     ·have:=hf.2 hv
      simp only at this
      rw [h1] at this
      exact absurd this.symm undef_ne_bool
    ·exact fun h1=>h1.1
   ·cases hc
  ·cases hc
structure Keep (n:Nat) (h h':Heap):Prop where
 size:h.size≤h'.size
 get:∀ i,i < n→h'[i]?=h[i]?
theorem Keep.refl (n:Nat) (h:Heap):Keep n h h:=⟨Nat.le_refl _,fun _ _=>rfl⟩
theorem Keep.trans {n m:Nat} {a b c:Heap} (h:Keep n a b) (k:Keep m b c) (hm:n≤m):Keep n a c:=
 ⟨Nat.le_trans h.size k.size,fun i hi=>(k.get i (Nat.lt_of_lt_of_le hi hm)).trans (h.get i hi)⟩
theorem Keep.mono {n m:Nat} {a b:Heap} (h:Keep n a b) (hm:m≤n):Keep m a b:=⟨h.size,fun i hi=>h.get i (Nat.lt_of_lt_of_le hi hm)⟩
theorem Keep.push {n:Nat} (h:Heap) (o:Obj) (hn:n≤h.size):Keep n h (h.push o):=
 ⟨by simp,fun i hi=>by rw [Array.getElem?_push,if_neg (by omega)]⟩
end Go.X
end
section
namespace Go.X
open Go
def cellH (h:Heap) (a:Addr):Option Value:=
 match h[a.block]? with
 | some (.cells c _ _)=>if a.spot.isSome then none else c[a.off]?
 | _=>none
theorem cell_mk (B:World) (d:Nat) (h:Heap) (a:Addr):(mk B d h).cell? a=cellH h a:=rfl
def evalPure (P:Program) {α:Type}:Sem α→Option α
 | .pure a=>some a
 | .program k=>evalPure P (k P)
 | .mark _ k=>evalPure P k
 | _=>none
def QExec (P:Program) {α:Type} (s:Sem α) (h:Heap) (x:α):Prop:=∀ B d,s.run P (mk B d h)=.ok x (mk B d h)
theorem evalPure_run {P:Program} {α:Type} {s:Sem α} {x:α} (h:evalPure P s=some x) (w:World):s.run P w=.ok x w:=by
 induction s with
 | pure a=>simp only [evalPure,Option.some.injEq] at h;subst h;rfl
 | program k ih=>exact ih P h
 | mark m k ih=>exact ih h
 | _=>simp [evalPure] at h
theorem evalPure_sound {P:Program} {α:Type} {s:Sem α} {x:α} (h:evalPure P s=some x) (hp:Heap):QExec P s hp x:=fun _ _=>evalPure_run h _
theorem QExec.bind {P:Program} {α β:Type} {s:Sem α} {f:α→Sem β} {h:Heap} {x:α} {y:β} (h1:QExec P s h x) (h2:QExec P (f x) h y):QExec P (s >>= f) h y:=by
 intro B d
 rw [Sem.run_bind,h1 B d]
 exact h2 B d
theorem QExec.pure {P:Program} {α:Type} {h:Heap} (x:α):QExec P (Pure.pure x) h x:=fun _ _=>rfl
theorem QExec.val {P:Program} {s:Sem Value} {h:Heap} {v:Value} (h1:QExec P s h v):QExec P (s >>= fun x=>Pure.pure (Next.value x)) h (Next.value v):=h1.bind (QExec.pure _)
theorem QExec.underlying {P:Program} {h:Heap} {t:TypeId} {d:TypeDesc} (hd:P.underlying t=some d):QExec P (Go.underlying t) h d:=by
 intro B e
 simp [Go.underlying,program,hd,Sem.run]
def szOf (P:Program) (t:TypeId):Nat:=match P.info? t with
 | some i=>i.size
 | none=>0
theorem QExec.sizeOf {P:Program} {h:Heap} {t:TypeId} {i:TypeInfo} (hi:P.info? t=some i):QExec P (Go.sizeOf t) h (szOf P t):=by
 intro B d
 simp [Go.sizeOf,typeInfo,program,hi,Sem.run,szOf]
theorem info_of_underlying {P:Program} {t:TypeId} {d:TypeDesc} (hd:P.underlying t=some d):∃ i,P.info? t=some i:=by
 unfold Program.underlying at hd
 cases h:P.info? t with
 | none=>rw [h] at hd;cases hd
 | some i=>exact⟨i,rfl⟩
inductive Atom where
 | int (k:IntKind) | bool | str | sl | mp | ptr | raw | ad
structure Sl where
 a:Option Addr
 len:Nat
 cap:Nat
@[reducible] def Atom.den:Atom→Type
 | .int _=>Int | .bool=>Bool | .str=>ByteArray | .sl=>Sl | .mp=>Option Nat | .ptr=>Option Addr | .raw=>Value | .ad=>Addr
def Atom.enc:(t:Atom)→t.den→Value
 | .int k,n=>.int k n
 | .bool,b=>.bool b
 | .str,s=>.string s
 | .sl,s=>.slice s.a s.len s.cap
 | .mp,m=>.map m
 | .ptr,p=>.pointer p
 | .raw,v=>v
 | .ad,p=>.pointer (some p)
def Atom.dec:(t:Atom)→Value→Option t.den
 | .int k,.int k' n=>if k=k' then some n else none
 | .bool,.bool b=>some b
 | .str,.string s=>some s
 | .sl,.slice a l c=>some ⟨a,l,c⟩
 | .mp,.map m=>some m
 | .ptr,.pointer p=>some p
 | .raw,v=>some v
 | .ad,.pointer (some p)=>some p
 | _,_=>none
theorem Atom.enc_of_dec {t:Atom} {v:Value} {x:t.den} (h:t.dec v=some x):t.enc x=v:=by
 cases t with
 | ad=>
  cases v with
  | pointer p=>
   cases p with
   | none=>simp [Atom.dec] at h
   | some a=>simp [Atom.dec] at h;rw [h];rfl
  | _=>simp [Atom.dec] at h
 | _=>cases v <;> simp_all [Atom.dec,Atom.enc] <;> (subst h;first | rfl | exact⟨rfl,rfl,rfl⟩)
inductive VT where
 | one (t:Atom)
 | agg (l:List Atom)
inductive RT where
 | one (v:VT)
 | tup (l:List VT)
def exAtoms:List Atom→(List Value→Prop)→Prop
 | [],F=>F []
 | t::l,F=>∃ x:t.den,exAtoms l fun vs=>F (t.enc x::vs)
def exVT:VT→(Value→Prop)→Prop
 | .one t,F=>∃ x:t.den,F (t.enc x)
 | .agg l,F=>exAtoms l fun vs=>F (.agg vs.toArray)
def exVTs:List VT→(List Value→Prop)→Prop
 | [],F=>F []
 | t::l,F=>exVT t fun v=>exVTs l fun vs=>F (v::vs)
def exRT:RT→(Value→Prop)→Prop
 | .one v,F=>exVT v F
 | .tup l,F=>exVTs l fun vs=>F (.tuple vs.toArray)
def allAtoms:List Atom→(List Value→Prop)→Prop
 | [],F=>F []
 | t::l,F=>∀ x:t.den,allAtoms l fun vs=>F (t.enc x::vs)
def allVT:VT→(Value→Prop)→Prop
 | .one t,F=>∀ x:t.den,F (t.enc x)
 | .agg l,F=>allAtoms l fun vs=>F (.agg vs.toArray)
def allVTs:List VT→(List Value→Prop)→Prop
 | [],F=>F []
 | t::l,F=>allVT t fun v=>allVTs l fun vs=>F (v::vs)
def allRT:RT→(Value→Prop)→Prop
 | .one v,F=>allVT v F
 | .tup l,F=>allVTs l fun vs=>F (.tuple vs.toArray)
theorem both_atoms:∀ {l:List Atom} {F G:List Value→Prop},exAtoms l F→allAtoms l G→∃ vs,vs.length=l.length∧F vs∧G vs
 | [],_,_,h,g=>⟨[],rfl,h,g⟩
 | _::_,_,_,⟨x,h⟩,g=>let ⟨vs,h0,h1,h2⟩:=both_atoms h (g x);⟨_,by simp [h0],h1,h2⟩
theorem all_atoms_true:∀ (l:List Atom),allAtoms l fun _=>True
 | []=>trivial
 | _::l=>fun _=>all_atoms_true l
theorem both_VT {v:VT} {F G:Value→Prop} (h:exVT v F) (g:allVT v G):∃ u,F u∧G u:=by
 cases v with
 | one t=>obtain⟨x,h⟩:=h;exact⟨_,h,g x⟩
 | agg l=>obtain⟨vs,_,h1,h2⟩:=both_atoms h g;exact⟨_,h1,h2⟩
theorem all_VT_true (v:VT):allVT v fun _=>True:=by
 cases v with
 | one t=>exact fun _=>trivial
 | agg l=>exact all_atoms_true l
theorem both_VTs:∀ {l:List VT} {F G:List Value→Prop},exVTs l F→allVTs l G→∃ vs,F vs∧G vs
 | [],_,_,h,g=>⟨[],h,g⟩
 | _::_,_,_,h,g=>let ⟨_,h1,h2⟩:=both_VT h g;let ⟨_,h3,h4⟩:=both_VTs h1 h2;⟨_,h3,h4⟩
theorem all_VTs_true:∀ (l:List VT),allVTs l fun _=>True
 | []=>trivial
 | v::l=>by
  have h:=all_VTs_true l
  simp only [allVTs]
  cases v with
  | one t=>exact fun _=>h
  | agg l'=>
   simp only [allVT]
   have key:∀ (l':List Atom) (f:List Value→List Value),allAtoms l' fun _=>allVTs l fun _=>True:=fun l' _=>by
    induction l' with
    | nil=>exact h
    | cons t l' ih=>exact fun _=>ih
   exact key l' id
theorem both_RT {r:RT} {F G:Value→Prop} (h:exRT r F) (g:allRT r G):∃ v,F v∧G v:=by
 cases r with
 | one v=>exact both_VT h g
 | tup l=>obtain⟨vs,h1,h2⟩:=both_VTs h g;exact⟨_,h1,h2⟩
theorem some_RT {r:RT} {F:Value→Prop} (h:exRT r F):∃ v,F v:=by
 cases r with
 | one v=>obtain⟨u,h1,_⟩:=both_VT h (all_VT_true v);exact⟨u,h1⟩
 | tup l=>obtain⟨vs,h1,_⟩:=both_VTs h (all_VTs_true l);exact⟨_,h1⟩
def atomOf:TypeDesc→Atom
 | .int k=>.int k
 | .bool=>.bool
 | .string=>.str
 | .slice _=>.sl
 | .map _ _=>.mp
 | .pointer _=>.ptr
 | _=>.raw
def atomsOf (P:Program):Nat→TypeId→Option (List Atom)
 | 0,_=>none
 | n+1,t=>match P.underlying t with
  | some (.struct fs)=>fs.toList.foldr (fun f l=>match atomsOf P n f.type,l with
    | some x,some y=>some (x++y)
    | _,_=>none) (some [])
  | some (.array m e)=>match atomsOf P n e with
    | some x=>some (List.replicate m x).flatten
    | none=>none
  | some d=>some [atomOf d]
  | none=>none
def vtOf (P:Program) (t:TypeId):Option VT:=match P.underlying t with
 | some (.struct _) | some (.array _ _)=>match atomsOf P 8 t with
  | some l=>bif Nat.beq l.length (szOf P t) then some (.agg l) else none
  | none=>none
 | some d=>some (.one (atomOf d))
 | none=>none
def vtsOf (P:Program):List TypeId→Option (List VT)
 | []=>some []
 | t::l=>match vtOf P t,vtsOf P l with
  | some x,some y=>some (x::y)
  | _,_=>none
def rtOf (P:Program) (t:TypeId):Option RT:=match P.underlying t with
 | some (.tuple ts)=>match vtsOf P ts.toList with
  | some l=>some (.tup l)
  | none=>none
 | _=>match vtOf P t with
  | some v=>some (.one v)
  | none=>none
def req:Option Bool→Prop→Prop
 | none,p=>p
 | some b,p=>b=true→p
def gok:Option Bool→Prop
 | none=>True
 | some b=>b=true
theorem req.out {g:Option Bool} {p:Prop} (h:req g p) (hg:gok g):p:=by
 cases g with
 | none=>exact h
 | some b=>exact h hg
def ldList (h:Heap) (p:Addr):Nat→List Value→Prop
 | _,[]=>True
 | i,v::vs=>cellH h (p.add i)=some v∧ldList h p (i+1) vs
def ld (h:Heap) (p:Addr):Value→Prop
 | .agg vs=>ldList h p 0 vs.toList
 | v=>cellH h p=some v
def loadF (P:Program) (h:Heap) (t:TypeId) (p:Value) (g:Option Bool) (K:Value→Prop):Prop:=
 match p,vtOf P t with
 | .pointer (some p),some (.one a)=>∃ x:a.den,req g (cellH h p=some (a.enc x))∧K (a.enc x)
 | .pointer (some p),some (.agg l)=>exAtoms l fun vs=>req g (ldList h p 0 vs)∧K (.agg vs.toArray)
 | _,_=>False
theorem loadCellsFrom_q {P:Program} {h:Heap} {p:Addr}:∀ (vs:List Value) (i:Nat) (acc:Array Value),ldList h p i vs→QExec P (loadCellsFrom p i vs.length acc) h (acc++vs.toArray)
 | [],i,acc,_=>by intro B d;simp [loadCellsFrom]
 | v::vs,i,acc,⟨h1,h2⟩=>by
  have ih:=loadCellsFrom_q (P:=P) vs (i+1) (acc.push v) h2
  intro B d
  simp only [List.length_cons,loadCellsFrom,Sem.run_bind,run_load]
  rw [cell_mk,h1]
  simp only [Result.andThen_ok]
  rw [ih B d]
  simp
theorem load_one {P:Program} {h:Heap} {t:TypeId} {a:Atom} {p:Addr} {v:Value} (ht:vtOf P t=some (.one a)) (hc:cellH h p=some v):QExec P (loadVar t p) h v:=by
 unfold vtOf at ht
 cases hu:P.underlying t with
 | none=>rw [hu] at ht;cases ht
 | some d=>
  rw [hu] at ht
  intro B e
  have hq:=QExec.underlying (h:=h) hu B e
  have hagg:(isAgg t).run P (mk B e h)=.ok false (mk B e h):=by
   unfold isAgg
   rw [Sem.run_bind,hq]
   cases d <;> first | rfl | (exfalso;revert ht;dsimp only;split <;> first | (intro h;cases h;done) | (cases hb:Nat.beq _ _ <;> intro h <;> cases h))
  unfold loadVar
  rw [Sem.run_bind,hagg]
  simp only [Result.andThen_ok,Bool.false_eq_true,if_false,run_load]
  rw [cell_mk,hc]
theorem load_agg {P:Program} {h:Heap} {t:TypeId} {l:List Atom} {p:Addr} {vs:List Value} (ht:vtOf P t=some (.agg l)) (hl:vs.length=l.length) (hc:ldList h p 0 vs):QExec P (loadVar t p) h (.agg vs.toArray):=by
 unfold vtOf at ht
 cases hu:P.underlying t with
 | none=>rw [hu] at ht;cases ht
 | some d=>
  rw [hu] at ht
  obtain⟨i,hi⟩:=info_of_underlying hu
  have hagg:(∃ fs,d=.struct fs)∨(∃ n e,d=.array n e):=by
   cases d <;> first | exact Or.inl ⟨_,rfl⟩| exact Or.inr ⟨_,_,rfl⟩| (simp at ht)
  have hsz:szOf P t=l.length:=by
   have hm:(match atomsOf P 8 t with
     | some l=>bif Nat.beq l.length (szOf P t) then some (VT.agg l) else none
     | none=>none)=some (.agg l):=by
    rcases hagg with⟨fs,rfl⟩| ⟨n,e,rfl⟩ <;> exact ht
   split at hm
   ·rename_i l' _
    cases hb:Nat.beq l'.length (szOf P t) with
    | false=>rw [hb] at hm;cases hm
    | true=>
     rw [hb] at hm
     simp only [cond_true,Option.some.injEq,VT.agg.injEq] at hm
     rw [← hm];exact(Nat.eq_of_beq_eq_true hb).symm
   ·cases hm
  intro B e
  have hq:=QExec.underlying (h:=h) hu B e
  have hA:(isAgg t).run P (mk B e h)=.ok true (mk B e h):=by
   unfold isAgg
   rw [Sem.run_bind,hq]
   rcases hagg with⟨fs,rfl⟩| ⟨n,e',rfl⟩ <;> rfl
  have hS:=QExec.sizeOf (h:=h) hi B e
  unfold loadVar
  rw [Sem.run_bind,hA]
  simp only [Result.andThen_ok,if_true]
  rw [Sem.run_bind,hS]
  simp only [Result.andThen_ok]
  have hL:=loadCellsFrom_q (P:=P) vs 0 #[] hc B e
  unfold loadCells
  rw [Sem.run_bind,hsz,← hl,hL]
  simp
theorem loadF_sound {P:Program} {h:Heap} {t:TypeId} {p:Value} {g:Option Bool} {K:Value→Prop} (H:loadF P h t p g K):
  ∃ v,K v∧(gok g→QExec P (Instr.loadAt t p) h v):=by
 unfold loadF at H
 split at H
 ·rename_i q a hv
  obtain⟨x,h1,h2⟩:=H
  exact⟨_,h2,fun hg=>load_one hv (h1.out hg)⟩
 ·rename_i q l hv
  obtain⟨vs,h0,⟨h1,h2⟩,_⟩:=both_atoms H (all_atoms_true l)
  exact⟨_,h2,fun hg=>load_agg hv h0 (h1.out hg)⟩
 ·exact H.elim
def indexF (P:Program) (t:TypeId) (x i:Value) (g:Option Bool) (K:Value→Prop):Prop:=
 match P.underlying t with
 | some (.slice el)=>match x,i with
  | .slice base len _,.int _ n=>∃ a:Addr,req g (base=some a∧0≤n∧n < (len:Int))∧K (.pointer (some (a.add (n.toNat*szOf P el))))
  | _,_=>False
 | some (.array len el)=>match x,i with
  | .pointer base,.int _ n=>∃ a:Addr,req g (base=some a∧0≤n∧n < (len:Int))∧K (.pointer (some (a.add (n.toNat*szOf P el))))
  | _,_=>False
 | _=>False
def okInfo (P:Program) (t:TypeId):Bool:=match P.info? t with
 | some _=>true
 | none=>false
theorem okInfo_some {P:Program} {t:TypeId} (h:okInfo P t=true):∃ i,P.info? t=some i:=by
 unfold okInfo at h
 split at h
 ·exact⟨_,by assumption⟩
 ·cases h
theorem run_sizeOf_cases {P:Program} {h:Heap} (t:TypeId) (B:World) (d:Nat):(∃ i,P.info? t=some i)→(Go.sizeOf t).run P (mk B d h)=.ok (szOf P t) (mk B d h):=fun⟨_,hi⟩=>QExec.sizeOf hi B d
theorem indexF_sound {P:Program} {t:TypeId} {x i:Value} {g:Option Bool} {K:Value→Prop}
  (hok:∀ el,(P.underlying t=some (.slice el)∨∃ n,P.underlying t=some (.array n el))→∃ i,P.info? el=some i) (H:indexF P t x i g K):
  ∃ v,K v∧(gok g→∀ h:Heap,QExec P (Instr.indexAt t x i) h v):=by
 unfold indexF at H
 split at H
 ·rename_i el hu
  split at H
  ·rename_i base len cap k n
   obtain⟨a,h1,h2⟩:=H
   refine⟨_,h2,fun hg=>?_⟩
   obtain⟨rfl,h3,h4⟩:=h1.out hg
   intro h B d
   have hq:=QExec.underlying (h:=h) hu B d
   have hs:=run_sizeOf_cases (h:=h) el B d (hok el (Or.inl hu))
   unfold Instr.indexAt
   simp [asIntOf,Sem.run_bind,hq,hs,h3,h4]
  ·exact H.elim
 ·rename_i len el hu
  split at H
  ·rename_i base k n
   obtain⟨a,h1,h2⟩:=H
   refine⟨_,h2,fun hg=>?_⟩
   obtain⟨rfl,h3,h4⟩:=h1.out hg
   intro h B d
   have hq:=QExec.underlying (h:=h) hu B d
   have hs:=run_sizeOf_cases (h:=h) el B d (hok el (Or.inr ⟨_,hu⟩))
   unfold Instr.indexAt
   simp [asIntOf,Sem.run_bind,hq,hs,h3,h4,Instr.sureAddr]
  ·exact H.elim
 ·exact H.elim
def byteAt (s:ByteArray) (i:Nat):Int:=((s.data[i]?.getD 0).toNat:Int)
def strIndexF (x i:Value) (g:Option Bool) (K:Value→Prop):Prop:=
 match x,i with
 | .string s,.int _ n=>req g (0≤n∧n < (s.size:Int))∧K (.int .u8 (byteAt s n.toNat))
 | _,_=>False
theorem ba_get (s:ByteArray) (i:Nat) (h:i < s.size):s[i]?=some (s.data[i]?.getD 0):=by
 have h':i < s.data.size:=h
 rw [getElem?_pos s i h]
 simp [Array.getElem?_eq_getElem h']
 rfl
theorem strIndexF_sound {P:Program} {t:TypeId} {x i:Value} {g:Option Bool} {K:Value→Prop} (hu:P.underlying t=some .string) (H:strIndexF x i g K):
  ∃ v,K v∧(gok g→∀ h:Heap,QExec P (Instr.index t x i) h v):=by
 unfold strIndexF at H
 split at H
 ·rename_i s k n
  obtain⟨h1,h2⟩:=H
  refine⟨_,h2,fun hg=>?_⟩
  obtain⟨h3,h4⟩:=h1.out hg
  intro h B d
  have hq:=QExec.underlying (h:=h) hu B d
  unfold Instr.index
  have hb:=ba_get s n.toNat (by omega)
  simp only [asIntOf,Sem.run_bind,hq,Sem.run_pure,Result.andThen_ok,h3,if_true,hb,byteAt]
 ·exact H.elim
def resl (a:Option Addr) (sz l m:Nat):Option Addr:=if m=l then a else a.map (·.add (l*sz))
def boundOf:Option Value→Int→Option Int
 | none,d=>some d
 | some (.int _ n),_=>some n
 | some _,_=>none
def sliceF (P:Program) (t:TypeId) (x:Value) (lo hi mx:Option Value) (g:Option Bool) (K:Value→Prop):Prop:=
 match P.underlying t with
 | some .string=>match x,mx with
  | .string s,none=>match boundOf lo 0,boundOf hi (s.size:Int) with
   | some l,some r=>req g (0≤l∧l≤r∧r≤(s.size:Int))∧K (.string (s.extract l.toNat r.toNat))
   | _,_=>False
  | _,_=>False
 | some (.slice el)=>match x with
  | .slice a len cap=>match boundOf lo 0,boundOf hi (len:Int),boundOf mx (cap:Int) with
   | some l,some r,some m=>(mx=none∨∃ v,hi=some v)∧req g (0≤l∧l≤r∧r≤m∧m≤(cap:Int))∧K (.slice (resl a (szOf P el) l.toNat m.toNat) (r.toNat - l.toNat) (m.toNat - l.toNat))
   | _,_,_=>False
  | _=>False
 | _=>False
theorem boundOf_cases {v:Option Value} {d n:Int} (h:boundOf v d=some n):(v=none∧n=d)∨∃ k,v=some (.int k n):=by
 unfold boundOf at h
 split at h
 ·exact Or.inl ⟨rfl,by simpa using h.symm⟩
 ·simp only [Option.some.injEq] at h
  exact Or.inr ⟨_,by rw [h]⟩
 ·cases h
theorem run_bound {P:Program} {h:Heap} {k:IntKind} {n:Int} {y:Nat} {c:BoundsCode} (h0:0≤n) (h1:n≤(y:Int)):QExec P (Instr.sliceBound (.int k n) y c) h n.toNat:=by
 intro B d
 simp [Instr.sliceBound,asIntOf,h0,h1]
theorem bounds_str {P:Program} {h:Heap} {n:Nat} {lo hi:Option Value} {l r:Int} (hl:boundOf lo 0=some l) (hr:boundOf hi (n:Int)=some r) (h3:0≤l) (h4:l≤r) (h5:r≤(n:Int)):
  QExec P (Instr.sliceBounds false n n lo hi none) h (l.toNat,r.toNat,n):=by
 have e:(r.toNat:Int)=r:=Int.toNat_of_nonneg (by omega)
 rcases boundOf_cases hl with⟨rfl,rfl⟩| ⟨k,rfl⟩ <;> rcases boundOf_cases hr with⟨rfl,rfl⟩| ⟨k',rfl⟩
 ·exact QExec.pure _
 ·exact QExec.bind (QExec.pure n) (QExec.bind (run_bound (by omega) h5) (QExec.pure _))
 ·exact QExec.bind (QExec.pure n) (QExec.bind (QExec.pure n) (QExec.bind (run_bound h3 h4) (QExec.pure _)))
 ·exact QExec.bind (QExec.pure n) (QExec.bind (run_bound (by omega) h5) (QExec.bind (run_bound h3 (by omega)) (QExec.pure _)))
theorem bounds_slice {P:Program} {h:Heap} {len cap:Nat} {lo hi mx:Option Value} {l r m:Int} (hl:boundOf lo 0=some l) (hr:boundOf hi (len:Int)=some r) (hm:boundOf mx (cap:Int)=some m)
  (h0:mx=none∨∃ v,hi=some v) (h3:0≤l) (h4:l≤r) (h5:r≤m) (h6:m≤(cap:Int)):
  QExec P (Instr.sliceBounds true len cap lo hi mx) h (l.toNat,r.toNat,m.toNat):=by
 have e:(r.toNat:Int)=r:=Int.toNat_of_nonneg (by omega)
 have e2:(m.toNat:Int)=m:=Int.toNat_of_nonneg (by omega)
 rcases boundOf_cases hm with⟨rfl,rfl⟩| ⟨km,rfl⟩
 ·rcases boundOf_cases hl with⟨rfl,rfl⟩| ⟨k,rfl⟩ <;> rcases boundOf_cases hr with⟨rfl,rfl⟩| ⟨k',rfl⟩
  ·exact QExec.pure _
  ·exact QExec.bind (QExec.pure cap) (QExec.bind (run_bound (by omega) h5) (QExec.pure _))
  ·exact QExec.bind (QExec.pure cap) (QExec.bind (QExec.pure len) (QExec.bind (run_bound h3 h4) (QExec.pure _)))
  ·exact QExec.bind (QExec.pure cap) (QExec.bind (run_bound (by omega) h5) (QExec.bind (run_bound h3 (by omega)) (QExec.pure _)))
 ·rcases h0 with h0 | ⟨v,rfl⟩
  ·cases h0
  ·rcases boundOf_cases hr with⟨h9,_⟩| ⟨k',h9⟩
   ·cases h9
   ·cases h9
    rcases boundOf_cases hl with⟨rfl,rfl⟩| ⟨k,rfl⟩
    ·exact QExec.bind (x:=m.toNat) (run_bound (by omega) h6) (QExec.bind (run_bound (by omega) (by omega)) (QExec.pure _))
    ·exact QExec.bind (x:=m.toNat) (run_bound (by omega) h6) (QExec.bind (run_bound (by omega) (by omega)) (QExec.bind (run_bound h3 (by omega)) (QExec.pure _)))
theorem sliceF_sound {P:Program} {t:TypeId} {x:Value} {lo hi mx:Option Value} {g:Option Bool} {K:Value→Prop}
  (hok:∀ el,P.underlying t=some (.slice el)→∃ i,P.info? el=some i) (H:sliceF P t x lo hi mx g K):
  ∃ v,K v∧(gok g→∀ h:Heap,QExec P (Instr.sliceAt t x lo hi mx) h v):=by
 unfold sliceF at H
 split at H
 ·rename_i hu
  split at H
  ·rename_i s
   split at H
   ·rename_i l r hl hr
    obtain⟨h1,h2⟩:=H
    refine⟨_,h2,fun hg=>?_⟩
    obtain⟨h3,h4,h5⟩:=h1.out hg
    intro h B d
    have hq:=QExec.underlying (h:=h) hu B d
    have bb:=bounds_str (P:=P) (h:=h) hl hr h3 h4 h5 B d
    unfold Instr.sliceAt
    rw [Sem.run_bind,hq]
    simp only [Result.andThen_ok]
    unfold Instr.slice
    rw [Sem.run_bind,hq]
    simp [bb]
   ·exact H.elim
  ·exact H.elim
 ·rename_i el hu
  split at H
  ·rename_i a len cap
   split at H
   ·rename_i l r m hl hr hm
    obtain⟨h0,h1,h2⟩:=H
    refine⟨_,h2,fun hg=>?_⟩
    obtain⟨h3,h4,h5,h6⟩:=h1.out hg
    intro h B d
    have hq:=QExec.underlying (h:=h) hu B d
    have hs:=run_sizeOf_cases (h:=h) el B d (hok el hu)
    have bb:=bounds_slice (P:=P) (h:=h) hl hr hm h0 h3 h4 h5 h6 B d
    unfold Instr.sliceAt
    rw [Sem.run_bind,hq]
    simp only [Result.andThen_ok]
    unfold Instr.slice
    rw [Sem.run_bind,hq]
    simp [bb,hs,resl]
   ·exact H.elim
  ·exact H.elim
 ·exact H.elim
end Go.X
end
section
namespace Go.X
open Go
def XC (P:Program) (f:FuncId) (args:Array Value) (h:Heap) (R:Value→Heap→Prop):Prop:=
 ∀ B d,Calls P f args (mk B d h) fun e w'=>∃ v d' h',e=.returned v∧w'=mk B d' h'∧R v h'
theorem XC.mono {P:Program} {f:FuncId} {args:Array Value} {h:Heap} {R R':Value→Heap→Prop} (H:XC P f args h R) (hR:∀ v h',R v h'→R' v h'):XC P f args h R':=
 fun B d=>(H B d).mono fun _ _ ⟨v,d',h',e1,e2,r⟩=>⟨v,d',h',e1,e2,hR _ _ r⟩
def XRun (P:Program) (s:Sem Value) (h:Heap) (K:Value→Heap→Prop):Prop:=∀ B d,∃ v d' h',s.run P (mk B d h)=.ok v (mk B d' h')∧K v h'
def XRunU (P:Program) (s:Sem Unit) (h:Heap) (K:Heap→Prop):Prop:=∀ B d,∃ d' h',s.run P (mk B d h)=.ok () (mk B d' h')∧K h'
theorem XRun.mono {P:Program} {s:Sem Value} {h:Heap} {K K':Value→Heap→Prop} (H:XRun P s h K) (hK:∀ v h',K v h'→K' v h'):XRun P s h K':=
 fun B d=>let ⟨v,d',h',e,k⟩:=H B d;⟨v,d',h',e,hK _ _ k⟩
theorem XRunU.mono {P:Program} {s:Sem Unit} {h:Heap} {K K':Heap→Prop} (H:XRunU P s h K) (hK:∀ h',K h'→K' h'):XRunU P s h K':=
 fun B d=>let ⟨d',h',e,k⟩:=H B d;⟨d',h',e,hK _ k⟩
def fits63 (n:Nat):Prop:=n≤9223372036854775807
def pureF (P:Program) (s:Sem Next) (K:Value→Prop):Prop:=match evalPure P s with
 | some (.value v)=>K v
 | _=>False
def qrunF (P:Program) (ty:TypeId) (s:Sem Value) (g:Option Bool) (h:Heap) (K:Value→Prop):Prop:=match rtOf P ty with
 | some rt=>exRT rt fun v=>req g (QExec P s h v)∧K v
 | none=>False
def isSlT (P:Program) (t:TypeId):Bool:=match P.underlying t with
 | some (.slice _)=>true
 | _=>false
def isPtT (P:Program) (t:TypeId):Bool:=match P.underlying t with
 | some (.pointer e)=>Nat.beq e (P.pointee t)
 | _=>false
theorem isPtT_eq {P:Program} {t:TypeId} (h:isPtT P t=true):P.underlying t=some (.pointer (P.pointee t)):=by
 unfold isPtT at h
 split at h
 ·rename_i e hu;rw [hu,Nat.eq_of_beq_eq_true h]
 ·cases h
def binF (P:Program) (t:TypeId) (s:Sem Next) (op:BinOp) (x y:Value) (g:Option Bool) (K:Value→Prop):Prop:=
 match op,x,y with
 | .eql,.slice a _ _,.slice none 0 0=>bif isSlT P t then K (.bool a.isNone) else pureF P s K
 | .neq,.slice a _ _,.slice none 0 0=>bif isSlT P t then K (.bool (!a.isNone)) else pureF P s K
 | .eql,.pointer a,.pointer none=>bif isPtT P t then K (.bool a.isNone) else pureF P s K
 | .neq,.pointer a,.pointer none=>bif isPtT P t then K (.bool (!a.isNone)) else pureF P s K
 | .quo,.int k a,.int k' b=>k=k'∧req g (b≠0)∧K (.int k (k.wrap (a.tdiv b)))
 | .rem,.int k a,.int k' b=>k=k'∧req g (b≠0)∧K (.int k (a.tmod b))
 | .add,.string a,.string b=>req g (fits63 (a.size+b.size))∧K (.string (a++b))
 | _,_,_=>pureF P s K
def builtinSem (b:Builtin) (argTypes:Array TypeId) (type:TypeId) (args:Array Value):Option (Sem Value):=
 match b with
 | .append=>some (Builtin.append_ argTypes type args)
 | .copy=>some (Builtin.copy_ argTypes type args)
 | .clear=>some (Builtin.clear_ argTypes type args)
 | .delete=>some (Builtin.delete_ argTypes type args)
 | .len=>some (Builtin.len_ argTypes type args)
 | _=>none
def lenF (P:Program) (s:Sem Next) (ty:TypeId) (argTypes:Array TypeId) (args:Array Value) (g:Option Bool) (h:Heap) (K:Value→Prop):Prop:=
 match (args[0]?:Option Value) with
 | some (Value.map _)=>qrunF P ty (Builtin.len_ argTypes ty args) g h K
 | _=>pureF P s K
def elemOk (P:Program) (t:TypeId):Bool:=match P.underlying t with
 | some (.slice el)=>okInfo P el
 | some (.array _ el)=>okInfo P el
 | _=>true
theorem elemOk_some {P:Program} {t:TypeId} (h:elemOk P t=true):∀ el,(P.underlying t=some (.slice el)∨∃ n,P.underlying t=some (.array n el))→∃ i,P.info? el=some i:=by
 intro el hel
 unfold elemOk at h
 rcases hel with hel | ⟨n,hel⟩ <;> rw [hel] at h <;> exact okInfo_some h
def isStrT (P:Program) (t:TypeId):Bool:=match P.underlying t with
 | some .string=>true
 | _=>false
theorem isStrT_eq {P:Program} {t:TypeId} (h:isStrT P t=true):P.underlying t=some .string:=by
 unfold isStrT at h
 split at h
 ·assumption
 ·cases h
def nilF (P:Program) (s:Sem Next) (x:Value) (g:Option Bool) (K:Value→Prop):Prop:=match x with
 | .pointer p=>∃ a:Addr,req g (p=some a)∧K (.pointer (some a))
 | _=>pureF P s K
def stepQ (P:Program) (o:Oper) (ρ:Operand→Value) (g:Option Bool) (h:Heap) (K:Value→Prop):Prop:=
 match o.op with
 | .load t a=>loadF P h t (ρ a) g K
 | .indexAddr t x i=>bif elemOk P t then indexF P t (ρ x) (ρ i) g K else False
 | .index t x i=>bif isStrT P t then strIndexF (ρ x) (ρ i) g K else pureF P (execOp ρ o) K
 | .slice t x lo hi mx=>bif elemOk P t then sliceF P t (ρ x) (lo.map ρ) (hi.map ρ) (mx.map ρ) g K else False
 | .binOp op t x y _=>binF P t (execOp ρ o) op (ρ x) (ρ y) g K
 | .lookup t m k ok=>qrunF P o.type (Instr.lookup t (ρ m) (ρ k) ok) g h K
 | .nilCheck x=>nilF P (execOp ρ o) (ρ x) g K
 | .call c=>match c.callee with
  | .builtin .len=>lenF P (execOp ρ o) o.type c.argTypes (c.args.map ρ) g h K
  | _=>pureF P (execOp ρ o) K
 | _=>pureF P (execOp ρ o) K
theorem pureF_sound {P:Program} {s:Sem Next} {K:Value→Prop} (H:pureF P s K) (g:Option Bool):∃ v,K v∧(gok g→∀ h:Heap,QExec P s h (.value v)):=by
 unfold pureF at H
 split at H
 ·rename_i v hv
  exact⟨v,H,fun _ h=>evalPure_sound hv h⟩
 ·exact H.elim
theorem qrunF_sound {P:Program} {ty:TypeId} {s:Sem Value} {g:Option Bool} {h:Heap} {K:Value→Prop} (H:qrunF P ty s g h K):∃ v,K v∧(gok g→QExec P s h v):=by
 unfold qrunF at H
 split at H
 ·obtain⟨v,h1,h2⟩:=some_RT H
  exact⟨v,h2,fun hg=>h1.out hg⟩
 ·exact H.elim
theorem eqGuard_other {op:BinOp} (t:TypeId) (x y:Operand) (a b:Value) (h1:(op matches .eql | .neq)=false):eqGuard op t x y a b=pure ():=by
 unfold eqGuard
 cases op <;> simp at h1 <;> rfl
theorem run_v0 {P:Program} {s:Sem Value} {w w':World} {v:Value} (h:s.run P w=.ok v w'):(s >>= fun x=>(Pure.pure (Next.value x):Sem Next)).run P w=.ok (.value v) w':=by
 rw [Sem.run_bind,h];rfl
theorem atHeap {P:Program} {s:Sem Next} {K:Value→Prop} {g:Option Bool} (h:Heap) (H:∃ v,K v∧(gok g→∀ h:Heap,QExec P s h (.value v))):∃ v,K v∧(gok g→QExec P s h (.value v)):=
 let ⟨v,h1,h2⟩:=H;⟨v,h1,fun hg=>h2 hg h⟩
theorem binF_all {P:Program} {o:Oper} {ρ:Operand→Value} {op:BinOp} {t t':TypeId} {x y:Operand} (ho:o.op=.binOp op t x y t') {g:Option Bool} {K:Value→Prop}
  (H:binF P t (execOp ρ o) op (ρ x) (ρ y) g K):∃ v,K v∧(gok g→∀ h:Heap,QExec P (execOp ρ o) h (.value v)):=by
 have guardS:∀ (op:BinOp) (x y:Operand) (a b:Option Addr) (l c l' c':Nat) (w:World),(eqGuard op t x y (.slice a l c) (.slice b l' c')).run P w=.ok () w:=fun op x y a b l c l' c' w=>by
  unfold eqGuard;cases op <;> rfl
 have guardP:∀ (op:BinOp) (x y:Operand) (a b:Option Addr) (w:World),(eqGuard op t x y (.pointer a) (.pointer b)).run P w=.ok () w:=fun op x y a b w=>by
  unfold eqGuard;cases op <;> rfl
 unfold binF at H
 split at H
 ·rename_i a l c hx hy
  cases hs:isSlT P t with
  | false=>rw [hs] at H;exact pureF_sound H g
  | true=>
   rw [hs,cond_true] at H
   refine⟨_,H,fun hg h B d=>?_⟩
   have hu:∃ el,P.underlying t=some (.slice el):=by
    unfold isSlT at hs
    split at hs
    ·rename_i el hu;exact⟨el,hu⟩
    ·cases hs
   obtain⟨el,hu⟩:=hu
   simp only [execOp,ho,hx,hy]
   refine run_v0 ?_
   rw [Sem.run_bind,guardS]
   simp only [Result.andThen_ok,binOp,Sem.run_bind,run_equal_slice_nil _ t _ _ _ _ hu];rfl
 ·rename_i a l c hx hy
  cases hs:isSlT P t with
  | false=>rw [hs] at H;exact pureF_sound H g
  | true=>
   rw [hs,cond_true] at H
   refine⟨_,H,fun hg h B d=>?_⟩
   have hu:∃ el,P.underlying t=some (.slice el):=by
    unfold isSlT at hs
    split at hs
    ·rename_i el hu;exact⟨el,hu⟩
    ·cases hs
   obtain⟨el,hu⟩:=hu
   simp only [execOp,ho,hx,hy]
   refine run_v0 ?_
   rw [Sem.run_bind,guardS]
   simp only [Result.andThen_ok,binOp,Sem.run_bind,run_equal_slice_nil _ t _ _ _ _ hu];rfl
 ·rename_i a hx hy
  cases hs:isPtT P t with
  | false=>rw [hs] at H;exact pureF_sound H g
  | true=>
   rw [hs,cond_true] at H
   refine⟨_,H,fun hg h B d=>?_⟩
   have hu:=isPtT_eq hs
   simp only [execOp,ho,hx,hy]
   refine run_v0 ?_
   rw [Sem.run_bind,guardP]
   simp only [Result.andThen_ok,binOp,Sem.run_bind,run_equal_pointer_nil _ t _ hu];rfl
 ·rename_i a hx hy
  cases hs:isPtT P t with
  | false=>rw [hs] at H;exact pureF_sound H g
  | true=>
   rw [hs,cond_true] at H
   refine⟨_,H,fun hg h B d=>?_⟩
   have hu:=isPtT_eq hs
   simp only [execOp,ho,hx,hy]
   refine run_v0 ?_
   rw [Sem.run_bind,guardP]
   simp only [Result.andThen_ok,binOp,Sem.run_bind,run_equal_pointer_nil _ t _ hu];rfl
 ·rename_i k a k' b hx hy
  obtain⟨rfl,h1,h2⟩:=H
  refine⟨_,h2,fun hg=>?_⟩
  have hb:=h1.out hg
  intro h B d
  simp only [execOp,ho,hx,hy]
  rw [eqGuard_other _ _ _ _ _ rfl]
  simp [binOp,Op.intDiv,hb]
 ·rename_i k a k' b hx hy
  obtain⟨rfl,h1,h2⟩:=H
  refine⟨_,h2,fun hg=>?_⟩
  have hb:=h1.out hg
  intro h B d
  simp only [execOp,ho,hx,hy]
  rw [eqGuard_other _ _ _ _ _ rfl]
  simp [binOp,Op.intDiv,hb]
 ·rename_i a b hx hy
  obtain⟨h1,h2⟩:=H
  refine⟨_,h2,fun hg=>?_⟩
  have hb:=h1.out hg
  intro h B d
  simp only [execOp,ho,hx,hy]
  rw [eqGuard_other _ _ _ _ _ rfl]
  have hm:¬ ((a.size+b.size:Nat):Int) > IntKind.i64.max:=by
   unfold fits63 at hb
   have:IntKind.i64.max=9223372036854775807:=by decide
   omega
  simp only [binOp,Op.stringOp,if_neg hm]
  rfl
 ·exact pureF_sound H g
theorem lenF_sound {P:Program} {o:Oper} {ρ:Operand→Value} {c:Call} (ho:o.op=.call c) (hc:c.callee=.builtin .len) {g:Option Bool} {h:Heap} {K:Value→Prop}
  (H:lenF P (execOp ρ o) o.type c.argTypes (c.args.map ρ) g h K):∃ v,K v∧(gok g→QExec P (execOp ρ o) h (.value v)):=by
 unfold lenF at H
 split at H
 ·obtain⟨v,h1,h2⟩:=qrunF_sound H
  refine⟨v,h1,fun hg=>?_⟩
  have:=h2 hg
  intro B d
  simp only [execOp,ho,resolve,hc,Sem.run_bind,Sem.run_pure,Result.andThen_ok,invoke,builtin]
  rw [this B d]
  rfl
 ·exact atHeap h (pureF_sound H g)
theorem stepQ_sound {P:Program} {o:Oper} {ρ:Operand→Value} {g:Option Bool} {h:Heap} {K:Value→Prop} (H:stepQ P o ρ g h K):∃ v,K v∧(gok g→QExec P (execOp ρ o) h (.value v)):=by
 unfold stepQ at H
 split at H
 ·rename_i t a ho
  obtain⟨v,h1,h2⟩:=loadF_sound H
  refine⟨v,h1,fun hg=>?_⟩
  simp only [execOp,ho]
  exact(h2 hg).val
 ·rename_i t x i ho
  cases he:elemOk P t with
  | false=>rw [he] at H;exact H.elim
  | true=>
   rw [he] at H
   obtain⟨v,h1,h2⟩:=indexF_sound (elemOk_some he) H
   refine⟨v,h1,fun hg=>?_⟩
   simp only [execOp,ho]
   exact(h2 hg h).val
 ·rename_i t x i ho
  cases he:isStrT P t with
  | false=>rw [he] at H;exact atHeap h (pureF_sound H g)
  | true=>
   rw [he] at H
   obtain⟨v,h1,h2⟩:=strIndexF_sound (isStrT_eq he) H
   refine⟨v,h1,fun hg=>?_⟩
   simp only [execOp,ho]
   exact(h2 hg h).val
 ·rename_i t x lo hi mx ho
  cases he:elemOk P t with
  | false=>rw [he] at H;exact H.elim
  | true=>
   rw [he] at H
   obtain⟨v,h1,h2⟩:=sliceF_sound (fun el hel=>elemOk_some he el (Or.inl hel)) H
   refine⟨v,h1,fun hg=>?_⟩
   simp only [execOp,ho]
   exact(h2 hg h).val
 ·rename_i op t x y t' ho
  exact atHeap h (binF_all ho H)
 ·rename_i t m k ok ho
  obtain⟨v,h1,h2⟩:=qrunF_sound H
  refine⟨v,h1,fun hg=>?_⟩
  simp only [execOp,ho]
  exact(h2 hg).val
 ·rename_i x ho
  unfold nilF at H
  split at H
  ·rename_i p hx
   obtain⟨a,h1,h2⟩:=H
   refine⟨_,h2,fun hg=>?_⟩
   have hp:=h1.out hg
   subst hp
   intro B d
   simp only [execOp,ho,hx]
   rfl
  ·exact atHeap h (pureF_sound H g)
 ·rename_i c ho
  split at H
  ·rename_i hc
   exact lenF_sound ho hc H
  ·exact atHeap h (pureF_sound H g)
 ·exact atHeap h (pureF_sound H g)
def famOk (o:Oper):Bool:=match o.op with
 | .lookup .. => false
 | .call c=>match c.callee with
  | .builtin .len=>false
  | _=>true
 | _=>true
theorem cellH_lt {h:Heap} {p:Addr} {v:Value} (H:cellH h p=some v):p.block < h.size:=by
 unfold cellH at H
 cases e:h[p.block]? with
 | none=>simp [e] at H
 | some o=>exact(Array.getElem?_eq_some_iff.1 e).1
theorem cellH_keep' {h h':Heap} (k:Keep h.size h h') {p:Addr} {v:Value} (H:cellH h p=some v):cellH h' p=some v:=by
 have:=cellH_lt H
 unfold cellH at H ⊢
 rw [k.get _ this];exact H
theorem ldList_keep {h h':Heap} (k:Keep h.size h h') {p:Addr}:∀ {vs:List Value} {i:Nat},ldList h p i vs→ldList h' p i vs
 | [],_,_=>trivial
 | _::_,_,⟨h1,h2⟩=>⟨cellH_keep' k h1,ldList_keep k h2⟩
theorem stepQ_keep {P:Program} {o:Oper} {ρ:Operand→Value} {g:Option Bool} {h:Heap} {K:Value→Prop} (hf:famOk o=true) (H:stepQ P o ρ g h K):∃ v,K v∧(gok g→∀ h',Keep h.size h h'→QExec P (execOp ρ o) h' (.value v)):=by
 unfold stepQ at H
 split at H
 ·rename_i t a ho
  unfold loadF at H
  split at H
  ·rename_i q b hp hv
   obtain⟨x,h1,h2⟩:=H
   refine⟨_,h2,fun hg h' hk=>?_⟩
   simp only [execOp,ho,hp]
   exact(load_one hv (cellH_keep' hk (h1.out hg))).val
  ·rename_i q l hp hv
   obtain⟨vs,h0,⟨h1,h2⟩,_⟩:=both_atoms H (all_atoms_true l)
   refine⟨_,h2,fun hg h' hk=>?_⟩
   simp only [execOp,ho,hp]
   exact(load_agg hv h0 (ldList_keep hk (h1.out hg))).val
  ·exact H.elim
 ·rename_i t x i ho
  cases he:elemOk P t with
  | false=>rw [he] at H;exact H.elim
  | true=>
   rw [he] at H
   obtain⟨v,h1,h2⟩:=indexF_sound (elemOk_some he) H
   refine⟨v,h1,fun hg h' _=>?_⟩
   simp only [execOp,ho]
   exact(h2 hg h').val
 ·rename_i t x i ho
  cases he:isStrT P t with
  | false=>
   rw [he] at H
   obtain⟨v,h1,h2⟩:=pureF_sound H g
   exact⟨v,h1,fun hg h' _=>h2 hg h'⟩
  | true=>
   rw [he] at H
   obtain⟨v,h1,h2⟩:=strIndexF_sound (isStrT_eq he) H
   refine⟨v,h1,fun hg h' _=>?_⟩
   simp only [execOp,ho]
   exact(h2 hg h').val
 ·rename_i t x lo hi mx ho
  cases he:elemOk P t with
  | false=>rw [he] at H;exact H.elim
  | true=>
   rw [he] at H
   obtain⟨v,h1,h2⟩:=sliceF_sound (fun el hel=>elemOk_some he el (Or.inl hel)) H
   refine⟨v,h1,fun hg h' _=>?_⟩
   simp only [execOp,ho]
   exact(h2 hg h').val
 ·rename_i op t x y t' ho
  obtain⟨v,h1,h2⟩:=binF_all ho H
  exact⟨v,h1,fun hg h' _=>h2 hg h'⟩
 ·rename_i t m k ok ho
  simp [famOk,ho] at hf
 ·rename_i x ho
  unfold nilF at H
  split at H
  ·rename_i p hx
   obtain⟨a,h1,h2⟩:=H
   refine⟨_,h2,fun hg h' _=>?_⟩
   have hp:=h1.out hg
   subst hp
   intro B d
   simp only [execOp,ho,hx]
   rfl
  ·obtain⟨v,h1,h2⟩:=pureF_sound H g
   exact⟨v,h1,fun hg h' _=>h2 hg h'⟩
 ·rename_i c ho
  split at H
  ·rename_i hc
   simp [famOk,ho,hc] at hf
  ·obtain⟨v,h1,h2⟩:=pureF_sound H g
   exact⟨v,h1,fun hg h' _=>h2 hg h'⟩
 ·obtain⟨v,h1,h2⟩:=pureF_sound H g
  exact⟨v,h1,fun hg h' _=>h2 hg h'⟩
def wpN (P:Program) {α:Type}:Sem α→Heap→(α→Heap→Prop)→Prop
 | .pure a,h,K=>K a h
 | .program k,h,K=>wpN P (k P) h K
 | .mark _ k,h,K=>wpN P k h K
 | .new o k,h,K=>wpN P (k h.size) (h.push o) K
 | _,_,_=>False
theorem wpN_sound {P:Program} {α:Type} {s:Sem α} {h:Heap} {K:α→Heap→Prop} (H:wpN P s h K) (B:World) (d:Nat):∃ x h',s.run P (mk B d h)=.ok x (mk B d h')∧K x h':=by
 induction s generalizing h with
 | pure a=>exact⟨a,h,rfl,H⟩
 | program k ih=>exact ih P H
 | mark m k ih=>exact ih H
 | new o k ih=>
  obtain⟨x,h',h1,h2⟩:=ih h.size H
  exact⟨x,h',h1,h2⟩
 | _=>exact H.elim
def typed (P:Program) (ty:TypeId) (v:Value) (K:Value→Prop):Prop:=match rtOf P ty with
 | some rt=>exRT rt fun v'=>v=v'∧K v'
 | none=>False
theorem typed_out {P:Program} {ty:TypeId} {v:Value} {K:Value→Prop} (H:typed P ty v K):K v:=by
 unfold typed at H
 split at H
 ·obtain⟨v',h1,h2⟩:=some_RT H;rw [h1];exact h2
 ·exact H.elim
def callable (P:Program) (f:FuncId):Bool:=match P.funcs[f]? with
 | some fn=>(match fn.body with
  | some _=>true
  | none => false) && !(fn.name == "runtime.NumGoroutine")
 | none=>false
theorem callFunc_run {P:Program} {f:FuncId} (h:callable P f=true) (args:Array Value) (w:World):(callFunc f args).run P w=.ok (.enter f args) w:=by
 unfold callable at h
 split at h
 ·rename_i fn hf
  simp only [Bool.and_eq_true,Bool.not_eq_true'] at h
  obtain⟨h1,h2⟩:=h
  unfold callFunc
  simp only [program,Sem.run_bind,Sem.run,Result.andThen_ok,hf]
  split at h1
  ·rename_i b hb
   simp [h2,hb]
  ·cases h1
 ·cases h
def dynF (P:Program) (v:Value) (args:Array Value) (K:FuncId→Array Value→Prop):Prop:=match v with
 | .func (.func f) first cap=>callable P f=true∧K f (first++args++cap)
 | _=>False
theorem dynF_sound {P:Program} {o:Oper} {ρ:Operand→Value} {c:Call} {x:Operand} (ho:o.op=.call c) (hc:c.callee=.value x) {K:FuncId→Array Value→Prop} (H:dynF P (ρ x) (c.args.map ρ) K):
  ∃ f args,K f args∧∀ w,(execOp ρ o).run P w=.ok (.enter f args) w:=by
 unfold dynF at H
 split at H
 ·rename_i f first cap hv
  obtain⟨h1,h2⟩:=H
  refine⟨_,_,h2,fun w=>?_⟩
  simp only [execOp,ho,resolve,hc,hv,Deferred.ofValue,Sem.run_bind,Sem.run_pure,Result.andThen_ok,invoke]
  exact callFunc_run h1 _ w
 ·exact H.elim
def isStatic:Operand→Bool
 | .func _=>true
 | _=>false
def isExt (P:Program) (f:FuncId):Bool:=match P.funcs[f]? with
 | some fn=>(match fn.body with
  | some _=>false
  | none=>true)
 | none=>false
def extF (P:Program) (f:FuncId) (args:Array Value) (h:Heap) (K:Value→Heap→Prop):Prop:=∀ B d,∃ v d' h',(callFunc f args).run P (mk B d h)=.ok (.value v) (mk B d' h')∧K v h'
def isExtO (P:Program):Operand→Bool
 | .func f=>isExt P f
 | _=>false
def dynE (P:Program) (v:Value) (args:Array Value) (h:Heap) (K:Value→Heap→Prop):Prop:=match v with
 | .func (.func f) first cap=>extF P f (first++args++cap) h K
 | _=>False
theorem dynE_sound {P:Program} {o:Oper} {ρ:Operand→Value} {c:Call} {x:Operand} (ho:o.op=.call c) (hc:c.callee=.value x) {h:Heap} {K:Value→Heap→Prop} (H:dynE P (ρ x) (c.args.map ρ) h K) (B:World) (d:Nat):
  ∃ v d' h',(execOp ρ o).run P (mk B d h)=.ok (.value v) (mk B d' h')∧K v h':=by
 unfold dynE at H
 split at H
 ·rename_i f first cap hv
  obtain⟨v,d',h',h1,h2⟩:=H B d
  refine⟨v,d',h',?_,h2⟩
  simp only [execOp,ho,resolve,hc,hv,Deferred.ofValue,Sem.run_bind,Sem.run_pure,Result.andThen_ok,invoke]
  exact h1
 ·exact H.elim
def isMpT (P:Program) (t:TypeId):Bool:=match P.underlying t with
 | some (.map _ _)=>true
 | _=>false
def heavyF (P:Program) (o:Oper) (ρ:Operand→Value) (h:Heap) (K:Value→Heap→Prop):Prop:=
 match o.op with
 | .store t a x=>XRunU P (Instr.storeAt t (ρ a) (ρ x)) h fun h'=>K undef h'
 | .mapUpdate t m k x=>XRunU P (Instr.mapUpdate t (ρ m) (ρ k) (ρ x)) h fun h'=>K undef h'
 | .insert t m k x=>XRunU P (Instr.mapUpdate t (ρ m) (ρ k) (ρ x)) h fun h'=>K undef h'
 | .entryStore t m s x=>XRunU P (Instr.entryStore t (ρ m) (ρ s) (ρ x)) h fun h'=>K undef h'
 | .mapEntry t m k=>XRun P (Instr.mapEntry t (ρ m) (ρ k)) h fun v h'=>typed P o.type v fun v'=>K v' h'
 | .makeSlice t l c=>XRun P (Instr.makeSlice t (ρ l) (ρ c)) h fun v h'=>typed P o.type v fun v'=>K v' h'
 | .convert s t x=>XRun P (convert s t (ρ x)) h fun v h'=>typed P o.type v fun v'=>K v' h'
 | .typeAssert x t t' ok=>XRun P (Instr.typeAssert (ρ x) t t' ok) h fun v h'=>typed P o.type v fun v'=>K v' h'
 | .range t x=>bif isMpT P t then XRun P (Instr.range t (ρ x)) h fun v h'=>∃ q:Option Addr,v=.pointer q∧K (.pointer q) h' else wpN P (execOp ρ o) h fun nx h'=>match nx with
   | .value v=>K v h'
   | .skip=>K undef h'
   | _=>False
 | .next x s=>bif s then wpN P (execOp ρ o) h fun nx h'=>match nx with
   | .value v=>K v h'
   | .skip=>K undef h'
   | _=>False
  else XRun P (Instr.next (ρ x) s o.type) h fun v h'=>(v=.tuple #[.bool false]∧K (.tuple #[.bool false]) h')∨∃ k u:Value,v=.tuple #[.bool true,k,u]∧K (.tuple #[.bool true,k,u]) h'
 | .entry x=>XRun P (Instr.entry (ρ x)) h fun v h'=>∃ k u:Value,v=.tuple #[k,u]∧K (.tuple #[k,u]) h'
 | .call c=>match c.callee with
  | .builtin b=>match builtinSem b c.argTypes o.type (c.args.map ρ) with
   | some s=>XRun P s h fun v h'=>typed P o.type v fun v'=>K v' h'
   | none=>False
  | .value x=>bif isExtO P x then dynE P (ρ x) (c.args.map ρ) h (fun v h'=>typed P o.type v fun v'=>K v' h') else bif isStatic x then(wpN P (execOp ρ o) h fun nx h'=>match nx with
   | .enter f args=>XC P f args h' fun v h''=>typed P o.type v fun v'=>K v' h''
   | .value v=>K v h'
   | _=>False) else dynF P (ρ x) (c.args.map ρ) fun f args=>XC P f args h fun v h''=>typed P o.type v fun v'=>K v' h''
  | _=>False
 | _=>wpN P (execOp ρ o) h fun nx h'=>match nx with
   | .value v=>K v h'
   | .skip=>K undef h'
   | _=>False
def heavyB:Builtin→Bool
 | .append | .copy | .clear | .delete=>true
 | _=>false
def plainConv (P:Program) (s t:TypeId):Bool:=match P.underlying s,P.underlying t with
 | some (.int _),some (.int _)=>true
 | some .string,some .string=>true
 | _,_=>false
def isQ (P:Program) (o:Oper):Bool:=
 match o.op with
 | .load _ _ | .indexAddr _ _ _ | .index _ _ _ | .slice _ _ _ _ _ | .binOp _ _ _ _ _ | .lookup _ _ _ _ | .nilCheck _=>true
 | .move _ | .assign _ | .unOp _ _ _ | .build _ _ | .makeFunc _ _ _ | .makeInterface _ _ | .extract _ _ | .field _ _ _ | .fieldAddr _ _ _=>true
 | .convert s t _=>plainConv P s t
 | .call c=>match c.callee with
  | .builtin b=>!heavyB b
  | _=>false
 | _=>false
def heavyG (P:Program) (o:Oper) (ρ:Operand→Value) (b:Bool) (h:Heap) (K:Value→Heap→Prop):Prop:=
 match rtOf P o.type with
 | some rt=>∃ J:Value→Heap→Prop,(b=true→heavyF P o ρ h J)∧(b=false→exRT rt fun v=>J v h)∧(b=true→∀ v h',J v h'→exRT rt fun v'=>v=v')∧allRT rt fun v=>∀ h',J v h'→K v h'
 | none=>False
def stepW (P:Program) (o:Oper) (ρ:Operand→Value) (g:Option Bool) (h:Heap) (K:Value→Heap→Prop):Prop:=
 bif isQ P o then stepQ P o ρ g h (fun v=>K v h) else match g with
  | none=>heavyF P o ρ h K
  | some b=>heavyG P o ρ b h K
theorem upon_value {P:Program} {o:Oper} {a:Act} {next:Act→World→Prop} {Q:Exit→Act→World→Prop} {s:Sem Next} {w w':World} {v:Value} (h:s.run P w=.ok (.value v) w') (hn:next (a.put o.dst v) w'):
  o.upon P a next Q (s.run P w):=by rw [h];exact hn
theorem upon_skip {P:Program} {o:Oper} {a:Act} {next:Act→World→Prop} {Q:Exit→Act→World→Prop} {s:Sem Next} {w w':World} (h:s.run P w=.ok .skip w') (hn:next (a.put o.dst undef) w'):
  o.upon P a next Q (s.run P w):=by rw [h];exact hn
theorem run_v {P:Program} {s:Sem Value} {w w':World} {v:Value} (h:s.run P w=.ok v w'):(s >>= fun x=>(Pure.pure (Next.value x):Sem Next)).run P w=.ok (.value v) w':=by
 rw [Sem.run_bind,h];rfl
theorem run_u {P:Program} {s:Sem Unit} {w w':World} (h:s.run P w=.ok () w'):(s >>= fun _=>(Pure.pure Next.skip:Sem Next)).run P w=.ok .skip w':=by
 rw [Sem.run_bind,h];rfl
theorem heavyF_sound {P:Program} {o:Oper} {ρ:Operand→Value} {h:Heap} {K:Value→Heap→Prop} (H:heavyF P o ρ h K) (B:World) (d:Nat) {a:Act} {next:Act→World→Prop} {Q:Exit→Act→World→Prop}
  (hn:∀ v d' h',K v h'→next (a.put o.dst v) (mk B d' h')):o.upon P a next Q ((execOp ρ o).run P (mk B d h)):=by
 unfold heavyF at H
 split at H
 case h_1 t x y ho=>
  obtain⟨d',h',h1,h2⟩:=H B d
  exact upon_skip (by simp only [execOp,ho];exact run_u h1) (hn _ _ _ h2)
 case h_2 t m k x ho=>
  obtain⟨d',h',h1,h2⟩:=H B d
  exact upon_skip (by simp only [execOp,ho];exact run_u h1) (hn _ _ _ h2)
 case h_3 t m k x ho=>
  obtain⟨d',h',h1,h2⟩:=H B d
  exact upon_skip (by simp only [execOp,ho];exact run_u h1) (hn _ _ _ h2)
 case h_4 t m s x ho=>
  obtain⟨d',h',h1,h2⟩:=H B d
  exact upon_skip (by simp only [execOp,ho];exact run_u h1) (hn _ _ _ h2)
 case h_5 t m k ho=>
  obtain⟨v,d',h',h1,h2⟩:=H B d
  exact upon_value (by simp only [execOp,ho];exact run_v h1) (hn _ _ _ (typed_out h2))
 case h_6 t l c ho=>
  obtain⟨v,d',h',h1,h2⟩:=H B d
  exact upon_value (by simp only [execOp,ho];exact run_v h1) (hn _ _ _ (typed_out h2))
 case h_7 s t x ho=>
  obtain⟨v,d',h',h1,h2⟩:=H B d
  exact upon_value (by simp only [execOp,ho];exact run_v h1) (hn _ _ _ (typed_out h2))
 case h_8 x t t' ok ho=>
  obtain⟨v,d',h',h1,h2⟩:=H B d
  exact upon_value (by simp only [execOp,ho];exact run_v h1) (hn _ _ _ (typed_out h2))
 case h_9 t x ho=>
  cases hm:isMpT P t with
  | true=>
   rw [hm] at H
   obtain⟨v,d',h',h1,q,rfl,h2⟩:=H B d
   exact upon_value (by simp only [execOp,ho];exact run_v h1) (hn _ _ _ h2)
  | false=>
   rw [hm] at H
   obtain⟨nx,h',h1,h2⟩:=wpN_sound H B d
   cases nx with
   | value v=>exact upon_value h1 (hn _ _ _ h2)
   | skip=>exact upon_skip h1 (hn _ _ _ h2)
   | _=>exact h2.elim
 case h_10 x s ho=>
  cases s with
  | true=>
   simp only [cond_true] at H
   obtain⟨nx,h',h1,h2⟩:=wpN_sound H B d
   cases nx with
   | value v=>exact upon_value h1 (hn _ _ _ h2)
   | skip=>exact upon_skip h1 (hn _ _ _ h2)
   | _=>exact h2.elim
  | false=>
   simp only [cond_false] at H
   obtain⟨v,d',h',h1,h2⟩:=H B d
   refine upon_value (v:=v) (w':=mk B d' h') (by simp only [execOp,ho];exact run_v h1) (hn _ _ _ ?_)
   rcases h2 with⟨rfl,h2⟩| ⟨k,u,rfl,h2⟩ <;> exact h2
 case h_11 x ho=>
  obtain⟨v,d',h',h1,k,u,rfl,h2⟩:=H B d
  exact upon_value (by simp only [execOp,ho];exact run_v h1) (hn _ _ _ h2)
 case h_12 c ho=>
  split at H
  ·rename_i b hb
   split at H
   ·rename_i s hs
    obtain⟨v,d',h',h1,h2⟩:=H B d
    refine upon_value (w':=mk B d' h') ?_ (hn _ _ _ (typed_out h2))
    have key:execOp ρ o=s >>= fun x=>(Pure.pure (Next.value x):Sem Next):=by
     simp only [execOp,ho,resolve,hb]
     unfold builtinSem at hs
     split at hs <;> first
      | (simp only [Option.some.injEq] at hs;subst hs;rfl)
      | cases hs
    rw [key]
    exact run_v h1
   ·exact H.elim
  ·rename_i x hx
   cases hex:isExtO P x with
   | true=>
    rw [hex] at H
    obtain⟨v,d',h',h1,h2⟩:=dynE_sound ho hx H B d
    exact upon_value h1 (hn _ _ _ (typed_out h2))
   | false=>
   rw [hex] at H
   simp only [cond_false] at H
   cases hst:isStatic x with
   | true=>
    rw [hst] at H
    obtain⟨nx,h',h1,h2⟩:=wpN_sound H B d
    cases nx with
    | enter f args=>
     rw [h1]
     refine(h2 B d).mono ?_
     rintro e w' ⟨v,d',h'',rfl,rfl,h3⟩
     exact hn _ _ _ (typed_out h3)
    | value v=>exact upon_value h1 (hn _ _ _ h2)
    | _=>exact h2.elim
   | false=>
    rw [hst] at H
    simp only [cond_false] at H
    obtain⟨f,args,h1,h2⟩:=dynF_sound ho hx H
    rw [h2]
    refine(h1 B d).mono ?_
    rintro e w' ⟨v,d',h'',rfl,rfl,h3⟩
    exact hn _ _ _ (typed_out h3)
  ·exact H.elim
 case h_13=>
  obtain⟨nx,h',h1,h2⟩:=wpN_sound H B d
  cases nx with
  | value v=>exact upon_value h1 (hn _ _ _ h2)
  | skip=>exact upon_skip h1 (hn _ _ _ h2)
  | _=>exact h2.elim
theorem stepW_sound {P:Program} {o:Oper} {ρ:Operand→Value} {g:Option Bool} {h:Heap} {K:Value→Heap→Prop} (H:stepW P o ρ g h K) (hg:gok g) (B:World) (d:Nat) {a:Act} {next:Act→World→Prop} {Q:Exit→Act→World→Prop}
  (hn:∀ v d' h',K v h'→next (a.put o.dst v) (mk B d' h')):o.upon P a next Q ((execOp ρ o).run P (mk B d h)):=by
 unfold stepW at H
 cases hq:isQ P o with
 | true=>
  rw [hq] at H
  obtain⟨v,h1,h2⟩:=stepQ_sound H
  exact upon_value (h2 hg B d) (hn _ _ _ h1)
 | false=>
  rw [hq] at H
  cases g with
  | none=>exact heavyF_sound H B d hn
  | some b=>
   have hb:b=true:=hg
   subst hb
   simp only [cond_false] at H
   unfold heavyG at H
   split at H
   ·rename_i rt hrt
    obtain⟨J,h1,_,h3,h4⟩:=H
    refine heavyF_sound (h1 rfl) B d fun v d' h' hJ=>?_
    obtain⟨v',e1,e2⟩:=both_RT (h3 rfl v h' hJ) h4
    subst e1
    exact hn _ _ _ (e2 _ hJ)
   ·exact H.elim
theorem stepW_false {P:Program} {o:Oper} {ρ:Operand→Value} {h:Heap} {K:Value→Heap→Prop} (H:stepW P o ρ (some false) h K):∃ v,K v h:=by
 unfold stepW at H
 cases hq:isQ P o with
 | true=>
  rw [hq] at H
  obtain⟨v,h1,_⟩:=stepQ_sound H
  exact⟨v,h1⟩
 | false=>
  rw [hq] at H
  simp only [cond_false] at H
  unfold heavyG at H
  split at H
  ·obtain⟨J,_,h2,_,h4⟩:=H
   obtain⟨v,e1,e2⟩:=both_RT (h2 rfl) h4
   exact⟨v,e2 _ e1⟩
  ·exact H.elim
end Go.X
end
section
namespace Go.X
open Go
def condOpt (e:Env):Chain→Option (Option Bool)
 | []=>some none
 | c=>match condE e c with
  | some b=>some (some b)
  | none=>none
theorem condOpt_yes {n:Nat} {e:Env} {a:Act} (hs:Sat n e a) {c:Chain} {g:Option Bool} (h:condOpt e c=some g) (hv:valid (vals a) c):gok g:=by
 unfold condOpt at h
 split at h
 ·simp only [Option.some.injEq] at h;subst h;trivial
 ·split at h
  ·rename_i b hb
   simp only [Option.some.injEq] at h
   subst h
   exact(condE_sound hs hb).2 hv
  ·cases h
theorem condOpt_no {n:Nat} {e:Env} {a:Act} (hs:Sat n e a) {c:Chain} {g:Option Bool} (h:condOpt e c=some g) (hv:¬ valid (vals a) c):g=some false:=by
 unfold condOpt at h
 split at h
 ·exact absurd trivial hv
 ·split at h
  ·rename_i b hb
   simp only [Option.some.injEq] at h
   subst h
   cases b with
   | false=>rfl
   | true=>exact absurd ((condE_sound hs hb).1 rfl) hv
  ·cases h
def pickV (b:Bool):Value→Value→Value
 | .bool x,.bool y=>.bool (bif b then x else y)
 | x,y=>bif b then x else y
theorem pickV_eq (b:Bool) (x y:Value):pickV b x y=if b=true then x else y:=by
 unfold pickV
 split <;> cases b <;> rfl
def orV:Option Value→Option Value→Option Value
 | some v,_=>some v
 | none,w=>w
def pickF (e:Env) (c:Chain) (x a b:Operand) (K:Value→Prop):Prop:=
 match x with
 | .tmp s=>match look e s with
  | some (cs,.bool t)=>bif suf cs c then(match orV (opdAt e c a) (opdAt e ((s,true)::cs) a),orV (opdAt e c b) (opdAt e ((s,false)::cs) b) with
    | some va,some vb=>K (pickV t va vb)
    | _,_=>False) else False
  | _=>False
 | _=>False
theorem pickF_sound {n:Nat} {e:Env} {act:Act} (hs:Sat n e act) {c:Chain} {x a b:Operand} {K:Value→Prop} (H:pickF e c x a b K):
  ∃ v,K v∧(valid (vals act) c→∃ t,act.eval x=.bool t∧(if t=true then act.eval a else act.eval b)=v):=by
 unfold pickF at H
 split at H
 ·rename_i s
  split at H
  ·rename_i cs t hl
   cases hsf:suf cs c with
   | false=>rw [hsf] at H;exact H.elim
   | true=>
    rw [hsf] at H
    simp only [cond_true] at H
    split at H
    ·rename_i va vb ha hb
     refine⟨_,H,fun hv=>⟨t,?_,?_⟩⟩
     ·exact(hs.all _ (look_mem hl)).1 (suf_valid hsf hv)
     ·have hcs:=suf_valid hsf hv
      have hx:vals act s=.bool t:=(hs.all _ (look_mem hl)).1 hcs
      rw [pickV_eq]
      cases t with
      | true=>
       simp only [if_true]
       unfold orV at ha
       split at ha
       ·rename_i v _ h1
        simp only [Option.some.injEq] at ha
        subst ha
        exact opdAt_sound hs hv h1
       ·exact opdAt_sound hs (c:=(s,true)::cs) ⟨hx,hcs⟩ ha
      | false=>
       simp only [Bool.false_eq_true,if_false]
       unfold orV at hb
       split at hb
       ·rename_i v _ h1
        simp only [Option.some.injEq] at hb
        subst hb
        exact opdAt_sound hs hv h1
       ·exact opdAt_sound hs (c:=(s,false)::cs) ⟨hx,hcs⟩ hb
    ·exact H.elim
  ·exact H.elim
 ·exact H.elim
def opW (P:Program) (o:Oper) (e:Env) (c:Chain) (h:Heap) (K:Value→Heap→Prop):Prop:=
 match o.op with
 | .pick x a b=>pickF e c x a b fun v=>K v h
 | _=>bif noSel o.op then(bif known e c o.op.operands.toList then(match condOpt e c with
   | some g=>stepW P o (rho e c) g h K
   | none=>False) else False) else False
def wR (P:Program) (n:Nat) (ops:Array Oper) (K:Env→Heap→Prop):List Oper→Env→Heap→Prop
 | [],e,h=>K (clean e) h
 | o::rest,e,h=>match chainOf ops e o.guard with
  | some c=>bif okDst n c o.dst then opW P o e c h fun v h'=>wR P n ops K rest (putO e o.dst c v) h' else False
  | none=>False
theorem opW_yes {P:Program} {n:Nat} {o:Oper} {e:Env} {a:Act} {c:Chain} {h:Heap} {K:Value→Heap→Prop} (H:opW P o e c h K) (hs:Sat n e a) (hv:valid (vals a) c) (B:World) (d:Nat)
  {next:Act→World→Prop} {Q:Exit→Act→World→Prop} (hn:∀ v d' h',K v h'→next (a.put o.dst v) (mk B d' h')):o.wp P a (mk B d h) next Q:=by
 unfold opW at H
 unfold Oper.wp
 split at H
 ·rename_i x y z ho
  obtain⟨v,h1,h2⟩:=pickF_sound hs H
  obtain⟨t,h3,h4⟩:=h2 hv
  refine upon_value (w':=mk B d h) (v:=v) ?_ (hn _ _ _ h1)
  simp only [execOp,ho,h3,asBool,Sem.run_bind,Sem.run_pure,Result.andThen_ok]
  rw [h4]
 ·cases hns:noSel o.op with
  | false=>rw [hns] at H;exact H.elim
  | true=>
   rw [hns] at H
   cases hk:known e c o.op.operands.toList with
   | false=>rw [hk] at H;exact H.elim
   | true=>
    rw [hk] at H
    simp only [cond_true] at H
    split at H
    ·rename_i g hg
     rw [exec_rho hs hv hns hk]
     exact stepW_sound H (condOpt_yes hs hg hv) B d hn
    ·exact H.elim
theorem opW_no {P:Program} {n:Nat} {o:Oper} {e:Env} {a:Act} {c:Chain} {h:Heap} {K:Value→Heap→Prop} (H:opW P o e c h K) (hs:Sat n e a) (hv:¬ valid (vals a) c):∃ v,K v h:=by
 unfold opW at H
 split at H
 ·obtain⟨v,h1,_⟩:=pickF_sound hs H
  exact⟨v,h1⟩
 ·cases hns:noSel o.op with
  | false=>rw [hns] at H;exact H.elim
  | true=>
   rw [hns] at H
   cases hk:known e c o.op.operands.toList with
   | false=>rw [hk] at H;exact H.elim
   | true=>
    rw [hk] at H
    simp only [cond_true] at H
    split at H
    ·rename_i g hg
     rw [condOpt_no hs hg hv] at H
     exact stepW_false H
    ·exact H.elim
def dsts:List Oper→List Nat
 | []=>[]
 | o::l=>match o.dst with
  | some d=>d::dsts l
  | none=>dsts l
def Same (ms:List Nat) (a b:Act):Prop:=∀ i,i∉ms→vals b i=vals a i
theorem Same.refl (ms:List Nat) (a:Act):Same ms a a:=fun _ _=>rfl
theorem Same.trans {ms:List Nat} {a b c:Act} (h:Same ms a b) (k:Same ms b c):Same ms a c:=fun i hi=>(k i hi).trans (h i hi)
theorem Same.mono {ms ms':List Nat} {a b:Act} (h:Same ms a b) (hs:∀ x∈ms,x∈ms'):Same ms' a b:=fun i hi=>h i fun hm=>hi (hs i hm)
theorem Same.put (a:Act) (d:Option Nat) (v:Value) {ms:List Nat} (h:∀ i,d=some i→i∈ms):Same ms a (a.put d v):=by
 intro i hi
 cases d with
 | none=>rfl
 | some j=>exact vals_put_ne fun e=>hi (e ▸ h j rfl)
theorem wR_sound {P:Program} {n:Nat} {ops:Array Oper} {K:Env→Heap→Prop} {Q:Exit→Act→World→Prop} (B:World):
  ∀ (l:List Oper) (e:Env) (h:Heap) (a:Act) (d:Nat),wR P n ops K l e h→Sat n e a→(∀ e' a' d' h',Sat n e' a'→Same (dsts l) a a'→K e' h'→Q .normal a' (mk B d' h'))→wpList P ops Q l a (mk B d h)
 | [],e,h,a,d,H,hs,hQ=>hQ _ _ _ _ hs.clean (Same.refl _ _) H
 | o::rest,e,h,a,d,H,hs,hQ=>by
  unfold wR at H
  split at H
  ·rename_i c hc
   cases hd:okDst n c o.dst with
   | false=>rw [hd] at H;exact H.elim
   | true=>
    rw [hd] at H
    simp only [cond_true] at H
    have hw:=wanted_sound hs hc
    have hsub:∀ i,o.dst=some i→i∈dsts (o::rest):=fun i hi=>by simp [dsts,hi]
    have hmore:∀ x∈dsts rest,x∈dsts (o::rest):=fun x hx=>by
     unfold dsts
     split
     ·exact List.mem_cons_of_mem _ hx
     ·exact hx
    have goOn:∀ v u d' h',(valid (vals a) c→u=v)→(¬ valid (vals a) c→u=undef)→wR P n ops K rest (putO e o.dst c v) h'→wpList P ops Q rest (a.put o.dst u) (mk B d' h'):=fun v u d' h' h1 h2 h3=>
     wR_sound B rest _ _ _ _ h3 (hs.putO hd h1 h2) fun e' a' d'' h'' q1 q2 q3=>hQ e' a' d'' h'' q1 ((Same.put a o.dst u hsub).trans (q2.mono hmore)) q3
    unfold wpList
    by_cases hv:valid (vals a) c
    ·rw [if_pos (hw.2 hv)]
     exact .inl (opW_yes H hs hv B d fun v d' h' hK=>goOn v v d' h' (fun _=>rfl) (fun hv'=>absurd hv hv') hK)
    ·rw [if_neg (fun hx=>hv (hw.1 hx))]
     obtain⟨v,hK⟩:=opW_no H hs hv
     exact goOn v undef d h (fun hv'=>absurd hv' hv) (fun _=>rfl) hK
  ·exact H.elim
def callQ (P:Program) (o:Oper) (ρ:Operand→Value) (g:Option Bool) (h:Heap) (K:Value→Prop):Prop:=
 match o.op with
 | .call c=>match c.callee with
  | .value x=>bif isStatic x then(match evalPure P (execOp ρ o) with
    | some (.enter f args)=>match rtOf P o.type with
     | some rt=>exRT rt fun v=>req g (XC P f args h fun v' h'=>v'=v∧h'=h)∧K v
     | none=>False
    | _=>False) else(match rtOf P o.type with
     | some rt=>exRT rt fun v=>req g (dynF P (ρ x) (c.args.map ρ) fun f args=>XC P f args h fun v' h'=>v'=v∧h'=h)∧K v
     | none=>False)
  | _=>False
 | _=>False
theorem callQ_sound {P:Program} {o:Oper} {ρ:Operand→Value} {g:Option Bool} {h:Heap} {K:Value→Prop} (H:callQ P o ρ g h K):
  ∃ v,K v∧(gok g→∃ f args,(∀ w,(execOp ρ o).run P w=.ok (.enter f args) w)∧XC P f args h fun v' h'=>v'=v∧h'=h):=by
 unfold callQ at H
 split at H
 ·rename_i c ho
  split at H
  ·rename_i x hx
   cases hst:isStatic x with
   | true=>
    rw [hst] at H
    simp only [cond_true] at H
    split at H
    ·rename_i f args he
     split at H
     ·obtain⟨v,h1,h2⟩:=some_RT H
      exact⟨v,h2,fun hg=>⟨f,args,fun w=>evalPure_run he w,h1.out hg⟩⟩
     ·exact H.elim
    ·exact H.elim
   | false=>
    rw [hst] at H
    simp only [cond_false] at H
    split at H
    ·obtain⟨v,h1,h2⟩:=some_RT H
     refine⟨v,h2,fun hg=>?_⟩
     obtain⟨f,args,h3,h4⟩:=dynF_sound ho hx (h1.out hg)
     exact⟨f,args,h4,h3⟩
    ·exact H.elim
  ·exact H.elim
 ·exact H.elim
def isCall (o:Oper):Bool:=match o.op with
 | .call c=>match c.callee with
  | .builtin _=>false
  | _=>true
 | _=>false
def opQ (P:Program) (o:Oper) (e:Env) (c:Chain) (h:Heap) (calls:Bool) (K:Value→Prop):Prop:=
 match o.op with
 | .pick x a b=>pickF e c x a b K
 | _=>bif noSel o.op then(bif known e c o.op.operands.toList then(match condOpt e c with
   | some g=>bif isCall o then(bif calls then callQ P o (rho e c) g h K else False) else stepQ P o (rho e c) g h K
   | none=>False) else False) else False
def wQ (P:Program) (n:Nat) (ops:Array Oper) (h:Heap) (calls:Bool) (K:Env→Prop):List Oper→Env→Prop
 | [],e=>K e
 | o::rest,e=>match chainOf ops e o.guard with
  | some c=>bif okDst n c o.dst then opQ P o e c h calls fun v=>wQ P n ops h calls K rest (putO e o.dst c v) else False
  | none=>False
def YQ (P:Program) (o:Oper) (a:Act) (B:World) (h:Heap) (calls:Bool) (v:Value):Prop:=
 (∀ d,(execOp a.eval o).run P (mk B d h)=.ok (.value v) (mk B d h)) ∨
 (calls=true∧∃ f args,(∀ d,(execOp a.eval o).run P (mk B d h)=.ok (.enter f args) (mk B d h))∧XC P f args h fun v' h'=>v'=v∧h'=h)
theorem opQ_sound {P:Program} {n:Nat} {o:Oper} {e:Env} {a:Act} {c:Chain} {h:Heap} {calls:Bool} {K:Value→Prop} (H:opQ P o e c h calls K) (hs:Sat n e a) (B:World):
  ∃ v,K v∧(valid (vals a) c→YQ P o a B h calls v):=by
 unfold opQ at H
 split at H
 ·rename_i x y z ho
  obtain⟨v,h1,h2⟩:=pickF_sound hs H
  refine⟨v,h1,fun hv=>?_⟩
  obtain⟨t,h3,h4⟩:=h2 hv
  refine .inl fun d=>?_
  simp only [execOp,ho,h3,asBool,Sem.run_bind,Sem.run_pure,Result.andThen_ok]
  rw [h4]
 ·cases hns:noSel o.op with
  | false=>rw [hns] at H;exact H.elim
  | true=>
   rw [hns] at H
   cases hk:known e c o.op.operands.toList with
   | false=>rw [hk] at H;exact H.elim
   | true=>
    rw [hk] at H
    simp only [cond_true] at H
    split at H
    ·rename_i g hg
     cases hc:isCall o with
     | false=>
      rw [hc] at H
      obtain⟨v,h1,h2⟩:=stepQ_sound H
      refine⟨v,h1,fun hv=>.inl fun d=>?_⟩
      rw [exec_rho hs hv hns hk]
      exact h2 (condOpt_yes hs hg hv) B d
     | true=>
      rw [hc] at H
      cases calls with
      | false=>exact H.elim
      | true=>
       simp only [cond_true] at H
       obtain⟨v,h1,h2⟩:=callQ_sound H
       refine⟨v,h1,fun hv=>?_⟩
       obtain⟨f,args,h3,h4⟩:=h2 (condOpt_yes hs hg hv)
       refine .inr ⟨rfl,f,args,fun d=>?_,h4⟩
       rw [exec_rho hs hv hns hk]
       exact h3 _
    ·exact H.elim
theorem wQ_quiet {P:Program} {n:Nat} {ops:Array Oper} {h:Heap} {calls:Bool} {K:Env→Prop} {Q:Act→Prop} (B:World):
  ∀ (l:List Oper) (e:Env) (a:Act),wQ P n ops h calls K l e→Sat n e a→(∀ e' a',Sat n e' a'→Same (dsts l) a a'→K e'→Q a')→wpQuiet P ops (fun w=>∃ d,w=mk B d h) Q l a
 | [],e,a,H,hs,hQ=>hQ _ _ hs (Same.refl _ _) H
 | o::rest,e,a,H,hs,hQ=>by
  unfold wQ at H
  split at H
  ·rename_i c hc
   cases hd:okDst n c o.dst with
   | false=>rw [hd] at H;exact H.elim
   | true=>
    rw [hd] at H
    simp only [cond_true] at H
    have hw:=wanted_sound hs hc
    have hsub:∀ i,o.dst=some i→i∈dsts (o::rest):=fun i hi=>by simp [dsts,hi]
    have hmore:∀ x∈dsts rest,x∈dsts (o::rest):=fun x hx=>by
     unfold dsts
     split
     ·exact List.mem_cons_of_mem _ hx
     ·exact hx
    obtain⟨v,hK,hy⟩:=opQ_sound H hs B
    have goOn:∀ u,(valid (vals a) c→u=v)→(¬ valid (vals a) c→u=undef)→wpQuiet P ops (fun w=>∃ d,w=mk B d h) Q rest (a.put o.dst u):=fun u h1 h2=>
     wQ_quiet B rest _ _ hK (hs.putO hd h1 h2) fun e' a' q1 q2 q3=>hQ e' a' q1 ((Same.put a o.dst u hsub).trans (q2.mono hmore)) q3
    unfold wpQuiet
    by_cases hv:valid (vals a) c
    ·rw [if_pos (hw.2 hv)]
     refine⟨v,?_,goOn v (fun _=>rfl) (fun hv'=>absurd hv hv')⟩
     rintro w ⟨d,rfl⟩
     unfold Oper.quietAt
     rcases hy hv with h1 | ⟨_,f,args,h1,h2⟩
     ·rw [h1 d];exact⟨rfl,rfl⟩
     ·rw [h1 d]
      refine⟨rfl,(h2 B d).mono ?_⟩
      rintro e' w'' ⟨v',d',h',rfl,rfl,rfl,rfl⟩
      exact⟨rfl,d',rfl⟩
    ·rw [if_neg (fun hx=>hv (hw.1 hx))]
     exact goOn undef (fun hv'=>absurd hv' hv) (fun _=>rfl)
  ·exact H.elim
def callK (P:Program) (o:Oper) (ρ:Operand→Value) (g:Option Bool) (h:Heap) (K:Value→Prop):Prop:=
 match o.op with
 | .call c=>match c.callee with
  | .value x=>bif isStatic x then(match evalPure P (execOp ρ o) with
    | some (.enter f args)=>match rtOf P o.type with
     | some rt=>exRT rt fun v=>req g (∀ h1,Keep h.size h h1→XC P f args h1 fun v' h'=>v'=v∧Keep h1.size h1 h')∧K v
     | none=>False
    | _=>False) else False
  | _=>False
 | _=>False
theorem callK_sound {P:Program} {o:Oper} {ρ:Operand→Value} {g:Option Bool} {h:Heap} {K:Value→Prop} (H:callK P o ρ g h K):
  ∃ v,K v∧(gok g→∃ f args,(∀ w,(execOp ρ o).run P w=.ok (.enter f args) w)∧∀ h1,Keep h.size h h1→XC P f args h1 fun v' h'=>v'=v∧Keep h1.size h1 h'):=by
 unfold callK at H
 split at H
 ·split at H
  ·rename_i x _
   cases hx:isStatic x with
   | false=>rw [hx] at H;exact H.elim
   | true=>
    rw [hx] at H
    simp only [cond_true] at H
    split at H
    ·rename_i f args hv
     split at H
     ·obtain⟨v,h1,h2⟩:=some_RT H
      exact⟨v,h2,fun hg=>⟨f,args,fun w=>evalPure_run hv w,h1.out hg⟩⟩
     ·exact H.elim
    ·exact H.elim
  ·exact H.elim
 ·exact H.elim
def opK (P:Program) (o:Oper) (e:Env) (c:Chain) (h:Heap) (K:Value→Prop):Prop:=
 match o.op with
 | .pick x a b=>pickF e c x a b K
 | _=>bif noSel o.op then(bif known e c o.op.operands.toList then(match condOpt e c with
   | some g=>bif isCall o then callK P o (rho e c) g h K else bif famOk o then stepQ P o (rho e c) g h K else False
   | none=>False) else False) else False
def wK (P:Program) (n:Nat) (ops:Array Oper) (h:Heap) (K:Env→Prop):List Oper→Env→Prop
 | [],e=>K e
 | o::rest,e=>match chainOf ops e o.guard with
  | some c=>bif okDst n c o.dst then opK P o e c h fun v=>wK P n ops h K rest (putO e o.dst c v) else False
  | none=>False
def YK (P:Program) (o:Oper) (a:Act) (B:World) (h:Heap) (v:Value):Prop:=
 (∀ d h',Keep h.size h h'→(execOp a.eval o).run P (mk B d h')=.ok (.value v) (mk B d h')) ∨
 (∃ f args,(∀ d h',(execOp a.eval o).run P (mk B d h')=.ok (.enter f args) (mk B d h'))∧∀ h1,Keep h.size h h1→XC P f args h1 fun v' h'=>v'=v∧Keep h1.size h1 h')
theorem opK_sound {P:Program} {n:Nat} {o:Oper} {e:Env} {a:Act} {c:Chain} {h:Heap} {K:Value→Prop} (H:opK P o e c h K) (hs:Sat n e a) (B:World):
  ∃ v,K v∧(valid (vals a) c→YK P o a B h v):=by
 unfold opK at H
 split at H
 ·rename_i x y z ho
  obtain⟨v,h1,h2⟩:=pickF_sound hs H
  refine⟨v,h1,fun hv=>?_⟩
  obtain⟨t,h3,h4⟩:=h2 hv
  refine .inl fun d h' _=>?_
  simp only [execOp,ho,h3,asBool,Sem.run_bind,Sem.run_pure,Result.andThen_ok]
  rw [h4]
 ·cases hns:noSel o.op with
  | false=>rw [hns] at H;exact H.elim
  | true=>
   rw [hns] at H
   cases hk:known e c o.op.operands.toList with
   | false=>rw [hk] at H;exact H.elim
   | true=>
    rw [hk] at H
    simp only [cond_true] at H
    split at H
    ·rename_i g hg
     cases hc:isCall o with
     | false=>
      rw [hc] at H
      cases hf:famOk o with
      | false=>rw [hf] at H;exact H.elim
      | true=>
       rw [hf] at H
       obtain⟨v,h1,h2⟩:=stepQ_keep hf H
       refine⟨v,h1,fun hv=>.inl fun d h' hk'=>?_⟩
       rw [exec_rho hs hv hns hk]
       exact h2 (condOpt_yes hs hg hv) h' hk' B d
     | true=>
      rw [hc] at H
      obtain⟨v,h1,h2⟩:=callK_sound H
      refine⟨v,h1,fun hv=>?_⟩
      obtain⟨f,args,h3,h4⟩:=h2 (condOpt_yes hs hg hv)
      refine .inr ⟨f,args,fun d h'=>?_,h4⟩
      rw [exec_rho hs hv hns hk]
      exact h3 _
    ·exact H.elim
theorem wK_quiet {P:Program} {n:Nat} {ops:Array Oper} {h:Heap} {K:Env→Prop} {Q:Act→Prop} (B:World):
  ∀ (l:List Oper) (e:Env) (a:Act),wK P n ops h K l e→Sat n e a→(∀ e' a',Sat n e' a'→Same (dsts l) a a'→K e'→Q a')→wpQuiet P ops (fun w=>∃ d h',Keep h.size h h'∧w=mk B d h') Q l a
 | [],e,a,H,hs,hQ=>hQ _ _ hs (Same.refl _ _) H
 | o::rest,e,a,H,hs,hQ=>by
  unfold wK at H
  split at H
  ·rename_i c hc
   cases hd:okDst n c o.dst with
   | false=>rw [hd] at H;exact H.elim
   | true=>
    rw [hd] at H
    simp only [cond_true] at H
    have hw:=wanted_sound hs hc
    have hsub:∀ i,o.dst=some i→i∈dsts (o::rest):=fun i hi=>by simp [dsts,hi]
    have hmore:∀ x∈dsts rest,x∈dsts (o::rest):=fun x hx=>by
     unfold dsts
     split
     ·exact List.mem_cons_of_mem _ hx
     ·exact hx
    obtain⟨v,hK,hy⟩:=opK_sound H hs B
    have goOn:∀ u,(valid (vals a) c→u=v)→(¬ valid (vals a) c→u=undef)→wpQuiet P ops (fun w=>∃ d h',Keep h.size h h'∧w=mk B d h') Q rest (a.put o.dst u):=fun u h1 h2=>
     wK_quiet B rest _ _ hK (hs.putO hd h1 h2) fun e' a' q1 q2 q3=>hQ e' a' q1 ((Same.put a o.dst u hsub).trans (q2.mono hmore)) q3
    unfold wpQuiet
    by_cases hv:valid (vals a) c
    ·rw [if_pos (hw.2 hv)]
     refine⟨v,?_,goOn v (fun _=>rfl) (fun hv'=>absurd hv hv')⟩
     rintro w ⟨d,h0,hk0,rfl⟩
     unfold Oper.quietAt
     rcases hy hv with h1 | ⟨f,args,h1,h2⟩
     ·rw [h1 d h0 hk0];exact⟨rfl,rfl⟩
     ·rw [h1 d h0]
      refine⟨rfl,(h2 h0 hk0 B d).mono ?_⟩
      rintro e' w'' ⟨v',d',h',rfl,rfl,rfl,hk1⟩
      exact⟨rfl,d',h',hk0.trans hk1 hk0.size,rfl⟩
    ·rw [if_neg (fun hx=>hv (hw.1 hx))]
     exact goOn undef (fun hv'=>absurd hv' hv) (fun _=>rfl)
  ·exact H.elim
theorem wQ_still {P:Program} {n:Nat} {ops:Array Oper} {h:Heap} {K:Env→Prop} {Q:Act→Prop} (B:World) (d:Nat):
  ∀ (l:List Oper) (e:Env) (a:Act),wQ P n ops h false K l e→Sat n e a→(∀ e' a',Sat n e' a'→Same (dsts l) a a'→K e'→Q a')→wpStill P ops (mk B d h) Q l a
 | [],e,a,H,hs,hQ=>hQ _ _ hs (Same.refl _ _) H
 | o::rest,e,a,H,hs,hQ=>by
  unfold wQ at H
  split at H
  ·rename_i c hc
   cases hd:okDst n c o.dst with
   | false=>rw [hd] at H;exact H.elim
   | true=>
    rw [hd] at H
    simp only [cond_true] at H
    have hw:=wanted_sound hs hc
    have hsub:∀ i,o.dst=some i→i∈dsts (o::rest):=fun i hi=>by simp [dsts,hi]
    have hmore:∀ x∈dsts rest,x∈dsts (o::rest):=fun x hx=>by
     unfold dsts
     split
     ·exact List.mem_cons_of_mem _ hx
     ·exact hx
    obtain⟨v,hK,hy⟩:=opQ_sound H hs B
    have goOn:∀ u,(valid (vals a) c→u=v)→(¬ valid (vals a) c→u=undef)→wpStill P ops (mk B d h) Q rest (a.put o.dst u):=fun u h1 h2=>
     wQ_still B d rest _ _ hK (hs.putO hd h1 h2) fun e' a' q1 q2 q3=>hQ e' a' q1 ((Same.put a o.dst u hsub).trans (q2.mono hmore)) q3
    unfold wpStill
    by_cases hv:valid (vals a) c
    ·rw [if_pos (hw.2 hv)]
     unfold Oper.still
     rcases hy hv with h1 | ⟨h0,_⟩
     ·rw [h1 d,Oper.stillUpon_value];exact goOn v (fun _=>rfl) (fun hv'=>absurd hv hv')
     ·cases h0
    ·rw [if_neg (fun hx=>hv (hw.1 hx))]
     exact goOn undef (fun hv'=>absurd hv' hv) (fun _=>rfl)
  ·exact H.elim
end Go.X
end
section
namespace Go.X
open Go
set_option linter.unusedVariables false
def memN:List Nat→Nat→Bool
 | [],_=>false
 | j::l,i=>bif Nat.beq i j then true else memN l i
theorem memN_false {l:List Nat} {i:Nat} (h:memN l i=false):i∉l:=by
 induction l with
 | nil=>simp
 | cons j l ih=>
  simp only [memN] at h
  by_cases hb:Nat.beq i j=true
  ·simp [hb] at h
  ·simp only [hb,cond_false] at h
   simp only [List.mem_cons,not_or]
   exact⟨fun e=>hb (by rw [e];simp),ih h⟩
def tmpsOf:List Operand→List Nat
 | []=>[]
 | .tmp t::l=>t::tmpsOf l
 | _::l=>tmpsOf l
def opSlots (ops:Array Oper) (o:Oper):List Nat:=(match o.guard with
 | some (j,_)=>match dstOf ops j with
  | some g=>[g]
  | none=>[]
 | none=>[])++tmpsOf o.op.operands.toList
def slotsOK (ops:Array Oper) (k:Nat) (S:List Nat):Nat→Bool
 | 0=>true
 | p+1=>bif (match dstOf ops p with
  | some t=>bif memN S t then Region.waitsFor .any ops k p else true
  | none=>true) then slotsOK ops k S p else false
theorem slotsOK_spec {ops:Array Oper} {k:Nat} {S:List Nat}:∀ {m:Nat},slotsOK ops k S m=true→∀ p t,p < m→dstOf ops p=some t→t∈S→Region.waitsFor .any ops k p=true
 | 0,_,p,t,hp,_,_=>by omega
 | m+1,h,p,t,hp,hd,ht=>by
  simp only [slotsOK] at h
  cases hb:(match dstOf ops m with
   | some t=>bif memN S t then Region.waitsFor .any ops k m else true
   | none=>true) with
  | false=>rw [hb] at h;cases h
  | true=>
   rw [hb] at h
   rcases Nat.lt_or_ge p m with h1 | h1
   ·exact slotsOK_spec h p t h1 hd ht
   ·have:p=m:=by omega
    subst this
    rw [hd] at hb
    simp only at hb
    cases hm:memN S t with
    | false=>exact absurd ht (memN_false hm)
    | true=>rw [hm] at hb;exact hb
def edgesBack (ops:Array Oper):Nat→Bool
 | 0=>true
 | j+1=>bif (match ops[j]? with
  | some o=>o.after.toList.all fun e=>!(Region.binds .any e) || Nat.blt e.on j
  | none=>true) then edgesBack ops j else false
theorem edgesBack_spec {ops:Array Oper}:∀ {n:Nat},edgesBack ops n=true→∀ j o,j < n→ops[j]?=some o→∀ e∈o.after,Region.binds .any e=true→e.on < j
 | 0,_,j,_,hj,_,_,_,_=>by omega
 | n+1,h,j,o,hj,ho,e,he,hb=>by
  simp only [edgesBack] at h
  cases hc:(match ops[n]? with
   | some o=>o.after.toList.all fun e=>!(Region.binds .any e) || Nat.blt e.on n
   | none=>true) with
  | false=>rw [hc] at h;cases h
  | true=>
   rw [hc] at h
   rcases Nat.lt_or_ge j n with h1 | h1
   ·exact edgesBack_spec h j o h1 ho e he hb
   ·have:j=n:=by omega
    subst this
    rw [ho] at hc
    have:=List.all_eq_true.1 hc e (by simpa using he)
    rw [hb] at this
    simpa [Nat.blt_eq] using this
def dstIn (ops:Array Oper) (d:Nat):Nat→Bool
 | 0=>false
 | p+1=>bif (match dstOf ops p with
  | some t=>Nat.beq t d
  | none=>false) then true else dstIn ops d p
def ndDsts (ops:Array Oper):Nat→Bool
 | 0=>true
 | p+1=>bif (match dstOf ops p with
  | some t=>!(dstIn ops t p)
  | none=>true) then ndDsts ops p else false
theorem dstIn_spec {ops:Array Oper} {d:Nat}:∀ {m:Nat},dstIn ops d m=false→∀ p,p < m→dstOf ops p≠some d
 | 0,_,p,hp=>by omega
 | m+1,h,p,hp=>by
  simp only [dstIn] at h
  cases hb:(match dstOf ops m with
   | some t=>Nat.beq t d
   | none=>false) with
  | true=>rw [hb] at h;cases h
  | false=>
   rw [hb] at h
   rcases Nat.lt_or_ge p m with h1 | h1
   ·exact dstIn_spec h p h1
   ·have:p=m:=by omega
    subst this
    intro e
    rw [e] at hb
    simp at hb
theorem ndDsts_spec {ops:Array Oper}:∀ {m:Nat},ndDsts ops m=true→∀ p q t,p < m→q < m→dstOf ops p=some t→dstOf ops q=some t→p=q
 | 0,_,p,q,t,hp,_,_,_=>by omega
 | m+1,h,p,q,t,hp,hq,e1,e2=>by
  simp only [ndDsts] at h
  cases hb:(match dstOf ops m with
   | some t=>!(dstIn ops t m)
   | none=>true) with
  | false=>rw [hb] at h;cases h
  | true=>
   rw [hb] at h
   rcases Nat.lt_or_ge p m with h1 | h1 <;> rcases Nat.lt_or_ge q m with h2 | h2
   ·exact ndDsts_spec h p q t h1 h2 e1 e2
   ·have:q=m:=by omega
    subst this
    rw [e2] at hb
    simp only [Bool.not_eq_true'] at hb
    exact absurd e1 (dstIn_spec hb p h1)
   ·have:p=m:=by omega
    subst this
    rw [e1] at hb
    simp only [Bool.not_eq_true'] at hb
    exact absurd e2 (dstIn_spec hb q h2)
   ·omega
def quietM (o:Oper):Option Bool:=match o.op with
 | .fieldAddr _ _ _=>some true
 | .indexAddr _ _ _=>some true
 | .move _=>some true
 | .assign _=>match o.after.toList with
  | []=>some true
  | _=>none
 | .nilCheck _=>some true
 | .slice _ _ _ _ _=>some true
 | .binOp _ _ _ _ _=>some true
 | .load _ _=>some false
 | _=>none
def isQuietM (o:Oper):Bool:=match quietM o with
 | some _=>true
 | none=>false
def isLoadM (o:Oper):Bool:=match quietM o with
 | some b=>!b
 | none=>false
def heavyL:Nat→List Oper→List Nat
 | _,[]=>[]
 | k,o::l=>bif isQuietM o then heavyL (k+1) l else k::heavyL (k+1) l
def chainL (ops:Array Oper):List Nat→Bool
 | []=>true
 | [_]=>true
 | i::j::l=>bif Region.waitsFor .any ops j i then chainL ops (j::l) else false
def awaited (ops:Array Oper) (i:Nat):List Nat→Bool
 | []=>false
 | j::l=>bif Region.waitsFor .any ops j i then true else awaited ops i l
def lateB (ops:Array Oper) (T:List Nat):Nat→Bool
 | 0=>false
 | k+1=>bif (match ops[k]? with
  | some o=>bif isLoadM o then !(awaited ops k T) else false
  | none=>false) then true else lateB ops T k
def reachB (ops:Array Oper) (T:List Nat):Nat→Nat→Bool
 | 0,k=>memN T k
 | f+1,k=>bif memN T k then true else(List.range ops.size).any fun p=>bif Region.waitsFor .any ops p k then reachB ops T f p else false
def lateC (ops:Array Oper) (T:List Nat):Nat→Bool
 | 0=>false
 | k+1=>bif (match ops[k]? with
  | some o=>bif isLoadM o then !(reachB ops T ops.size k) else false
  | none=>false) then true else lateC ops T k
def lateG (tr:Bool) (ops:Array Oper) (T:List Nat) (m:Nat):Bool:=bif tr then lateC ops T m else lateB ops T m
def noGuards (l:List Oper):Bool:=l.all fun o=>match o.guard with
 | none=>noSel o.op
 | some _=>false
def depsOK (ops:Array Oper):Nat→Bool
 | 0=>true
 | k+1=>bif (match ops[k]? with
  | some o=>bif slotsOK ops k (tmpsOf o.op.operands.toList) ops.size then(bif isQuietM o then(heavyL 0 ops.toList).all fun j=>!(Region.waitsFor .any ops k j) || (match dstOf ops j with
   | some t=>!(memN (tmpsOf o.op.operands.toList) t)
   | none=>true) else true) else false
  | none=>true) then depsOK ops k else false
def mixB (ops:Array Oper):Bool:=bif noGuards ops.toList then(bif edgesBack ops ops.size then(bif ndDsts ops ops.size then(bif chainL ops (heavyL 0 ops.toList) then depsOK ops ops.size else false) else false) else false) else false
def wU (P:Program) (n:Nat) (h:Heap) (K:Env→Prop):List Oper→Env→Prop
 | [],e=>K e
 | o::l,e=>bif isQuietM o then(bif okDst n [] o.dst then(bif noSel o.op then(bif known e [] o.op.operands.toList then stepQ P o (rho e []) none h fun v=>wU P n h K l (putO e o.dst [] v) else False) else False) else False) else wU P n h K l e
def wT (P:Program) (n:Nat) (ops:Array Oper) (h0:Heap) (K:Env→Heap→Prop) (tr:Bool):List Nat→List Nat→Env→Heap→Prop
 | _,[],e,h=>K (clean e) h
 | T,j::l,e,h=>match ops[j]? with
  | some o=>bif okDst n [] o.dst then opW P o e [] h fun v h'=>(bif lateG tr ops (j::T) ops.size then Keep h0.size h0 h'∧wT P n ops h0 K tr (j::T) l (putO e o.dst [] v) h' else wT P n ops h0 K tr (j::T) l (putO e o.dst [] v) h') else False
  | none=>False
def putsM:Nat→List Oper→(Nat→Value)→Act→Act
 | _,[],_,a=>a
 | k,o::l,f,a=>putsM (k+1) l f (bif isQuietM o then a.put o.dst (f k) else a)
theorem eval_agree {a b:Act}:∀ {l:List Operand},(∀ t∈tmpsOf l,vals a t=vals b t)→∀ x∈l,a.eval x=b.eval x
 | [],_,x,hx=>by cases hx
 | y::l,h,x,hx=>by
  rcases List.mem_cons.1 hx with rfl | hx
  ·cases x with
   | tmp t=>exact h t (by simp [tmpsOf])
   | const v=>rfl
   | global g=>rfl
   | func f=>rfl
  ·refine eval_agree (l:=l) (fun t ht=>h t ?_) x hx
   cases y <;> simp [tmpsOf,ht]
theorem exec_agree {a b:Act} {o:Oper} (hs:noSel o.op=true) (h:∀ t∈tmpsOf o.op.operands.toList,vals a t=vals b t):execOp a.eval o=execOp b.eval o:=
 execOp_congr o (fun cs b hb=>by rw [hb] at hs;cases hs) fun x hx=>eval_agree h x (by simpa using hx)
theorem cellM_block {h h':Heap} {p:Addr} (e:h'[p.block]?=h[p.block]?) (i:Nat):cellH h' (p.add i)=cellH h (p.add i):=by
 have hb:(p.add i).block=p.block:=by unfold Addr.add;split <;> rfl
 unfold cellH;rw [hb,e]
theorem ldListM_block {h h':Heap} {p:Addr} (e:h'[p.block]?=h[p.block]?):∀ {vs:List Value} {i:Nat},ldList h p i vs→ldList h' p i vs
 | [],_,_=>trivial
 | v::vs,i,⟨h1,h2⟩=>⟨(cellM_block e i).trans h1,ldListM_block e h2⟩
theorem loadF_block {P:Program} {h:Heap} {t:TypeId} {x:Value} {K:Value→Prop} (H:loadF P h t x none K):∃ v p,x=.pointer (some p)∧K v∧∀ h',h'[p.block]?=h[p.block]?→QExec P (Instr.loadAt t x) h' v:=by
 unfold loadF at H
 split at H
 ·rename_i q a hv
  obtain⟨x,h1,h2⟩:=H
  refine⟨_,q,rfl,h2,fun h' e=>load_one hv ?_⟩
  have h1:cellH h q=some _:=h1
  unfold cellH at h1 ⊢
  rw [e];exact h1
 ·rename_i q l hv
  obtain⟨vs,h0,⟨h1,h2⟩,_⟩:=both_atoms H (all_atoms_true l)
  exact⟨_,q,rfl,h2,fun h' e=>load_agg hv h0 (ldListM_block e h1)⟩
 ·exact H.elim
def LdOK (o:Oper) (ρ:Operand→Value) (h h':Heap):Prop:=isLoadM o=false∨Keep h.size h h'∨∀ t a p,o.op=.load t a→ρ a=.pointer (some p)→h'[p.block]?=h[p.block]?
theorem LdOK.congr {o:Oper} {ρ ρ':Operand→Value} {h h':Heap} (e:∀ x∈o.op.operands.toList,ρ' x=ρ x) (H:LdOK o ρ h h'):LdOK o ρ' h h':=by
 rcases H with H | H | H
 ·exact .inl H
 ·exact .inr (.inl H)
 ·refine .inr (.inr fun t a p ho hp=>H t a p ho ?_)
  rw [← e a (by rw [ho];simp [Op.operands])];exact hp
theorem quiet_fact {P:Program} {o:Oper} (hq:isQuietM o=true) {ρ:Operand→Value} {h:Heap} {K:Value→Prop} (H:stepQ P o ρ none h K):
  ∃ v,K v∧∀ h',LdOK o ρ h h'→QExec P (execOp ρ o) h' (.value v):=by
 cases ho:o.op with
 | load t x=>
  have hfam:famOk o=true:=by unfold famOk;rw [ho]
  obtain⟨v1,k1,k2⟩:=stepQ_keep hfam H
  unfold stepQ at H;rw [ho] at H
  simp only at H
  obtain⟨v,p,hx,h1,h2⟩:=loadF_block H
  have hv:v1=v:=by
   have a1:=k2 trivial h (Keep.refl _ _) default 0
   have a2:QExec P (execOp ρ o) h (.value v):=by simp only [execOp,ho];exact(h2 h rfl).val
   have a2:=a2 default 0
   rw [a1] at a2
   injection a2 with a2 _
   injection a2
  subst hv
  refine⟨v1,k1,fun h' hk=>?_⟩
  rcases hk with hk | hk | hk
  ·unfold isLoadM quietM at hk;rw [ho] at hk;cases hk
  ·exact k2 trivial h' hk
  ·have:=h2 h' (hk t x p ho hx)
   simp only [execOp,ho]
   exact this.val
 | fieldAddr t x i=>
  unfold stepQ at H;rw [ho] at H
  obtain⟨v,h1,h2⟩:=pureF_sound H none
  exact⟨v,h1,fun h' _=>h2 trivial h'⟩
 | indexAddr t x i=>
  unfold stepQ at H;rw [ho] at H
  simp only at H
  cases he:elemOk P t with
  | false=>rw [he] at H;exact H.elim
  | true=>
   rw [he] at H
   obtain⟨v,h1,h2⟩:=indexF_sound (elemOk_some he) H
   refine⟨v,h1,fun h' _=>?_⟩
   simp only [execOp,ho]
   exact(h2 trivial h').val
 | move x=>
  unfold stepQ at H;rw [ho] at H
  obtain⟨v,h1,h2⟩:=pureF_sound H none
  exact⟨v,h1,fun h' _=>h2 trivial h'⟩
 | assign x=>
  unfold stepQ at H;rw [ho] at H
  obtain⟨v,h1,h2⟩:=pureF_sound H none
  exact⟨v,h1,fun h' _=>h2 trivial h'⟩
 | slice t x lo hi mx=>
  unfold stepQ at H;rw [ho] at H
  simp only at H
  cases he:elemOk P t with
  | false=>rw [he] at H;exact H.elim
  | true=>
   rw [he] at H
   obtain⟨v,h1,h2⟩:=sliceF_sound (fun el hel=>elemOk_some he el (Or.inl hel)) H
   refine⟨v,h1,fun h' _=>?_⟩
   simp only [execOp,ho]
   exact(h2 (show gok none from trivial) h').val
 | binOp op t x y t'=>
  unfold stepQ at H;rw [ho] at H
  obtain⟨v,h1,h2⟩:=binF_all ho H
  exact⟨v,h1,fun h' _=>h2 trivial h'⟩
 | nilCheck x=>
  unfold stepQ at H;rw [ho] at H
  simp only at H
  unfold nilF at H
  split at H
  ·rename_i p hx
   obtain⟨a,h1,h2⟩:=H
   have hp:=h1.out (g:=none) trivial
   subst hp
   refine⟨_,h2,fun h' _ B d=>?_⟩
   simp only [execOp,ho,hx]
   rfl
  ·obtain⟨v,h1,h2⟩:=pureF_sound H none
   exact⟨v,h1,fun h' _=>h2 trivial h'⟩
 | _=>unfold isQuietM quietM at hq;rw [ho] at hq;cases hq
theorem valid_nil (σ:Nat→Value):valid σ []:=by unfold valid;trivial
theorem putsM_size:∀ {l:List Oper} {k:Nat} {f:Nat→Value} {a:Act},(putsM k l f a).tmps.size=a.tmps.size∧(putsM k l f a).defers=a.defers
 | [],_,_,_=>⟨rfl,rfl⟩
 | o::l,k,f,a=>by
  unfold putsM
  have:=putsM_size (l:=l) (k:=k+1) (f:=f) (a:=bif isQuietM o then a.put o.dst (f k) else a)
  rw [this.1,this.2]
  cases isQuietM o with
  | true=>exact⟨size_put _ _ _,defers_put _ _ _⟩
  | false=>exact⟨rfl,rfl⟩
theorem vals_putO_ne {a:Act} {d:Option Nat} {u:Value} {s:Nat} (h:d≠some s):vals (a.put d u) s=vals a s:=by
 cases d with
 | none=>rfl
 | some t=>exact vals_put_ne fun e=>h (by rw [e])
theorem putsM_other {s:Nat}:∀ {l:List Oper} {k:Nat} {f:Nat→Value} {a:Act},(∀ o∈l,isQuietM o=true→o.dst≠some s)→vals (putsM k l f a) s=vals a s
 | [],_,_,_,_=>rfl
 | o::l,k,f,a,h=>by
  unfold putsM
  rw [putsM_other fun o' ho'=>h o' (List.mem_cons_of_mem _ ho')]
  cases hq:isQuietM o with
  | true=>exact vals_putO_ne (h o List.mem_cons_self hq)
  | false=>rfl
theorem wU_sound {P:Program} {n:Nat} {h:Heap} {K:Env→Prop}:∀ {l:List Oper} {k:Nat} {e:Env} {a:Act},wU P n h K l e→Sat n e a→∃ (f:Nat→Value) (e':Env),K e'∧Sat n e' (putsM k l f a) ∧
  ∀ i o,l[i]?=some o→isQuietM o=true→noSel o.op=true∧okDst n [] o.dst=true∧∀ h',LdOK o (putsM k (l.take i) f a).eval h h'→QExec P (execOp (putsM k (l.take i) f a).eval o) h' (.value (f (k+i)))
 | [],k,e,a,H,hs=>⟨fun _=>undef,e,H,hs,fun i o h=>by simp at h⟩
 | o::l,k,e,a,H,hs=>by
  unfold wU at H
  cases hq:isQuietM o with
  | false=>
   rw [hq] at H
   obtain⟨f,e',h1,h2,h3⟩:=wU_sound (k:=k+1) H hs
   refine⟨f,e',h1,by unfold putsM;rw [hq];exact h2,fun i o' hi hq'=>?_⟩
   cases i with
   | zero=>simp at hi;subst hi;rw [hq] at hq';cases hq'
   | succ i=>
    have:=h3 i o' (by simpa using hi) hq'
    rw [List.take_succ_cons]
    unfold putsM
    rw [hq,show k+(i+1)=k+1+i by omega];exact this
  | true=>
   rw [hq] at H
   simp only [cond_true] at H
   cases hd:okDst n [] o.dst with
   | false=>rw [hd] at H;exact H.elim
   | true=>
    rw [hd] at H
    simp only [cond_true] at H
    cases hns:noSel o.op with
    | false=>rw [hns] at H;exact H.elim
    | true=>
     rw [hns] at H
     simp only [cond_true] at H
     cases hk:known e [] o.op.operands.toList with
     | false=>rw [hk] at H;exact H.elim
     | true=>
      rw [hk] at H
      simp only [cond_true] at H
      obtain⟨v,H1,H2⟩:=quiet_fact hq H
      obtain⟨f,e',h1,h2,h3⟩:=wU_sound (k:=k+1) (a:=a.put o.dst v) H1 (hs.putO hd (fun _=>rfl) fun hv=>absurd (valid_nil _) hv)
      have hf:∀ (m:List Oper) (j:Nat) (b:Act),putsM (k+1+j) m (fun x=>if x=k then v else f x) b=putsM (k+1+j) m f b:=by
       intro m
       induction m with
       | nil=>intro j b;rfl
       | cons o' m ih=>
        intro j b
        unfold putsM
        dsimp only
        rw [if_neg (show ¬ k+1+j=k by omega),show k+1+j+1=k+1+(j+1) by omega,ih]
      refine⟨fun x=>if x=k then v else f x,e',h1,?_,fun i o' hi hq'=>?_⟩
      ·unfold putsM
       rw [hq,cond_true]
       dsimp only
       rw [if_pos rfl]
       have:=hf l 0 (a.put o.dst v)
       rw [Nat.add_zero] at this
       rw [this];exact h2
      ·cases i with
       | zero=>
        simp at hi;subst hi
        rw [List.take_zero,Nat.add_zero]
        dsimp only
        rw [if_pos rfl]
        refine⟨hns,hd,fun h' hh=>?_⟩
        show QExec P (execOp a.eval o) h' _
        rw [exec_rho hs (valid_nil _) hns hk]
        exact H2 h' (LdOK.congr (fun x hx=>(known_sound hs (valid_nil _) hk x hx).symm) hh)
       | succ i=>
        have:=h3 i o' (by simpa using hi) hq'
        rw [List.take_succ_cons]
        unfold putsM
        rw [hq,cond_true]
        dsimp only
        rw [if_pos rfl]
        have e2:=hf (l.take i) 0 (a.put o.dst v)
        rw [Nat.add_zero] at e2
        rw [e2,if_neg (show ¬ k+(i+1)=k by omega),show k+(i+1)=k+1+i by omega]
        exact this
theorem upon_shift {P:Program} {o:Oper} {a b:Act} {next:Act→World→Prop} {Q:Exit→Act→World→Prop} {r:Result Next} (hb:b.defers=[])
  (H:o.upon P b (fun c w=>c.defers=[]∧∀ v,c=b.put o.dst v→next (a.put o.dst v) w) (fun _ _ _=>False) r):o.upon P a next Q r:=by
 have lo:¬ LetsOut (fun(_:Exit) (_:Act) (_:World)=>False):=fun h=>by
  obtain⟨_,_,h⟩:=h
  exact h
 cases r with
 | ok x w=>
  cases x with
  | value v=>exact H.2 v rfl
  | skip=>exact H.2 undef rfl
  | defer d=>
   have:=H.1
   rw [defers_put] at this;cases this
  | enter f args=>
   refine Calls.mono (show Calls P f args w _ from H) fun e w' he=>?_
   cases e with
   | returned v=>exact he.2 v rfl
   | panicked c=>exact he.elim
   | outgrown=>exact absurd he lo
  | row row args=>exact Rows.mono (show Rows P row args w _ from H) fun v w' he=>he.2 v rfl
  | _=>exact H
 | halt x w=>cases x <;> first | exact H.elim | exact H
theorem heavyL_mem {j:Nat}:∀ {l:List Oper} {k:Nat},j∈heavyL k l↔k≤j∧∃ o,l[j - k]?=some o∧isQuietM o=false
 | [],k=>by simp [heavyL]
 | o::l,k=>by
  unfold heavyL
  cases hq:isQuietM o with
  | true=>
   rw [cond_true,heavyL_mem (l:=l)]
   constructor
   ·rintro⟨h1,o',h2,h3⟩
    exact⟨by omega,o',by rw [show j - k=(j - (k+1))+1 by omega];simpa using h2,h3⟩
   ·rintro⟨h1,o',h2,h3⟩
    rcases Nat.eq_or_lt_of_le h1 with e | e
    ·subst e
     simp at h2;subst h2;rw [hq] at h3;cases h3
    ·exact⟨by omega,o',by rw [show j - k=(j - (k+1))+1 by omega] at h2;simpa using h2,h3⟩
  | false=>
   rw [cond_false,List.mem_cons,heavyL_mem (l:=l)]
   constructor
   ·rintro(rfl | ⟨h1,o',h2,h3⟩)
    ·exact⟨Nat.le_refl _,o,by simp,hq⟩
    ·exact⟨by omega,o',by rw [show j - k=(j - (k+1))+1 by omega];simpa using h2,h3⟩
   ·rintro⟨h1,o',h2,h3⟩
    rcases Nat.eq_or_lt_of_le h1 with e | e
    ·exact .inl e.symm
    ·exact .inr ⟨by omega,o',by rw [show j - k=(j - (k+1))+1 by omega] at h2;simpa using h2,h3⟩
theorem heavyL_nodup:∀ {l:List Oper} {k:Nat},(heavyL k l).Nodup
 | [],_=>List.nodup_nil
 | o::l,k=>by
  unfold heavyL
  cases isQuietM o with
  | true=>exact heavyL_nodup
  | false=>exact List.nodup_cons.2 ⟨fun h=>by have:=(heavyL_mem.1 h).1;omega,heavyL_nodup⟩
theorem depsOK_spec {ops:Array Oper}:∀ {m:Nat},depsOK ops m=true→∀ k o,k < m→ops[k]?=some o→slotsOK ops k (tmpsOf o.op.operands.toList) ops.size=true∧(isQuietM o=true→∀ j∈heavyL 0 ops.toList,Region.waitsFor .any ops k j=true→∀ t,dstOf ops j=some t→t∉tmpsOf o.op.operands.toList)
 | 0,_,k,o,hk,_=>by omega
 | m+1,h,k,o,hk,ho=>by
  unfold depsOK at h
  split at h
  ·rename_i o' ho'
   cases hs:slotsOK ops m (tmpsOf o'.op.operands.toList) ops.size with
   | false=>rw [hs] at h;cases h
   | true=>
    rw [hs,cond_true] at h
    rcases Nat.lt_or_ge k m with h1 | h1
    ·refine depsOK_spec (m:=m) ?_ k o h1 ho
     revert h
     cases(bif isQuietM o' then(heavyL 0 ops.toList).all fun j=>!(Region.waitsFor .any ops m j) || (match dstOf ops j with
      | some t=>!(memN (tmpsOf o'.op.operands.toList) t)
      | none=>true) else true) <;> intro h <;> first | exact h | cases h
    ·have:k=m:=by omega
     subst this
     have:o'=o:=Option.some.inj (ho'.symm.trans ho)
     subst this
     refine⟨hs,fun hq j hj hw t ht=>?_⟩
     rw [hq,cond_true] at h
     cases hall:(heavyL 0 ops.toList).all fun j=>!(Region.waitsFor .any ops k j) || (match dstOf ops j with
      | some t=>!(memN (tmpsOf o'.op.operands.toList) t)
      | none=>true) with
     | false=>rw [hall] at h;cases h
     | true=>
      have:=List.all_eq_true.1 hall j hj
      rw [hw,ht] at this
      simp only [Bool.not_true,Bool.false_or,Bool.not_eq_true'] at this
      exact memN_false this
  ·rename_i ho'
   rw [cond_true] at h
   rcases Nat.lt_or_ge k m with h1 | h1
   ·exact depsOK_spec h k o h1 ho
   ·have:k=m:=by omega
    subst this
    rw [ho'] at ho;cases ho
theorem chainL_spec {ops:Array Oper}:∀ {l:List Nat},chainL ops l=true→∀ q i j,l[q]?=some i→l[q+1]?=some j→Region.waitsFor .any ops j i=true
 | [],_,q,i,j,h,_=>by simp at h
 | [_],_,q,i,j,_,h=>by simp at h
 | a::b::l,h,q,i,j,h1,h2=>by
  unfold chainL at h
  cases hw:Region.waitsFor .any ops b a with
  | false=>rw [hw] at h;cases h
  | true=>
   rw [hw,cond_true] at h
   cases q with
   | zero=>simp at h1 h2;subst h1;subst h2;exact hw
   | succ q=>exact chainL_spec h q i j (by simpa using h1) (by simpa using h2)
theorem awaited_spec {ops:Array Oper} {i:Nat}:∀ {l:List Nat},awaited ops i l=true→∃ j∈l,Region.waitsFor .any ops j i=true
 | [],h=>by cases h
 | j::l,h=>by
  unfold awaited at h
  cases hw:Region.waitsFor .any ops j i with
  | true=>exact⟨j,List.mem_cons_self,hw⟩
  | false=>
   rw [hw,cond_false] at h
   obtain⟨j',h1,h2⟩:=awaited_spec h
   exact⟨j',List.mem_cons_of_mem _ h1,h2⟩
theorem lateB_spec {ops:Array Oper} {T:List Nat}:∀ {m:Nat},lateB ops T m=false→∀ k o,k < m→ops[k]?=some o→isLoadM o=true→awaited ops k T=true
 | 0,_,k,o,hk,_,_=>by omega
 | m+1,h,k,o,hk,ho,hl=>by
  unfold lateB at h
  cases hb:(match ops[m]? with
   | some o=>bif isLoadM o then !(awaited ops m T) else false
   | none=>false) with
  | true=>rw [hb] at h;cases h
  | false=>
   rw [hb,cond_false] at h
   rcases Nat.lt_or_ge k m with h1 | h1
   ·exact lateB_spec h k o h1 ho hl
   ·have:k=m:=by omega
    subst this
    rw [ho] at hb
    simp only [hl,cond_true,Bool.not_eq_false'] at hb
    exact hb
theorem reachB_spec {ops:Array Oper} {T:List Nat}:∀ {f k:Nat},reachB ops T f k=true→∀ {listed:Array Bool},(∀ i p,listed.getD i false=true→Region.waitsFor .any ops i p=true→listed.getD p false=true)→(∀ j∈T,listed.getD j false=true)→listed.getD k false=true
 | 0,k,h,_,_,hT=>by
  have hm:k∈T:=by
   unfold reachB at h
   exact Classical.byContradiction fun hc=>by
    have:memN T k=false:=by
     clear h hT
     induction T with
     | nil=>rfl
     | cons x T ih=>
      simp only [List.mem_cons,not_or] at hc
      simp only [memN]
      have:Nat.beq k x=false:=by
       cases hb:Nat.beq k x with
       | false=>rfl
       | true=>exact absurd (Nat.eq_of_beq_eq_true hb) hc.1
      rw [this,cond_false];exact ih hc.2
    rw [this] at h;cases h
  exact hT k hm
 | f+1,k,h,listed,hc,hT=>by
  unfold reachB at h
  cases hm:memN T k with
  | true=>exact reachB_spec (f:=0) (k:=k) (by unfold reachB;exact hm) hc hT
  | false=>
   rw [hm,cond_false,List.any_eq_true] at h
   obtain⟨p,_,hp⟩:=h
   cases hw:Region.waitsFor .any ops p k with
   | false=>rw [hw] at hp;cases hp
   | true=>rw [hw,cond_true] at hp;exact hc p k (reachB_spec hp hc hT) hw
theorem lateC_spec {ops:Array Oper} {T:List Nat}:∀ {m:Nat},lateC ops T m=false→∀ k o,k < m→ops[k]?=some o→isLoadM o=true→reachB ops T ops.size k=true
 | 0,_,k,o,hk,_,_=>by omega
 | m+1,h,k,o,hk,ho,hl=>by
  unfold lateC at h
  cases hb:(match ops[m]? with
   | some o=>bif isLoadM o then !(reachB ops T ops.size m) else false
   | none=>false) with
  | true=>rw [hb] at h;cases h
  | false=>
   rw [hb,cond_false] at h
   rcases Nat.lt_or_ge k m with h1 | h1
   ·exact lateC_spec h k o h1 ho hl
   ·have:k=m:=by omega
    subst this
    rw [ho] at hb
    simp only [hl,cond_true] at hb
    simpa using hb
theorem waits_done {ops:Array Oper} {listed:Array Bool} {i p:Nat} (hi:i∈Region.ready .any ops listed) (hw:Region.waitsFor .any ops i p=true):listed.getD p false=true:=by
 obtain⟨oj,hoj,e,he,hb,hon⟩:=Region.waitsFor_spec hw
 obtain⟨_,o,ho,hall⟩:=mem_ready.1 hi
 have:oj=o:=Option.some.inj (hoj.symm.trans ho)
 subst this
 rw [← hon];exact hall e he hb
theorem waits_closed {ops:Array Oper} {n:Nat} {listed:Array Bool} (inv:HeadInv .any ops n listed) {i p:Nat} (hi:listed.getD i false=true) (hw:Region.waitsFor .any ops i p=true):listed.getD p false=true:=by
 obtain⟨oj,hoj,e,he,hb,hon⟩:=Region.waitsFor_spec hw
 rw [← hon];exact inv.closed i oj hoj hi e he hb
theorem least_false {p:Nat→Bool} {N:Nat} (h:∃ k,k < N∧p k=false):∃ k,k < N∧p k=false∧∀ j,j < k→p j=true:=by
 obtain⟨k,h1,h2⟩:=h
 induction k using Nat.strongRecOn with
 | _ k ih=>
  by_cases hm:∃ j,j < k∧p j=false
  ·obtain⟨j,h3,h4⟩:=hm
   exact ih j h3 (by omega) h4
  ·exact⟨k,h1,h2,fun j hj=>by
    cases hb:p j with
    | true=>rfl
    | false=>exact absurd ⟨j,hj,hb⟩ hm⟩
theorem mixB_spec {ops:Array Oper} (h:mixB ops=true):noGuards ops.toList=true∧edgesBack ops ops.size=true∧ndDsts ops ops.size=true∧chainL ops (heavyL 0 ops.toList)=true∧depsOK ops ops.size=true:=by
 unfold mixB at h
 cases h1:noGuards ops.toList <;> cases h2:edgesBack ops ops.size <;> cases h3:ndDsts ops ops.size <;> cases h4:chainL ops (heavyL 0 ops.toList) <;> simp [h1,h2,h3,h4] at h ⊢
 exact h
theorem noGuards_spec {l:List Oper} (h:noGuards l=true):∀ o∈l,o.guard=none∧noSel o.op=true:=by
 intro o ho
 have:=List.all_eq_true.1 h o ho
 cases hg:o.guard with
 | none=>rw [hg] at this;exact⟨rfl,this⟩
 | some g=>rw [hg] at this;cases this
theorem putsM_append:∀ {l m:List Oper} {k:Nat} {f:Nat→Value} {a:Act},putsM k (l++m) f a=putsM (k+l.length) m f (putsM k l f a)
 | [],m,k,f,a=>rfl
 | o::l,m,k,f,a=>by
  have e:∀ l',putsM k (o::l') f a=putsM (k+1) l' f (bif isQuietM o then a.put o.dst (f k) else a):=fun _=>rfl
  rw [List.cons_append,e,e,putsM_append,show k+1+l.length=k+(o::l).length by simp;omega]
theorem toL {ops:Array Oper} {i:Nat} {o:Oper} (ho:ops[i]?=some o):ops.toList[i]?=some o:=by rw [Array.getElem?_toList];exact ho
theorem ofL {ops:Array Oper} {i:Nat} {o:Oper} (ho:ops.toList[i]?=some o):ops[i]?=some o:=by rw [Array.getElem?_toList] at ho;exact ho
structure StM (P:Program) (n:Nat) (ops:Array Oper) (h0:Heap) (K:Env→Heap→Prop) (tr:Bool) (f:Nat→Value) (a0:Act) (listed:Array Bool) (a b:Act) (e:Env) (h:Heap) (done todo:List Nat):Prop where
 inv:HeadInv .any ops ops.size listed
 ag:∀ s,(∀ i o,ops[i]?=some o→isQuietM o=true→listed.getD i false=false→o.dst≠some s)→vals a s=vals b s
 sz:a.tmps.size=n
 ad:a.defers=[]
 sb:Sat n e b
 qv:∀ i o t,ops[i]?=some o→isQuietM o=true→o.dst=some t→vals b t=f i∧t < n
 qx:∀ i o,ops[i]?=some o→isQuietM o=true→∀ h',(isLoadM o=false∨Keep h0.size h0 h')→QExec P (execOp b.eval o) h' (.value (f i))
 tt:heavyL 0 ops.toList=done.reverse++todo
 ch:∀ j,j∈heavyL 0 ops.toList→(listed.getD j false=true↔j∈done)
 wt:wT P n ops h0 K tr done todo e h
 kp:∀ i o,ops[i]?=some o→isLoadM o=true→listed.getD i false=false→Keep h0.size h0 h
 sm:Same (dsts ops.toList) a0 a
theorem dsts_mem {o:Oper}:∀ {l:List Oper},o∈l→∀ i,o.dst=some i→i∈dsts l
 | [],h,_,_=>by cases h
 | x::l,h,i,hi=>by
  unfold dsts
  rcases List.mem_cons.1 h with rfl | h
  ·rw [hi];exact List.mem_cons_self
  ·have:=dsts_mem h i hi
   split
   ·exact List.mem_cons_of_mem _ this
   ·exact this
theorem dstOf_some {ops:Array Oper} {k:Nat} {o:Oper} (h:ops[k]?=some o):dstOf ops k=o.dst:=by simp [dstOf,h]
theorem mix_run {P:Program} {n:Nat} {ops:Array Oper} {h0:Heap} {K:Env→Heap→Prop} {Q:Exit→Act→World→Prop} {tr:Bool} (B:World) (hmix:mixB ops=true) {f:Nat→Value} {a0:Act}
  (hQ:∀ e' a' d' h',Sat n e' a'→Same (dsts ops.toList) a0 a'→K e' h'→Q .normal a' (mk B d' h')):
  ∀ (N:Nat) (U:List Nat) (listed:Array Bool) (a b:Act) (e:Env) (h:Heap) (d:Nat) (done todo:List Nat),U.length=N→U.Nodup→(∀ k,k∈U↔k < ops.size∧listed.getD k false=false) →
   StM P n ops h0 K tr f a0 listed a b e h done todo→wpAny P .any ops Q N listed a (mk B d h):=by
 obtain⟨hng,hback,hnd,hchain,hdeps⟩:=mixB_spec hmix
 have hgd:∀ (i:Nat) (o:Oper),ops[i]?=some o→o.guard=none∧noSel o.op=true:=fun i o ho=>noGuards_spec hng o (by
  obtain⟨hlt,e⟩:=Array.getElem?_eq_some_iff.1 ho
  rw [← e];simp)
 have fin:∀ {listed:Array Bool} {a b:Act} {e:Env} {h:Heap} {d:Nat} {done todo:List Nat},(∀ k,k < ops.size→listed.getD k false=true)→StM P n ops h0 K tr f a0 listed a b e h done todo→Q .normal a (mk B d h):=by
  intro listed a b e h d done todo hall S
  have htodo:todo=[]:=by
   cases todo with
   | nil=>rfl
   | cons j l=>
    have hj:j∈heavyL 0 ops.toList:=by rw [S.tt];simp
    have hlt:j < ops.size:=by
     obtain⟨_,o,ho,_⟩:=heavyL_mem.1 hj
     have:=(List.getElem?_eq_some_iff.1 ho).1
     simpa using this
    have hd:=(S.ch j hj).1 (hall j hlt)
    have hn:=heavyL_nodup (l:=ops.toList) (k:=0)
    rw [S.tt,List.nodup_append] at hn
    exact absurd rfl (hn.2.2 j (by simpa using hd) j (by simp))
  have hw:=S.wt
  rw [htodo] at hw
  unfold wT at hw
  have hv:∀ s,vals a s=vals b s:=fun s=>S.ag s fun i o ho hq hl=>by
   rw [hall i (Array.getElem?_eq_some_iff.1 ho).1] at hl;cases hl
  have hs:Sat n e a:=⟨S.ad,S.sz,fun x hx=>by
   have:=S.sb.all x hx
   have e1:vals a=vals b:=funext hv
   rw [e1];exact this⟩
  exact hQ _ _ _ _ hs.clean S.sm hw
 intro N
 induction N with
 | zero=>
  intro U listed a b e h d done todo hU _ hmem S
  have hUn:U=[]:=List.length_eq_zero_iff.1 hU
  subst hUn
  have hall:∀ k,k < ops.size→listed.getD k false=true:=fun k hk=>by
   cases hb:listed.getD k false with
   | true=>rfl
   | false=>exact absurd ((hmem k).2 ⟨hk,hb⟩) (by simp)
  refine⟨?_,fin hall S⟩
  rw [List.eq_nil_iff_forall_not_mem]
  intro j hj
  obtain⟨h1,o,ho,_⟩:=mem_ready.1 hj
  have hlt:=(Array.getElem?_eq_some_iff.1 ho).1
  have:=hall j hlt
  have h2:=getD_both h1
  rw [this] at h2;cases h2
 | succ N ih=>
  intro U listed a b e h d done todo hU hdup hmem S
  have hex:∃ k,k < ops.size∧listed.getD k false=false:=by
   cases U with
   | nil=>cases hU
   | cons k U=>exact⟨k,(hmem k).1 List.mem_cons_self⟩
  refine⟨fun hr=>?_,fun i hi=>?_⟩
  ·exfalso
   obtain⟨k,hk1,hk2,hk3⟩:=least_false hex
   have:k∈Region.ready .any ops listed:=mem_ready.2 ⟨by rw [← hk2];simp [S.inv.size,hk1],ops[k],Array.getElem?_eq_getElem hk1,fun x hx hb=>hk3 _ (edgesBack_spec hback k ops[k] hk1 (Array.getElem?_eq_getElem hk1) x hx hb)⟩
   rw [hr] at this;cases this
  ·obtain⟨hun1,o,ho,hall⟩:=mem_ready.1 hi
   have hun:listed.getD i false=false:=getD_both hun1
   have hlt:i < ops.size:=(Array.getElem?_eq_some_iff.1 ho).1
   obtain⟨hg,hns⟩:=hgd i o ho
   have hils:i < listed.size:=by rw [S.inv.size];exact hlt
   have hU':(U.erase i).length=N:=by rw [List.length_erase_of_mem ((hmem i).2 ⟨hlt,hun⟩),hU];rfl
   have hdup':(U.erase i).Nodup:=hdup.erase i
   have hmem':∀ k,k∈U.erase i↔k < ops.size∧(listed.setIfInBounds i true).getD k false=false:=fun k=>by
    rw [hdup.mem_erase_iff,hmem k]
    by_cases hk:i=k
    ·subst hk;simp [hils]
    ·rw [getD_set_ne false hk];exact⟨fun hx=>hx.2,fun hx=>⟨fun e=>hk e.symm,hx⟩⟩
   have inv':=S.inv.set hi hlt
   have hset:∀ k,k≠i→(listed.setIfInBounds i true).getD k false=listed.getD k false:=fun k hk=>getD_set_ne false (Ne.symm hk)
   have hsetI:(listed.setIfInBounds i true).getD i false=true:=by simp [hils]
   obtain⟨hslots,hqd⟩:=depsOK_spec hdeps i o hlt ho
   have hops:∀ t∈tmpsOf o.op.operands.toList,vals a t=vals b t:=fun t ht=>S.ag t fun k ok hok hq hl hd=>by
    have hw:=slotsOK_spec hslots k t (Array.getElem?_eq_some_iff.1 hok).1 (by rw [dstOf_some hok,hd]) ht
    rw [waits_done hi hw] at hl;cases hl
   have hexec:=exec_agree hns hops
   unfold wpOp
   rw [ho]
   simp only
   have hwant:Region.wanted o (yielded ops a.tmps)=true:=by unfold Region.wanted;rw [hg]
   rw [if_pos hwant]
   left
   unfold Oper.wp
   rw [hexec]
   cases hq:isQuietM o with
   | true=>
    have hx:=S.qx i o ho hq h (by
     cases hl:isLoadM o with
     | false=>exact .inl rfl
     | true=>exact .inr (S.kp i o ho hl hun)) B d
    rw [hx,Oper.upon_value]
    have hnot:i∉heavyL 0 ops.toList:=fun hm=>by
     obtain⟨_,o',ho',hq'⟩:=heavyL_mem.1 hm
     rw [Nat.sub_zero] at ho'
     have:o'=o:=by
      have h2:ops[i]?=some o':=ofL ho'
      exact Option.some.inj (h2.symm.trans ho)
     subst this;rw [hq] at hq';cases hq'
    refine ih _ _ _ b e h d done todo hU' hdup' hmem' { S with inv:=inv',ag:=fun s hs=>?_,sz:=by rw [size_put];exact S.sz,ad:=by rw [defers_put];exact S.ad,ch:=fun j hj=>?_,kp:=fun k ok hok hl hk=>?_,sm:=S.sm.trans (Same.put a o.dst _ fun t ht=>dsts_mem (by
     obtain⟨hl2,e2⟩:=Array.getElem?_eq_some_iff.1 ho
     rw [← e2];simp) t ht) }
    ·by_cases hd:o.dst=some s
     ·obtain⟨hv,hsn⟩:=S.qv i o s ho hq hd
      rw [hd,vals_put (by rw [S.sz];exact hsn),hv]
     ·rw [vals_putO_ne hd]
      refine S.ag s fun k ok hok hqk hlk=>?_
      by_cases hki:k=i
      ·subst hki
       have:ok=o:=Option.some.inj (hok.symm.trans ho)
       subst this;exact hd
      ·exact hs k ok hok hqk (by rw [hset k hki];exact hlk)
    ·have:j≠i:=fun e=>hnot (e ▸ hj)
     rw [hset j this];exact S.ch j hj
    ·by_cases hki:k=i
     ·subst hki;rw [hsetI] at hk;cases hk
     ·rw [hset k hki] at hk;exact S.kp k ok hok hl hk
   | false=>
    have hin:i∈heavyL 0 ops.toList:=heavyL_mem.2 ⟨Nat.zero_le _,o,by rw [Nat.sub_zero];exact toL ho,hq⟩
    have hnd':=heavyL_nodup (l:=ops.toList) (k:=0)
    have hndone:i∉done:=fun hd=>by rw [(S.ch i hin).2 hd] at hun;cases hun
    have htodo:∃ rest,todo=i::rest:=by
     have hit:i∈todo:=by
      have:=hin
      rw [S.tt,List.mem_append] at this
      rcases this with h1 | h1
      ·exact absurd (by simpa using h1) hndone
      ·exact h1
     cases todo with
     | nil=>cases hit
     | cons j rest=>
      rcases List.mem_cons.1 hit with rfl | hr
      ·exact⟨rest,rfl⟩
      ·exfalso
       obtain⟨m,hm,em⟩:=List.getElem_of_mem hr
       have hp:∃ pr,(j::rest)[m]?=some pr:=⟨_,List.getElem?_eq_getElem (by simp;omega)⟩
       obtain⟨pr,hpr⟩:=hp
       have hw:=chainL_spec hchain (done.reverse.length+m) pr i (by rw [S.tt,List.getElem?_append_right (by omega),Nat.add_sub_cancel_left];exact hpr) (by
        rw [S.tt,List.getElem?_append_right (by omega),show done.reverse.length+m+1 - done.reverse.length=m+1 by omega,List.getElem?_cons_succ,List.getElem?_eq_getElem hm,em])
       have hprm:pr∈j::rest:=List.mem_of_getElem? hpr
       have hprh:pr∈heavyL 0 ops.toList:=by rw [S.tt];exact List.mem_append_right _ hprm
       have hd:=(S.ch pr hprh).1 (waits_done hi hw)
       rw [S.tt,List.nodup_append] at hnd'
       exact hnd'.2.2 pr (by simpa using hd) pr hprm rfl
    obtain⟨rest,rfl⟩:=htodo
    have hW:=S.wt
    unfold wT at hW
    rw [ho] at hW
    simp only at hW
    cases hd:okDst n [] o.dst with
    | false=>rw [hd] at hW;exact hW.elim
    | true=>
     rw [hd,cond_true] at hW
     refine upon_shift (b:=b) S.sb.defers ?_
     refine opW_yes hW S.sb (valid_nil _) B d fun v d' h' hK=>⟨by rw [defers_put];exact S.sb.defers,fun v2 hv2=>?_⟩
     have hbv:b.put o.dst v2=b.put o.dst v:=hv2.symm
     have hlist':∀ j,j∈heavyL 0 ops.toList→((listed.setIfInBounds i true).getD j false=true↔j∈i::done):=fun j hj=>by
      by_cases hji:j=i
      ·subst hji;rw [hsetI];simp
      ·rw [hset j hji,S.ch j hj];simp [hji]
     have hlate:lateG tr ops (i::done) ops.size=false→∀ k ok,ops[k]?=some ok→isLoadM ok=true→(listed.setIfInBounds i true).getD k false=true:=fun hl k ok hok hlo=>by
      have hjl:∀ j∈i::done,(listed.setIfInBounds i true).getD j false=true:=fun j hj=>by
       rcases List.mem_cons.1 hj with rfl | hj
       ·exact hsetI
       ·exact getD_set_true ((S.ch j (by rw [S.tt];simp [hj])).2 hj)
      cases tr with
      | false=>
       obtain⟨j,hj,hw⟩:=awaited_spec (lateB_spec hl k ok (Array.getElem?_eq_some_iff.1 hok).1 hok hlo)
       exact waits_closed inv' (hjl j hj) hw
      | true=>exact reachB_spec (lateC_spec hl k ok (Array.getElem?_eq_some_iff.1 hok).1 hok hlo) (fun i p h1 h2=>waits_closed inv' h1 h2) hjl
     have hWT:wT P n ops h0 K tr (i::done) rest (putO e o.dst [] v) h'∧(∀ k ok,ops[k]?=some ok→isLoadM ok=true→(listed.setIfInBounds i true).getD k false=false→Keep h0.size h0 h'):=by
      cases hl:lateG tr ops (i::done) ops.size with
      | true=>rw [hl,cond_true] at hK;exact⟨hK.2,fun _ _ _ _ _=>hK.1⟩
      | false=>rw [hl,cond_false] at hK;exact⟨hK,fun k ok hok hlo hf=>by rw [hlate hl k ok hok hlo] at hf;cases hf⟩
     have hndst:∀ k ok t,ops[k]?=some ok→isQuietM ok=true→ok.dst=some t→o.dst≠some t:=fun k ok t hok hqk hdk hdo=>by
      have:=ndDsts_spec hnd k i t (Array.getElem?_eq_some_iff.1 hok).1 hlt (by rw [dstOf_some hok,hdk]) (by rw [dstOf_some ho,hdo])
      subst this
      have:ok=o:=Option.some.inj (hok.symm.trans ho)
      subst this;rw [hq] at hqk;cases hqk
     refine ih _ _ _ (b.put o.dst v) (putO e o.dst [] v) h' d' (i::done) rest hU' hdup' hmem' ⟨inv',fun s hs=>?_,by rw [size_put];exact S.sz,by rw [defers_put];exact S.ad,S.sb.putO hd (fun _=>rfl) fun hv=>absurd (valid_nil _) hv,fun k ok t hok hqk hdk=>?_,fun k ok hok hqk h'' hh=>?_,by rw [S.tt];simp,hlist',hWT.1,hWT.2,S.sm.trans (Same.put a o.dst _ fun t ht=>dsts_mem (by
      obtain⟨hl2,e2⟩:=Array.getElem?_eq_some_iff.1 ho
      rw [← e2];simp) t ht)⟩
     ·have hne:∀ u,(∀ k ok,ops[k]?=some ok→isQuietM ok=true→listed.getD k false=false→ok.dst≠some s)→o.dst≠some s→vals (a.put o.dst u) s=vals (b.put o.dst v) s:=fun u h1 h2=>by
       rw [vals_putO_ne h2,vals_putO_ne h2];exact S.ag s h1
      have hs':∀ k ok,ops[k]?=some ok→isQuietM ok=true→listed.getD k false=false→ok.dst≠some s:=fun k ok hok hqk hlk=>by
       by_cases hki:k=i
       ·subst hki
        have:ok=o:=Option.some.inj (hok.symm.trans ho)
        subst this;rw [hq] at hqk;cases hqk
       ·exact hs k ok hok hqk (by rw [hset k hki];exact hlk)
      by_cases hds:o.dst=some s
      ·rw [← hbv,hds]
       have hsn:s < n:=by
        rw [hds] at hd
        unfold okDst at hd
        simp at hd;exact hd.2
       rw [vals_put (by rw [S.sz];exact hsn),vals_put (by rw [S.sb.size];exact hsn)]
      ·exact hne v2 hs' hds
     ·have:=S.qv k ok t hok hqk hdk
      rw [vals_putO_ne (hndst k ok t hok hqk hdk)];exact this
     ·have hk2:=hgd k ok hok
      rw [exec_agree (b:=b) hk2.2 fun t ht=>?_]
      ·exact S.qx k ok hok hqk h'' hh
      ·refine vals_putO_ne fun hdo=>?_
       obtain⟨hs1,hs2⟩:=depsOK_spec hdeps k ok (Array.getElem?_eq_some_iff.1 hok).1 hok
       have hw:=slotsOK_spec hs1 i t hlt (by rw [dstOf_some ho,hdo]) ht
       exact hs2 hqk i hin hw t (by rw [dstOf_some ho,hdo]) ht
theorem mix_sound {P:Program} {n:Nat} {ops:Array Oper} {h:Heap} {K:Env→Heap→Prop} {Q:Exit→Act→World→Prop} {tr:Bool} (B:World) (hmix:mixB ops=true) {e:Env} {a:Act}
  (H:wU P n h (fun e'=>wT P n ops h K tr [] (heavyL 0 ops.toList) e' h) ops.toList e) (hs:Sat n e a)
  (hQ:∀ e' a' d' h',Sat n e' a'→Same (dsts ops.toList) a a'→K e' h'→Q .normal a' (mk B d' h')) (d:Nat):wpAny P .any ops Q ops.size (Array.replicate ops.size false) a (mk B d h):=by
 obtain⟨hng,hback,hnd,hchain,hdeps⟩:=mixB_spec hmix
 obtain⟨f,e1,HT,hsat,hf⟩:=wU_sound (k:=0) H hs
 have hl:∀ (i:Nat) (o:Oper),ops[i]?=some o→ops.toList[i]?=some o:=fun i o ho=>toL ho
 have hsplit:∀ i,putsM 0 ops.toList f a=putsM (0+(ops.toList.take i).length) (ops.toList.drop i) f (putsM 0 (ops.toList.take i) f a):=fun i=>by
  rw [← putsM_append,List.take_append_drop]
 refine mix_run B hmix (f:=f) hQ ops.size (List.range ops.size) _ a (putsM 0 ops.toList f a) e1 h d [] (heavyL 0 ops.toList) List.length_range List.nodup_range (fun k=>by rw [List.mem_range,getD_replicate_false];simp) ⟨⟨by simp,fun j oj _ hl=>(by rw [getD_replicate_false] at hl;cases hl),fun t ht ht'=>by omega⟩,fun s hs'=>?_,hs.size,hs.defers,hsat,fun i o t ho hq hd=>?_,fun i o ho hq h' hh=>?_,by simp,fun j hj=>by rw [getD_replicate_false];simp,HT,fun _ _ _ _ _=>Keep.refl _ _,Same.refl _ _⟩
 ·refine(putsM_other fun o ho hq=>?_).symm
  obtain⟨i,hi,e⟩:=List.getElem_of_mem ho
  exact hs' i o (ofL (by rw [List.getElem?_eq_getElem hi,e])) hq (getD_replicate_false _ _)
 ·obtain⟨h1,h2,h3⟩:=hf i o (hl i o ho) hq
  have htn:t < n:=by
   rw [hd] at h2
   unfold okDst at h2
   simp at h2;exact h2.2
  refine⟨?_,htn⟩
  have hlt:=(Array.getElem?_eq_some_iff.1 ho).1
  have hlen:(ops.toList.take i).length=i:=by simp;omega
  rw [hsplit i,hlen,Nat.zero_add]
  have hdr:ops.toList.drop i=o::ops.toList.drop (i+1):=by
   have:=(List.getElem?_eq_some_iff.1 (hl i o ho))
   rw [List.drop_eq_getElem_cons this.1,this.2]
  rw [hdr]
  unfold putsM
  rw [hq,cond_true,putsM_other fun o' ho' hq' hd'=>?_]
  ·rw [hd,vals_put (by rw [putsM_size.1,hs.size];exact htn)]
  ·obtain⟨m,hm,em⟩:=List.getElem_of_mem ho'
   have ho2:ops[i+1+m]?=some o':=by
    have:ops.toList[i+1+m]?=some o':=by rw [← List.getElem?_drop,List.getElem?_eq_getElem hm,em]
    exact ofL this
   have:=ndDsts_spec hnd i (i+1+m) t hlt (Array.getElem?_eq_some_iff.1 ho2).1 (by rw [dstOf_some ho,hd]) (by rw [dstOf_some ho2,hd'])
   omega
 ·obtain⟨h1,h2,h3⟩:=hf i o (hl i o ho) hq
  have:=h3 h' (hh.imp id Or.inl)
  rw [Nat.zero_add] at this
  rw [exec_agree h1 fun t ht=>?_]
  ·exact this
  ·have hlt:=(Array.getElem?_eq_some_iff.1 ho).1
   rw [hsplit i]
   refine putsM_other fun o' ho' hq' hd'=>?_
   obtain⟨m,hm,em⟩:=List.getElem_of_mem ho'
   have ho2:ops[i+m]?=some o':=by
    have:ops.toList[i+m]?=some o':=by rw [← List.getElem?_drop,List.getElem?_eq_getElem hm,em]
    exact ofL this
   obtain⟨hs1,_⟩:=depsOK_spec hdeps i o hlt ho
   have hw:=slotsOK_spec hs1 (i+m) t (Array.getElem?_eq_some_iff.1 ho2).1 (by rw [dstOf_some ho2,hd']) ht
   obtain⟨oj,hoj,x,hx,hb,hon⟩:=Region.waitsFor_spec hw
   have:=edgesBack_spec hback i oj hlt hoj x hx hb
   omega
def remN (j:Nat):List Nat→List Nat
 | []=>[]
 | k::l=>bif Nat.beq k j then remN j l else k::remN j l
theorem remN_mem {j x:Nat}:∀ {l:List Nat},x∈remN j l↔x∈l∧x≠j
 | []=>by simp [remN]
 | k::l=>by
  simp only [remN]
  cases hb:Nat.beq k j with
  | true=>
   have:=Nat.eq_of_beq_eq_true hb
   subst this
   rw [cond_true,remN_mem,List.mem_cons]
   exact⟨fun h=>⟨.inr h.1,h.2⟩,fun h=>⟨h.1.resolve_left h.2,h.2⟩⟩
  | false=>
   have hne:k≠j:=fun e=>by rw [e] at hb;simp at hb
   rw [cond_false,List.mem_cons,List.mem_cons,remN_mem]
   constructor
   ·rintro(rfl | h)
    ·exact⟨.inl rfl,hne⟩
    ·exact⟨.inr h.1,h.2⟩
   ·rintro⟨rfl | h,h2⟩
    ·exact .inl rfl
    ·exact .inr ⟨h,h2⟩
theorem remN_nodup {j:Nat}:∀ {l:List Nat},l.Nodup→(remN j l).Nodup
 | [],h=>h
 | k::l,h=>by
  simp only [remN]
  rw [List.nodup_cons] at h
  cases Nat.beq k j with
  | true=>exact remN_nodup h.2
  | false=>
   rw [cond_false,List.nodup_cons]
   exact⟨fun hm=>h.1 (remN_mem.1 hm).1,remN_nodup h.2⟩
theorem remN_le {j:Nat}:∀ {l:List Nat},(remN j l).length≤l.length
 | []=>Nat.le_refl _
 | k::l=>by
  simp only [remN]
  have:=remN_le (j:=j) (l:=l)
  cases Nat.beq k j with
  | true=>rw [cond_true,List.length_cons];omega
  | false=>rw [cond_false,List.length_cons,List.length_cons];omega
theorem remN_len {j:Nat}:∀ {l:List Nat},j∈l→(remN j l).length+1≤l.length
 | [],h=>by cases h
 | k::l,h=>by
  simp only [remN]
  cases hb:Nat.beq k j with
  | true=>
   have:=remN_le (j:=j) (l:=l)
   rw [cond_true,List.length_cons];omega
  | false=>
   have hne:k≠j:=fun e=>by rw [e] at hb;simp at hb
   have:=remN_len (j:=j) (l:=l) (by
    rcases List.mem_cons.1 h with rfl | h
    ·exact absurd rfl hne
    ·exact h)
   rw [cond_false,List.length_cons,List.length_cons];omega
def candB (ops:Array Oper) (todo:List Nat) (j:Nat):Bool:=todo.all fun k=>bif Nat.beq k j then true else !(reachB ops [j] ops.size k)
def allB (p:Nat→Prop):List Nat→Prop
 | []=>True
 | [j]=>p j
 | j::k::l=>p j∧allB p (k::l)
theorem allB_mem {p:Nat→Prop}:∀ {l:List Nat},allB p l→∀ j∈l,p j
 | [],_,j,h=>by cases h
 | [k],H,j,h=>by simp at h;subst h;exact H
 | k::k2::l,H,j,h=>by
  rcases List.mem_cons.1 h with rfl | h
  ·exact H.1
  ·exact allB_mem H.2 j h
def filtB (p:Nat→Bool):List Nat→List Nat
 | []=>[]
 | j::l=>bif p j then j::filtB p l else filtB p l
theorem filtB_mem {p:Nat→Bool} {j:Nat}:∀ {l:List Nat},j∈l→p j=true→j∈filtB p l
 | [],h,_=>by cases h
 | k::l,h,hp=>by
  simp only [filtB]
  rcases List.mem_cons.1 h with rfl | h
  ·rw [hp];exact List.mem_cons_self
  ·cases p k with
   | true=>exact List.mem_cons_of_mem _ (filtB_mem h hp)
   | false=>exact filtB_mem h hp
def lateL (ops:Array Oper) (T:List Nat) (e:Env) (h0 h':Heap) (K:Prop):Nat→Prop
 | 0=>K
 | k+1=>match ops[k]? with
  | some o=>bif isLoadM o then(bif reachB ops T ops.size k then lateL ops T e h0 h' K k else match o.op with
   | .load _ a=>bif known e [] [a] then(match rho e [] a with
    | .pointer (some p)=>h'[p.block]?=h0[p.block]?∧lateL ops T e h0 h' K k
    | _=>False) else False
   | _=>False) else lateL ops T e h0 h' K k
  | none=>lateL ops T e h0 h' K k
theorem lateL_spec {ops:Array Oper} {T:List Nat} {e:Env} {h0 h':Heap} {K:Prop}:∀ {m:Nat},lateL ops T e h0 h' K m→K∧∀ k o,k < m→ops[k]?=some o→isLoadM o=true→reachB ops T ops.size k=false →
  ∃ t a p,o.op=.load t a∧known e [] [a]=true∧rho e [] a=.pointer (some p)∧h'[p.block]?=h0[p.block]?
 | 0,H=>⟨H,fun k o hk=>by omega⟩
 | m+1,H=>by
  unfold lateL at H
  have step:lateL ops T e h0 h' K m→(∀ o,ops[m]?=some o→isLoadM o=true→reachB ops T ops.size m=false→∃ t a p,o.op=.load t a∧known e [] [a]=true∧rho e [] a=.pointer (some p)∧h'[p.block]?=h0[p.block]?) →
    K∧∀ k o,k < m+1→ops[k]?=some o→isLoadM o=true→reachB ops T ops.size k=false→∃ t a p,o.op=.load t a∧known e [] [a]=true∧rho e [] a=.pointer (some p)∧h'[p.block]?=h0[p.block]?:=fun H1 H2=>by
   obtain⟨h1,h2⟩:=lateL_spec H1
   refine⟨h1,fun k o hk ho hl hr=>?_⟩
   rcases Nat.lt_or_ge k m with h3 | h3
   ·exact h2 k o h3 ho hl hr
   ·have:k=m:=by omega
    subst this
    exact H2 o ho hl hr
  cases ho:ops[m]? with
  | none=>rw [ho] at H;exact step H fun o h1=>by rw [ho] at h1;cases h1
  | some o=>
   rw [ho] at H
   simp only at H
   have same:∀ o',ops[m]?=some o'→o'=o:=fun o' h1=>Option.some.inj (h1.symm.trans ho)
   cases hl:isLoadM o with
   | false=>rw [hl] at H;exact step H fun o' h1 h2=>by rw [same o' h1,hl] at h2;cases h2
   | true=>
    rw [hl,cond_true] at H
    cases hr:reachB ops T ops.size m with
    | true=>rw [hr] at H;exact step H fun o' h1 h2 h3=>by rw [hr] at h3;cases h3
    | false=>
     rw [hr,cond_false] at H
     split at H
     ·rename_i t a hop
      cases hk:known e [] [a] with
      | false=>rw [hk] at H;exact H.elim
      | true=>
       rw [hk,cond_true] at H
       split at H
       ·rename_i p hp
        exact step H.2 fun o' h1 h2 h3=>⟨t,a,p,by rw [same o' h1];exact hop,hk,hp,H.1⟩
       ·exact H.elim
     ·exact H.elim
def lateP (md:Bool) (ops:Array Oper) (T:List Nat) (e:Env) (h0 h':Heap) (K:Prop):Prop:=bif md then lateL ops T e h0 h' K ops.size else Keep h0.size h0 h'∧K
def wB (P:Program) (n:Nat) (ops:Array Oper) (h0:Heap) (K:Env→Heap→Prop) (md:Bool):Nat→List Nat→List Nat→Env→Heap→Prop
 | _,_,[],e,h=>K (clean e) h
 | 0,_,_::_,_,_=>False
 | f+1,T,j0::l0,e,h=>allB (fun j=>match ops[j]? with
  | some o=>bif okDst n [] o.dst then opW P o e [] h fun v h'=>(bif lateG true ops (j::T) ops.size then lateP md ops (j::T) e h0 h' (wB P n ops h0 K md f (j::T) (remN j (j0::l0)) (putO e o.dst [] v) h') else wB P n ops h0 K md f (j::T) (remN j (j0::l0)) (putO e o.dst [] v) h') else False
  | none=>False) (filtB (candB ops (j0::l0)) (j0::l0))
theorem wB_branch {P:Program} {n:Nat} {ops:Array Oper} {h0:Heap} {K:Env→Heap→Prop} {md:Bool} {f:Nat} {T todo:List Nat} {e:Env} {h:Heap} (H:wB P n ops h0 K md (f+1) T todo e h) {j:Nat} (hj:j∈todo) (hc:candB ops todo j=true):match ops[j]? with
  | some o=>bif okDst n [] o.dst then opW P o e [] h fun v h'=>(bif lateG true ops (j::T) ops.size then lateP md ops (j::T) e h0 h' (wB P n ops h0 K md f (j::T) (remN j todo) (putO e o.dst [] v) h') else wB P n ops h0 K md f (j::T) (remN j todo) (putO e o.dst [] v) h') else False
  | none=>False:=by
 cases todo with
 | nil=>cases hj
 | cons j0 l0=>exact allB_mem H j (filtB_mem hj hc)
def mixB2 (ops:Array Oper):Bool:=bif noGuards ops.toList then(bif edgesBack ops ops.size then(bif ndDsts ops ops.size then depsOK ops ops.size else false) else false) else false
theorem mixB2_spec {ops:Array Oper} (h:mixB2 ops=true):noGuards ops.toList=true∧edgesBack ops ops.size=true∧ndDsts ops ops.size=true∧depsOK ops ops.size=true:=by
 unfold mixB2 at h
 cases h1:noGuards ops.toList <;> cases h2:edgesBack ops ops.size <;> cases h3:ndDsts ops ops.size <;> simp [h1,h2,h3] at h ⊢
 exact h
structure StB (P:Program) (n:Nat) (ops:Array Oper) (h0:Heap) (K:Env→Heap→Prop) (md:Bool) (f:Nat→Value) (a0:Act) (listed:Array Bool) (a b:Act) (e:Env) (h:Heap) (done todo:List Nat):Prop where
 inv:HeadInv .any ops ops.size listed
 ag:∀ s,(∀ i o,ops[i]?=some o→isQuietM o=true→listed.getD i false=false→o.dst≠some s)→vals a s=vals b s
 sz:a.tmps.size=n
 ad:a.defers=[]
 sb:Sat n e b
 qv:∀ i o t,ops[i]?=some o→isQuietM o=true→o.dst=some t→vals b t=f i∧t < n
 qx:∀ i o,ops[i]?=some o→isQuietM o=true→∀ h',LdOK o b.eval h0 h'→QExec P (execOp b.eval o) h' (.value (f i))
 tt:∀ j,j∈heavyL 0 ops.toList→(j∈todo↔listed.getD j false=false)
 ch:∀ j,j∈heavyL 0 ops.toList→(listed.getD j false=true↔j∈done)
 dn:∀ j∈done,j∈heavyL 0 ops.toList
 th:∀ j∈todo,j∈heavyL 0 ops.toList
 nd:todo.Nodup
 wt:∃ fu,todo.length≤fu∧wB P n ops h0 K md fu done todo e h
 kp:∀ i o,ops[i]?=some o→isLoadM o=true→listed.getD i false=false→LdOK o b.eval h0 h
 sm:Same (dsts ops.toList) a0 a
theorem mixb_run {P : Program} {n : Nat} {ops : Array Oper} {h0 : Heap} {K : Env → Heap → Prop} {md : Bool} {Q : Exit → Act → World → Prop} (B : World) (hmix : mixB2 ops = true) {f : Nat → Value} {a0 : Act}
    (hQ : ∀ e' a' d' h', Sat n e' a' → Same (dsts ops.toList) a0 a' → K e' h' → Q .normal a' (mk B d' h')) :
    ∀ (N : Nat) (U : List Nat) (listed : Array Bool) (a b : Act) (e : Env) (h : Heap) (d : Nat) (done todo : List Nat), U.length = N → U.Nodup → (∀ k, k ∈ U ↔ k < ops.size ∧ listed.getD k false = false) →
      StB P n ops h0 K md f a0 listed a b e h done todo → wpAny P .any ops Q N listed a (mk B d h) := by
  obtain ⟨hng, hback, hnd, hdeps⟩ := mixB2_spec hmix
  have hgd : ∀ (i : Nat) (o : Oper), ops[i]? = some o → o.guard = none ∧ noSel o.op = true := fun i o ho => noGuards_spec hng o (by
    obtain ⟨hlt, e⟩ := Array.getElem?_eq_some_iff.1 ho
    rw [← e]; simp)
  have fin : ∀ {listed : Array Bool} {a b : Act} {e : Env} {h : Heap} {d : Nat} {done todo : List Nat}, (∀ k, k < ops.size → listed.getD k false = true) → StB P n ops h0 K md f a0 listed a b e h done todo → Q .normal a (mk B d h) := by
    intro listed a b e h d done todo hall S
    have htodo : todo = [] := by
      cases htd : todo with
      | nil => rfl
      | cons j l =>
        have hm : j ∈ todo := by rw [htd]; simp
        have hj : j ∈ heavyL 0 ops.toList := S.th j hm
        have hlt : j < ops.size := by
          obtain ⟨_, o, ho, _⟩ := heavyL_mem.1 hj
          have := (List.getElem?_eq_some_iff.1 ho).1
          simpa using this
        have := (S.tt j hj).1 hm
        rw [hall j hlt] at this; cases this
    obtain ⟨fu, _, hw⟩ := S.wt
    rw [htodo] at hw
    have hw : K (clean e) h := by cases fu <;> exact hw
    have hv : ∀ s, vals a s = vals b s := fun s => S.ag s fun i o ho hq hl => by
      rw [hall i (Array.getElem?_eq_some_iff.1 ho).1] at hl; cases hl
    have hs : Sat n e a := ⟨S.ad, S.sz, fun x hx => by
      have := S.sb.all x hx
      have e1 : vals a = vals b := funext hv
      rw [e1]; exact this⟩
    exact hQ _ _ _ _ hs.clean S.sm hw
  intro N
  induction N with
  | zero =>
    intro U listed a b e h d done todo hU _ hmem S
    have hUn : U = [] := List.length_eq_zero_iff.1 hU
    subst hUn
    have hall : ∀ k, k < ops.size → listed.getD k false = true := fun k hk => by
      cases hb : listed.getD k false with
      | true => rfl
      | false => exact absurd ((hmem k).2 ⟨hk, hb⟩) (by simp)
    refine ⟨?_, fin hall S⟩
    rw [List.eq_nil_iff_forall_not_mem]
    intro j hj
    obtain ⟨h1, o, ho, _⟩ := mem_ready.1 hj
    have hlt := (Array.getElem?_eq_some_iff.1 ho).1
    have := hall j hlt
    have h2 := getD_both h1
    rw [this] at h2; cases h2
  | succ N ih =>
    intro U listed a b e h d done todo hU hdup hmem S
    have hex : ∃ k, k < ops.size ∧ listed.getD k false = false := by
      cases U with
      | nil => cases hU
      | cons k U => exact ⟨k, (hmem k).1 List.mem_cons_self⟩
    refine ⟨fun hr => ?_, fun i hi => ?_⟩
    · exfalso
      obtain ⟨k, hk1, hk2, hk3⟩ := least_false hex
      have : k ∈ Region.ready .any ops listed := mem_ready.2 ⟨by rw [← hk2]; simp [S.inv.size, hk1], ops[k], Array.getElem?_eq_getElem hk1, fun x hx hb => hk3 _ (edgesBack_spec hback k ops[k] hk1 (Array.getElem?_eq_getElem hk1) x hx hb)⟩
      rw [hr] at this; cases this
    · obtain ⟨hun1, o, ho, hall⟩ := mem_ready.1 hi
      have hun : listed.getD i false = false := getD_both hun1
      have hlt : i < ops.size := (Array.getElem?_eq_some_iff.1 ho).1
      obtain ⟨hg, hns⟩ := hgd i o ho
      have hils : i < listed.size := by rw [S.inv.size]; exact hlt
      have hU' : (U.erase i).length = N := by rw [List.length_erase_of_mem ((hmem i).2 ⟨hlt, hun⟩), hU]; rfl
      have hdup' : (U.erase i).Nodup := hdup.erase i
      have hmem' : ∀ k, k ∈ U.erase i ↔ k < ops.size ∧ (listed.setIfInBounds i true).getD k false = false := fun k => by
        rw [hdup.mem_erase_iff, hmem k]
        by_cases hk : i = k
        · subst hk; simp [hils]
        · rw [getD_set_ne false hk]; exact ⟨fun hx => hx.2, fun hx => ⟨fun e => hk e.symm, hx⟩⟩
      have inv' := S.inv.set hi hlt
      have hset : ∀ k, k ≠ i → (listed.setIfInBounds i true).getD k false = listed.getD k false := fun k hk => getD_set_ne false (Ne.symm hk)
      have hsetI : (listed.setIfInBounds i true).getD i false = true := by simp [hils]
      obtain ⟨hslots, hqd⟩ := depsOK_spec hdeps i o hlt ho
      have hops : ∀ t ∈ tmpsOf o.op.operands.toList, vals a t = vals b t := fun t ht => S.ag t fun k ok hok hq hl hd => by
        have hw := slotsOK_spec hslots k t (Array.getElem?_eq_some_iff.1 hok).1 (by rw [dstOf_some hok, hd]) ht
        rw [waits_done hi hw] at hl; cases hl
      have hexec := exec_agree hns hops
      unfold wpOp
      rw [ho]
      simp only
      have hwant : Region.wanted o (yielded ops a.tmps) = true := by unfold Region.wanted; rw [hg]
      rw [if_pos hwant]
      left
      unfold Oper.wp
      rw [hexec]
      cases hq : isQuietM o with
      | true =>
        have hx := S.qx i o ho hq h (by
          cases hl : isLoadM o with
          | false => exact .inl hl
          | true => exact S.kp i o ho hl hun) B d
        rw [hx, Oper.upon_value]
        have hnot : i ∉ heavyL 0 ops.toList := fun hm => by
          obtain ⟨_, o', ho', hq'⟩ := heavyL_mem.1 hm
          rw [Nat.sub_zero] at ho'
          have : o' = o := by
            have h2 : ops[i]? = some o' := ofL ho'
            exact Option.some.inj (h2.symm.trans ho)
          subst this; rw [hq] at hq'; cases hq'
        refine ih _ _ _ b e h d done todo hU' hdup' hmem' { S with inv := inv', ag := fun s hs => ?_, sz := by rw [size_put]; exact S.sz, ad := by rw [defers_put]; exact S.ad, tt := fun j hj => (by have : j ≠ i := fun e => hnot (e ▸ hj); rw [hset j this]; exact S.tt j hj), ch := fun j hj => ?_, kp := fun k ok hok hl hk => ?_, sm := S.sm.trans (Same.put a o.dst _ fun t ht => dsts_mem (by
          obtain ⟨hl2, e2⟩ := Array.getElem?_eq_some_iff.1 ho
          rw [← e2]; simp) t ht) }
        · by_cases hd : o.dst = some s
          · obtain ⟨hv, hsn⟩ := S.qv i o s ho hq hd
            rw [hd, vals_put (by rw [S.sz]; exact hsn), hv]
          · rw [vals_putO_ne hd]
            refine S.ag s fun k ok hok hqk hlk => ?_
            by_cases hki : k = i
            · subst hki
              have : ok = o := Option.some.inj (hok.symm.trans ho)
              subst this; exact hd
            · exact hs k ok hok hqk (by rw [hset k hki]; exact hlk)
        · have : j ≠ i := fun e => hnot (e ▸ hj)
          rw [hset j this]; exact S.ch j hj
        · by_cases hki : k = i
          · subst hki; rw [hsetI] at hk; cases hk
          · rw [hset k hki] at hk; exact S.kp k ok hok hl hk
      | false =>
        have hin : i ∈ heavyL 0 ops.toList := heavyL_mem.2 ⟨Nat.zero_le _, o, by rw [Nat.sub_zero]; exact toL ho, hq⟩
        have hit : i ∈ todo := (S.tt i hin).2 hun
        obtain ⟨fu, hfu, hW0⟩ := S.wt
        have hcand : candB ops todo i = true := by
          unfold candB
          rw [List.all_eq_true]
          intro k hk
          cases hki : Nat.beq k i with
          | true => rfl
          | false =>
            have hne : k ≠ i := fun e => by rw [e] at hki; simp at hki
            cases hr : reachB ops [i] ops.size k with
            | false => rfl
            | true =>
              exfalso
              have := reachB_spec hr (listed := listed.setIfInBounds i true) (fun p q h1 h2 => waits_closed inv' h1 h2) (fun j hj => by simp at hj; subst hj; exact hsetI)
              rw [hset k hne] at this
              have h2 := (S.tt k (S.th k hk)).1 hk
              rw [this] at h2; cases h2
        have hW : match ops[i]? with
            | some o => bif okDst n [] o.dst then opW P o e [] h fun v h' => (bif lateG true ops (i :: done) ops.size then lateP md ops (i :: done) e h0 h' (wB P n ops h0 K md (fu - 1) (i :: done) (remN i todo) (putO e o.dst [] v) h') else wB P n ops h0 K md (fu - 1) (i :: done) (remN i todo) (putO e o.dst [] v) h') else False
            | none => False := by
          cases fu with
          | zero => have : todo.length = 0 := by omega
                    rw [List.length_eq_zero_iff.1 this] at hit; cases hit
          | succ fu =>
            have := wB_branch (show wB P n ops h0 K md (fu + 1) done todo e h from hW0) hit hcand
            exact this
        rw [ho] at hW
        simp only at hW
        cases hd : okDst n [] o.dst with
        | false => rw [hd] at hW; exact hW.elim
        | true =>
          rw [hd, cond_true] at hW
          refine upon_shift (b := b) S.sb.defers ?_
          refine opW_yes hW S.sb (valid_nil _) B d fun v d' h' hK => ⟨by rw [defers_put]; exact S.sb.defers, fun v2 hv2 => ?_⟩
          have hbv : b.put o.dst v2 = b.put o.dst v := hv2.symm
          have hlist' : ∀ j, j ∈ heavyL 0 ops.toList → ((listed.setIfInBounds i true).getD j false = true ↔ j ∈ i :: done) := fun j hj => by
            by_cases hji : j = i
            · subst hji; rw [hsetI]; simp
            · rw [hset j hji, S.ch j hj]; simp [hji]
          have hlate : lateG true ops (i :: done) ops.size = false → ∀ k ok, ops[k]? = some ok → isLoadM ok = true → (listed.setIfInBounds i true).getD k false = true := fun hl k ok hok hlo => by
            have hjl : ∀ j ∈ i :: done, (listed.setIfInBounds i true).getD j false = true := fun j hj => by
              rcases List.mem_cons.1 hj with rfl | hj
              · exact hsetI
              · exact getD_set_true ((S.ch j (S.dn j hj)).2 hj)
            exact reachB_spec (lateC_spec hl k ok (Array.getElem?_eq_some_iff.1 hok).1 hok hlo) (fun i p h1 h2 => waits_closed inv' h1 h2) hjl
          have hslot : ∀ k ok, ops[k]? = some ok → isQuietM ok = true → ∀ t ∈ tmpsOf ok.op.operands.toList, vals (b.put o.dst v) t = vals b t := fun k ok hok hqk t ht => vals_putO_ne fun hdo => by
            obtain ⟨hs1, hs2⟩ := depsOK_spec hdeps k ok (Array.getElem?_eq_some_iff.1 hok).1 hok
            have hw := slotsOK_spec hs1 i t hlt (by rw [dstOf_some ho, hdo]) ht
            exact hs2 hqk i hin hw t (by rw [dstOf_some ho, hdo]) ht
          have hreach : ∀ k, reachB ops (i :: done) ops.size k = true → (listed.setIfInBounds i true).getD k false = true := fun k hr => reachB_spec hr (fun i p h1 h2 => waits_closed inv' h1 h2) fun j hj => by
            rcases List.mem_cons.1 hj with rfl | hj
            · exact hsetI
            · exact getD_set_true ((S.ch j (S.dn j hj)).2 hj)
          have hWT : wB P n ops h0 K md (fu - 1) (i :: done) (remN i todo) (putO e o.dst [] v) h' ∧ (∀ k ok, ops[k]? = some ok → isLoadM ok = true → (listed.setIfInBounds i true).getD k false = false → LdOK ok (b.put o.dst v).eval h0 h') := by
            cases hl : lateG true ops (i :: done) ops.size with
            | false => rw [hl, cond_false] at hK; exact ⟨hK, fun k ok hok hlo hf => by rw [hlate hl k ok hok hlo] at hf; cases hf⟩
            | true =>
              rw [hl, cond_true] at hK
              unfold lateP at hK
              cases md with
              | false => exact ⟨hK.2, fun _ _ _ _ _ => .inr (.inl hK.1)⟩
              | true =>
                rw [cond_true] at hK
                obtain ⟨g1, g2⟩ := lateL_spec hK
                refine ⟨g1, fun k ok hok hlo hf => .inr (.inr fun t a p hop hp => ?_)⟩
                have hr : reachB ops (i :: done) ops.size k = false := by
                  cases hr : reachB ops (i :: done) ops.size k with
                  | false => rfl
                  | true => rw [hreach k hr] at hf; cases hf
                obtain ⟨t', a', p', e1, e2, e3, e4⟩ := g2 k ok (Array.getElem?_eq_some_iff.1 hok).1 hok hlo hr
                rw [hop] at e1
                injection e1 with _ e1
                subst e1
                have hqk : isQuietM ok = true := by
                  unfold isLoadM at hlo
                  unfold isQuietM
                  split at hlo
                  · rfl
                  · cases hlo
                have hmem : a ∈ ok.op.operands.toList := by rw [hop]; simp [Op.operands]
                have ea := eval_agree (hslot k ok hok hqk) a hmem
                have eb : b.eval a = rho e [] a := known_sound S.sb (valid_nil _) e2 a (by simp)
                rw [ea, eb, e3] at hp
                injection hp with hp
                injection hp with hp
                rw [← hp]; exact e4
          have htt : ∀ j, j ∈ heavyL 0 ops.toList → (j ∈ remN i todo ↔ (listed.setIfInBounds i true).getD j false = false) := fun j hj => by
            rw [remN_mem]
            by_cases hji : j = i
            · subst hji; rw [hsetI]; simp
            · rw [hset j hji, ← S.tt j hj]; exact ⟨fun hx => hx.1, fun hx => ⟨hx, hji⟩⟩
          have hndst : ∀ k ok t, ops[k]? = some ok → isQuietM ok = true → ok.dst = some t → o.dst ≠ some t := fun k ok t hok hqk hdk hdo => by
            have := ndDsts_spec hnd k i t (Array.getElem?_eq_some_iff.1 hok).1 hlt (by rw [dstOf_some hok, hdk]) (by rw [dstOf_some ho, hdo])
            subst this
            have : ok = o := Option.some.inj (hok.symm.trans ho)
            subst this; rw [hq] at hqk; cases hqk
          refine ih _ _ _ (b.put o.dst v) (putO e o.dst [] v) h' d' (i :: done) (remN i todo) hU' hdup' hmem' ⟨inv', fun s hs => ?_, by rw [size_put]; exact S.sz, by rw [defers_put]; exact S.ad, S.sb.putO hd (fun _ => rfl) fun hv => absurd (valid_nil _) hv, fun k ok t hok hqk hdk => ?_, fun k ok hok hqk h'' hh => ?_, htt, hlist', (fun j hj => by
            rcases List.mem_cons.1 hj with rfl | hj
            · exact hin
            · exact S.dn j hj), (fun j hj => S.th j (remN_mem.1 hj).1), remN_nodup S.nd, ⟨fu - 1, by have := remN_len hit; omega, hWT.1⟩, hWT.2, S.sm.trans (Same.put a o.dst _ fun t ht => dsts_mem (by
            obtain ⟨hl2, e2⟩ := Array.getElem?_eq_some_iff.1 ho
            rw [← e2]; simp) t ht)⟩
          · have hne : ∀ u, (∀ k ok, ops[k]? = some ok → isQuietM ok = true → listed.getD k false = false → ok.dst ≠ some s) → o.dst ≠ some s → vals (a.put o.dst u) s = vals (b.put o.dst v) s := fun u h1 h2 => by
              rw [vals_putO_ne h2, vals_putO_ne h2]; exact S.ag s h1
            have hs' : ∀ k ok, ops[k]? = some ok → isQuietM ok = true → listed.getD k false = false → ok.dst ≠ some s := fun k ok hok hqk hlk => by
              by_cases hki : k = i
              · subst hki
                have : ok = o := Option.some.inj (hok.symm.trans ho)
                subst this; rw [hq] at hqk; cases hqk
              · exact hs k ok hok hqk (by rw [hset k hki]; exact hlk)
            by_cases hds : o.dst = some s
            · rw [← hbv, hds]
              have hsn : s < n := by
                rw [hds] at hd
                unfold okDst at hd
                simp at hd; exact hd.2
              rw [vals_put (by rw [S.sz]; exact hsn), vals_put (by rw [S.sb.size]; exact hsn)]
            · exact hne v2 hs' hds
          · have := S.qv k ok t hok hqk hdk
            rw [vals_putO_ne (hndst k ok t hok hqk hdk)]; exact this
          · have hk2 := hgd k ok hok
            rw [exec_agree (b := b) hk2.2 (hslot k ok hok hqk)]
            exact S.qx k ok hok hqk h'' (LdOK.congr (fun x hx => (eval_agree (hslot k ok hok hqk) x hx).symm) hh)
theorem mixb_sound {P:Program} {n:Nat} {ops:Array Oper} {h:Heap} {K:Env→Heap→Prop} {md:Bool} {Q:Exit→Act→World→Prop} (B:World) (hmix:mixB2 ops=true) {e:Env} {a:Act}
  (H:wU P n h (fun e'=>wB P n ops h K md (heavyL 0 ops.toList).length [] (heavyL 0 ops.toList) e' h) ops.toList e) (hs:Sat n e a)
  (hQ:∀ e' a' d' h',Sat n e' a'→Same (dsts ops.toList) a a'→K e' h'→Q .normal a' (mk B d' h')) (d:Nat):wpAny P .any ops Q ops.size (Array.replicate ops.size false) a (mk B d h):=by
 obtain⟨hng,hback,hnd,hdeps⟩:=mixB2_spec hmix
 obtain⟨f,e1,HT,hsat,hf⟩:=wU_sound (k:=0) H hs
 have hl:∀ (i:Nat) (o:Oper),ops[i]?=some o→ops.toList[i]?=some o:=fun i o ho=>toL ho
 have hsplit:∀ i,putsM 0 ops.toList f a=putsM (0+(ops.toList.take i).length) (ops.toList.drop i) f (putsM 0 (ops.toList.take i) f a):=fun i=>by
  rw [← putsM_append,List.take_append_drop]
 refine mixb_run B hmix (f:=f) hQ ops.size (List.range ops.size) _ a (putsM 0 ops.toList f a) e1 h d [] (heavyL 0 ops.toList) List.length_range List.nodup_range (fun k=>by rw [List.mem_range,getD_replicate_false];simp) ⟨⟨by simp,fun j oj _ hl=>(by rw [getD_replicate_false] at hl;cases hl),fun t ht ht'=>by omega⟩,fun s hs'=>?_,hs.size,hs.defers,hsat,fun i o t ho hq hd=>?_,fun i o ho hq h' hh=>?_,(fun j hj=>by rw [getD_replicate_false];simp [hj]),(fun j hj=>by rw [getD_replicate_false];simp),(fun j hj=>by cases hj),(fun j hj=>hj),heavyL_nodup,⟨_,Nat.le_refl _,HT⟩,fun _ _ _ _ _=>.inr (.inl (Keep.refl _ _)),Same.refl _ _⟩
 ·refine(putsM_other fun o ho hq=>?_).symm
  obtain⟨i,hi,e⟩:=List.getElem_of_mem ho
  exact hs' i o (ofL (by rw [List.getElem?_eq_getElem hi,e])) hq (getD_replicate_false _ _)
 ·obtain⟨h1,h2,h3⟩:=hf i o (hl i o ho) hq
  have htn:t < n:=by
   rw [hd] at h2
   unfold okDst at h2
   simp at h2;exact h2.2
  refine⟨?_,htn⟩
  have hlt:=(Array.getElem?_eq_some_iff.1 ho).1
  have hlen:(ops.toList.take i).length=i:=by simp;omega
  rw [hsplit i,hlen,Nat.zero_add]
  have hdr:ops.toList.drop i=o::ops.toList.drop (i+1):=by
   have:=(List.getElem?_eq_some_iff.1 (hl i o ho))
   rw [List.drop_eq_getElem_cons this.1,this.2]
  rw [hdr]
  unfold putsM
  rw [hq,cond_true,putsM_other fun o' ho' hq' hd'=>?_]
  ·rw [hd,vals_put (by rw [putsM_size.1,hs.size];exact htn)]
  ·obtain⟨m,hm,em⟩:=List.getElem_of_mem ho'
   have ho2:ops[i+1+m]?=some o':=by
    have:ops.toList[i+1+m]?=some o':=by rw [← List.getElem?_drop,List.getElem?_eq_getElem hm,em]
    exact ofL this
   have:=ndDsts_spec hnd i (i+1+m) t hlt (Array.getElem?_eq_some_iff.1 ho2).1 (by rw [dstOf_some ho,hd]) (by rw [dstOf_some ho2,hd'])
   omega
 ·obtain⟨h1,h2,h3⟩:=hf i o (hl i o ho) hq
  have hag:∀ t∈tmpsOf o.op.operands.toList,vals (putsM 0 ops.toList f a) t=vals (putsM 0 (ops.toList.take i) f a) t:=fun t ht=>by
   have hlt:=(Array.getElem?_eq_some_iff.1 ho).1
   rw [hsplit i]
   refine putsM_other fun o' ho' hq' hd'=>?_
   obtain⟨m,hm,em⟩:=List.getElem_of_mem ho'
   have ho2:ops[i+m]?=some o':=by
    have:ops.toList[i+m]?=some o':=by rw [← List.getElem?_drop,List.getElem?_eq_getElem hm,em]
    exact ofL this
   obtain⟨hs1,_⟩:=depsOK_spec hdeps i o hlt ho
   have hw:=slotsOK_spec hs1 (i+m) t (Array.getElem?_eq_some_iff.1 ho2).1 (by rw [dstOf_some ho2,hd']) ht
   obtain⟨oj,hoj,x,hx,hb,hon⟩:=Region.waitsFor_spec hw
   have:=edgesBack_spec hback i oj hlt hoj x hx hb
   omega
  have:=h3 h' (LdOK.congr (fun x hx=>(eval_agree hag x hx).symm) hh)
  rw [Nat.zero_add] at this
  rw [exec_agree h1 hag]
  exact this
end Go.X
end
section
namespace Go.X
open Go
set_option linter.unusedVariables false
def isExtr (o:Oper):Bool:=match o.op with
 | .extract _ _=>true
 | _=>false
def pureM (o:Oper):Bool:=bif isQuietM o then true else isExtr o
def upL (ops:Array Oper):Nat→List Nat→List Nat
 | 0,S=>S
 | k+1,S=>upL ops k (bif S.any fun p=>Region.waitsFor .any ops p k then k::S else S)
theorem upL_spec {ops:Array Oper} {listed:Array Bool} (hc:∀ i p,listed.getD i false=true→Region.waitsFor .any ops i p=true→listed.getD p false=true):∀ {m:Nat} {S:List Nat},(∀ j∈S,listed.getD j false=true)→∀ k∈upL ops m S,listed.getD k false=true
 | 0,S,h,k,hk=>h k hk
 | m+1,S,h,k,hk=>by
  unfold upL at hk
  refine upL_spec hc (m:=m) (fun j hj=>?_) k hk
  cases ha:(S.any fun p=>Region.waitsFor .any ops p m) with
  | false=>rw [ha] at hj;exact h j hj
  | true=>
   rw [ha,cond_true] at hj
   rcases List.mem_cons.1 hj with rfl | hj
   ·obtain⟨p,hp,hw⟩:=List.any_eq_true.1 ha
    exact hc p _ (h p hp) hw
   ·exact h j hj
theorem memN_yes {l:List Nat} {i:Nat} (h:memN l i=true):i∈l:=by
 induction l with
 | nil=>cases h
 | cons j l ih=>
  simp only [memN] at h
  cases hb:Nat.beq i j with
  | true=>rw [Nat.eq_of_beq_eq_true hb];exact List.mem_cons_self
  | false=>rw [hb] at h;exact List.mem_cons_of_mem _ (ih h)
theorem memN_of {l:List Nat} {i:Nat} (h:i∈l):memN l i=true:=by
 cases hm:memN l i with
 | true=>rfl
 | false=>exact absurd h (memN_false hm)
def baseB (ops:Array Oper) (k:Nat):Bool:=match ops[k]? with
 | some o=>!(pureM o)
 | none=>false
def depB (ops:Array Oper) (i:Nat):Bool:=(upL ops ops.size [i]).any (baseB ops)
def isHv (ops:Array Oper) (i:Nat):Bool:=match ops[i]? with
 | some o=>bif pureM o then(bif isLoadM o then depB ops i else false) else true
 | none=>true
def hvL (ops:Array Oper):List Nat:=(List.range ops.size).filter (isHv ops)
theorem hvL_mem {ops:Array Oper} {j:Nat}:j∈hvL ops↔j < ops.size∧isHv ops j=true:=by
 unfold hvL;rw [List.mem_filter,List.mem_range]
theorem hvL_nodup (ops:Array Oper):(hvL ops).Nodup:=List.nodup_range.filter _
def okW (ops:Array Oper) (done S:List Nat) (k:Nat):Nat→Bool
 | 0=>true
 | p+1=>bif Region.waitsFor .any ops k p then(bif (bif isHv ops p then memN done p else memN S p) then okW ops done S k p else false) else okW ops done S k p
theorem okW_spec {ops:Array Oper} {done S:List Nat} {k:Nat}:∀ {m:Nat},okW ops done S k m=true↔∀ p,p < m→Region.waitsFor .any ops k p=true→(isHv ops p=true→p∈done)∧(isHv ops p=false→p∈S)
 | 0=>⟨fun _ p hp=>by omega,fun _=>rfl⟩
 | m+1=>by
  unfold okW
  have ih:=okW_spec (ops:=ops) (done:=done) (S:=S) (k:=k) (m:=m)
  constructor
  ·intro h p hp hw
   rcases Nat.lt_or_ge p m with h1 | h1
   ·refine ih.1 ?_ p h1 hw
    revert h
    cases Region.waitsFor .any ops k m with
    | false=>exact id
    | true=>
     cases(bif isHv ops m then memN done m else memN S m) with
     | false=>intro h;cases h
     | true=>exact id
   ·have:p=m:=by omega
    subst this
    rw [hw,cond_true] at h
    cases hi:isHv ops p with
    | true=>
     rw [hi,cond_true] at h
     cases hm:memN done p with
     | false=>rw [hm] at h;cases h
     | true=>exact⟨fun _=>memN_yes hm,(fun hc=>by cases hc)⟩
    | false=>
     rw [hi,cond_false] at h
     cases hm:memN S p with
     | false=>rw [hm] at h;cases h
     | true=>exact⟨(fun hc=>by cases hc),fun _=>memN_yes hm⟩
  ·intro h
   have h1:=ih.2 fun p hp hw=>h p (by omega) hw
   cases hw:Region.waitsFor .any ops k m with
   | false=>exact h1
   | true=>
    obtain⟨a,b⟩:=h m (by omega) hw
    rw [cond_true]
    cases hi:isHv ops m with
    | true=>rw [cond_true,memN_of (a hi)];exact h1
    | false=>rw [cond_false,memN_of (b hi)];exact h1
def rdyS (ops:Array Oper) (done S:List Nat) (k:Nat):List Nat:=bif isHv ops k then S else(bif okW ops done S k k then k::S else S)
def rdyL (ops:Array Oper) (done:List Nat):Nat→List Nat
 | 0=>[]
 | k+1=>rdyS ops done (rdyL ops done k) k
theorem rdyL_lt {ops:Array Oper} {done:List Nat}:∀ {m i:Nat},i∈rdyL ops done m→i < m∧isHv ops i=false∧okW ops done (rdyL ops done i) i i=true
 | 0,i,h=>by cases h
 | m+1,i,h=>by
  unfold rdyL rdyS at h
  cases hi:isHv ops m with
  | true=>rw [hi,cond_true] at h;have:=rdyL_lt h;exact⟨by omega,this.2⟩
  | false=>
   rw [hi,cond_false] at h
   cases ho:okW ops done (rdyL ops done m) m m with
   | false=>rw [ho,cond_false] at h;have:=rdyL_lt h;exact⟨by omega,this.2⟩
   | true=>
    rw [ho,cond_true] at h
    rcases List.mem_cons.1 h with rfl | h
    ·exact⟨by omega,hi,ho⟩
    ·have:=rdyL_lt h;exact⟨by omega,this.2⟩
theorem rdyL_mono {ops : Array Oper} {done : List Nat} {m : Nat} : ∀ {m' i : Nat}, m ≤ m' → i ∈ rdyL ops done m → i ∈ rdyL ops done m'
  | 0, i, h, hi => by have : m = 0 := by omega
                      subst this; exact hi
  | m' + 1, i, h, hi => by
    rcases Nat.eq_or_lt_of_le h with e | e
    · rw [← e]; exact hi
    · have := rdyL_mono (m' := m') (by omega) hi
      unfold rdyL rdyS
      cases isHv ops m' with
      | true => exact this
      | false =>
        rw [cond_false]
        cases okW ops done (rdyL ops done m') m' m' with
        | true => exact List.mem_cons_of_mem _ this
        | false => exact this
theorem rdyL_of {ops:Array Oper} {done:List Nat} {m i:Nat} (hm:i < m) (h1:isHv ops i=false) (h2:okW ops done (rdyL ops done i) i i=true):i∈rdyL ops done m:=by
 refine rdyL_mono (m:=i+1) hm ?_
 unfold rdyL rdyS
 rw [h1,h2];exact List.mem_cons_self
theorem rdyL_dep {ops:Array Oper} {done:List Nat} {m i p:Nat} (h:i∈rdyL ops done m) (hp:p < i) (hw:Region.waitsFor .any ops i p=true):(isHv ops p=true→p∈done)∧(isHv ops p=false→p∈rdyL ops done m):=by
 obtain⟨h1,h2,h3⟩:=rdyL_lt h
 obtain⟨a,b⟩:=okW_spec.1 h3 p hp hw
 exact⟨a,fun hi=>rdyL_mono (by omega) (b hi)⟩
def batchL (was now:List Nat) (n:Nat):List Nat:=(List.range n).filter fun i=>bif memN now i then !(memN was i) else false
theorem batchL_mem {was now:List Nat} {n i:Nat}:i∈batchL was now n↔i < n∧i∈now∧i∉was:=by
 unfold batchL
 rw [List.mem_filter,List.mem_range]
 constructor
 ·rintro⟨h1,h2⟩
  cases hn:memN now i with
  | false=>rw [hn] at h2;cases h2
  | true=>
   rw [hn,cond_true] at h2
   exact⟨h1,memN_yes hn,fun hm=>by rw [memN_of hm] at h2;cases h2⟩
 ·rintro⟨h1,h2,h3⟩
  refine⟨h1,?_⟩
  rw [memN_of h2,cond_true]
  cases hw:memN was i with
  | false=>rfl
  | true=>exact absurd (memN_yes hw) h3
theorem batchL_sorted (was now:List Nat) (n:Nat):(batchL was now n).Pairwise (· < ·):=List.pairwise_lt_range.filter _
def wI (P:Program) (n:Nat) (h:Heap) (ld:Bool) (ops:Array Oper) (K:Env→Prop):List Nat→Env→Prop
 | [],e=>K e
 | i::l,e=>match ops[i]? with
  | some o=>bif pureM o then(bif (bif ld then true else !(isLoadM o)) then(bif okDst n [] o.dst then(bif noSel o.op then(bif known e [] o.op.operands.toList then stepQ P o (rho e []) none h fun v=>wI P n h ld ops K l (putO e o.dst [] v) else False) else False) else False) else False) else False
  | none=>False
def putsI (ops:Array Oper) (f:Nat→Value):List Nat→Act→Act
 | [],a=>a
 | i::l,a=>putsI ops f l (a.put (dstOf ops i) (f i))
theorem pure_fact {P:Program} {o:Oper} (hq:pureM o=true) {ρ:Operand→Value} {h:Heap} {K:Value→Prop} (H:stepQ P o ρ none h K):
  ∃ v,K v∧∀ h',LdOK o ρ h h'→QExec P (execOp ρ o) h' (.value v):=by
 unfold pureM at hq
 cases hb:isQuietM o with
 | true=>exact quiet_fact hb H
 | false=>
  rw [hb,cond_false] at hq
  unfold isExtr at hq
  split at hq
  ·rename_i x i ho
   unfold stepQ at H;rw [ho] at H
   obtain⟨v,h1,h2⟩:=pureF_sound H none
   exact⟨v,h1,fun h' _=>h2 trivial h'⟩
  ·cases hq
theorem putsI_size {ops:Array Oper} {f:Nat→Value}:∀ {l:List Nat} {a:Act},(putsI ops f l a).tmps.size=a.tmps.size∧(putsI ops f l a).defers=a.defers
 | [],_=>⟨rfl,rfl⟩
 | i::l,a=>by
  unfold putsI
  have:=putsI_size (ops:=ops) (f:=f) (l:=l) (a:=a.put (dstOf ops i) (f i))
  rw [this.1,this.2]
  exact⟨size_put _ _ _,defers_put _ _ _⟩
theorem putsI_other {ops:Array Oper} {f:Nat→Value} {s:Nat}:∀ {l:List Nat} {a:Act},(∀ i∈l,dstOf ops i≠some s)→vals (putsI ops f l a) s=vals a s
 | [],_,_=>rfl
 | i::l,a,h=>by
  unfold putsI
  rw [putsI_other fun j hj=>h j (List.mem_cons_of_mem _ hj)]
  exact vals_putO_ne (h i List.mem_cons_self)
theorem putsI_split {ops:Array Oper} {f:Nat→Value}:∀ {l m:List Nat} {a:Act},putsI ops f (l++m) a=putsI ops f m (putsI ops f l a)
 | [],_,_=>rfl
 | i::l,m,a=>by
  rw [List.cons_append]
  show putsI ops f (l++m) _=putsI ops f m (putsI ops f l _)
  exact putsI_split
theorem wI_sound {P:Program} {n:Nat} {h:Heap} {ld:Bool} {ops:Array Oper} {K:Env→Prop} (f0:Nat→Value):∀ {l:List Nat} {e:Env} {a:Act},l.Nodup→wI P n h ld ops K l e→Sat n e a→∃ (f:Nat→Value) (e':Env),K e'∧Sat n e' (putsI ops f l a)∧(∀ i,i∉l→f i=f0 i) ∧
  ∀ l1 i l2,l=l1++i::l2→∃ o,ops[i]?=some o∧pureM o=true∧(ld=false→isLoadM o=false)∧noSel o.op=true∧okDst n [] o.dst=true∧∀ h',LdOK o (putsI ops f l1 a).eval h h'→QExec P (execOp (putsI ops f l1 a).eval o) h' (.value (f i))
 | [],e,a,_,H,hs=>⟨f0,e,H,hs,fun _ _=>rfl,fun l1 i l2 h=>by simp at h⟩
 | i::l,e,a,hnd,H,hs=>by
  unfold wI at H
  cases ho:ops[i]? with
  | none=>rw [ho] at H;exact H.elim
  | some o=>
   rw [ho] at H
   simp only at H
   cases hq:pureM o with
   | false=>rw [hq] at H;exact H.elim
   | true=>
    rw [hq,cond_true] at H
    cases hld:(bif ld then true else !(isLoadM o)) with
    | false=>rw [hld] at H;exact H.elim
    | true=>
     rw [hld,cond_true] at H
     cases hd:okDst n [] o.dst with
     | false=>rw [hd] at H;exact H.elim
     | true=>
      rw [hd,cond_true] at H
      cases hns:noSel o.op with
      | false=>rw [hns] at H;exact H.elim
      | true=>
       rw [hns,cond_true] at H
       cases hk:known e [] o.op.operands.toList with
       | false=>rw [hk] at H;exact H.elim
       | true=>
        rw [hk,cond_true] at H
        rw [List.nodup_cons] at hnd
        obtain⟨v,H1,H2⟩:=pure_fact hq H
        have hdst:dstOf ops i=o.dst:=dstOf_some ho
        obtain⟨f,e',g1,g2,g3,g4⟩:=wI_sound (fun x=>if x=i then v else f0 x) (a:=a.put o.dst v) hnd.2 H1 (hs.putO hd (fun _=>rfl) fun hv=>absurd (valid_nil _) hv)
        have hfi:f i=v:=by rw [g3 i hnd.1,if_pos rfl]
        have hput:putsI ops f (i::l) a=putsI ops f l (a.put o.dst v):=by
         show putsI ops f l (a.put (dstOf ops i) (f i))=_
         rw [hdst,hfi]
        refine⟨f,e',g1,by rw [hput];exact g2,fun j hj=>?_,fun l1 j l2 hl=>?_⟩
        ·simp only [List.mem_cons,not_or] at hj
         rw [g3 j hj.2,if_neg hj.1]
        ·cases l1 with
         | nil=>
          simp only [List.nil_append,List.cons.injEq] at hl
          obtain⟨rfl,rfl⟩:=hl
          refine⟨o,ho,hq,fun hl=>by rw [hl] at hld;simpa using hld,hns,hd,fun h' hh=>?_⟩
          show QExec P (execOp a.eval o) h' _
          rw [exec_rho hs (valid_nil _) hns hk,hfi]
          exact H2 h' (LdOK.congr (fun x hx=>(known_sound hs (valid_nil _) hk x hx).symm) hh)
         | cons i' l1=>
          simp only [List.cons_append,List.cons.injEq] at hl
          obtain⟨rfl,rfl⟩:=hl
          obtain⟨o',q1,q2,q3,q4,q5,q6⟩:=g4 l1 j l2 rfl
          have hput1:putsI ops f (i::l1) a=putsI ops f l1 (a.put o.dst v):=by
           show putsI ops f l1 (a.put (dstOf ops i) (f i))=_
           rw [hdst,hfi]
          refine⟨o',q1,q2,q3,q4,q5,fun h' hh=>?_⟩
          rw [hput1] at hh ⊢
          exact q6 h' hh
def late7 (ops:Array Oper) (U:List Nat):Nat→Bool
 | 0=>false
 | k+1=>bif (match ops[k]? with
  | some o=>bif isLoadM o then(bif isHv ops k then false else !(memN U k)) else false
  | none=>false) then true else late7 ops U k
theorem late7_spec {ops:Array Oper} {U:List Nat}:∀ {m:Nat},late7 ops U m=false→∀ k o,k < m→ops[k]?=some o→isLoadM o=true→isHv ops k=false→k∈U
 | 0,_,k,o,hk,_,_,_=>by omega
 | m+1,h,k,o,hk,ho,hl,hi=>by
  unfold late7 at h
  cases hb:(match ops[m]? with
   | some o=>bif isLoadM o then(bif isHv ops m then false else !(memN U m)) else false
   | none=>false) with
  | true=>rw [hb] at h;cases h
  | false=>
   rw [hb,cond_false] at h
   rcases Nat.lt_or_ge k m with h1 | h1
   ·exact late7_spec h k o h1 ho hl hi
   ·have:k=m:=by omega
    subst this
    rw [ho] at hb
    simp only [hl,hi,cond_true,cond_false] at hb
    exact memN_yes (by simpa using hb)
def lateL7 (ops:Array Oper) (U:List Nat) (e:Env) (h0 h':Heap) (K:Prop):Nat→Prop
 | 0=>K
 | k+1=>match ops[k]? with
  | some o=>bif (bif isLoadM o then(bif isHv ops k then false else !(memN U k)) else false) then(match o.op with
   | .load _ a=>bif known e [] [a] then(match rho e [] a with
    | .pointer (some p)=>h'[p.block]?=h0[p.block]?∧lateL7 ops U e h0 h' K k
    | _=>False) else False
   | _=>False) else lateL7 ops U e h0 h' K k
  | none=>lateL7 ops U e h0 h' K k
theorem lateL7_spec {ops:Array Oper} {U:List Nat} {e:Env} {h0 h':Heap} {K:Prop}:∀ {m:Nat},lateL7 ops U e h0 h' K m→K∧∀ k o,k < m→ops[k]?=some o→isLoadM o=true→isHv ops k=false→k∉U →
  ∃ t a p,o.op=.load t a∧known e [] [a]=true∧rho e [] a=.pointer (some p)∧h'[p.block]?=h0[p.block]?
 | 0,H=>⟨H,fun k o hk=>by omega⟩
 | m+1,H=>by
  unfold lateL7 at H
  have step:lateL7 ops U e h0 h' K m→(∀ o,ops[m]?=some o→isLoadM o=true→isHv ops m=false→m∉U→∃ t a p,o.op=.load t a∧known e [] [a]=true∧rho e [] a=.pointer (some p)∧h'[p.block]?=h0[p.block]?) →
    K∧∀ k o,k < m+1→ops[k]?=some o→isLoadM o=true→isHv ops k=false→k∉U→∃ t a p,o.op=.load t a∧known e [] [a]=true∧rho e [] a=.pointer (some p)∧h'[p.block]?=h0[p.block]?:=fun H1 H2=>by
   obtain⟨h1,h2⟩:=lateL7_spec H1
   refine⟨h1,fun k o hk ho hl hi hr=>?_⟩
   rcases Nat.lt_or_ge k m with h3 | h3
   ·exact h2 k o h3 ho hl hi hr
   ·have:k=m:=by omega
    subst this
    exact H2 o ho hl hi hr
  cases ho:ops[m]? with
  | none=>rw [ho] at H;exact step H fun o h1=>by rw [ho] at h1;cases h1
  | some o=>
   rw [ho] at H
   simp only at H
   have same:∀ o',ops[m]?=some o'→o'=o:=fun o' h1=>Option.some.inj (h1.symm.trans ho)
   cases hc:(bif isLoadM o then(bif isHv ops m then false else !(memN U m)) else false) with
   | false=>
    rw [hc] at H
    refine step H fun o' h1 h2 h3 h4=>?_
    rw [same o' h1] at h2
    rw [h2,h3,cond_true,cond_false] at hc
    exact absurd (memN_yes (by simpa using hc)) h4
   | true=>
    rw [hc,cond_true] at H
    split at H
    ·rename_i t a hop
     cases hk:known e [] [a] with
     | false=>rw [hk] at H;exact H.elim
     | true=>
      rw [hk,cond_true] at H
      split at H
      ·rename_i p hp
       exact step H.2 fun o' h1 h2 h3 h4=>⟨t,a,p,by rw [same o' h1];exact hop,hk,hp,H.1⟩
      ·exact H.elim
    ·exact H.elim
def lateP7 (md:Bool) (ops:Array Oper) (T:List Nat) (e:Env) (h0 h':Heap) (K:Prop):Prop:=bif late7 ops (upL ops ops.size T) ops.size then(bif md then lateL7 ops (upL ops ops.size T) e h0 h' K ops.size else Keep h0.size h0 h'∧K) else K
def cand7 (ops:Array Oper) (todo:List Nat) (j:Nat):Bool:=todo.all fun k=>bif Nat.beq k j then true else !(memN (upL ops ops.size [j]) k)
def wB7 (P:Program) (n:Nat) (ops:Array Oper) (h0:Heap) (K:Env→Heap→Prop) (md:Bool):Nat→List Nat→List Nat→Env→Heap→Prop
 | _,_,[],e,h=>K (clean e) h
 | 0,_,_::_,_,_=>False
 | f+1,T,j0::l0,e,h=>allB (fun j=>match ops[j]? with
  | some o=>bif okDst n [] o.dst then opW P o e [] h fun v h'=>wI P n h' false ops (fun e'=>lateP7 md ops (j::T) e' h0 h' (wB7 P n ops h0 K md f (j::T) (remN j (j0::l0)) e' h')) (batchL (rdyL ops T ops.size) (rdyL ops (j::T) ops.size) ops.size) (putO e o.dst [] v) else False
  | none=>False) (filtB (cand7 ops (j0::l0)) (j0::l0))
theorem wB7_branch {P:Program} {n:Nat} {ops:Array Oper} {h0:Heap} {K:Env→Heap→Prop} {md:Bool} {f:Nat} {T todo:List Nat} {e:Env} {h:Heap} (H:wB7 P n ops h0 K md (f+1) T todo e h) {j:Nat} (hj:j∈todo) (hc:cand7 ops todo j=true):match ops[j]? with
  | some o=>bif okDst n [] o.dst then opW P o e [] h fun v h'=>wI P n h' false ops (fun e'=>lateP7 md ops (j::T) e' h0 h' (wB7 P n ops h0 K md f (j::T) (remN j todo) e' h')) (batchL (rdyL ops T ops.size) (rdyL ops (j::T) ops.size) ops.size) (putO e o.dst [] v) else False
  | none=>False:=by
 cases todo with
 | nil=>cases hj
 | cons j0 l0=>exact allB_mem H j (filtB_mem hj hc)
def slotsAll (ops:Array Oper):Nat→Bool
 | 0=>true
 | k+1=>bif (match ops[k]? with
  | some o=>slotsOK ops k (tmpsOf o.op.operands.toList) ops.size
  | none=>true) then slotsAll ops k else false
theorem slotsAll_spec {ops:Array Oper}:∀ {m:Nat},slotsAll ops m=true→∀ k o,k < m→ops[k]?=some o→slotsOK ops k (tmpsOf o.op.operands.toList) ops.size=true
 | 0,_,k,o,hk,_=>by omega
 | m+1,h,k,o,hk,ho=>by
  unfold slotsAll at h
  cases hb:(match ops[m]? with
   | some o=>slotsOK ops m (tmpsOf o.op.operands.toList) ops.size
   | none=>true) with
  | false=>rw [hb] at h;cases h
  | true=>
   rw [hb,cond_true] at h
   rcases Nat.lt_or_ge k m with h1 | h1
   ·exact slotsAll_spec h k o h1 ho
   ·have:k=m:=by omega
    subst this
    rw [ho] at hb;exact hb
def mixB7 (ops:Array Oper):Bool:=bif noGuards ops.toList then(bif edgesBack ops ops.size then(bif ndDsts ops ops.size then slotsAll ops ops.size else false) else false) else false
theorem mixB7_spec {ops:Array Oper} (h:mixB7 ops=true):noGuards ops.toList=true∧edgesBack ops ops.size=true∧ndDsts ops ops.size=true∧slotsAll ops ops.size=true:=by
 unfold mixB7 at h
 cases h1:noGuards ops.toList <;> cases h2:edgesBack ops ops.size <;> cases h3:ndDsts ops ops.size <;> simp [h1,h2,h3] at h ⊢
 exact h
structure St7 (P:Program) (n:Nat) (ops:Array Oper) (h0:Heap) (K:Env→Heap→Prop) (md:Bool) (f:Nat→Value) (a0:Act) (listed:Array Bool) (a b:Act) (e:Env) (h:Heap) (done todo:List Nat):Prop where
 inv:HeadInv .any ops ops.size listed
 ag:∀ s,(∀ i o,ops[i]?=some o→isHv ops i=false→listed.getD i false=false→o.dst≠some s)→vals a s=vals b s
 sz:a.tmps.size=n
 ad:a.defers=[]
 sb:Sat n e b
 qv:∀ i o t,ops[i]?=some o→i∈rdyL ops done ops.size→o.dst=some t→vals b t=f i∧t < n
 qx:∀ i o,ops[i]?=some o→i∈rdyL ops done ops.size→∀ h',LdOK o b.eval h0 h'→QExec P (execOp b.eval o) h' (.value (f i))
 tt:∀ j,j∈hvL ops→(j∈todo↔listed.getD j false=false)
 ch:∀ j,j∈hvL ops→(listed.getD j false=true↔j∈done)
 dn:∀ j∈done,j∈hvL ops
 th:∀ j∈todo,j∈hvL ops
 nd:todo.Nodup
 wt:∃ fu,todo.length≤fu∧wB7 P n ops h0 K md fu done todo e h
 kp:∀ i o,ops[i]?=some o→isLoadM o=true→isHv ops i=false→listed.getD i false=false→LdOK o b.eval h0 h
 sm:Same (dsts ops.toList) a0 a
theorem batch_facts {P:Program} {n:Nat} {h:Heap} {ld:Bool} {ops:Array Oper} (hback:edgesBack ops ops.size=true) (hnd:ndDsts ops ops.size=true) (hsl:slotsAll ops ops.size=true) {f:Nat→Value} {l:List Nat} {b:Act} (hbs:b.tmps.size=n) (hlt:∀ i∈l,i < ops.size) (hsort:l.Pairwise (· < ·))
  (H:∀ l1 i l2,l=l1++i::l2→∃ o,ops[i]?=some o∧pureM o=true∧(ld=false→isLoadM o=false)∧noSel o.op=true∧okDst n [] o.dst=true∧∀ h',LdOK o (putsI ops f l1 b).eval h h'→QExec P (execOp (putsI ops f l1 b).eval o) h' (.value (f i))):
  ∀ i o,ops[i]?=some o→i∈l→(∀ t,o.dst=some t→vals (putsI ops f l b) t=f i∧t < n)∧(ld=false→isLoadM o=false)∧∀ h',LdOK o (putsI ops f l b).eval h h'→QExec P (execOp (putsI ops f l b).eval o) h' (.value (f i)):=by
 intro i o ho hi
 obtain⟨l1,l2,rfl⟩:=List.append_of_mem hi
 obtain⟨o',q1,q2,q3,q4,q5,q6⟩:=H l1 i l2 rfl
 have:o'=o:=Option.some.inj (q1.symm.trans ho)
 subst this
 have hil:i < ops.size:=hlt i (by simp)
 have hs:∀ j∈l2,i < j:=fun j hj=>by
  rw [List.pairwise_append] at hsort
  exact(List.pairwise_cons.1 hsort.2.1).1 j hj
 have hsplit:putsI ops f (l1++i::l2) b=putsI ops f l2 ((putsI ops f l1 b).put (dstOf ops i) (f i)):=by rw [putsI_split];rfl
 have hdst:dstOf ops i=o'.dst:=dstOf_some ho
 refine⟨fun t ht=>?_,q3,fun h' hh=>?_⟩
 ·have htn:t < n:=by
   rw [ht] at q5
   unfold okDst at q5
   simp at q5;exact q5.2
  refine⟨?_,htn⟩
  rw [hsplit,putsI_other fun j hj hd=>?_,hdst,ht,vals_put (by rw [putsI_size.1,hbs];exact htn)]
  have:=ndDsts_spec hnd i j t hil (hlt j (by simp [hj])) (by rw [hdst,ht]) hd
  have:=hs j hj
  omega
 ·have hag:∀ t∈tmpsOf o'.op.operands.toList,vals (putsI ops f (l1++i::l2) b) t=vals (putsI ops f l1 b) t:=fun t ht=>by
   have e1:putsI ops f (l1++i::l2) b=putsI ops f (i::l2) (putsI ops f l1 b):=putsI_split
   rw [e1]
   refine putsI_other fun j hj hd=>?_
   have hjs:j < ops.size:=hlt j (by simp [hj])
   have hw:=slotsOK_spec (slotsAll_spec hsl i o' hil ho) j t hjs hd ht
   obtain⟨oj,hoj,x,hx,hb,hon⟩:=Region.waitsFor_spec hw
   have h1:=edgesBack_spec hback i oj hil hoj x hx hb
   rcases List.mem_cons.1 hj with rfl | hj
   ·omega
   ·have:=hs j hj;omega
  rw [exec_agree q4 hag]
  exact q6 h' (LdOK.congr (fun x hx=>(eval_agree hag x hx).symm) hh)
theorem mix7_run {P : Program} {n : Nat} {ops : Array Oper} {h0 : Heap} {K : Env → Heap → Prop} {md : Bool} {Q : Exit → Act → World → Prop} (B : World) (hmix : mixB7 ops = true) {a0 : Act}
    (hQ : ∀ e' a' d' h', Sat n e' a' → Same (dsts ops.toList) a0 a' → K e' h' → Q .normal a' (mk B d' h')) :
    ∀ (N : Nat) (U : List Nat) (listed : Array Bool) (f : Nat → Value) (a b : Act) (e : Env) (h : Heap) (d : Nat) (done todo : List Nat), U.length = N → U.Nodup → (∀ k, k ∈ U ↔ k < ops.size ∧ listed.getD k false = false) →
      St7 P n ops h0 K md f a0 listed a b e h done todo → wpAny P .any ops Q N listed a (mk B d h) := by
  obtain ⟨hng, hback, hnd, hsl⟩ := mixB7_spec hmix
  have hgd : ∀ (i : Nat) (o : Oper), ops[i]? = some o → o.guard = none ∧ noSel o.op = true := fun i o ho => noGuards_spec hng o (by
    obtain ⟨hlt, e⟩ := Array.getElem?_eq_some_iff.1 ho
    rw [← e]; simp)
  have hslot0 : ∀ k o, ops[k]? = some o → ∀ p t, p < ops.size → dstOf ops p = some t → t ∈ tmpsOf o.op.operands.toList → Region.waitsFor .any ops k p = true := fun k o ho p t hp hd ht =>
    slotsOK_spec (slotsAll_spec hsl k o (Array.getElem?_eq_some_iff.1 ho).1 ho) p t hp hd ht
  have hbk : ∀ k p, Region.waitsFor .any ops k p = true → p < k := fun k p hw => by
    obtain ⟨oj, hoj, x, hx, hb, hon⟩ := Region.waitsFor_spec hw
    have := edgesBack_spec hback k oj (Array.getElem?_eq_some_iff.1 hoj).1 hoj x hx hb
    omega
  have fin : ∀ {listed : Array Bool} {f : Nat → Value} {a b : Act} {e : Env} {h : Heap} {d : Nat} {done todo : List Nat}, (∀ k, k < ops.size → listed.getD k false = true) → St7 P n ops h0 K md f a0 listed a b e h done todo → Q .normal a (mk B d h) := by
    intro listed f a b e h d done todo hall S
    have htodo : todo = [] := by
      cases htd : todo with
      | nil => rfl
      | cons j l =>
        have hm : j ∈ todo := by rw [htd]; simp
        have hj := S.th j hm
        have := (S.tt j hj).1 hm
        rw [hall j (hvL_mem.1 hj).1] at this; cases this
    obtain ⟨fu, _, hw⟩ := S.wt
    rw [htodo] at hw
    have hw : K (clean e) h := by cases fu <;> exact hw
    have hv : ∀ s, vals a s = vals b s := fun s => S.ag s fun i o ho hq hl => by
      rw [hall i (Array.getElem?_eq_some_iff.1 ho).1] at hl; cases hl
    have hs : Sat n e a := ⟨S.ad, S.sz, fun x hx => by
      have := S.sb.all x hx
      have e1 : vals a = vals b := funext hv
      rw [e1]; exact this⟩
    exact hQ _ _ _ _ hs.clean S.sm hw
  intro N
  induction N with
  | zero =>
    intro U listed f a b e h d done todo hU _ hmem S
    have hUn : U = [] := List.length_eq_zero_iff.1 hU
    subst hUn
    have hall : ∀ k, k < ops.size → listed.getD k false = true := fun k hk => by
      cases hb : listed.getD k false with
      | true => rfl
      | false => exact absurd ((hmem k).2 ⟨hk, hb⟩) (by simp)
    refine ⟨?_, fin hall S⟩
    rw [List.eq_nil_iff_forall_not_mem]
    intro j hj
    obtain ⟨h1, o, ho, _⟩ := mem_ready.1 hj
    have hlt := (Array.getElem?_eq_some_iff.1 ho).1
    have := hall j hlt
    have h2 := getD_both h1
    rw [this] at h2; cases h2
  | succ N ih =>
    intro U listed f a b e h d done todo hU hdup hmem S
    have hex : ∃ k, k < ops.size ∧ listed.getD k false = false := by
      cases U with
      | nil => cases hU
      | cons k U => exact ⟨k, (hmem k).1 List.mem_cons_self⟩
    refine ⟨fun hr => ?_, fun i hi => ?_⟩
    · exfalso
      obtain ⟨k, hk1, hk2, hk3⟩ := least_false hex
      have : k ∈ Region.ready .any ops listed := mem_ready.2 ⟨by rw [← hk2]; simp [S.inv.size, hk1], ops[k], Array.getElem?_eq_getElem hk1, fun x hx hb => hk3 _ (edgesBack_spec hback k ops[k] hk1 (Array.getElem?_eq_getElem hk1) x hx hb)⟩
      rw [hr] at this; cases this
    · obtain ⟨hun1, o, ho, hall⟩ := mem_ready.1 hi
      have hun : listed.getD i false = false := getD_both hun1
      have hlt : i < ops.size := (Array.getElem?_eq_some_iff.1 ho).1
      obtain ⟨hg, hns⟩ := hgd i o ho
      have hils : i < listed.size := by rw [S.inv.size]; exact hlt
      have hU' : (U.erase i).length = N := by rw [List.length_erase_of_mem ((hmem i).2 ⟨hlt, hun⟩), hU]; rfl
      have hdup' : (U.erase i).Nodup := hdup.erase i
      have hmem' : ∀ k, k ∈ U.erase i ↔ k < ops.size ∧ (listed.setIfInBounds i true).getD k false = false := fun k => by
        rw [hdup.mem_erase_iff, hmem k]
        by_cases hk : i = k
        · subst hk; simp [hils]
        · rw [getD_set_ne false hk]; exact ⟨fun hx => hx.2, fun hx => ⟨fun e => hk e.symm, hx⟩⟩
      have inv' := S.inv.set hi hlt
      have hset : ∀ k, k ≠ i → (listed.setIfInBounds i true).getD k false = listed.getD k false := fun k hk => getD_set_ne false (Ne.symm hk)
      have hsetI : (listed.setIfInBounds i true).getD i false = true := by simp [hils]
      have hops : ∀ t ∈ tmpsOf o.op.operands.toList, vals a t = vals b t := fun t ht => S.ag t fun k ok hok hq hl hd => by
        have hw := hslot0 i o ho k t (Array.getElem?_eq_some_iff.1 hok).1 (by rw [dstOf_some hok, hd]) ht
        rw [waits_done hi hw] at hl; cases hl
      have hexec := exec_agree hns hops
      have hsame : ∀ v, Same (dsts ops.toList) a0 (a.put o.dst v) := fun v => S.sm.trans (Same.put a o.dst _ fun t ht => dsts_mem (by
          obtain ⟨hl2, e2⟩ := Array.getElem?_eq_some_iff.1 ho
          rw [← e2]; simp) t ht)
      unfold wpOp
      rw [ho]
      simp only
      have hwant : Region.wanted o (yielded ops a.tmps) = true := by unfold Region.wanted; rw [hg]
      rw [if_pos hwant]
      left
      unfold Oper.wp
      rw [hexec]
      cases hq : isHv ops i with
      | false =>
        have hrdyG : ∀ m k ok, k < m → ops[k]? = some ok → isHv ops k = false → (∀ p, Region.waitsFor .any ops k p = true → listed.getD p false = true) → k ∈ rdyL ops done ops.size := by
          intro m
          induction m with
          | zero => intro k ok hk; omega
          | succ m ihm =>
            intro k ok hk hok hkh hkw
            refine rdyL_of (Array.getElem?_eq_some_iff.1 hok).1 hkh (okW_spec.2 fun p hp hw => ⟨fun hph => ?_, fun hph => ?_⟩)
            · have hpl := hkw p hw
              exact (S.ch p (hvL_mem.2 ⟨by have := (Array.getElem?_eq_some_iff.1 hok).1; omega, hph⟩)).1 hpl
            · have hps : p < ops.size := by have := (Array.getElem?_eq_some_iff.1 hok).1; omega
              have hin := ihm p ops[p] (by omega) (Array.getElem?_eq_getElem hps) hph fun q hq2 => waits_closed S.inv (hkw p hw) hq2
              obtain ⟨_, g2, g3⟩ := rdyL_lt hin
              exact rdyL_of hp g2 g3
        have hrdy := hrdyG (i + 1) i o (by omega) ho hq fun p hw => waits_done hi hw
        have hx := S.qx i o ho hrdy h (by
          cases hl : isLoadM o with
          | false => exact .inl hl
          | true => exact S.kp i o ho hl hq hun) B d
        rw [hx, Oper.upon_value]
        have hnot : i ∉ hvL ops := fun hm => by rw [(hvL_mem.1 hm).2] at hq; cases hq
        refine ih _ _ f _ b e h d done todo hU' hdup' hmem' { S with inv := inv', ag := fun s hs => ?_, sz := by rw [size_put]; exact S.sz, ad := by rw [defers_put]; exact S.ad, tt := fun j hj => (by have : j ≠ i := fun e => hnot (e ▸ hj); rw [hset j this]; exact S.tt j hj), ch := fun j hj => ?_, kp := fun k ok hok hl hkh hk => ?_, sm := hsame _ }
        · by_cases hd : o.dst = some s
          · obtain ⟨hv, hsn⟩ := S.qv i o s ho hrdy hd
            rw [hd, vals_put (by rw [S.sz]; exact hsn), hv]
          · rw [vals_putO_ne hd]
            refine S.ag s fun k ok hok hqk hlk => ?_
            by_cases hki : k = i
            · subst hki
              have : ok = o := Option.some.inj (hok.symm.trans ho)
              subst this; exact hd
            · exact hs k ok hok hqk (by rw [hset k hki]; exact hlk)
        · have : j ≠ i := fun e => hnot (e ▸ hj)
          rw [hset j this]; exact S.ch j hj
        · by_cases hki : k = i
          · subst hki; rw [hsetI] at hk; cases hk
          · rw [hset k hki] at hk; exact S.kp k ok hok hl hkh hk
      | true =>
        have hin : i ∈ hvL ops := hvL_mem.2 ⟨hlt, hq⟩
        have hit : i ∈ todo := (S.tt i hin).2 hun
        obtain ⟨fu, hfu, hW0⟩ := S.wt
        have hcl : ∀ p q, (listed.setIfInBounds i true).getD p false = true → Region.waitsFor .any ops p q = true → (listed.setIfInBounds i true).getD q false = true := fun p q h1 h2 => waits_closed inv' h1 h2
        have hcand : cand7 ops todo i = true := by
          unfold cand7
          rw [List.all_eq_true]
          intro k hk
          cases hki : Nat.beq k i with
          | true => rfl
          | false =>
            have hne : k ≠ i := fun e => by rw [e] at hki; simp at hki
            cases hr : memN (upL ops ops.size [i]) k with
            | false => rfl
            | true =>
              exfalso
              have := upL_spec hcl (m := ops.size) (S := [i]) (fun j hj => by simp at hj; subst hj; exact hsetI) k (memN_yes hr)
              rw [hset k hne] at this
              have h2 := (S.tt k (S.th k hk)).1 hk
              rw [this] at h2; cases h2
        have hW : match ops[i]? with
            | some o => bif okDst n [] o.dst then opW P o e [] h fun v h' => wI P n h' false ops (fun e' => lateP7 md ops (i :: done) e' h0 h' (wB7 P n ops h0 K md (fu - 1) (i :: done) (remN i todo) e' h')) (batchL (rdyL ops done ops.size) (rdyL ops (i :: done) ops.size) ops.size) (putO e o.dst [] v) else False
            | none => False := by
          cases fu with
          | zero => have : todo.length = 0 := by omega
                    rw [List.length_eq_zero_iff.1 this] at hit; cases hit
          | succ fu =>
            have := wB7_branch (show wB7 P n ops h0 K md (fu + 1) done todo e h from hW0) hit hcand
            exact this
        rw [ho] at hW
        simp only at hW
        cases hd : okDst n [] o.dst with
        | false => rw [hd] at hW; exact hW.elim
        | true =>
          rw [hd, cond_true] at hW
          refine upon_shift (b := b) S.sb.defers ?_
          refine opW_yes hW S.sb (valid_nil _) B d fun v d' h' hK => ⟨by rw [defers_put]; exact S.sb.defers, fun v2 hv2 => ?_⟩
          have hbv : b.put o.dst v2 = b.put o.dst v := hv2.symm
          generalize hbl : batchL (rdyL ops done ops.size) (rdyL ops (i :: done) ops.size) ops.size = bl at hK
          have hbm : ∀ k, k ∈ bl ↔ k < ops.size ∧ k ∈ rdyL ops (i :: done) ops.size ∧ k ∉ rdyL ops done ops.size := fun k => by rw [← hbl]; exact batchL_mem
          have hbsort : bl.Pairwise (· < ·) := by rw [← hbl]; exact batchL_sorted _ _ _
          have hbnd : bl.Nodup := hbsort.imp fun h => by omega
          have sb1 : Sat n (putO e o.dst [] v) (b.put o.dst v) := S.sb.putO hd (fun _ => rfl) fun hv => absurd (valid_nil _) hv
          obtain ⟨f', e2, HK, sb2, hf0, hfx⟩ := wI_sound f hbnd hK sb1
          have hbf := batch_facts hback hnd hsl (f := f') (l := bl) (b := b.put o.dst v) sb1.size (fun k hk => ((hbm k).1 hk).1) hbsort hfx
          have hbnh : ∀ k ∈ bl, isHv ops k = false := fun k hk => (rdyL_lt ((hbm k).1 hk).2.1).2.1
          have hlist' : ∀ j, j ∈ hvL ops → ((listed.setIfInBounds i true).getD j false = true ↔ j ∈ i :: done) := fun j hj => by
            by_cases hji : j = i
            · subst hji; rw [hsetI]; simp
            · rw [hset j hji, S.ch j hj]; simp [hji]
          have hjl : ∀ j ∈ i :: done, (listed.setIfInBounds i true).getD j false = true := fun j hj => by
            rcases List.mem_cons.1 hj with rfl | hj
            · exact hsetI
            · exact getD_set_true ((S.ch j (S.dn j hj)).2 hj)
          have hup : ∀ k, k ∈ upL ops ops.size (i :: done) → (listed.setIfInBounds i true).getD k false = true := fun k hk => upL_spec hcl hjl k hk
          have hundone : i ∉ done := fun hm => by rw [(S.ch i hin).2 hm] at hun; cases hun
          have hslot1 : ∀ k ok, ops[k]? = some ok → k ∈ rdyL ops done ops.size → ∀ t ∈ tmpsOf ok.op.operands.toList, vals (b.put o.dst v) t = vals b t := fun k ok hok hk t ht => vals_putO_ne fun hdo => by
            have hw := hslot0 k ok hok i t hlt (by rw [dstOf_some ho, hdo]) ht
            exact hundone ((rdyL_dep hk (hbk k i hw) hw).1 hq)
          have hslot2 : ∀ k ok, ops[k]? = some ok → k ∈ rdyL ops done ops.size → ∀ t ∈ tmpsOf ok.op.operands.toList, vals (putsI ops f' bl (b.put o.dst v)) t = vals b t := fun k ok hok hk t ht => by
            rw [putsI_other fun p hp hdp => ?_]
            · exact hslot1 k ok hok hk t ht
            · have hw := hslot0 k ok hok p t ((hbm p).1 hp).1 hdp ht
              exact ((hbm p).1 hp).2.2 ((rdyL_dep hk (hbk k p hw) hw).2 (hbnh p hp))
          have hdist : ∀ k ok t, ops[k]? = some ok → k ≠ i → ok.dst = some t → o.dst ≠ some t := fun k ok t hok hki hdk hdo => by
            have := ndDsts_spec hnd k i t (Array.getElem?_eq_some_iff.1 hok).1 hlt (by rw [dstOf_some hok, hdk]) (by rw [dstOf_some ho, hdo])
            exact hki this
          have hne_i : ∀ k, isHv ops k = false → k ≠ i := fun k hk e => by rw [e, hq] at hk; cases hk
          have hkp' : ∀ k ok, ops[k]? = some ok → isLoadM ok = true → isHv ops k = false → k ∈ rdyL ops done ops.size → LdOK ok b.eval h0 h' → LdOK ok (putsI ops f' bl (b.put o.dst v)).eval h0 h' := fun k ok hok _ _ hk hh =>
            LdOK.congr (fun x hx => (eval_agree (hslot2 k ok hok hk) x hx)) hh
          have hQK : wB7 P n ops h0 K md (fu - 1) (i :: done) (remN i todo) e2 h' ∧ (∀ k ok, ops[k]? = some ok → isLoadM ok = true → isHv ops k = false → (listed.setIfInBounds i true).getD k false = false → LdOK ok (putsI ops f' bl (b.put o.dst v)).eval h0 h') := by
            unfold lateP7 at HK
            cases hl : late7 ops (upL ops ops.size (i :: done)) ops.size with
            | false =>
              rw [hl, cond_false] at HK
              exact ⟨HK, fun k ok hok hlo hkh hf => by rw [hup k (late7_spec hl k ok (Array.getElem?_eq_some_iff.1 hok).1 hok hlo hkh)] at hf; cases hf⟩
            | true =>
              rw [hl, cond_true] at HK
              cases md with
              | false => exact ⟨HK.2, fun _ _ _ _ _ _ => .inr (.inl HK.1)⟩
              | true =>
                rw [cond_true] at HK
                obtain ⟨g1, g2⟩ := lateL7_spec HK
                refine ⟨g1, fun k ok hok hlo hkh hf => .inr (.inr fun t a p hop hp => ?_)⟩
                obtain ⟨t', a', p', e1, e2', e3, e4⟩ := g2 k ok (Array.getElem?_eq_some_iff.1 hok).1 hok hlo hkh (fun hm => by rw [hup k hm] at hf; cases hf)
                rw [hop] at e1
                injection e1 with _ e1
                subst e1
                have eb : (putsI ops f' bl (b.put o.dst v)).eval a = rho e2 [] a := known_sound sb2 (valid_nil _) e2' a (by simp)
                rw [eb, e3] at hp
                injection hp with hp
                injection hp with hp
                rw [← hp]; exact e4
          have htt : ∀ j, j ∈ hvL ops → (j ∈ remN i todo ↔ (listed.setIfInBounds i true).getD j false = false) := fun j hj => by
            rw [remN_mem]
            by_cases hji : j = i
            · subst hji; rw [hsetI]; simp
            · rw [hset j hji, ← S.tt j hj]; exact ⟨fun hx => hx.1, fun hx => ⟨hx, hji⟩⟩
          refine ih _ _ f' _ (putsI ops f' bl (b.put o.dst v)) e2 h' d' (i :: done) (remN i todo) hU' hdup' hmem' ⟨inv', fun s hs => ?_, by rw [size_put]; exact S.sz, by rw [defers_put]; exact S.ad, sb2, fun k ok t hok hk hdk => ?_, fun k ok hok hk h'' hh => ?_, htt, hlist', (fun j hj => by
            rcases List.mem_cons.1 hj with rfl | hj
            · exact hin
            · exact S.dn j hj), (fun j hj => S.th j (remN_mem.1 hj).1), remN_nodup S.nd, ⟨fu - 1, by have := remN_len hit; omega, hQK.1⟩, hQK.2, hsame _⟩
          · -- slots
            have hs' : ∀ k ok, ops[k]? = some ok → isHv ops k = false → listed.getD k false = false → ok.dst ≠ some s := fun k ok hok hqk hlk => hs k ok hok hqk (by rw [hset k (hne_i k hqk)]; exact hlk)
            have hbl : ∀ p ∈ bl, dstOf ops p ≠ some s := fun p hp hdp => by
              have hps := ((hbm p).1 hp).1
              have hok : ops[p]? = some ops[p] := Array.getElem?_eq_getElem hps
              have hph := hbnh p hp
              refine hs p _ hok hph ?_ (by rw [← dstOf_some hok]; exact hdp)
              cases hlp : (listed.setIfInBounds i true).getD p false with
              | false => rfl
              | true =>
                exfalso
                rw [hset p (hne_i p hph)] at hlp
                have : ∀ m q, q < m → q < ops.size → isHv ops q = false → listed.getD q false = true → q ∈ rdyL ops done ops.size := by
                  intro m
                  induction m with
                  | zero => intro q hq; omega
                  | succ m ihm =>
                    intro q hqm hqs hqh hql
                    refine rdyL_of hqs hqh (okW_spec.2 fun p2 hp2 hw2 => ⟨fun hph2 => ?_, fun hph2 => ?_⟩)
                    · exact (S.ch p2 (hvL_mem.2 ⟨by omega, hph2⟩)).1 (waits_closed S.inv hql hw2)
                    · have hin2 := ihm p2 (by omega) (by omega) hph2 (waits_closed S.inv hql hw2)
                      obtain ⟨_, g2, g3⟩ := rdyL_lt hin2
                      exact rdyL_of hp2 g2 g3
                exact ((hbm p).1 hp).2.2 (this (p + 1) p (by omega) hps hph hlp)
            rw [putsI_other hbl]
            by_cases hds : o.dst = some s
            · rw [← hbv, hds]
              have hsn : s < n := by
                rw [hds] at hd
                unfold okDst at hd
                simp at hd; exact hd.2
              rw [vals_put (by rw [S.sz]; exact hsn), vals_put (by rw [S.sb.size]; exact hsn)]
            · rw [vals_putO_ne hds, vals_putO_ne hds]; exact S.ag s hs'
          · by_cases hkb : k ∈ bl
            · exact (hbf k ok hok hkb).1 t hdk
            · have hk0 : k ∈ rdyL ops done ops.size := Classical.byContradiction fun hc => hkb ((hbm k).2 ⟨(Array.getElem?_eq_some_iff.1 hok).1, hk, hc⟩)
              have hkh := (rdyL_lt hk0).2.1
              obtain ⟨q1, q2⟩ := S.qv k ok t hok hk0 hdk
              refine ⟨?_, q2⟩
              rw [putsI_other fun p hp hdp => ?_, vals_putO_ne (hdist k ok t hok (hne_i k hkh) hdk), q1, hf0 k hkb]
              have := ndDsts_spec hnd p k t ((hbm p).1 hp).1 (Array.getElem?_eq_some_iff.1 hok).1 hdp (by rw [dstOf_some hok, hdk])
              subst this; exact hkb hp
          · by_cases hkb : k ∈ bl
            · obtain ⟨_, q2, q3⟩ := hbf k ok hok hkb
              exact q3 h'' (.inl (q2 rfl))
            · have hk0 : k ∈ rdyL ops done ops.size := Classical.byContradiction fun hc => hkb ((hbm k).2 ⟨(Array.getElem?_eq_some_iff.1 hok).1, hk, hc⟩)
              rw [exec_agree (b := b) (hgd k ok hok).2 (hslot2 k ok hok hk0), hf0 k hkb]
              exact S.qx k ok hok hk0 h'' (LdOK.congr (fun x hx => (eval_agree (hslot2 k ok hok hk0) x hx).symm) hh)
theorem mix7_sound {P:Program} {n:Nat} {ops:Array Oper} {h:Heap} {K:Env→Heap→Prop} {md:Bool} {Q:Exit→Act→World→Prop} (B:World) (hmix:mixB7 ops=true) {e:Env} {a:Act}
  (H:wI P n h true ops (fun e'=>wB7 P n ops h K md (hvL ops).length [] (hvL ops) e' h) (batchL [] (rdyL ops [] ops.size) ops.size) e) (hs:Sat n e a)
  (hQ:∀ e' a' d' h',Sat n e' a'→Same (dsts ops.toList) a a'→K e' h'→Q .normal a' (mk B d' h')) (d:Nat):wpAny P .any ops Q ops.size (Array.replicate ops.size false) a (mk B d h):=by
 obtain⟨hng,hback,hnd,hsl⟩:=mixB7_spec hmix
 have hbm:∀ k,k∈batchL [] (rdyL ops [] ops.size) ops.size↔k∈rdyL ops [] ops.size:=fun k=>by
  rw [batchL_mem]
  exact⟨fun h=>h.2.1,fun h=>⟨(rdyL_lt h).1,h,by simp⟩⟩
 have hbsort:=batchL_sorted [] (rdyL ops [] ops.size) ops.size
 generalize batchL [] (rdyL ops [] ops.size) ops.size=bl at H hbm hbsort
 have hbnd:bl.Nodup:=hbsort.imp fun h=>by omega
 obtain⟨f,e2,HK,sb2,_,hfx⟩:=wI_sound (fun _=>undef) hbnd H hs
 have hbf:=batch_facts hback hnd hsl (f:=f) (l:=bl) (b:=a) hs.size (fun k hk=>(rdyL_lt ((hbm k).1 hk)).1) hbsort hfx
 have hnot:∀ s,(∀ i o,ops[i]?=some o→isHv ops i=false→(Array.replicate ops.size false).getD i false=false→o.dst≠some s)→vals a s=vals (putsI ops f bl a) s:=fun s hs'=>(putsI_other fun p hp hdp=>by
  have hps:=(rdyL_lt ((hbm p).1 hp)).1
  have hok:ops[p]?=some ops[p]:=Array.getElem?_eq_getElem hps
  exact hs' p _ hok (rdyL_lt ((hbm p).1 hp)).2.1 (getD_replicate_false _ _) (by rw [← dstOf_some hok];exact hdp)).symm
 refine mix7_run B hmix hQ ops.size (List.range ops.size) _ f a (putsI ops f bl a) e2 h d [] (hvL ops) List.length_range List.nodup_range (fun k=>by rw [List.mem_range,getD_replicate_false];simp) ⟨⟨by simp,fun j oj _ hl=>(by rw [getD_replicate_false] at hl;cases hl),fun t ht ht'=>by omega⟩,hnot,hs.size,hs.defers,sb2,fun i o t ho hi hd=>(hbf i o ho ((hbm i).2 hi)).1 t hd,fun i o ho hi=>(hbf i o ho ((hbm i).2 hi)).2.2,(fun j hj=>by rw [getD_replicate_false];simp [hj]),(fun j hj=>by rw [getD_replicate_false];simp),(fun j hj=>by cases hj),(fun j hj=>hj),hvL_nodup ops,⟨_,Nat.le_refl _,HK⟩,fun _ _ _ _ _ _=>.inr (.inl (Keep.refl _ _)),Same.refl _ _⟩
def tailAt:List (Nat×Nat)→Nat→Option Nat
 | [],_=>none
 | (j,m)::l,i=>bif Nat.beq i j then some m else tailAt l i
def regionF (P:Program) (n:Nat) (tl:List (Nat×Nat)) (id:Nat) (ops:Array Oper) (draw:Bool) (K:Env→Heap→Prop) (e:Env) (h:Heap):Prop:=
 bif draw then(match tailAt tl id with
  | none=>bif Region.lexB .any ops then wQ P n ops h true (fun e'=>K (clean e') h) ops.toList e else False
  | some m=>bif Nat.beq m 2000 then(bif mixB ops then wU P n h (fun e'=>wT P n ops h K false [] (heavyL 0 ops.toList) e' h) ops.toList e else False) else bif Nat.beq m 3000 then(bif mixB ops then wU P n h (fun e'=>wT P n ops h K true [] (heavyL 0 ops.toList) e' h) ops.toList e else False) else bif Nat.beq m 5000 then(bif mixB2 ops then wU P n h (fun e'=>wB P n ops h K false (heavyL 0 ops.toList).length [] (heavyL 0 ops.toList) e' h) ops.toList e else False) else bif Nat.beq m 6000 then(bif mixB2 ops then wU P n h (fun e'=>wB P n ops h K true (heavyL 0 ops.toList).length [] (heavyL 0 ops.toList) e' h) ops.toList e else False) else bif Nat.beq m 7000 then(bif mixB7 ops then wI P n h true ops (fun e'=>wB7 P n ops h K false (hvL ops).length [] (hvL ops) e' h) (batchL [] (rdyL ops [] ops.size) ops.size) e else False) else bif Nat.beq m 8000 then(bif mixB7 ops then wI P n h true ops (fun e'=>wB7 P n ops h K true (hvL ops).length [] (hvL ops) e' h) (batchL [] (rdyL ops [] ops.size) ops.size) e else False) else bif Nat.beq m 1000 then(bif Region.lexB .any ops then wK P n ops h (fun e'=>∀ h',Keep h.size h h'→K (clean e') h') ops.toList e else False)
   else bif Region.lexTailB .any ops m then wQ P n ops h false (fun e'=>wR P n ops K (ops.toList.drop m) e' h) (ops.toList.take m) e else False)
 else wR P n ops K ops.toList e h
theorem dsts_append (l m:List Oper):dsts (l++m)=dsts l++dsts m:=by
 induction l with
 | nil=>rfl
 | cons o l ih=>simp only [List.cons_append,dsts];split <;> simp [ih]
theorem regionF_sound {P:Program} (hm:P.follows .mixedOrders=true) {n:Nat} {tl:List (Nat×Nat)} {id:Nat} {ops:Array Oper} {draw:Bool} {K:Env→Heap→Prop} {e:Env} {h:Heap}
  (H:regionF P n tl id ops draw K e h) (B:World) (d:Nat) {a:Act} (hs:Sat n e a) {Q:Exit→Act→World→Prop}
  (hQ:∀ e' a' d' h',Sat n e' a'→Same (dsts ops.toList) a a'→K e' h'→Q .normal a' (mk B d' h')):(Code.region id ops draw).wp P Q a (mk B d h):=by
 unfold regionF at H
 cases draw with
 | false=>exact wp_region_list (wR_sound B _ _ _ _ _ H hs hQ)
 | true=>
  simp only [cond_true] at H
  split at H
  ·cases hB:Region.lexB .any ops with
   | false=>rw [hB] at H;exact H.elim
   | true=>
    rw [hB] at H
    refine wp_region_quiet (C:=fun w=>∃ d,w=mk B d h) hm hB ⟨d+1,rfl⟩ ?_
    refine wQ_quiet B _ _ _ H hs fun e' a' q1 q2 q3=>?_
    rintro w' ⟨d',rfl⟩
    exact hQ _ _ _ _ q1.clean q2 q3
  ·rename_i m _
   cases hX:Nat.beq m 2000 with
   | true=>
    rw [hX] at H
    simp only [cond_true] at H
    cases hB:mixB ops with
    | false=>rw [hB] at H;exact H.elim
    | true=>
     rw [hB] at H
     exact wp_region_any hm (mix_sound B hB H hs hQ (d+1))
   | false=>
   rw [hX] at H
   simp only [cond_false] at H
   cases hY:Nat.beq m 3000 with
   | true=>
    rw [hY] at H
    simp only [cond_true] at H
    cases hB:mixB ops with
    | false=>rw [hB] at H;exact H.elim
    | true=>
     rw [hB] at H
     exact wp_region_any hm (mix_sound B hB H hs hQ (d+1))
   | false=>
   rw [hY] at H
   simp only [cond_false] at H
   cases hZ:Nat.beq m 5000 with
   | true=>
    rw [hZ] at H
    simp only [cond_true] at H
    cases hB:mixB2 ops with
    | false=>rw [hB] at H;exact H.elim
    | true=>
     rw [hB] at H
     exact wp_region_any hm (mixb_sound B hB H hs hQ (d+1))
   | false=>
   rw [hZ] at H
   simp only [cond_false] at H
   cases hY6:Nat.beq m 6000 with
   | true=>
    rw [hY6] at H
    simp only [cond_true] at H
    cases hB:mixB2 ops with
    | false=>rw [hB] at H;exact H.elim
    | true=>
     rw [hB] at H
     exact wp_region_any hm (mixb_sound B hB H hs hQ (d+1))
   | false=>
   rw [hY6] at H
   simp only [cond_false] at H
   cases hY7:Nat.beq m 7000 with
   | true=>
    rw [hY7] at H
    simp only [cond_true] at H
    cases hB:mixB7 ops with
    | false=>rw [hB] at H;exact H.elim
    | true=>
     rw [hB] at H
     exact wp_region_any hm (mix7_sound B hB H hs hQ (d+1))
   | false=>
   rw [hY7] at H
   simp only [cond_false] at H
   cases hY8:Nat.beq m 8000 with
   | true=>
    rw [hY8] at H
    simp only [cond_true] at H
    cases hB:mixB7 ops with
    | false=>rw [hB] at H;exact H.elim
    | true=>
     rw [hB] at H
     exact wp_region_any hm (mix7_sound B hB H hs hQ (d+1))
   | false=>
   rw [hY8] at H
   simp only [cond_false] at H
   cases hM:Nat.beq m 1000 with
   | true=>
    rw [hM] at H
    simp only [cond_true] at H
    cases hB:Region.lexB .any ops with
    | false=>rw [hB] at H;exact H.elim
    | true=>
     rw [hB] at H
     refine wp_region_quiet (C:=fun w=>∃ d h',Keep h.size h h'∧w=mk B d h') hm hB ⟨d+1,h,Keep.refl _ _,rfl⟩ ?_
     refine wK_quiet B _ _ _ H hs fun e' a' q1 q2 q3=>?_
     rintro w' ⟨d',h',hk,rfl⟩
     exact hQ _ _ _ _ q1.clean q2 (q3 h' hk)
   | false=>
   rw [hM] at H
   simp only [cond_false] at H
   cases hB:Region.lexTailB .any ops m with
   | false=>rw [hB] at H;exact H.elim
   | true=>
    rw [hB] at H
    have:=wp_region_still_tail (id:=id) (Q:=Q) (a:=a) (w:=mk B d h) (l:=ops.toList) m hm (by simpa using hB) (by
     simp only [Array.toArray_toList]
     refine wQ_still B (d+1) _ _ _ H hs fun e' a' q1 q2 q3=>?_
     refine wR_sound B _ _ _ _ (d+1) q3 q1 fun e'' a'' d'' h'' q4 q5 q6=>hQ e'' a'' d'' h'' q4 ?_ q6
     have hsplit:dsts ops.toList=dsts (ops.toList.take m)++dsts (ops.toList.drop m):=by rw [← dsts_append,List.take_append_drop]
     rw [hsplit]
     exact(q2.mono fun x hx=>List.mem_append_left _ hx).trans (q5.mono fun x hx=>List.mem_append_right _ hx))
    simpa using this
end Go.X
end
section
namespace Go.X
open Go
@[reducible] def CurA:List Atom→Type→Type
 | [],X=>X
 | t::l,X=>t.den→CurA l X
def allC {X:Type}:(l:List Atom)→CurA l X→(List Value→X→Prop)→Prop
 | [],f,k=>k [] f
 | t::l,f,k=>∀ x:t.den,allC l (f x) fun vs y=>k (t.enc x::vs) y
def decC {X:Type}:(l:List Atom)→List Value→CurA l X→Option X
 | [],[],f=>some f
 | t::l,v::vs,f=>match t.dec v with
  | some x=>decC l vs (f x)
  | none=>none
 | _,_,_=>none
def mkC {X:Type}:(l:List Atom)→(List Value→X)→CurA l X
 | [],f=>f []
 | t::l,f=>fun x=>mkC l fun vs=>f (t.enc x::vs)
def pairC {X Y:Type}:(l:List Atom)→CurA l X→CurA l Y→CurA l (X×Y)
 | [],f,g=>(f,g)
 | _::l,f,g=>fun x=>pairC l (f x) (g x)
theorem decC_spec {X:Type}:∀ {l:List Atom} {vs:List Value} {f:CurA l X} {x:X} {k:List Value→X→Prop},decC l vs f=some x→allC l f k→k vs x
 | [],[],f,x,k,h,g=>by simp only [decC,Option.some.injEq] at h;subst h;exact g
 | [],_::_,f,x,k,h,g=>by simp [decC] at h
 | _::_,[],f,x,k,h,g=>by simp [decC] at h
 | t::l,v::vs,f,x,k,h,g=>by
  simp only [decC] at h
  split at h
  ·rename_i y hy
   have:=decC_spec h (g y)
   rw [Atom.enc_of_dec hy] at this
   exact this
  ·cases h
theorem decC_mkC {X:Type}:∀ {l:List Atom} {vs:List Value} {f:List Value→X} {x:X},decC l vs (mkC l f)=some x→x=f vs
 | [],[],f,x,h=>by simp only [decC,mkC,Option.some.injEq] at h;exact h.symm
 | [],_::_,f,x,h=>by simp [decC] at h
 | _::_,[],f,x,h=>by simp [decC] at h
 | t::l,v::vs,f,x,h=>by
  simp only [decC,mkC] at h
  split at h
  ·rename_i y hy
   have:=decC_mkC h
   rw [Atom.enc_of_dec hy] at this
   exact this
  ·cases h
theorem allC_mkC {X:Type}:∀ {l:List Atom} {f:List Value→X} {k:List Value→X→Prop},(∀ vs,k vs (f vs))→allC l (mkC l f) k
 | [],_,_,h=>h []
 | _::_,_,_,h=>fun _=>allC_mkC fun _=>h _
abbrev Ann:=List (Nat×VT)
def atomsJ:Ann→List Atom
 | []=>[]
 | (_,.one t)::J=>t::atomsJ J
 | (_,.agg l)::J=>l++atomsJ J
def valsJ (σ:Nat→Option Value):Ann→Option (List Value)
 | []=>some []
 | (i,.one _)::J=>match σ i,valsJ σ J with
  | some v,some vs=>some (v::vs)
  | _,_=>none
 | (i,.agg l)::J=>match σ i,valsJ σ J with
  | some (.agg cs),some vs=>bif Nat.beq cs.toList.length l.length then some (cs.toList++vs) else none
  | _,_=>none
def groupJ:Ann→List Value→Env
 | [],_=>[]
 | (i,.one _)::J,v::vs=>(i,[],v)::groupJ J vs
 | (_,.one _)::_,[]=>[]
 | (i,.agg l)::J,vs=>(i,[],.agg (vs.take l.length).toArray)::groupJ J (vs.drop l.length)
def slotE (e:Env) (i:Nat):Option Value:=match look e i with
 | some ([],v)=>some v
 | _=>none
theorem slotE_sound {n:Nat} {e:Env} {a:Act} (h:Sat n e a) {i:Nat} {v:Value} (hv:slotE e i=some v):vals a i=v:=by
 unfold slotE at hv
 split at hv
 ·rename_i u hl
  simp only [Option.some.injEq] at hv
  subst hv
  exact(h.all _ (look_mem hl)).1 trivial
 ·cases hv
theorem valsJ_vals {n:Nat} {e:Env} {a:Act} (h:Sat n e a):∀ {J:Ann} {vs:List Value},valsJ (slotE e) J=some vs→valsJ (fun i=>some (vals a i)) J=some vs
 | [],vs,hv=>hv
 | (i,.one t)::J,vs,hv=>by
  simp only [valsJ] at hv ⊢
  split at hv
  ·rename_i v us h1 h2
   simp only [valsJ_vals h h2,slotE_sound h h1]
   exact hv
  ·cases hv
 | (i,.agg l)::J,vs,hv=>by
  simp only [valsJ] at hv ⊢
  split at hv
  ·rename_i cs us h1 h2
   simp only [valsJ_vals h h2,slotE_sound h h1]
   exact hv
  ·cases hv
theorem groupJ_facts {σ:Nat→Value}:∀ {J:Ann} {vs:List Value},valsJ (fun i=>some (σ i)) J=some vs→∀ x∈groupJ J vs,fact σ x
 | [],vs,_,x,hx=>by cases hx
 | (i,.one t)::J,vs,hv,x,hx=>by
  simp only [valsJ] at hv
  split at hv
  ·rename_i v us h1 h2
   simp only [Option.some.injEq] at h1 hv
   subst hv
   simp only [groupJ,List.mem_cons] at hx
   rcases hx with rfl | hx
   ·exact⟨fun _=>h1,fun hn=>absurd trivial hn⟩
   ·exact groupJ_facts h2 x hx
  ·cases hv
 | (i,.agg l)::J,vs,hv,x,hx=>by
  simp only [valsJ] at hv
  split at hv
  ·rename_i cs us h1 h2
   simp only [Option.some.injEq] at h1
   cases hb:Nat.beq cs.toList.length l.length with
   | false=>rw [hb] at hv;cases hv
   | true=>
    rw [hb] at hv
    simp only [cond_true,Option.some.injEq] at hv
    subst hv
    have hlen:cs.toList.length=l.length:=Nat.eq_of_beq_eq_true hb
    simp only [groupJ,List.mem_cons] at hx
    rcases hx with rfl | hx
    ·refine⟨fun _=>?_,fun hn=>absurd trivial hn⟩
     simp only
     rw [h1,← hlen,List.take_left]
    ·rw [← hlen,List.drop_left] at hx
     exact groupJ_facts h2 x hx
  ·cases hv
def dropE (ms:List Nat):Env→Env
 | []=>[]
 | (i,[],v)::e=>bif memN ms i then dropE ms e else(i,[],v)::dropE ms e
 | (_,_::_,_)::e=>dropE ms e
theorem mem_dropE {ms:List Nat} {e:Env} {x:Nat×Chain×Value} (h:x∈dropE ms e):x∈e∧x.2.1=[]∧x.1∉ms:=by
 induction e with
 | nil=>cases h
 | cons y e ih=>
  obtain⟨i,c,v⟩:=y
  cases c with
  | nil=>
   simp only [dropE] at h
   cases hm:memN ms i with
   | true=>rw [hm] at h;exact⟨List.mem_cons_of_mem _ (ih h).1,(ih h).2⟩
   | false=>
    rw [hm] at h
    simp only [cond_false] at h
    rcases List.mem_cons.1 h with rfl | h
    ·exact⟨List.mem_cons_self,rfl,memN_false hm⟩
    ·exact⟨List.mem_cons_of_mem _ (ih h).1,(ih h).2⟩
  | cons g c=>
   simp only [dropE] at h
   exact⟨List.mem_cons_of_mem _ (ih h).1,(ih h).2⟩
theorem sat_again {n:Nat} {e:Env} {a a1:Act} (hs:Sat n e a) {ms:List Nat} (hd:a1.defers=[]) (hz:a1.tmps.size=n) (hsame:Same ms a a1) {J:Ann} {vs:List Value}
  (hv:valsJ (fun i=>some (vals a1 i)) J=some vs):Sat n (groupJ J vs++dropE ms e) a1:=by
 refine⟨hd,hz,fun x hx=>?_⟩
 rcases List.mem_append.1 hx with hx | hx
 ·exact groupJ_facts hv x hx
 ·obtain⟨h1,h2,h3⟩:=mem_dropE hx
  have hf:=hs.all x h1
  refine⟨fun _=>?_,fun hn=>absurd (by rw [h2];trivial) hn⟩
  rw [hsame _ h3]
  exact hf.1 (by rw [h2];trivial)
def firstReg:Code→Option Nat
 | .region id _ _=>some id
 | .seq a b=>match firstReg a with
  | some i=>some i
  | none=>firstReg b
 | .cond _ a b=>match firstReg a with
  | some i=>some i
  | none=>firstReg b
 | .block _ b=>firstReg b
 | .loop b=>firstReg b
 | _=>none
def mods:Code→List Nat
 | .region _ ops _=>dsts ops.toList
 | .seq a b=>mods a++mods b
 | .cond _ a b=>mods a++mods b
 | .block _ b=>mods b
 | .loop b=>mods b
 | _=>[]
structure Plan where
 tails:List (Nat×Nat)
 loops:List (Nat×Ann)
 joins:List (Nat×Ann)
def annIn:List (Nat×Ann)→Nat→Option Ann
 | [],_=>none
 | (j,m)::l,i=>bif Nat.beq i j then some m else annIn l i
def annAt (l:List (Nat×Ann)):Option Nat→Option Ann
 | some i=>annIn l i
 | none=>none
abbrev XPost:=Exit→Env→Heap→Prop
def thenQ (K:Env→Heap→Prop) (Q:XPost):XPost
 | .normal,e,h=>K e h
 | x,e,h=>Q x e h
def blockQ (id:Nat) (Q:XPost):XPost
 | .exit i,e,h=>bif Nat.beq i id then Q .normal e h else Q (.exit i) e h
 | x,e,h=>Q x e h
def atC {X:Type} (J:Ann) (F:CurA (atomsJ J) X) (e:Env) (k:X→Prop):Prop:=
 match valsJ (slotE e) J with
 | some vs=>match decC (atomsJ J) vs F with
  | some q=>k q
  | none=>False
 | none=>False
def joinF (J:Ann) (rest:Env→Heap→Prop) (F:(Env→Heap→Prop)→Prop) (e0:Env):Prop:=
 ∀ K:CurA (atomsJ J) (Heap→Prop),allC (atomsJ J) K (fun vs q=>∀ h,rest (groupJ J vs++e0) h→q h)→F fun e h=>atC J K e fun q=>q h
def loopF (J:Ann) (body:(Env→Heap→Prop)→Env→Heap→Prop) (e0 e:Env) (h:Heap):Prop:=
 ∃ (I:CurA (atomsJ J) (Heap→Prop)) (μ:CurA (atomsJ J) (Heap→Nat)),(atC J (pairC (atomsJ J) I μ) e fun p=>p.1 h) ∧
  allC (atomsJ J) (pairC (atomsJ J) I μ) fun vs p=>∀ h,p.1 h→body (fun e' h'=>atC J (pairC (atomsJ J) I μ) e' fun q=>q.1 h'∧q.2 h' < p.2 h) (groupJ J vs++e0) h
def W (P:Program) (n:Nat) (pl:Plan):Code→XPost→Env→Heap→Prop
 | .skip,Q,e,h=>Q .normal e h
 | .ret,Q,e,h=>Q .ret e h
 | .exit id,Q,e,h=>Q (.exit id) e h
 | .label _,Q,e,h=>Q .normal e h
 | .goto l,Q,e,h=>Q (.goto l) e h
 | .region id ops draw,Q,e,h=>regionF P n pl.tails id ops draw (fun e h=>Q .normal e h) e h
 | .seq x y,Q,e,h=>match annAt pl.joins (firstReg y) with
  | none=>W P n pl x (thenQ (fun e h=>W P n pl y Q e h) Q) e h
  | some J=>joinF J (fun e h=>W P n pl y Q e h) (fun K=>W P n pl x (thenQ K Q) e h) (dropE (mods x) e)
 | .cond c x y,Q,e,h=>match opdAt e [] c with
  | some (.bool b)=>(b=true→W P n pl x Q e h)∧(b=false→W P n pl y Q e h)
  | _=>False
 | .block id x,Q,e,h=>W P n pl x (blockQ id Q) e h
 | .loop x,Q,e,h=>match annAt pl.loops (firstReg x) with
  | some J=>loopF J (fun Qn e h=>W P n pl x (thenQ Qn Q) e h) (dropE (mods x) e) e h
  | none=>False
 | _,_,_,_=>False
def PostX (n:Nat) (B:World) (ms:List Nat) (a0:Act) (Q:XPost):Exit→Act→World→Prop:=
 fun x a w=>∃ e d h,w=mk B d h∧Sat n e a∧Same ms a0 a∧Q x e h
theorem atC_out {X:Type} {J:Ann} {F:CurA (atomsJ J) X} {e:Env} {k:X→Prop} (h:atC J F e k):∃ vs q,valsJ (slotE e) J=some vs∧decC (atomsJ J) vs F=some q∧k q:=by
 unfold atC at h
 split at h
 ·rename_i vs hv
  split at h
  ·rename_i q hq
   exact⟨vs,q,hv,hq,h⟩
  ·exact h.elim
 ·exact h.elim
theorem W_sound {P:Program} (hm:P.follows .mixedOrders=true) {n:Nat} {pl:Plan}:∀ (c:Code) (Q:XPost) (e:Env) (h:Heap),W P n pl c Q e h →
  ∀ (B:World) (d:Nat) (a:Act),Sat n e a→c.wp P (PostX n B (mods c) a Q) a (mk B d h):=by
 intro c
 induction c with
 | skip=>exact fun Q e h H B d a hs=>wp_skip ⟨e,d,h,rfl,hs,Same.refl _ _,H⟩
 | ret=>exact fun Q e h H B d a hs=>wp_ret ⟨e,d,h,rfl,hs,Same.refl _ _,H⟩
 | exit id=>exact fun Q e h H B d a hs=>wp_exit ⟨e,d,h,rfl,hs,Same.refl _ _,H⟩
 | label l=>exact fun Q e h H B d a hs=>wp_label ⟨e,d,h,rfl,hs,Same.refl _ _,H⟩
 | goto l=>exact fun Q e h H B d a hs=>wp_goto ⟨e,d,h,rfl,hs,Same.refl _ _,H⟩
 | region id ops draw=>
  exact fun Q e h H B d a hs=>regionF_sound hm H B d hs fun e' a' d' h' q1 q2 q3=>⟨e',d',h',rfl,q1,q2,q3⟩
 | seq x y ihx ihy=>
  intro Q e h H B d a hs
  simp only [W] at H
  have hl:∀ i∈mods x,i∈mods (x.seq y):=fun i hi=>List.mem_append_left _ hi
  have hr:∀ i∈mods y,i∈mods (x.seq y):=fun i hi=>List.mem_append_right _ hi
  split at H
  ·refine wp_seq (wp_mono (ihx _ _ _ H B d a hs) ?_)
   rintro ex a1 w1 ⟨e1,d1,h1,rfl,s1,m1,q1⟩
   cases ex with
   | normal=>
    refine wp_mono (ihy _ _ _ q1 B d1 a1 s1) ?_
    rintro ex a2 w2 ⟨e2,d2,h2,rfl,s2,m2,q2⟩
    exact⟨e2,d2,h2,rfl,s2,(m1.mono hl).trans (m2.mono hr),q2⟩
   | _=>exact⟨e1,d1,h1,rfl,s1,m1.mono hl,q1⟩
  ·rename_i J hJ
   have H':=H (mkC (atomsJ J) fun vs=>fun h=>W P n pl y Q (groupJ J vs++dropE (mods x) e) h) (allC_mkC fun vs h hq=>hq)
   refine wp_seq (wp_mono (ihx _ _ _ H' B d a hs) ?_)
   rintro ex a1 w1 ⟨e1,d1,h1,rfl,s1,m1,q1⟩
   cases ex with
   | normal=>
    obtain⟨vs,q,hv,hq,hk⟩:=atC_out q1
    have hq':=decC_mkC hq
    subst hq'
    have s1':Sat n (groupJ J vs++dropE (mods x) e) a1:=sat_again hs s1.defers s1.size m1 (valsJ_vals s1 hv)
    refine wp_mono (ihy _ _ _ hk B d1 a1 s1') ?_
    rintro ex a2 w2 ⟨e2,d2,h2,rfl,s2,m2,q2⟩
    exact⟨e2,d2,h2,rfl,s2,(m1.mono hl).trans (m2.mono hr),q2⟩
   | _=>exact⟨e1,d1,h1,rfl,s1,m1.mono hl,q1⟩
 | cond c x y ihx ihy=>
  intro Q e h H B d a hs
  simp only [W] at H
  have hl:∀ i∈mods x,i∈mods (Code.cond c x y):=fun i hi=>List.mem_append_left _ hi
  have hr:∀ i∈mods y,i∈mods (Code.cond c x y):=fun i hi=>List.mem_append_right _ hi
  split at H
  ·rename_i b hb
   refine wp_cond_split (opdAt_sound hs (c:=[]) trivial hb) (fun hbt=>?_) (fun hbf=>?_)
   ·refine wp_mono (ihx _ _ _ (H.1 hbt) B d a hs) ?_
    rintro ex a2 w2 ⟨e2,d2,h2,rfl,s2,m2,q2⟩
    exact⟨e2,d2,h2,rfl,s2,m2.mono hl,q2⟩
   ·refine wp_mono (ihy _ _ _ (H.2 hbf) B d a hs) ?_
    rintro ex a2 w2 ⟨e2,d2,h2,rfl,s2,m2,q2⟩
    exact⟨e2,d2,h2,rfl,s2,m2.mono hr,q2⟩
  ·exact H.elim
 | block id x ih=>
  intro Q e h H B d a hs
  refine wp_block (wp_mono (ih _ _ _ H B d a hs) ?_)
  rintro ex a1 w1 ⟨e1,d1,h1,rfl,s1,m1,q1⟩
  cases ex with
  | exit i=>
   simp only [blockQ] at q1
   simp only [Exit.inBlock]
   by_cases hb:Nat.beq i id=true
   ·rw [if_pos (Nat.eq_of_beq_eq_true hb)]
    simp only [hb,cond_true] at q1
    exact⟨e1,d1,h1,rfl,s1,m1,q1⟩
   ·rw [if_neg (fun he=>hb (by rw [he];simp))]
    simp only [hb,cond_false] at q1
    exact⟨e1,d1,h1,rfl,s1,m1,q1⟩
  | _=>exact⟨e1,d1,h1,rfl,s1,m1,q1⟩
 | loop x ih=>
  intro Q e h H B d a hs
  simp only [W] at H
  split at H
  ·rename_i J hJ
   obtain⟨I,μ,h0,hstep⟩:=H
   obtain⟨vs0,p0,hv0,hp0,hI0⟩:=atC_out h0
   let F:=pairC (atomsJ J) I μ
   let at_:Act→Option ((Heap→Prop)×(Heap→Nat)):=fun a1=>(valsJ (fun i=>some (vals a1 i)) J).bind fun vs=>decC (atomsJ J) vs F
   refine wp_loop (fun a1 w1=>∃ d1 h1 vs p,w1=mk B d1 h1∧a1.defers=[]∧a1.tmps.size=n∧Same (mods x) a a1∧valsJ (fun i=>some (vals a1 i)) J=some vs∧decC (atomsJ J) vs F=some p∧p.1 h1)
    (fun a1 w1=>match at_ a1 with | some p=>p.2 w1.heap | none=>0) ⟨d,h,vs0,p0,rfl,hs.defers,hs.size,Same.refl _ _,valsJ_vals hs hv0,hp0,hI0⟩ ?_
   rintro a1 w1 ⟨d1,h1,vs,p,rfl,hd1,hz1,hsame,hv,hp,hI⟩
   have s1:Sat n (groupJ J vs++dropE (mods x) e) a1:=sat_again hs hd1 hz1 hsame hv
   have hb:=decC_spec hp hstep h1 hI
   refine wp_mono (ih _ _ _ hb B d1 a1 s1) ?_
   rintro ex a2 w2 ⟨e2,d2,h2,rfl,s2,m2,q2⟩
   cases ex with
   | normal=>
    obtain⟨vs',q,hv',hq,hI',hlt⟩:=atC_out q2
    refine⟨⟨d2,h2,vs',q,rfl,s2.defers,s2.size,hsame.trans m2,valsJ_vals s2 hv',hq,hI'⟩,?_⟩
    have e1:at_ a1=some p:=by simp only [at_,hv,Option.bind_some];exact hp
    have e2:at_ a2=some q:=by simp only [at_,valsJ_vals s2 hv',Option.bind_some];exact hq
    rw [e1,e2]
    exact hlt
   | _=>exact⟨e2,d2,h2,rfl,s2,hsame.trans m2,q2⟩
  ·exact H.elim
 | _=>exact fun Q e h H=>H.elim
def argE:Nat→List Value→Env
 | _,[]=>[]
 | i,v::vs=>(i,[],v)::argE (i+1) vs
def resF (P:Program) (h:Heap) (e:Env):List ResultVar→(List Value→Prop)→Prop
 | [],K=>K []
 | .tmp t::l,K=>match slotE e t with
  | some v=>resF P h e l fun vs=>K (v::vs)
  | none=>False
 | .cell a t::l,K=>match slotE e a with
  | some p=>loadF P h t p none fun v=>resF P h e l fun vs=>K (v::vs)
  | none=>False
def packV:List Value→Value
 | [v]=>v
 | vs=>.tuple vs.toArray
def endQ (P:Program) (rs:List ResultVar) (R:Value→Heap→Prop):XPost
 | .normal,e,h=>resF P h e rs fun vs=>R (packV vs) h
 | .ret,e,h=>resF P h e rs fun vs=>R (packV vs) h
 | _,_,_=>False
def resOne (tmps:Array Value):ResultVar→Sem Value
 | .tmp t=>pure (tmps.getD t undef)
 | .cell a t=>do loadVar t (← asAddr (tmps.getD a undef))
theorem resF_sound {P:Program} {n:Nat} {h:Heap} {e:Env} {a:Act} (hs:Sat n e a):∀ {l:List ResultVar} {K:List Value→Prop},resF P h e l K→∃ vs,K vs∧vs.length=l.length∧QExec P (l.mapM (resOne a.tmps)) h vs
 | [],K,H=>⟨[],H,rfl,fun _ _=>by simp⟩
 | .tmp t::l,K,H=>by
  simp only [resF] at H
  split at H
  ·rename_i v hv
   obtain⟨vs,h1,h2,h3⟩:=resF_sound hs H
   refine⟨v::vs,h1,by simp [h2],?_⟩
   rw [List.mapM_cons]
   refine QExec.bind (x:=v) ?_ (h3.bind (QExec.pure _))
   rw [← slotE_sound hs hv]
   exact QExec.pure _
  ·exact H.elim
 | .cell x t::l,K,H=>by
  simp only [resF] at H
  split at H
  ·rename_i p hp
   obtain⟨v,hK,hq⟩:=loadF_sound H
   obtain⟨vs,h1,h2,h3⟩:=resF_sound hs hK
   refine⟨v::vs,h1,by simp [h2],?_⟩
   rw [List.mapM_cons]
   refine QExec.bind (x:=v) ?_ (h3.bind (QExec.pure _))
   have hx:a.tmps.getD x undef=p:=slotE_sound hs hp
   simp only [resOne,hx]
   have hq':=hq trivial
   unfold Instr.loadAt at hq'
   unfold loadF at H
   split at H
   ·exact hq'
   ·exact hq'
   ·exact H.elim
  ·exact H.elim
theorem results_run {P:Program} {fn:Func} {n:Nat} {h:Heap} {e:Env} {a:Act} (hs:Sat n e a) {rs:List ResultVar} (hr:fn.results.toList=rs) {R:Value→Heap→Prop} (H:resF P h e rs fun vs=>R (packV vs) h):
  ∃ v,R v h∧QExec P (results fn a.tmps) h v:=by
 obtain⟨vs,h1,h2,h3⟩:=resF_sound hs H
 refine⟨_,h1,?_⟩
 intro B d
 have e0:results fn a.tmps=(fn.results.mapM (resOne a.tmps) >>= fun vs=>Pure.pure (if h:vs.size=1 then vs[0] else .tuple vs)):=by
  unfold results
  congr 1
 rw [e0,Array.mapM_eq_mapM_toList,hr,Sem.run_bind,Sem.run_map,h3 B d]
 simp only [Result.andThen_ok,Sem.run_pure]
 match vs,h2 with
 | [],_=>rfl
 | [v],_=>rfl
 | v::u::vs,_=>simp [packV]
theorem argE_facts (args:Array Value) (k:Nat):∀ (vs:List Value) (i:Nat),(∀ j v,vs[j]?=some v→(args++Array.replicate k undef).getD (i+j) undef=v) →
  ∀ x∈argE i vs,fact (fun i=>(args++Array.replicate k undef).getD i undef) x
 | [],_,_,x,hx=>by cases hx
 | v::vs,i,h,x,hx=>by
  simp only [argE,List.mem_cons] at hx
  rcases hx with rfl | hx
  ·exact⟨fun _=>h 0 v rfl,fun hn=>absurd trivial hn⟩
  ·exact argE_facts args k vs (i+1) (fun j u hj=>by have:=h (j+1) u (by simpa using hj);rwa [show i+(j+1)=i+1+j by omega] at this) x hx
theorem XC_of_W {P:Program} (hm:P.follows .mixedOrders=true) {f:FuncId} {fn:Func} {c:Code} (pl:Plan) (vs:List Value) {rs:List ResultVar} {n:Nat} (hf:P.funcs[f]?=some fn) (hb:fn.body=some c) (hr:fn.results.toList=rs) (hn:fn.ntmps=n)
  (hz:Nat.ble vs.length n=true) {h:Heap} {R:Value→Heap→Prop} (H:W P n pl c (endQ P rs R) (argE 0 vs) h):XC P f vs.toArray h R:=by
 intro B d
 subst hn
 refine calls_of_wp hf hb ?_
 have hz':vs.length≤fn.ntmps:=Nat.le_of_ble_eq_true hz
 have hs:Sat fn.ntmps (argE 0 vs) { tmps:=vs.toArray++Array.replicate (fn.ntmps - vs.toArray.size) undef,defers:=[] }:=by
  refine⟨rfl,by simp;omega,?_⟩
  refine argE_facts vs.toArray _ vs 0 fun j v hj=>?_
  have hj':j < vs.length:=by
   rcases Nat.lt_or_ge j vs.length with h | h
   ·exact h
   ·rw [List.getElem?_eq_none h] at hj;cases hj
  simp only [Nat.zero_add,Array.getD_eq_getD_getElem?]
  rw [Array.getElem?_append_left (by simpa using hj')]
  simp [hj]
 refine wp_mono (W_sound hm c _ _ _ H B d _ hs) ?_
 rintro ex a w ⟨e1,d1,h1,rfl,s1,m1,q1⟩
 cases ex with
 | normal=>
  obtain⟨v,hv,hq⟩:=results_run s1 hr q1
  exact⟨s1.defers,v,hq B d1,v,d1,h1,rfl,rfl,hv⟩
 | ret=>
  obtain⟨v,hv,hq⟩:=results_run s1 hr q1
  exact⟨s1.defers,v,hq B d1,v,d1,h1,rfl,rfl,hv⟩
 | _=>exact q1.elim
def codeOf (fn:Func):Code:=match fn.body with
 | some c=>c
 | none=>.skip
def hasBody (fn:Func):Bool:=match fn.body with
 | some _=>true
 | none=>false
theorem XC_of_code {P:Program} (hm:P.follows .mixedOrders=true) (pl:Plan) (vs:List Value) {f:FuncId} {fn:Func} {rs:List ResultVar} {n:Nat} (hf:P.funcs[f]?=some fn) (hb:hasBody fn=true) (hr:fn.results.toList=rs) (hn:fn.ntmps=n)
  (hz:Nat.ble vs.length n=true) {h:Heap} {R:Value→Heap→Prop} (H:W P n pl (codeOf fn) (endQ P rs R) (argE 0 vs) h):XC P f vs.toArray h R:=by
 have hb':fn.body=some (codeOf fn):=by
  unfold hasBody at hb
  unfold codeOf
  split at hb
  ·rename_i c hc;rw [hc]
  ·cases hb
 exact XC_of_W hm pl vs hf hb' hr hn hz H
end Go.X
end
section
namespace Go.X
open Go
theorem get_push (h:Heap) (o:Obj):(h.push o)[h.size]?=some o:=by simp
theorem cellH_keep {n:Nat} {h h':Heap} (k:Keep n h h') {a:Addr} (ha:a.block < n):cellH h' a=cellH h a:=by
 unfold cellH;rw [k.get _ ha]
def Arr (n:Nat) (h:Heap) (a:Option Addr) (cs:List Value):Prop:=
 cs=[]∨∃ b o,a=some ⟨b,o,none⟩∧b < n∧∀ i v,cs[i]?=some v→cellH h ⟨b,o+i,none⟩=some v
theorem Arr.mono {n m:Nat} {h:Heap} {a:Option Addr} {cs:List Value} (H:Arr n h a cs) (hm:n≤m):Arr m h a cs:=by
 rcases H with e | ⟨b,o,e,hb,hc⟩
 ·exact .inl e
 ·exact .inr ⟨b,o,e,by omega,hc⟩
theorem Arr.keep {n:Nat} {h h':Heap} {a:Option Addr} {cs:List Value} (H:Arr n h a cs) (k:Keep n h h'):Arr n h' a cs:=by
 rcases H with e | ⟨b,o,e,hb,hc⟩
 ·exact .inl e
 ·exact .inr ⟨b,o,e,hb,fun i v hi=>(cellH_keep k (a:=⟨b,o+i,none⟩) hb).trans (hc i v hi)⟩
theorem add_none (b o i:Nat):(⟨b,o,none⟩:Addr).add i=⟨b,o+i,none⟩:=by
 unfold Addr.add
 split
 ·rename_i h;rw [h];rfl
 ·rfl
theorem Arr.cell {n:Nat} {h:Heap} {a:Option Addr} {cs:List Value} (H:Arr n h a cs) {k:Nat} {v:Value} (hv:cs[k]?=some v):∃ p:Addr,a=some p∧cellH h (p.add k)=some v:=by
 rcases H with e | ⟨b,o,e,hb,hc⟩
 ·rw [e] at hv;simp at hv
 ·exact⟨⟨b,o,none⟩,e,by rw [add_none];exact hc k v hv⟩
def Strs (n:Nat) (h:Heap) (s:Sl) (xs:List ByteArray):Prop:=s.len=xs.length∧Arr n h s.a (xs.map Value.string)
theorem Strs.mono {n m:Nat} {h:Heap} {s:Sl} {xs:List ByteArray} (H:Strs n h s xs) (hm:n≤m):Strs m h s xs:=⟨H.1,H.2.mono hm⟩
theorem Strs.keep {n:Nat} {h h':Heap} {s:Sl} {xs:List ByteArray} (H:Strs n h s xs) (k:Keep n h h'):Strs n h' s xs:=⟨H.1,H.2.keep k⟩
theorem Strs.nil (n:Nat) (h:Heap) (a:Option Addr) (c:Nat):Strs n h ⟨a,0,c⟩ []:=⟨rfl,.inl rfl⟩
theorem resl_zero (a:Option Addr) (sz m:Nat):resl a sz 0 m=a:=by
 unfold resl
 split
 ·rfl
 ·cases a with
  | none=>rfl
  | some p=>simp [Addr.add]
theorem wrap64 {n:Int} (h1:-9223372036854775808≤n) (h2:n≤9223372036854775807):IntKind.wrap .i64 n=n:=by
 unfold IntKind.wrap
 have e:(2:Int) ^ IntKind.bits .i64=18446744073709551616:=by decide
 have e':(2:Int) ^ (IntKind.bits .i64 - 1)=9223372036854775808:=by decide
 simp only [e,e']
 have hs:IntKind.signed .i64=true:=rfl
 simp only [hs,Bool.true_and,decide_eq_true_eq]
 split <;> omega
theorem wrap_succ {k:Nat} (h:k < 9223372036854775807):IntKind.wrap .i64 ((k:Int)+1)=((k+1:Nat):Int):=by
 rw [wrap64 (by omega) (by omega)];omega
def Owns (h:Heap) (base:Nat) (e:TypeId) (sz:Nat) (s:Sl) (xs:List Value):Prop:=
 (mk default 0 h).ownsRow base e sz (.slice s.a s.len s.cap) s.len xs
theorem Owns.nil (h:Heap) (base:Nat) (e:TypeId) (sz:Nat):Owns h base e sz ⟨none,0,0⟩ []:=World.ownsRow_nil _ _ _ _
theorem Owns.length {h:Heap} {base:Nat} {e:TypeId} {sz:Nat} {s:Sl} {xs:List Value} (H:Owns h base e sz s xs):xs.length=s.len*sz:=H.1
theorem Owns.arr {h:Heap} {base:Nat} {e:TypeId} {sz:Nat} {s:Sl} {xs:List Value} (H:Owns h base e sz s xs):Arr h.size h s.a xs:=by
 rcases H.2 with⟨hv,h0⟩| ⟨g,cap,cur,hv,hb,hg,hle,hm,hsz,ht⟩
 ·have hl:=H.1
  rw [h0] at hl
  exact .inl (by simpa using hl)
 ·simp only [Value.slice.injEq] at hv
  have hlt:g < h.size:=(Array.getElem?_eq_some_iff.1 hg).1
  refine .inr ⟨g,0,hv.1,hlt,fun i v hi=>?_⟩
  have hg':h[g]?=some (.cells cur e (0,0)):=hg
  unfold cellH
  simp only [hg',Nat.zero_add,Option.isSome_none,Bool.false_eq_true,if_false]
  rw [← ht,List.getElem?_take] at hi
  split at hi
  ·simpa using hi
  ·cases hi
theorem Owns.base_le {h:Heap} {base:Nat} {e:TypeId} {sz:Nat} {s:Sl} {xs:List Value} (H:Owns h base e sz s xs):∀ p,s.a=some p→base≤p.block∧p.block < h.size:=by
 intro p hp
 exact World.ownsRow.lt H p.block (by simp [Value.ownBlock,hp])
theorem Owns.keep {h h':Heap} {base:Nat} {e:TypeId} {sz:Nat} {s:Sl} {xs:List Value} (H:Owns h base e sz s xs) (k:∀ p,s.a=some p→h'[p.block]?=h[p.block]?):Owns h' base e sz s xs:=by
 refine⟨H.1,?_⟩
 rcases H.2 with hn | ⟨g,cap,cur,hv,hb,hg,rest⟩
 ·exact .inl hn
 ·simp only [Value.slice.injEq] at hv
  refine .inr ⟨g,cap,cur,by simp [hv],hb,?_,rest⟩
  have:=k _ hv.1
  exact this.trans hg
theorem Owns.keepN {h h':Heap} {base:Nat} {e:TypeId} {sz:Nat} {s:Sl} {xs:List Value} (H:Owns h base e sz s xs) (k:Keep h.size h h'):Owns h' base e sz s xs:=
 H.keep fun p hp=>k.get _ (H.base_le p hp).2
structure ElemT (P:Program) (t e:TypeId) (z:Value) (sz bytes:Nat):Prop where
 slice:P.underlying t=some (.slice e)
 info:∃ i,P.info? e=some i∧i.zero=some z∧i.size=sz∧i.bytes=bytes
 zero:z.cells.size=sz
 pos:0 < sz
theorem append_where {P:Program} {w:World} {t e ty:TypeId} {i:TypeInfo} {z:Value} {sz bytes base:Nat} (ht:P.underlying t=some (.slice e)) (hi:P.info? e=some i) (hz:i.zero=some z) (hsz:i.size=sz) (hby:i.bytes=bytes)
  {v:Value} {n:Nat} {xs:List Value} (hown:w.ownsRow base e sz v n xs) {a:Addr} {m c:Nat} {news:List Value} (hl:news.length=m*sz) (hnews:∀ j u,news[j]?=some u→w.cell? (a.add j)=some u) (h1:∀ u∈news,u.oneCell'=true)
  (h63:n+m≤4611686018427387904) (hbytes:(n+m)*bytes≤140737488355328) {v':Value} {w':World} (r1:(Builtin.append_ #[t,t] ty #[v,.slice (some a) m c]).run P w=.ok v' w'):
  ∀ p' l c',v'=.slice (some p') l c'→(∃ p l0 c0,v=.slice (some p) l0 c0∧p'.block=p.block)∨p'.block=w.heap.size:=by
 subst hsz hby
 intro p' l c' hv'
 rcases hown.2 with⟨rfl,rfl⟩| ⟨g,cap,cur,rfl,hbg,hg,hnc,hcm,hcs,htake⟩
 ·by_cases hm:m=0
  ·subst hm
   have hn:news=[]:=List.eq_nil_of_length_eq_zero (by simpa using hl)
   subst hn
   have hr:(Builtin.append_ #[t,t] ty #[.slice none 0 0,.slice (some a) 0 c]).run P w=.ok (.slice none 0 0) w:=by
    simp [Builtin.append_,run_underlying ht,sizeOf,typeInfo,hi,Builtin.lenOf,Builtin.firstCells,loadCells,loadCellsFrom]
   rw [hr] at r1
   simp only [Result.ok.injEq] at r1
   rw [← r1.1] at hv';cases hv'
  ·have hr:=run_append_nil (P:=P) (ty:=ty) w t e i z ht hi hz a m c news hl hnews (by omega) (by omega) (by have hb:=hbytes;simp only [Nat.zero_add] at hb;omega)
   rw [hr] at r1
   simp only [Result.ok.injEq] at r1
   rw [← r1.1] at hv'
   simp only [Value.slice.injEq,Option.some.injEq] at hv'
   exact .inr (by rw [← hv'.1])
 ·by_cases hroom:n+m≤cap
  ·have hfit:n*i.size+news.length≤cur.size:=by rw [hl,hcs,← Nat.add_mul];exact Nat.mul_le_mul_right _ hroom
   have hr:=run_append_room (P:=P) (ty:=ty) w t e i ht hi g n cap cur hg a m c news hl hnews h1 hroom hfit
   rw [hr] at r1
   simp only [Result.ok.injEq] at r1
   rw [← r1.1] at hv'
   simp only [Value.slice.injEq,Option.some.injEq] at hv'
   exact .inl ⟨_,_,_,rfl,by rw [← hv'.1]⟩
  ·have holds:∀ j u,xs[j]?=some u→w.cell? ((⟨g,0,none⟩:Addr).add j)=some u:=hown.cells (g:=g) rfl
   have hr:=run_append_grow (P:=P) (ty:=ty) w t e i z ht hi hz ⟨g,0,none⟩ n cap xs hown.1 holds a m c news hl hnews (by omega) (by omega) (growslice_fits (by omega) hbytes)
   rw [hr] at r1
   simp only [Result.ok.injEq] at r1
   rw [← r1.1] at hv'
   simp only [Value.slice.injEq,Option.some.injEq] at hv'
   exact .inr (by rw [← hv'.1])
theorem append_own {P:Program} {t e:TypeId} {z:Value} {sz bytes:Nat} (T:ElemT P t e z sz bytes) {ty:TypeId} {h:Heap} {base:Nat} {s:Sl} {xs:List Value} (H:Owns h base e sz s xs)
  {src:Sl} {news:List Value} {n:Nat} (hs:Arr n h src.a news) (hl:news.length=src.len*sz) (h1:∀ u∈news,u.oneCell'=true)
  (hbytes:(s.len+src.len)*bytes≤140737488355328) (hmax:s.len+src.len≤4611686018427387904) (hbase:base≤h.size) {K:Value→Heap→Prop}
  (hK:∀ (s':Sl) (h':Heap),s'.len=s.len+src.len→Owns h' base e sz s' (xs++news)→(∀ i,i < h.size→(∀ p,s.a=some p→i≠p.block)→h'[i]?=h[i]?)→h.size≤h'.size→(∀ p',s'.a=some p'→(∃ p,s.a=some p∧p'.block=p.block)∨p'.block=h.size)→K (.slice s'.a s'.len s'.cap) h'):
  XRun P (Builtin.append_ #[t,t] ty #[.slice s.a s.len s.cap,.slice src.a src.len src.cap]) h K:=by
 intro B d
 obtain⟨i,hi,hz,hsz,hby⟩:=T.info
 have key:∃ v' w',(Builtin.append_ #[t,t] ty #[.slice s.a s.len s.cap,.slice src.a src.len src.cap]).run P (mk B d h)=.ok v' w'∧w'.ownsRow base e sz v' (s.len+src.len) (xs++news)∧(mk B d h).grownBy w' (Value.ownBlock (.slice s.a s.len s.cap)) ∧
   ∀ p' l c',v'=.slice (some p') l c'→(∃ p,s.a=some p∧p'.block=p.block)∨p'.block=h.size:=by
  have hown:(mk B d h).ownsRow base e sz (.slice s.a s.len s.cap) s.len xs:=H
  rcases hs with e0 | ⟨b,o,e0,hb,hc⟩
  ·subst e0
   have h0:src.len=0:=by
    rcases Nat.eq_zero_or_pos src.len with h0 | h0
    ·exact h0
    ·have:=Nat.mul_pos h0 T.pos;simp at hl;omega
   rw [h0]
   have ha:∃ q,q=src.a:=⟨_,rfl⟩
   obtain⟨q,hq⟩:=ha
   rw [← hq]
   cases q with
   | none=>
    refine⟨_,mk B d h,?_,by simpa using hown,⟨rfl,rfl,rfl,Nat.le_refl _,fun _ _ _=>rfl⟩,fun p' l c' hv'=>.inl ⟨p',by simp only [Value.slice.injEq] at hv';exact hv'.1,rfl⟩⟩
    have hT:=T.slice
    have hle:s.len≤s.cap:=by
     rcases hown.2 with⟨e1,e2⟩| ⟨g,cap,cur,e1,_,_,hnc,_⟩
     ·omega
     ·simp only [Value.slice.injEq] at e1;omega
    generalize s.a=sa at *
    cases sa <;> simp [Builtin.append_,run_underlying hT,sizeOf,typeInfo,hi,Builtin.lenOf,Builtin.firstCells,hle,storeCells]
   | some p=>
    obtain⟨v',w',r1,r2,r3,_⟩:=run_append_own (P:=P) (w:=mk B d h) base t ty e i z sz bytes T.slice hi hz hsz hby T.zero T.pos (.slice s.a s.len s.cap) s.len xs hown p 0 src.cap [] (by simp) (by simp) (by simp) (by unfold maxLen;omega) (by rw [h0] at hbytes;exact hbytes) hbase
    refine⟨v',w',r1,r2,r3,fun p' l c' hv'=>?_⟩
    rcases append_where T.slice hi hz hsz hby hown (news:=[]) (by simp) (by simp) (by simp) (by rw [h0] at hmax;exact hmax) (by rw [h0] at hbytes;exact hbytes) r1 p' l c' hv' with⟨q,l0,c0,hq,hb⟩| hb
    ·simp only [Value.slice.injEq] at hq;exact .inl ⟨q,hq.1,hb⟩
    ·exact .inr hb
  ·rw [e0]
   obtain⟨v',w',r1,r2,r3,_⟩:=run_append_own (P:=P) (w:=mk B d h) base t ty e i z sz bytes T.slice hi hz hsz hby T.zero T.pos (.slice s.a s.len s.cap) s.len xs hown ⟨b,o,none⟩ src.len src.cap news hl
    (fun j u hu=>by rw [add_none];exact hc j u hu) h1 (by unfold maxLen;omega) hbytes hbase
   refine⟨v',w',r1,r2,r3,fun p' l c' hv'=>?_⟩
   rcases append_where T.slice hi hz hsz hby hown hl (fun j u hu=>by rw [add_none];exact hc j u hu) h1 hmax hbytes r1 p' l c' hv' with⟨q,l0,c0,hq,hb'⟩| hb'
   ·simp only [Value.slice.injEq] at hq;exact .inl ⟨q,hq.1,hb'⟩
   ·exact .inr hb'
 obtain⟨v',w',r1,r2,r3,r4⟩:=key
 have hw:w'=mk B w'.drawn w'.heap:=by
  have e1:=r3.os;have e2:=r3.tape;have e3:=r3.output
  cases w';simp only [mk] at *;subst e1;subst e2;subst e3;rfl
 rw [hw] at r1
 have hv:∃ s':Sl,v'=.slice s'.a s'.len s'.cap∧s'.len=s.len+src.len:=by
  rcases r2.2 with⟨e1,e2⟩| ⟨g,cap,cur,e1,_⟩
  ·exact⟨⟨none,0,0⟩,e1,e2.symm⟩
  ·exact⟨⟨some ⟨g,0,none⟩,s.len+src.len,cap⟩,e1,rfl⟩
 obtain⟨s',rfl,hlen⟩:=hv
 refine⟨_,_,_,r1,hK s' w'.heap hlen ?_ ?_ r3.size fun p' hp'=>r4 p' s'.len s'.cap (by rw [hp'])⟩
 ·rw [← hlen] at r2;exact r2
 ·intro j hj hne
  refine r3.block j hj fun he=>?_
  cases ha:s.a with
  | none=>rw [ha] at he;cases he
  | some p=>
   rw [ha] at he
   simp only [Value.ownBlock,Option.some.injEq] at he
   exact hne p ha he
end Go.X
end
section
namespace Go.X
open Go
def getL (l:List (ByteArray×Value)) (k:ByteArray):Option Value:=match l with
 | []=>none
 | p::l=>if p.1=k then some p.2 else getL l k
def setL (l:List (ByteArray×Value)) (k:ByteArray) (v:Value):List (ByteArray×Value):=match l with
 | []=>[(k,v)]
 | p::l=>if p.1=k then(k,v)::l else p::setL l k v
theorem getL_setL (l:List (ByteArray×Value)) (k k':ByteArray) (v:Value):getL (setL l k v) k'=if k=k' then some v else getL l k':=by
 induction l with
 | nil=>simp [setL,getL]
 | cons p l ih=>
  simp only [setL]
  split
  ·rename_i h
   simp only [getL]
   split <;> rename_i h2
   ·rfl
   ·rw [h];simp [h2]
  ·rename_i h
   simp only [getL,ih]
   split <;> rename_i h2
   ·rw [if_neg (fun e=>h (h2.trans e.symm))]
   ·rfl
def MapAt (h:Heap) (m:Nat) (l:List (ByteArray×Value)):Prop:=∃ es clock,h[m]?=some (.map es clock)∧es.toList.map (fun e=>(e.key,e.val))=l.map fun p=>(Value.string p.1,p.2)
theorem MapAt.keep {h h':Heap} {m:Nat} {l:List (ByteArray×Value)} (H:MapAt h m l) (k:h'[m]?=h[m]?):MapAt h' m l:=by
 obtain⟨es,c,h1,h2⟩:=H;exact⟨es,c,k.trans h1,h2⟩
theorem MapAt.lt {h:Heap} {m:Nat} {l:List (ByteArray×Value)} (H:MapAt h m l):m < h.size:=by
 obtain⟨es,c,h1,h2⟩:=H;exact(Array.getElem?_eq_some_iff.1 h1).1
theorem MapAt.new (h:Heap):MapAt (h.push (.map #[] 0)) h.size []:=⟨#[],0,get_push _ _,rfl⟩
structure MapT (P:Program) (t kt et:TypeId) (z:Value):Prop where
 map:P.underlying t=some (.map kt et)
 key:P.underlying kt=some .string
 zero:∃ i,P.info? et=some i∧i.zero=some z
theorem ba_beq (a b:ByteArray):(a==b)=decide (a=b):=by
 show ByteArray.beq a b=_
 cases a;cases b
 rw [Bool.eq_iff_iff]
 simp [ByteArray.beq]
instance lawfulBA:LawfulBEq ByteArray where
 eq_of_beq:=fun {a b} h=>by rw [ba_beq] at h;simpa using h
 rfl:=fun {a}=>by rw [ba_beq];simp
theorem findNow_str (k:ByteArray):∀ (es:List MapEntry) (l:List (ByteArray×Value)) (i:Nat),es.map (fun e=>(e.key,e.val))=l.map (fun p=>(Value.string p.1,p.2)) →
  (getL l k=none∧Instr.findNow .string (.string k) es i=some none)∨(∃ j v e,getL l k=some v∧es[j]?=some e∧e.key=.string k∧e.val=v∧Instr.findNow .string (.string k) es i=some (some (i+j,v)) ∧
   ∀ w,(es.modify j fun e=>{ e with key:=.string k,val:=w }).map (fun e=>(e.key,e.val))=(setL l k w).map fun p=>(Value.string p.1,p.2))
 | [],l,i,h=>by
  have:l=[]:=by cases l <;> simp_all
  subst this
  exact .inl ⟨rfl,rfl⟩
 | e::es,l,i,h=>by
  cases l with
  | nil=>simp at h
  | cons p l=>
   simp only [List.map_cons,List.cons.injEq,Prod.mk.injEq] at h
   obtain⟨⟨h1,h2⟩,h3⟩:=h
   by_cases hk:p.1=k
   ·refine .inr ⟨0,p.2,e,by simp [getL,hk],rfl,by rw [h1,hk],h2,?_,fun w=>?_⟩
    ·have hk':(k==p.1)=true:=by rw [ba_beq];simpa using hk.symm
     simp [Instr.findNow,Instr.sameNow,h1,h2,hk']
    ·simp [setL,hk,h3]
   ·have hk':(k==p.1)=false:=by rw [ba_beq];simpa using fun e=>hk e.symm
    rcases findNow_str k es l (i+1) h3 with⟨g1,g2⟩| ⟨j,v,e',g1,g2,g3,g4,g5,g6⟩
    ·refine .inl ⟨by simp [getL,hk,g1],?_⟩
     simp [Instr.findNow,Instr.sameNow,h1,hk',g2]
    ·refine .inr ⟨j+1,v,e',by simp [getL,hk,g1],by simpa using g2,g3,g4,?_,fun w=>?_⟩
     ·simp [Instr.findNow,Instr.sameNow,h1,hk',g5];omega
     ·simp [setL,hk,h1,h2,g6 w]
theorem checkKey_str {P:Program} {kt:TypeId} (hk:P.underlying kt=some .string) (b:Bool) (k:ByteArray) (h:Heap):QExec P (Instr.checkKey b 10000 kt (.string k)) h ():=by
 intro B d
 have hq:=QExec.underlying (h:=h) hk B d
 unfold Instr.checkKey
 rw [Sem.run_bind,hq]
 rfl
theorem findKey_str {P:Program} {kt:TypeId} (hk:P.underlying kt=some .string) (k:ByteArray) (es:List MapEntry) (r:Option (Nat×Value)) (h:Heap) (hf:Instr.findNow .string (.string k) es 0=some r):
  QExec P (Instr.findKey kt (.string k) es) h r:=by
 intro B d
 have hq:=QExec.underlying (h:=h) hk B d
 unfold Instr.findKey
 rw [Sem.run_bind,hq]
 simp only [Result.andThen_ok,hf]
 rfl
theorem getMap_run {P:Program} {h:Heap} {m:Nat} {es:Array MapEntry} {c:Nat} (hm:h[m]?=some (.map es c)):QExec P (getObj m) h (.map es c):=by
 intro B d
 have:(mk B d h).heap[m]?=some (.map es c):=hm
 simp [getObj,Sem.run,this]
theorem zero_run {P:Program} {t:TypeId} {z:Value} {h:Heap} (hz:∃ i,P.info? t=some i∧i.zero=some z):QExec P (zeroValue t) h z:=by
 obtain⟨i,h1,h2⟩:=hz
 intro B d
 simp [zeroValue,typeInfo,program,h1,h2,Sem.run]
def getZ (l:List (ByteArray×Value)) (k:ByteArray) (z:Value):Value:=(getL l k).getD z
theorem lookup_core {P:Program} {t kt et:TypeId} {z:Value} (T:MapT P t kt et z) {h:Heap} {m:Nat} {l:List (ByteArray×Value)} (H:MapAt h m l) (k:ByteArray) (ok:Bool):
  QExec P (Instr.lookup t (.map (some m)) (.string k) ok) h (if ok then .tuple #[getZ l k z,.bool (getL l k).isSome] else getZ l k z):=by
 obtain⟨es,c,h1,h2⟩:=H
 intro B d
 have hu:=QExec.underlying (h:=h) T.map B d
 have hg:=getMap_run (P:=P) h1 B d
 have hc:=checkKey_str T.key es.isEmpty k h B d
 unfold Instr.lookup
 rw [Sem.run_bind,hu]
 simp only [Result.andThen_ok,Sem.run_bind,hg,Sem.run_pure,hc]
 rcases findNow_str k es.toList l 0 h2 with⟨g1,g2⟩| ⟨j,v,e,g1,g2,g3,g4,g5,_⟩
 ·rw [findKey_str T.key k es.toList none h g2 B d]
  have hz:=zero_run (h:=h) T.zero B d
  simp only [Result.andThen_ok,Sem.run_bind,hz,Sem.run_pure,getZ,g1]
  cases ok <;> rfl
 ·rw [findKey_str T.key k es.toList _ h g5 B d]
  simp only [Result.andThen_ok,getZ,g1]
  cases ok <;> rfl
theorem setL_append {l:List (ByteArray×Value)} {k:ByteArray} {v:Value} (g:getL l k=none):setL l k v=l++[(k,v)]:=by
 induction l with
 | nil=>rfl
 | cons p l ih=>
  simp only [getL] at g
  split at g
  ·cases g
  ·rename_i hp
   simp [setL,hp,ih g]
theorem update_ok {P:Program} {t kt et:TypeId} {z:Value} (T:MapT P t kt et z) {h:Heap} {m:Nat} {l:List (ByteArray×Value)} (H:MapAt h m l) (k:ByteArray) (v:Value) {K:Heap→Prop}
  (hK:∀ h':Heap,MapAt h' m (setL l k v)→h'.size=h.size→(∀ i,i≠m→h'[i]?=h[i]?)→K h'):XRunU P (Instr.mapUpdate t (.map (some m)) (.string k) v) h K:=by
 have hlt:=H.lt
 obtain⟨es,c,h1,h2⟩:=H
 intro B d
 have hu:=QExec.underlying (h:=h) T.map B d
 have hg:=getMap_run (P:=P) h1 B d
 have hc:=checkKey_str T.key false k h B d
 have set_run:∀ o:Obj,(setObj m o).run P (mk B d h)=.ok () (mk B d (h.setIfInBounds m o)):=by
  intro o
  have:(mk B d h).heap[m]?=some (.map es c):=h1
  simp [setObj,Sem.run,this]
  rfl
 unfold Instr.mapUpdate
 rcases findNow_str k es.toList l 0 h2 with⟨g1,g2⟩| ⟨j,v0,e,g1,g2,g3,g4,g5,g6⟩
 ·refine⟨d,h.setIfInBounds m (.map (es.push { key:=.string k,val:=v,born:=c }) (c+1)),?_,hK _ ⟨es.push { key:=.string k,val:=v,born:=c },c+1,by simp [hlt],?_⟩ (by simp) (fun i hi=>by rw [Array.getElem?_setIfInBounds_ne (Ne.symm hi)])⟩
  ·rw [Sem.run_bind,hu]
   simp only [Result.andThen_ok,Sem.run_bind,hg,hc]
   rw [findKey_str T.key k es.toList none h g2 B d]
   simp only [Result.andThen_ok]
   exact set_run _
  ·rw [setL_append g1]
   simp [h2]
 ·have hlen:j < es.size:=by
   have:=(List.getElem?_eq_some_iff.1 g2).1
   simpa using this
  refine⟨d,_,?_,hK (h.setIfInBounds m (.map (es.modify j fun e=>{ e with key:=.string k,val:=v }) c)) ⟨es.modify j fun e=>{ e with key:=.string k,val:=v },c,by simp [hlt],?_⟩ (by simp) (fun i hi=>by rw [Array.getElem?_setIfInBounds_ne (Ne.symm hi)])⟩
  ·rw [Sem.run_bind,hu]
   simp only [Result.andThen_ok,Sem.run_bind,hg,hc]
   rw [findKey_str T.key k es.toList _ h g5 B d]
   simp only [Result.andThen_ok,Nat.zero_add]
   have hkey:((es[j]?).map (·.key)).getD (.string k)=.string k:=by
    have:es[j]?=some e:=by simpa using g2
    rw [this];exact g3
   rw [hkey]
   have hs:Instr.keyThatStays (.string k) (.string k)=pure (.string k):=by
    unfold Instr.keyThatStays
    rw [if_pos (by show(k==k)=true;rw [ba_beq];simp)]
   rw [hs]
   exact set_run _
  ·have:=g6 v
   simpa using this
end Go.X
end
section
namespace Go.X
open Go
def Blk (h:Heap) (b:Nat) (cs:Array Value):Prop:=∃ T,h[b]?=some (.cells cs T (0,0))
theorem Blk.keep {h h':Heap} {b:Nat} {cs:Array Value} (H:Blk h b cs) (k:h'[b]?=h[b]?):Blk h' b cs:=by
 obtain⟨T,e⟩:=H;exact⟨T,k.trans e⟩
theorem Blk.keepN {n:Nat} {h h':Heap} {b:Nat} {cs:Array Value} (H:Blk h b cs) (k:Keep n h h') (hb:b < n):Blk h' b cs:=H.keep (k.get b hb)
theorem Blk.new (h:Heap) (cs:Array Value) (T:TypeId):Blk (h.push (.cells cs T)) h.size cs:=⟨T,get_push _ _⟩
theorem Blk.lt {h:Heap} {b:Nat} {cs:Array Value} (H:Blk h b cs):b < h.size:=by
 obtain⟨T,e⟩:=H;exact(Array.getElem?_eq_some_iff.1 e).1
theorem Blk.cell {h:Heap} {b o:Nat} {cs:Array Value} {v:Value} (H:Blk h b cs) (hv:cs[o]?=some v):cellH h ⟨b,o,none⟩=some v:=by
 obtain⟨T,e⟩:=H
 unfold cellH
 simp [e,hv]
theorem Blk.cellAdd {h:Heap} {b o k:Nat} {cs:Array Value} {v:Value} (H:Blk h b cs) (hv:cs[o+k]?=some v):cellH h ((⟨b,o,none⟩:Addr).add k)=some v:=by
 rw [add_none];exact H.cell hv
theorem Blk.ld {h:Heap} {b:Nat} {cs:List Value} (H:Blk h b cs.toArray):ldList h ⟨b,0,none⟩ 0 cs:=by
 have key:∀ (l:List Value) (i:Nat),(∀ j v,l[j]?=some v→cs[i+j]?=some v)→ldList h ⟨b,0,none⟩ i l:=by
  intro l
  induction l with
  | nil=>intro i _;trivial
  | cons v l ih=>
   intro i hi
   refine⟨?_,ih (i+1) fun j u hu=>?_⟩
   ·rw [add_none,Nat.zero_add]
    exact H.cell (by have:=hi 0 v rfl;simpa using this)
   ·have:=hi (j+1) u (by simpa using hu)
    rwa [show i+(j+1)=i+1+j by omega] at this
 exact key cs 0 fun j v hv=>by simpa using hv
theorem frozen_blk {h:Heap} {b o:Nat} {cs:Array Value} (H:Blk h b cs) (B:World) (d:Nat):(mk B d h).frozen? ⟨b,o,none⟩=false:=by
 obtain⟨T,e⟩:=H
 have:(mk B d h).heap[b]?=some (.cells cs T (0,0)):=e
 simp [World.frozen?,this]
theorem storeCell_run {P:Program} {h:Heap} {b o:Nat} {cs:Array Value} {T:TypeId} (e:h[b]?=some (.cells cs T (0,0))) (ho:o < cs.size) {v:Value} (hv:v.oneCell'=true) (B:World) (d:Nat):
  (store ⟨b,o,none⟩ v).run P (mk B d h)=.ok () (mk B d (h.setIfInBounds b (.cells (cs.setIfInBounds o v) T (0,0)))):=by
 have hc:(mk B d h).cell? ⟨b,o,none⟩=some cs[o]:=Blk.cell (h:=h) ⟨T,e⟩ (by simp [ho])
 have hf:=frozen_blk (o:=o) (⟨T,e⟩:Blk h b cs) B d
 have hset:(mk B d h).setCell ⟨b,o,none⟩ v=mk B d (h.setIfInBounds b (.cells (cs.setIfInBounds o v) T (0,0))):=by
  unfold World.setCell mk
  simp only
  congr 1
  have hb:b < h.size:=(Array.getElem?_eq_some_iff.1 e).1
  apply Array.ext_getElem?
  intro i
  rw [Array.getElem?_modify]
  by_cases hi:i=b
  ·subst hi
   have e':h[i]=.cells cs T (0,0):=by
    have:=Array.getElem?_eq_getElem hb
    rw [e] at this
    exact(Option.some.inj this).symm
   simp [hb,e']
  ·rw [if_neg (Ne.symm hi),Array.getElem?_setIfInBounds_ne (Ne.symm hi)]
 cases v with
 | agg x=>simp [Value.oneCell'] at hv
 | tuple x=>simp [Value.oneCell'] at hv
 | _=>simp only [store,Sem.run,hc,hf,Bool.false_eq_true,if_false,hset]
theorem storeCells_run {P:Program} {b:Nat} {T:TypeId} (B:World) (d:Nat):∀ (vs:List Value) (i:Nat) (h:Heap) (cs:Array Value),h[b]?=some (.cells cs T (0,0))→i+vs.length≤cs.size→(∀ v∈vs,v.oneCell'=true) →
  ∃ h',(storeCells ⟨b,0,none⟩ vs i).run P (mk B d h)=.ok () (mk B d h')∧h'[b]?=some (.cells (cs.toList.take i++vs++cs.toList.drop (i+vs.length)).toArray T (0,0))∧h'.size=h.size∧∀ j,j≠b→h'[j]?=h[j]?
 | [],i,h,cs,e,_,_=>⟨h,rfl,by simpa using e,rfl,fun _ _=>rfl⟩
 | v::vs,i,h,cs,e,hl,hv=>by
  have hb:b < h.size:=(Array.getElem?_eq_some_iff.1 e).1
  simp only [List.length_cons] at hl
  have h1:=storeCell_run (P:=P) e (o:=i) (by omega) (hv v List.mem_cons_self) B d
  have e':(h.setIfInBounds b (.cells (cs.setIfInBounds i v) T (0,0)))[b]?=some (.cells (cs.setIfInBounds i v) T (0,0)):=by simp [hb]
  have hl':i+1+vs.length≤(cs.setIfInBounds i v).size:=by rw [Array.size_setIfInBounds];omega
  obtain⟨h',r1,r2,r3,r4⟩:=storeCells_run (P:=P) B d vs (i+1) (h.setIfInBounds b (.cells (cs.setIfInBounds i v) T (0,0))) (cs.setIfInBounds i v) e' hl' fun u hu=>hv u (List.mem_cons_of_mem _ hu)
  refine⟨h',?_,?_,by rw [r3];simp,fun j hj=>by rw [r4 j hj,Array.getElem?_setIfInBounds_ne (Ne.symm hj)]⟩
  ·unfold storeCells
   rw [Sem.run_bind,add_none,Nat.zero_add,h1]
   simp only [Result.andThen_ok]
   exact r1
  ·rw [r2]
   congr 3
   have hi:i < cs.toList.length:=by simp;omega
   simp only [Array.toList_setIfInBounds,List.length_cons]
   rw [List.take_set,List.drop_set_of_lt (by omega)]
   have e2:(cs.toList.take (i+1)).set i v=cs.toList.take i++[v]:=by
    rw [List.take_succ_eq_append_getElem hi,List.set_append_right _ _ (by simp;omega)]
    have:i - (cs.toList.take i).length=0:=by simp;omega
    rw [this];rfl
   rw [e2,show i+(vs.length+1)=i+1+vs.length by omega]
   simp
theorem clear_run {P:Program} {t e:TypeId} {z:Value} {sz bytes:Nat} (T:ElemT P t e z sz bytes) {g o n c:Nat} {h:Heap} {cs:Array Value} {X:TypeId} (hg:h[g]?=some (.cells cs X (0,0))) (hn:o+n*sz≤cs.size) (hz:∀ v∈(Builtin.zeroCells z.cells n).toList,v.oneCell'=true)
  (hlen:(Builtin.zeroCells z.cells n).toList.length=n*sz) {ty:TypeId} {K:Value→Heap→Prop}
  (hK:∀ h':Heap,h'[g]?=some (.cells (cs.toList.take o++(Builtin.zeroCells z.cells n).toList++cs.toList.drop (o+n*sz)).toArray X (0,0))→h'.size=h.size→(∀ i,i≠g→h'[i]?=h[i]?)→K (.tuple #[]) h') (hn0:0 < n):
  XRun P (Builtin.clear_ #[t] ty #[.slice (some ⟨g,o,none⟩) n c]) h K:=by
 intro B d
 have shift:∀ (vs:List Value) (i:Nat) (w:World),(storeCells ⟨g,o,none⟩ vs i).run P w=(storeCells ⟨g,0,none⟩ vs (o+i)).run P w:=by
  intro vs
  induction vs with
  | nil=>intro i w;rfl
  | cons v vs ih=>
   intro i w
   unfold storeCells
   rw [Sem.run_bind,Sem.run_bind,add_none,add_none,Nat.zero_add]
   congr 1
   funext a w'
   exact ih (i+1) w'
 obtain⟨h',r1,r2,r3,r4⟩:=storeCells_run (P:=P) B d (Builtin.zeroCells z.cells n).toList (o+0) h cs hg (by rw [hlen];omega) hz
 refine⟨_,d,h',?_,hK h' (by rw [r2,hlen];simp) r3 r4⟩
 obtain⟨i,hi,hz',_,_⟩:=T.info
 have hu:=QExec.underlying (h:=h) T.slice B d
 have hzr:=zero_run (P:=P) (h:=h) ⟨i,hi,hz'⟩ B d
 have hs:=shift (Builtin.zeroCells z.cells n).toList 0 (mk B d h)
 rw [r1] at hs
 unfold Builtin.clear_
 simp only [List.getElem?_toArray,List.getElem?_cons_zero]
 cases n with
 | zero=>omega
 | succ n=>
  rw [Sem.run_bind,hu]
  simp only [Result.andThen_ok]
  rw [Sem.run_bind,hzr]
  simp only [Result.andThen_ok]
  rw [Sem.run_bind,hs]
  rfl
theorem Owns.base {h:Heap} {base base':Nat} {e:TypeId} {sz:Nat} {s:Sl} {xs:List Value} (H:Owns h base e sz s xs) (hb:base'≤base):Owns h base' e sz s xs:=by
 refine⟨H.1,?_⟩
 rcases H.2 with hn | ⟨g,cap,cur,hv,hbg,rest⟩
 ·exact .inl hn
 ·exact .inr ⟨g,cap,cur,hv,by omega,rest⟩
end Go.X
end
