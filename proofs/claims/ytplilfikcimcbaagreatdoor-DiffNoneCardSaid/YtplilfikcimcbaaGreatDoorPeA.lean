/- A part of the proof: nothing is stated here for its own sake. -/
import Derived.Deep.Quiet
import Derived.StillTail
import Derived.Laws.Cover3
import Derived.Laws.Pointers
import Derived.Scope
import Derived.Laws.OwnMore
import Derived.Laws.StructEq
open _root_.Go.Addr renaming add->Ue
open _root_.Array renaming ext_getElem?->XP,getD_eq_getD_getElem?->Vh,getElem?_append_left->VU,getElem?_eq_getElem->Vn,getElem?_eq_some_iff->Uu,getElem?_setIfInBounds_ne->U9,replicate->VZ,size_setIfInBounds->UL
open _root_.Bool renaming and_eq_true->Uq,eq_iff_iff->UR,false_eq_true->Vm,not_eq_true'->WX,true_and->Vz
open _root_.Go.Builtin renaming append_->Us,firstCells->VQ,len_->V3
open _root_.Go.Code renaming cond->XS,region->YA
open _root_.Go.Deferred renaming ofValue->XG
open _root_.Go.Instr renaming entry->XA,findNow->VO,indexAt->XU,keyThatStays->WF,loadAt->WQ,lookup->VF,makeSlice->UW,mapUpdate->VC,next->WE,range->XQ,sameNow->XN,sliceAt->XM,storeAt->Uj,sureAddr->WZ
open _root_.Go.IntKind renaming bits->U7,signed->XZ,wrap->Ud
open _root_.List renaming all_eq_true->UI,cons_append->U8,drop_drop->XB,drop_eq_nil_of_le->VV,eq_nil_of_length_eq_zero->UN,getElem?_drop->Vd,getElem?_eq_getElem->Ul,getElem?_eq_some_iff->UV,getElem?_take->UU,getElem_append_left->VD,getElem_append_right->V1,getElem_mem->Ur,length_append->Uk,length_cons->Uz,length_drop->Vu,length_eq_zero_iff->V6,length_nil->Vb,length_take->Ve,mapM_cons->XR,map_cons->UJ,mem_append->Uo,mem_append_left->Uv,mem_append_right->UH,mem_cons->Up,mem_cons_of_mem->UG,mem_cons_self->UF,mem_filter->U0,mem_range->UT,nil_append->Vw,nodup_cons->Vf,pairwise_append->WN,pairwise_cons->VB,range->UO,replicate->Vx,take_append_of_le_length->V4,take_succ_eq_append_getElem->Un
open _root_.List.cons renaming injEq->VY
open _root_.Nat renaming add_mul->VH,eq_of_beq_eq_true->UC,eq_zero_or_pos->WR,le_of_ble_eq_true->VE,le_refl->Uf,le_trans->Vj,lt_of_lt_of_le->VP,lt_or_ge->Va,min_eq_left->XO,mul_comm->WS,mul_le_mul_right->UM,one_mul->XW,succ_mul->WT,zero_add->Uy
open _root_.Go.Next renaming value->WY
open _root_.Go.Op renaming equal->XY
open _root_.Option renaming bind_some->VK,map_eq_some_iff->VL,map_some->XX
open _root_.Option.some renaming inj->UQ,injEq->Ug
open _root_.Prod.mk renaming injEq->Vl
open _root_.Pure renaming pure->WW
open _root_.Go.Region renaming wanted->UX
open _root_.Go.Value renaming int->Vo,string->UA
open _root_.Go.Value.slice renaming injEq->UY
set_option linter.unusedVariables false
set_option maxRecDepth 100000
namespace Go.X
end Go.X
namespace Go.Proofs
end Go.Proofs
open Go Go.X Go.Proofs
open _root_.Bool renaming true->Ta,false->Tc
open _root_.Option renaming some->Td,none->Te
section
namespace Go.X
section
theorem zv{c:Prop}{h:Decidable c}(n:¬c){α:Sort _}{t e:α}:@ite α c h t e=e:=if_neg n
theorem zA{c:Prop}{h:Decidable c}(n:c){α:Sort _}{t e:α}:@ite α c h t e=t:=if_pos n
theorem zG{p:Prop}[Decidable p]:(decide p=true)=p:=decide_eq_true_eq
theorem zH{p:Prop}[Decidable p](h:decide p=true):p:=of_decide_eq_true h
theorem zI{p:Prop}[Decidable p](h:decide p=false):¬p:=of_decide_eq_false h
theorem zJ{p:Prop}[Decidable p](h:p):decide p=true:=decide_eq_true h
theorem zK{α:Sort _}(a b:α):cond true a b=a:=rfl
theorem zL{α:Sort _}(a b:α):cond false a b=b:=rfl
abbrev Bt:= ByteArray
variable {i n m:Nat} {v u:Value} {a:Act} {o:Oper}
abbrev zc:=Array Obj
abbrev qk:=List (Nat×Bool)
abbrev bK:=List (Nat×qk×Value)
def mk(B:World)(d:Nat)(h:zc):World:={ B with heap:=h,drawn:=d }
def look:bK->Nat->Option (qk×Value)
 |[],_=>Te
 |(j,c,v)::e,i=>bif Nat.beq i j then Td (c,v)else look e i
def valid(σ:Nat->Value):qk->Prop
 |[]=>True
 |(g,p)::c=>σ g=.bool p/\valid σ c
def qh(a:Act)(i:Nat):Value:=a.tmps.getD i undef
def fact(σ:Nat->Value)(x:Nat×qk×Value):Prop:=(valid σ x.2.1->σ x.1=x.2.2)/\(¬valid σ x.2.1->σ x.1=undef)
structure Sat (n:Nat) (e:bK) (a:Act):Prop where
 defers:a.defers=[]
 size:a.tmps.size=n
 all:∀x∈e,fact (qh a) x
def mentions:qk->Nat->Bool
 |[],_=>Tc
 |(g,_)::c,i=>bif Nat.beq i g then Ta else mentions c i
def qU:bK->Nat->bK
 |[],_=>[]
 |(j,c,v)::e,i=>bif (bif Nat.beq i j then Ta else mentions c i)then qU e i else(j,c,v)::qU e i
def put(e:bK)(i:Nat)(c:qk)(v:Value):bK:=(i,c,v)::qU e i
def putO(e:bK):Option Nat->qk->Value->bK
 |none,_,_=>e
 |some d,c,v=>put e d c v
def clean:bK->bK
 |[]=>[]
 |(j,[],v)::e=>(j,[],v)::clean e
 |(_,_::_,_)::e=>clean e
theorem Xe{e:bK}{c:qk}(h:look e i=Td (c,v)):(i,c,v)∈e:=by
 induction e with
 |nil=>cases h
 |cons x e f=>obtain⟨j,k,b⟩:=x;simp only[look]at h;by_cases l:Nat.beq i j=Ta;simp_all;simp_all
theorem SO{e:bK}{x:Nat×qk×Value}(h:x∈qU e i):x∈e/\x.1≠i/\mentions x.2.1 i=Tc:=by
 induction e with
 |nil=>cases h
 |cons y e o=>
  obtain⟨j,f,n⟩:=y;simp only[qU]at h;by_cases k:Nat.beq i j=Ta;simp_all;have c:Nat.beq i j=Tc:=Bool.eq_false_iff.2 k;simp only[c,zL]at h;by_cases l:mentions f i=Ta;simp_all;have b:mentions f i=Tc:=by simpa using l
  simp only[b,zL]at h;rcases Up.1 h with rfl|h;refine⟨UF,λm=>?_,b⟩;simp_all;simp_all
theorem PQ{e:bK}{x:Nat×qk×Value}(h:x∈clean e):x∈e/\x.2.1=[]:=by
 induction e with
 |nil=>cases h
 |cons y e i=>
  obtain⟨j,b,f⟩:=y;cases b with
  |nil=>simp only[clean]at h;grind
  |cons c cs=>simp only[clean]at h;simp_all
theorem Sat.sub{e b:bK}(h:Sat n e a)(c:∀x∈b,x∈e):Sat n b a:=⟨h.defers,h.size,λx f=>h.all x (c x f)⟩
theorem Sat.clean{n:Nat}{e:bK}{a:Act}(h:Sat n e a):Sat n (clean e) a:=h.sub λ_ b=>(PQ b).1
theorem Yw{σ τ:Nat->Value}{c:qk}(b:mentions c i=Tc)(h:∀j,j≠i->σ j=τ j):valid σ c↔valid τ c:=by
 induction c with
 |nil=>exact Iff.rfl
 |cons x c k=>obtain⟨g,p⟩:=x;simp only[mentions]at b;by_cases f:Nat.beq i g=Ta;grind;simp only[f,zL]at b;have l:g≠i:=λe=>f (by rw[e];simp);simp only[valid,h g l,k b]
theorem Ze(hi:i<a.tmps.size):qh (a.put (Td i) u) i=u:=by simp[qh,Act.put,hi]
theorem yh{i j:Nat}(h:j≠i):qh (a.put (Td i) u) j=qh a j:=by simp[qh,Act.put,U9 (Ne.symm h)]
theorem size_put(a:Act)(d:Option Nat)(u:Value):(a.put d u).tmps.size=a.tmps.size:=by cases d <;> simp[Act.put]
theorem xr(a:Act)(d:Option Nat)(u:Value):(a.put d u).defers=a.defers:=by cases d <;> simp[Act.put]
theorem Sat.put{n:Nat}{e:bK}{a:Act}(h:Sat n e a){i:Nat}{c:qk}{v u:Value}(hi:i<n)(y:mentions c i=Tc)
  (r:valid (qh a) c->u=v) (w:¬valid (qh a) c->u=undef):Sat n (put e i c v) (a.put (Td i) u):=by
 refine⟨by rw[xr];exact h.defers,by rw[size_put];exact h.size,λx m=>?_⟩;have k:i<a.tmps.size:=by rw[h.size];exact hi
 rcases Up.1 m with rfl|m;have l:=Yw (σ:=qh (a.put (Td i) u)) (τ:=qh a) y (λj o=>yh o);refine⟨λf=>?_,λf=>?_⟩;exact(Ze k).trans (r (l.1 f));exact(Ze k).trans (w (λb=>f (l.2 b)));obtain⟨h1,q,t⟩:=SO m;have l:=Yw (σ:=qh (a.put (Td i) u)) (τ:=qh a) t (λj o=>yh o);have p:=h.all x h1;refine⟨λf=>?_,λf=>?_⟩;exact(yh q).trans (p.1 (l.1 f));exact(yh q).trans (p.2 (λb=>f (l.2 b)))
def wj(n:Nat)(c:qk):Option Nat->Bool
 |none=>Ta
 |some d=>bif mentions c d then Tc else Nat.blt d n
theorem Sat.putO{n:Nat}{e:bK}{a:Act}(h:Sat n e a){d:Option Nat}{c:qk}{v u:Value}(f:wj n c d=Ta)
  (k:valid (qh a) c->u=v) (l:¬valid (qh a) c->u=undef):Sat n (putO e d c v) (a.put d u):=by
 cases d with
 |none=>exact h
 |some i=>
  simp only[wj]at f;by_cases j:mentions c i=Ta;grind;have b:mentions c i=Tc:=by simpa using j
  simp only[b,zL]at f;exact h.put (by simp_all) b k l
def xt:qk->qk->Bool
 |[],[]=>Ta
 |(g,p)::c,(g',p')::c'=>bif Nat.beq g g' then(bif p then(bif p' then xt c c' else Tc)else(bif p' then Tc else xt c c'))else Tc
 |_,_=>Tc
theorem Q7:∀{c b:qk},xt c b=Ta->c=b
 |[],[],_=>rfl
 |[],_::_,h=>by simp[xt]at h
 |_::_,[],h=>by simp[xt]at h
 |(g,p)::c,(g',p')::b,h=>by simp only[xt]at h;by_cases e:Nat.beq g g'=Ta;simp only[e,zK]at h;have f:=UC e;cases p <;> cases p' <;> simp at h <;> rw[f,Q7 h];grind
def kq(cs:qk):qk->Bool
 |[]=>xt cs []
 |x::c=>bif xt cs (x::c)then Ta else kq cs c
theorem Q8{σ:Nat->Value}{cs:qk}:∀{c:qk},kq cs c=Ta->valid σ c->valid σ cs
 |[],h,_=>by rw[Q7 h];trivial
 |x::c,h,hv=>by simp only[kq]at h;by_cases b:xt cs (x::c)=Ta;rw[Q7 b];exact hv;simp only[b,zL]at h;exact Q8 h hv.2
def Jz(e:bK)(c:qk):Operand->Option Value
 |.tmp t=>match look e t with
  |some (cs,v)=>bif kq cs c then Td v else Te
  |none=>Te
 |.const v=>Td v
 |.global g=>Td (.pointer (Td ⟨g,0,Te⟩))
 |.func f=>Td (.func (.func f) #[] #[])
theorem ql{e:bK}(h:Sat n e a){c:qk}(k:valid (qh a) c){x:Operand}(b:Jz e c x=Td v):a.eval x=v:=by
 cases x with
 |tmp t=>simp only[Jz]at b;split at b;rename_i cs u j;by_cases i:kq cs c=Ta;simp only[i,zK,Ug]at b;subst b;exact(h.all _ (Xe j)).1 (Q8 i k);grind;cases b
 |const u=>simp only[Jz,Ug]at b;exact b
 |global g=>simp only[Jz,Ug]at b;exact b
 |func f=>simp only[Jz,Ug]at b;exact b
def iY(e:bK)(c:qk)(x:Operand):Value:=match Jz e c x with
 |some v=>v
 |none=>undef
def known(e:bK)(c:qk):List Operand->Bool
 |[]=>Ta
 |x::l=>match Jz e c x with
  |some _=>known e c l
  |none=>Tc
theorem Yx{e:bK}(h:Sat n e a){c:qk}(j:valid (qh a) c){l:List Operand}(b:known e c l=Ta):∀x∈l,a.eval x=iY e c x:=by
 induction l with
 |nil=>simp
 |cons y l k=>intro x i;simp only[known]at b;split at b;rename_i v f;rcases Up.1 i with rfl|i;rw[ql h j f];simp[iY,f];grind;cases b
def Yy:Op->Bool
 |.select _ _=>Tc
 |_=>Ta
theorem tT{e:bK}(h:Sat n e a){c:qk}(k:valid (qh a) c)(f:Yy o.op=Ta)(i:known e c o.op.operands.toList=Ta):
  execOp a.eval o=execOp (iY e c) o:=
 execOp_congr o (λcs b j=>by rw[j]at f;cases f) λx l=>Yx h k i x (by simpa using l)
def j7(ops:Array Oper)(j:Nat):Option Nat:=match ops[j]? with
 |some o=>o.dst
 |none=>Te
def ww(ops:Array Oper)(e:bK):Option (Nat×Bool)->Option qk
 |none=>Td []
 |some (j,p)=>match j7 ops j with
  |some g=>match look e g with
   |some (cg,.bool _)=>Td ((g,p)::cg)
   |_=>Te
  |none=>Te
def qJ(e:bK):qk->Option Bool
 |[]=>Td Ta
 |(g,p)::c=>match look e g with
  |some (cg,.bool b)=>bif xt cg c then(match qJ e c with
    |some cb=>Td (cb&&(bif p then b else !b))
    |none=>Te)else Te
  |_=>Te
theorem Ai{b:Bool}:undef≠.bool b:=by simp[undef]
theorem vC{n:Nat}{e:bK}{a:Act}(h:Sat n e a):∀{c:qk} {b:Bool},qJ e c=Td b->(b=Ta↔valid (qh a) c)
 |[],b,hb=>by simp only[qJ,Ug]at hb;simp[<-hb,valid]
 |(g,p)::c,b,hb=>by
  simp only[qJ]at hb;split at hb;rename_i r l m;by_cases k:xt r c=Ta;simp only[k,zK]at hb;split at hb;rename_i cb i;simp only[Ug]at hb;have q:=vC h i;have j:=h.all _ (Xe m);rw[Q7 k]at j;by_cases f:valid (qh a) c;have h1:qh a g=.bool l:=j.1 f;have o:=q.2 f;subst hb;simp only[valid,h1,f,o,Vz,and_true,Value.bool.injEq];grind;have h1:cb=Tc:=by cases cb with|false=>rfl|true=>simp_all
  subst hb;simp[valid,f,h1];cases hb;grind;cases hb
theorem Zh{ops:Array Oper}{e:bK}(h:Sat n e a){c:qk}(f:ww ops e o.guard=Td c):
  UX o (yielded ops a.tmps)=Ta↔valid (qh a) c:=by
 unfold UX;cases hg:o.guard with
 |none=>rw[hg]at f;simp only[ww,Ug]at f;simp[<-f,valid]
 |some t=>
  obtain⟨j,p⟩:=t;rw[hg]at f;simp only[ww]at f;split at f;rename_i g i;split at f;rename_i u b q;simp only[Ug]at f;subst f;have k:((ops[j]?).bind (·.dst))=Td g:=by simp only[j7]at i;split at i;simp_all;cases i
  have m:=h.all _ (Xe q);have r:yielded ops a.tmps j=Td p↔qh a g=.bool p:=by
   unfold yielded qh;rw[k];simp only[VK];cases ht:a.tmps[g]? with
   |none=>simp[Vh,ht,undef]
   |some v=>cases v <;> simp[Vh,ht]
  simp only[beq_iff_eq,r,valid];constructor;intro h1;refine⟨h1,?_⟩;by_cases l:valid (qh a) u;exact l;have:=m.2 l;simp only at this;rw[h1]at this;exact absurd this.symm Ai;simp_all;cases f;cases f
structure Keep (n:Nat) (h h':zc):Prop where
 size:h.size<=h'.size
 get:∀i,i<n->h'[i]?=h[i]?
theorem Keep.refl(n:Nat)(h:zc):Keep n h h:=⟨Uf _,λ_ _=>rfl⟩
theorem Keep.trans{a b c:zc}(h:Keep n a b)(k:Keep m b c)(e:n<=m):Keep n a c:= ⟨Vj h.size k.size,λi hi=>(k.get i (VP hi e)).trans (h.get i hi)⟩
theorem Keep.mono{a b:zc}(h:Keep n a b)(c:m<=n):Keep m a b:=⟨h.size,λi hi=>h.get i (VP hi c)⟩
theorem Keep.push(h:zc)(o:Obj)(b:n<=h.size):Keep n h (h.push o):= ⟨by simp,λi hi=>by grind⟩
end
section
variable {P:Program} {α:Type} {h:zc} {v i:Value} {t:TypeId} {g:Option Bool} {n l r:Int}
def zd(h:zc)(a:Addr):Option Value:=
 match h[a.block]? with
 |some (.cells c _ _)=>if a.spot.isSome then Te else c[a.off]?
 |_=>Te
theorem Aa(B:World)(d:Nat)(h:zc)(a:Addr):(mk B d h).cell? a=zd h a:=rfl
def Qs(P:Program){α:Type}:Sem α->Option α
 |.pure a=>Td a
 |.program k=>Qs P (k P)
 |.mark _ k=>Qs P k
 |_=>Te
def QExec(P:Program){α:Type}(s:Sem α)(h:zc)(x:α):Prop:=∀B d,s.run P (mk B d h)=.ok x (mk B d h)
theorem Al{s:Sem α}{x:α}(h:Qs P s=Td x)(w:World):s.run P w=.ok x w:=by
 induction s with
 |pure a=>simp only[Qs,Ug]at h;subst h;rfl
 |program k b=>exact b P h
 |mark m k b=>exact b h
 |_=>simp[Qs]at h
theorem S4{s:Sem α}{x:α}(h:Qs P s=Td x)(b:zc):QExec P s b x:=λ_ _=>Al h _
theorem QExec.bind{α β:Type}{s:Sem α}{f:α->Sem β}{x:α}{y:β}(h1:QExec P s h x)(b:QExec P (f x) h y):QExec P (s >>= f) h y:=by intro B d;rw[Sem.run_bind,h1 B d];exact b B d
theorem QExec.pure(x:α):QExec P (WW x) h x:=λ_ _=>rfl
theorem QExec.val{s:Sem Value}(h1:QExec P s h v):QExec P (s >>= λx=>WW (WY x)) h (WY v):=h1.bind (QExec.pure _)
theorem QExec.underlying{d:TypeDesc}(b:P.underlying t=Td d):QExec P (Go.underlying t) h d:=by intro B e;simp[Go.underlying,program,b,Sem.run]
def je(P:Program)(t:TypeId):Nat:=match P.info? t with
 |some i=>i.size
 |none=>0
theorem QExec.sizeOf{i:TypeInfo}(hi:P.info? t=Td i):QExec P (Go.sizeOf t) h (je P t):=by intro B d;simp[Go.sizeOf,typeInfo,program,hi,Sem.run,je]
theorem info_of_underlying{d:TypeDesc}(b:P.underlying t=Td d):∃i,P.info? t=Td i:=by unfold Program.underlying at b;grind
inductive Atom where
 |int (k:IntKind)|bool|str|sl|mp|ptr|raw|ad
structure Sl where
 a:Option Addr
 len:Nat
 cap:Nat
@[reducible] def Atom.den:Atom->Type
 |.int _=>Int | .bool=>Bool | .str=>Bt | .sl=>Sl | .mp=>Option Nat | .ptr=>Option Addr | .raw=>Value | .ad=>Addr
def Atom.enc:(t:Atom)->t.den->Value
 |.int k,n=>.int k n
 |.bool,b=>.bool b
 |.str,s=>.string s
 |.sl,s=>.slice s.a s.len s.cap
 |.mp,m=>.map m
 |.ptr,p=>.pointer p
 |.raw,v=>v
 |.ad,p=>.pointer (Td p)
def Atom.dec:(t:Atom)->Value->Option t.den
 |.int k,.int k' n=>if k=k' then Td n else Te
 |.bool,.bool b=>Td b
 |.str,.string s=>Td s
 |.sl,.slice a l c=>Td ⟨a,l,c⟩
 |.mp,.map m=>Td m
 |.ptr,.pointer p=>Td p
 |.raw,v=>Td v
 |.ad,.pointer (Td p)=>Td p
 |_,_=>Te
theorem Atom.enc_of_dec{t:Atom}{x:t.den}(h:t.dec v=Td x):t.enc x=v:=by
 cases t with
 |ad=>
  cases v with
  |pointer p=>
   cases p with
   |none=>simp[Atom.dec]at h
   |some a=>simp[Atom.dec]at h;rw[h];rfl
  |_=>simp[Atom.dec]at h
 |_=>cases v <;> simp_all[Atom.dec,Atom.enc] <;> (grind)
inductive VT where
 |one (t:Atom)
 |agg (l:List Atom)
inductive RT where
 |one (v:VT)
 |tup (l:List VT)
def rX:List Atom->(List Value->Prop)->Prop
 |[],F=>F []
 |t::l,F=>∃x:t.den,rX l λvs=>F (t.enc x::vs)
def vd:VT->(Value->Prop)->Prop
 |.one t,F=>∃x:t.den,F (t.enc x)
 |.agg l,F=>rX l λvs=>F (.agg vs.toArray)
def ug:List VT->(List Value->Prop)->Prop
 |[],F=>F []
 |t::l,F=>vd t λv=>ug l λvs=>F (v::vs)
def mo:RT->(Value->Prop)->Prop
 |.one v,F=>vd v F
 |.tup l,F=>ug l λvs=>F (.tuple vs.toArray)
def pm:List Atom->(List Value->Prop)->Prop
 |[],F=>F []
 |t::l,F=>∀x:t.den,pm l λvs=>F (t.enc x::vs)
def pT:VT->(Value->Prop)->Prop
 |.one t,F=>∀x:t.den,F (t.enc x)
 |.agg l,F=>pm l λvs=>F (.agg vs.toArray)
def oh:List VT->(List Value->Prop)->Prop
 |[],F=>F []
 |t::l,F=>pT t λv=>oh l λvs=>F (v::vs)
def Gr:RT->(Value->Prop)->Prop
 |.one v,F=>pT v F
 |.tup l,F=>oh l λvs=>F (.tuple vs.toArray)
theorem Q9:∀{l:List Atom} {F G:List Value->Prop},rX l F->pm l G->∃vs,vs.length=l.length/\F vs/\G vs
 |[],_,_,h,g=>⟨[],rfl,h,g⟩
 |_::_,_,_,⟨x,h⟩,g=>let ⟨vs,h0,h1,h2⟩:=Q9 h (g x);⟨_,by simp[h0],h1,h2⟩
theorem j8:∀(l:List Atom),pm l λ_=>True
 |[]=>trivial
 |_::l=>λ_=>j8 l
theorem yZ{v:VT}{F G:Value->Prop}(h:vd v F)(g:pT v G):∃u,F u/\G u:=by
 cases v with
 |one t=>obtain⟨x,h⟩:=h;exact⟨_,h,g x⟩
 |agg l=>obtain⟨vs,_,h1,b⟩:=Q9 h g;grind
theorem MS(v:VT):pT v λ_=>True:=by
 cases v with
 |one t=>exact λ_=>trivial
 |agg l=>exact j8 l
theorem vJ:∀{l:List VT} {F G:List Value->Prop},ug l F->oh l G->∃vs,F vs/\G vs
 |[],_,_,h,g=>⟨[],h,g⟩
 |_::_,_,_,h,g=>let ⟨_,h1,h2⟩:=yZ h g;let ⟨_,h3,h4⟩:=vJ h1 h2;⟨_,h3,h4⟩
theorem Ee:∀(l:List VT),oh l λ_=>True
 |[]=>trivial
 |v::l=>by
  have h:=Ee l;simp only[oh];cases v with
  |one t=>exact λ_=>h
  |agg b=>
   simp only[pT];have key:∀(b:List Atom) (f:List Value->List Value),pm b λ_=>oh l λ_=>True:=λb _=>by
    induction b with
    |nil=>exact h
    |cons t b c=>exact λ_=>c
   exact key b id
theorem Cl{r:RT}{F G:Value->Prop}(h:mo r F)(g:Gr r G):∃v,F v/\G v:=by
 cases r with
 |one v=>exact yZ h g
 |tup l=>obtain⟨vs,h1,b⟩:=vJ h g;grind
theorem sq{r:RT}{F:Value->Prop}(h:mo r F):∃v,F v:=by
 cases r with
 |one v=>obtain⟨u,h1,_⟩:=yZ h (MS v);grind
 |tup l=>obtain⟨vs,h1,_⟩:=vJ h (Ee l);grind
def DL:TypeDesc->Atom
 |.int k=>.int k
 |.bool=>.bool
 |.string=>.str
 |.slice _=>.sl
 |.map _ _=>.mp
 |.pointer _=>.ptr
 |_=>.raw
def sP(P:Program):Nat->TypeId->Option (List Atom)
 |0,_=>Te
 |n+1,t=>match P.underlying t with
  |some (.struct fs)=>fs.toList.foldr (λf l=>match sP P n f.type,l with
    |some x,some y=>Td (x++y)
    |_,_=>Te) (Td [])
  |some (.array m e)=>match sP P n e with
    |some x=>Td (Vx m x).flatten
    |none=>Te
  |some d=>Td [DL d]
  |none=>Te
def jY(P:Program)(t:TypeId):Option VT:=match P.underlying t with
 |some (.struct _)|some (.array _ _)=>match sP P 8 t with
  |some l=>bif Nat.beq l.length (je P t)then Td (.agg l)else Te
  |none=>Te
 |some d=>Td (.one (DL d))
 |none=>Te
def Fs(P:Program):List TypeId->Option (List VT)
 |[]=>Td []
 |t::l=>match jY P t,Fs P l with
  |some x,some y=>Td (x::y)
  |_,_=>Te
def pa(P:Program)(t:TypeId):Option RT:=match P.underlying t with
 |some (.tuple ts)=>match Fs P ts.toList with
  |some l=>Td (.tup l)
  |none=>Te
 |_=>match jY P t with
  |some v=>Td (.one v)
  |none=>Te
def req:Option Bool->Prop->Prop
 |none,p=>p
 |some b,p=>b=Ta->p
def fK:Option Bool->Prop
 |none=>True
 |some b=>b=Ta
theorem req.out{p:Prop}(h:req g p)(c:fK g):p:=by
 cases g with
 |none=>exact h
 |some b=>exact h c
def ze(h:zc)(p:Addr):Nat->List Value->Prop
 |_,[]=>True
 |i,v::vs=>zd h (p.add i)=Td v/\ze h p (i+1) vs
def mK(P:Program)(h:zc)(t:TypeId)(p:Value)(g:Option Bool)(K:Value->Prop):Prop:=
 match p,jY P t with
 |.pointer (Td p),Td (.one a)=>∃x:a.den,req g (zd h p=Td (a.enc x))/\K (a.enc x)
 |.pointer (Td p),Td (.agg l)=>rX l λvs=>req g (ze h p 0 vs)/\K (.agg vs.toArray)
 |_,_=>False
theorem Wa{P:Program}{h:zc}{p:Addr}:∀(vs:List Value) (i:Nat) (b:Array Value),ze h p i vs->QExec P (loadCellsFrom p i vs.length b) h (b++vs.toArray)
 |[],i,b,_=>by intro B d;simp[loadCellsFrom]
 |v::vs,i,b,⟨h1,h2⟩=>by have c:=Wa (P:=P) vs (i+1) (b.push v) h2;intro B d;simp only[Uz,loadCellsFrom,Sem.run_bind,run_load];rw[Aa,h1];simp only[Result.andThen_ok];rw[c B d];simp
theorem pI{a:Atom}{p:Addr}(c:jY P t=Td (.one a))(i:zd h p=Td v):QExec P (loadVar t p) h v:=by
 unfold jY at c;cases hu:P.underlying t with
 |none=>simp_all
 |some d=>
  rw[hu]at c;intro B e;have f:=QExec.underlying (h:=h) hu B e;have b:(isAgg t).run P (mk B e h)=.ok Tc (mk B e h):=by unfold isAgg;rw[Sem.run_bind,f];cases d <;> first|rfl|grind
  unfold loadVar;rw[Sem.run_bind,b];simp only[Result.andThen_ok,Vm,if_false,run_load];rw[Aa,i]
theorem oY{l:List Atom}{p:Addr}{vs:List Value}(c:jY P t=Td (.agg l))(u:vs.length=l.length)(q:ze h p 0 vs):QExec P (loadVar t p) h (.agg vs.toArray):=by
 unfold jY at c;cases hu:P.underlying t with
 |none=>simp_all
 |some d=>
  rw[hu]at c;obtain⟨i,hi⟩:=info_of_underlying hu;have b:(∃f,d=.struct f)\/(∃n e,d=.array n e):=by cases d <;> first|exact Or.inl ⟨_,rfl⟩|exact Or.inr ⟨_,_,rfl⟩|(simp at c)
  have r:je P t=l.length:=by
   have j:(match sP P 8 t with
     |some l=>bif Nat.beq l.length (je P t)then Td (VT.agg l)else Te
     |none=>Te)=Td (.agg l):=by
    rcases b with⟨f,rfl⟩|⟨n,e,rfl⟩ <;> exact c
   split at j;rename_i o _;cases hb:Nat.beq o.length (je P t)with
   |false=>simp_all
   |true=>simp_all
   cases j
  intro B e;have k:=QExec.underlying (h:=h) hu B e;have hA:(isAgg t).run P (mk B e h)=.ok Ta (mk B e h):=by unfold isAgg;rw[Sem.run_bind,k];rcases b with⟨f,rfl⟩|⟨n,w,rfl⟩ <;> rfl
  have m:=QExec.sizeOf (h:=h) hi B e;unfold loadVar;rw[Sem.run_bind,hA];simp only[Result.andThen_ok,if_true];rw[Sem.run_bind,m];simp only[Result.andThen_ok];have hL:=Wa (P:=P) vs 0 #[] q B e;unfold loadCells;simp_all
theorem Gv{p:Value}{K:Value->Prop}(H:mK P h t p g K):
  ∃v,K v/\(fK g->QExec P (WQ t p) h v):=by
 unfold mK at H;split at H;rename_i q a b;obtain⟨x,h1,c⟩:=H;exact⟨_,c,λe=>pI b (h1.out e)⟩;rename_i q l b;obtain⟨vs,h0,⟨h1,c⟩,_⟩:=Q9 H (j8 l);exact⟨_,c,λe=>oY b h0 (h1.out e)⟩;exact H.elim
def pq(P:Program)(t:TypeId)(x i:Value)(g:Option Bool)(K:Value->Prop):Prop:=
 match P.underlying t with
 |some (.slice el)=>match x,i with
  |.slice base len _,.int _ n=>∃a:Addr,req g (base=Td a/\0<=n/\n<(len:Int))/\K (.pointer (Td (a.add (n.toNat*je P el))))
  |_,_=>False
 |some (.array len el)=>match x,i with
  |.pointer base,.int _ n=>∃a:Addr,req g (base=Td a/\0<=n/\n<(len:Int))/\K (.pointer (Td (a.add (n.toNat*je P el))))
  |_,_=>False
 |_=>False
def qo(P:Program)(t:TypeId):Bool:=match P.info? t with
 |some _=>Ta
 |none=>Tc
theorem jl(h:qo P t=Ta):∃i,P.info? t=Td i:=by unfold qo at h;grind
theorem wi(t:TypeId)(B:World)(d:Nat):(∃i,P.info? t=Td i)->(Go.sizeOf t).run P (mk B d h)=.ok (je P t) (mk B d h):=λ⟨_,hi⟩=>QExec.sizeOf hi B d
theorem Zi{x i:Value}{K:Value->Prop} (c:∀el,(P.underlying t=Td (.slice el)\/∃n,P.underlying t=Td (.array n el))->∃i,P.info? el=Td i) (H:pq P t x i g K):
  ∃v,K v/\(fK g->∀h:zc,QExec P (XU t x i) h v):=by
 unfold pq at H;split at H;rename_i el b;split at H;rename_i base len cap k n;obtain⟨a,h1,e⟩:=H;refine⟨_,e,λl=>?_⟩;obtain⟨rfl,f,o⟩:=h1.out l;intro h B d;have m:=QExec.underlying (h:=h) b B d;have j:=wi (h:=h) el B d (c el (Or.inl b));unfold XU;simp[asIntOf,Sem.run_bind,m,j,f,o];exact H.elim;rename_i len el b;split at H;rename_i base k n;obtain⟨a,h1,e⟩:=H;refine⟨_,e,λl=>?_⟩;obtain⟨rfl,f,o⟩:=h1.out l;intro h B d;have m:=QExec.underlying (h:=h) b B d;have j:=wi (h:=h) el B d (c el (Or.inr ⟨_,b⟩));unfold XU;simp[asIntOf,Sem.run_bind,m,j,f,o,WZ];exact H.elim;exact H.elim
def y8(s:Bt)(i:Nat):Int:=((s.data[i]?.getD 0).toNat:Int)
def yU(x i:Value)(g:Option Bool)(K:Value->Prop):Prop:=
 match x,i with
 |.string s,.int _ n=>req g (0<=n/\n<(s.size:Int))/\K (.int .u8 (y8 s n.toNat))
 |_,_=>False
theorem QV(s:Bt)(i:Nat)(h:i<s.size):s[i]?=Td (s.data[i]?.getD 0):=by have h':i<s.data.size:=h;rw[getElem?_pos s i h];simp[Vn h'];rfl
theorem Wb{x i:Value}{K:Value->Prop}(c:P.underlying t=Td .string)(H:yU x i g K):
  ∃v,K v/\(fK g->∀h:zc,QExec P (Instr.index t x i) h v):=by
 unfold yU at H;split at H;rename_i s k n;obtain⟨h1,b⟩:=H;refine⟨_,b,λj=>?_⟩;obtain⟨e,m⟩:=h1.out j;intro h B d;have l:=QExec.underlying (h:=h) c B d;unfold Instr.index;have f:=QV s n.toNat (by omega);simp only[asIntOf,Sem.run_bind,l,Sem.run_pure,Result.andThen_ok,e,if_true,f,y8];exact H.elim
def im(a:Option Addr)(sz l m:Nat):Option Addr:=if m=l then a else a.map (·.add (l*sz))
def yj:Option Value->Int->Option Int
 |none,d=>Td d
 |some (.int _ n),_=>Td n
 |some _,_=>Te
def tK(P:Program)(t:TypeId)(x:Value)(lo hi mx:Option Value)(g:Option Bool)(K:Value->Prop):Prop:=
 match P.underlying t with
 |some .string=>match x,mx with
  |.string s,none=>match yj lo 0,yj hi (s.size:Int)with
   |some l,some r=>req g (0<=l/\l<=r/\r<=(s.size:Int))/\K (.string (s.extract l.toNat r.toNat))
   |_,_=>False
  |_,_=>False
 |some (.slice el)=>match x with
  |.slice a len cap=>match yj lo 0,yj hi (len:Int),yj mx (cap:Int)with
   |some l,Td r,some m=>(mx=Te\/∃v,hi=Td v)/\req g (0<=l/\l<=r/\r<=m/\m<=(cap:Int))/\K (.slice (im a (je P el) l.toNat m.toNat) (r.toNat-l.toNat) (m.toNat-l.toNat))
   |_,_,_=>False
  |_=>False
 |some (.array n el)=>match x,mx with
  |.pointer (Td a),none=>match yj lo 0,yj hi (n:Int)with
   |some l,some r=>req g (0<=l/\l<=r/\r<=(n:Int))/\K (.slice (im (Td a) (je P el) l.toNat n) (r.toNat-l.toNat) (n-l.toNat))
   |_,_=>False
  |_,_=>False
 |_=>False
theorem yx{v:Option Value}{d n:Int}(h:yj v d=Td n):(v=Te/\n=d)\/∃k,v=Td (.int k n):=by unfold yj at h;grind
theorem yp{k:IntKind}{y:Nat}{c:BoundsCode}(h0:0<=n)(h1:n<=(y:Int)):QExec P (Instr.sliceBound (.int k n) y c) h n.toNat:=by intro B d;simp[Instr.sliceBound,asIntOf,h0,h1]
theorem A2{n:Nat}{lo hi:Option Value}(f:yj lo 0=Td l)(j:yj hi (n:Int)=Td r)(c:0<=l)(i:l<=r)(b:r<=(n:Int)):
  QExec P (Instr.sliceBounds Tc n n lo hi Te) h (l.toNat,r.toNat,n):=by
 have e:(r.toNat:Int)=r:=Int.toNat_of_nonneg (by omega);rcases yx f with⟨rfl,rfl⟩|⟨k,rfl⟩ <;> rcases yx j with⟨rfl,rfl⟩|⟨k',rfl⟩;exact QExec.pure _;exact QExec.bind (QExec.pure n) (QExec.bind (yp (by omega) b) (QExec.pure _));exact QExec.bind (QExec.pure n) (QExec.bind (QExec.pure n) (QExec.bind (yp c i) (QExec.pure _)));exact QExec.bind (QExec.pure n) (QExec.bind (yp (by omega) b) (QExec.bind (yp c (by omega)) (QExec.pure _)))
theorem Ry{len cap:Nat}{lo hi mx:Option Value}{l r m:Int}(f:yj lo 0=Td l)(i:yj hi (len:Int)=Td r)(o:yj mx (cap:Int)=Td m) (h0:mx=Te\/∃v,hi=Td v) (b:0<=l) (p:l<=r) (n:r<=m) (j:m<=(cap:Int)):
  QExec P (Instr.sliceBounds Ta len cap lo hi mx) h (l.toNat,r.toNat,m.toNat):=by
 have e:(r.toNat:Int)=r:=Int.toNat_of_nonneg (by omega);have u:(m.toNat:Int)=m:=Int.toNat_of_nonneg (by omega);rcases yx o with⟨rfl,rfl⟩|⟨t,rfl⟩;rcases yx f with⟨rfl,rfl⟩|⟨k,rfl⟩ <;> rcases yx i with⟨rfl,rfl⟩|⟨q,rfl⟩;exact QExec.pure _;exact QExec.bind (QExec.pure cap) (QExec.bind (yp (by omega) n) (QExec.pure _));exact QExec.bind (QExec.pure cap) (QExec.bind (QExec.pure len) (QExec.bind (yp b p) (QExec.pure _)));exact QExec.bind (QExec.pure cap) (QExec.bind (yp (by omega) n) (QExec.bind (yp b (by omega)) (QExec.pure _)));rcases h0 with h0|⟨v,rfl⟩;cases h0;rcases yx i with⟨c,_⟩|⟨q,c⟩;cases c;cases c;rcases yx f with⟨rfl,rfl⟩|⟨k,rfl⟩;exact QExec.bind (x:=m.toNat) (yp (by omega) j) (QExec.bind (yp (by omega) (by omega)) (QExec.pure _));exact QExec.bind (x:=m.toNat) (yp (by omega) j) (QExec.bind (yp (by omega) (by omega)) (QExec.bind (yp b (by omega)) (QExec.pure _)))
theorem Qt{x:Value}{lo hi mx:Option Value}{K:Value->Prop} (p:∀el,(P.underlying t=Td (.slice el)\/∃n,P.underlying t=Td (.array n el))->∃i,P.info? el=Td i) (H:tK P t x lo hi mx g K):
  ∃v,K v/\(fK g->∀h:zc,QExec P (XM t x lo hi mx) h v):=by
 unfold tK at H;split at H;rename_i b;split at H;rename_i s;split at H;rename_i l r e j;obtain⟨h1,f⟩:=H;refine⟨_,f,λo=>?_⟩;obtain⟨k,q,u⟩:=h1.out o;intro h B d;have c:=QExec.underlying (h:=h) b B d;have bb:=A2 (P:=P) (h:=h) e j k q u B d;unfold XM;rw[Sem.run_bind,c];simp only[Result.andThen_ok];unfold Instr.slice;simp_all;exact H.elim;exact H.elim;rename_i el b;split at H;rename_i a len cap;split at H;rename_i l r m e j y;obtain⟨h0,h1,f⟩:=H;refine⟨_,f,λo=>?_⟩;obtain⟨k,q,u,z⟩:=h1.out o;intro h B d;have c:=QExec.underlying (h:=h) b B d;have w:=wi (h:=h) el B d (p el (.inl b));have bb:=Ry (P:=P) (h:=h) e j y h0 k q u z B d;unfold XM;rw[Sem.run_bind,c];simp only[Result.andThen_ok];unfold Instr.slice;rw[Sem.run_bind,c];simp[bb,w,im];exact H.elim;exact H.elim;rename_i n el b;split at H;rename_i a;split at H;rename_i l r e j;obtain⟨h1,f⟩:=H;refine⟨_,f,λo=>?_⟩;obtain⟨k,q,u⟩:=h1.out o;intro h B d;have c:=QExec.underlying (h:=h) b B d;have w:=wi (h:=h) el B d (p el (.inr ⟨n,b⟩));have bb:=A2 (P:=P) (h:=h) e j k q u B d;unfold XM;rw[Sem.run_bind,c];simp only[Result.andThen_ok,WZ,Sem.run_bind,Sem.run_pure,bb,w];unfold im;split <;> rfl;exact H.elim;exact H.elim;exact H.elim
end
section
variable {P:Program} {f:FuncId} {h:zc} {K:Value -> zc -> Prop} {t ty t':TypeId} {g:Option Bool} {w w':World} {v:Value} {o:Oper} {ρ:Operand -> Value} {a:Act}
def XC(P:Program)(f:FuncId)(args:Array Value)(h:zc)(R:Value->zc->Prop):Prop:=
 ∀B d,Calls P f args (mk B d h) λe w'=>∃v b h',e=.returned v/\w'=mk B b h'/\R v h'
theorem XC.mono{args:Array Value}{R b:Value->zc->Prop}(H:XC P f args h R)(e:∀v h',R v h'->b v h'):XC P f args h b:= λB d=>(H B d).mono λ_ _ ⟨v,i,h',c,j,r⟩=>⟨v,i,h',c,j,e _ _ r⟩
def qt(P:Program)(s:Sem Value)(h:zc)(K:Value->zc->Prop):Prop:=∀B d,∃v b h',s.run P (mk B d h)=.ok v (mk B b h')/\K v h'
def XRunU(P:Program)(s:Sem Unit)(h:zc)(K:zc->Prop):Prop:=∀B d,∃b h',s.run P (mk B d h)=.ok () (mk B b h')/\K h'
theorem XRunU.mono{s:Sem Unit}{K b:zc->Prop}(H:XRunU P s h K)(c:∀h',K h'->b h'):XRunU P s h b:= λB d=>let ⟨d',h',e,k⟩:=H B d;⟨d',h',e,c _ k⟩
def jh(n:Nat):Prop:=n<=9223372036854775807
def jT(P:Program)(s:Sem Next)(K:Value->Prop):Prop:=match Qs P s with
 |some (.value v)=>K v
 |_=>False
def tH(P:Program)(ty:TypeId)(s:Sem Value)(g:Option Bool)(h:zc)(K:Value->Prop):Prop:=match pa P ty with
 |some b=>mo b λv=>req g (QExec P s h v)/\K v
 |none=>False
def oH(P:Program)(t:TypeId):Bool:=match P.underlying t with
 |some (.slice _)=>Ta
 |_=>Tc
def om(P:Program)(t:TypeId):Bool:=match P.underlying t with
 |some (.pointer e)=>Nat.beq e (P.pointee t)
 |_=>Tc
theorem FV(h:om P t=Ta):P.underlying t=Td (.pointer (P.pointee t)):=by unfold om at h;grind [UC]
def s3(P:Program)(t:TypeId)(s:Sem Next)(c:BinOp)(x y:Value)(g:Option Bool)(K:Value->Prop):Prop:=
 match c,x,y with
 |.eql,.slice a _ _,.slice Te 0 0=>bif oH P t then K (.bool a.isNone)else jT P s K
 |.neq,.slice a _ _,.slice Te 0 0=>bif oH P t then K (.bool (!a.isNone))else jT P s K
 |.eql,.pointer a,.pointer none=>bif om P t then K (.bool a.isNone)else jT P s K
 |.neq,.pointer a,.pointer none=>bif om P t then K (.bool (!a.isNone))else jT P s K
 |.quo,.int k a,.int k' b=>k=k'/\req g (b≠0)/\K (.int k (k.wrap (a.tdiv b)))
 |.rem,.int k a,.int k' b=>k=k'/\req g (b≠0)/\K (.int k (a.tmod b))
 |.add,.string a,.string b=>req g (jh (a.size+b.size))/\K (.string (a++b))
 |_,_,_=>jT P s K
def xX(b:BinOp)(y:Operand):Bool:=match y with
 |.const _=>Tc
 |_=>match b with
  |.shl | .shr=>Ta
  |_=>Tc
def s5(c:BinOp)(x y:Value)(g:Option Bool)(K:Value->Prop):Prop:=
 match x,y with
 |.int k a,.int _ b=>match c with
  |.shl=>req g (0<=b)/\K (.int k (k.wrap (a*2 ^ (min b.toNat k.bits))))
  |.shr=>req g (0<=b)/\K (.int k (a.fdiv (2 ^ (min b.toNat k.bits))))
  |_=>False
 |_,_=>False
def qY(P:Program)(t:TypeId)(y:Operand):Bool:=match y with
 |.const .nilIface=>match P.underlying t with
  |some (.interface _)=>Ta
  |_=>Tc
 |_=>Tc
def m5:Value->Bool
 |.nilIface=>Ta
 |.iface _ _=>Ta
 |_=>Tc
def nJ:Value->Bool
 |.nilIface=>Ta
 |_=>Tc
def su(b:BinOp)(x y:Value)(g:Option Bool)(K:Value->Prop):Prop:=match y with
 |.nilIface=>match b with
  |.eql=>req g (m5 x=Ta)/\K (.bool (nJ x))
  |.neq=>req g (m5 x=Ta)/\K (.bool (!nJ x))
  |_=>False
 |_=>False
def Aj(b:Builtin)(c:Array TypeId)(e:TypeId)(args:Array Value):Option (Sem Value):=
 match b with
 |.append=>Td (Us c e args)
 |.copy=>Td (Builtin.copy_ c e args)
 |.clear=>Td (Builtin.clear_ c e args)
 |.delete=>Td (Builtin.delete_ c e args)
 |.len=>Td (V3 c e args)
 |_=>Te
def wx(P:Program)(s:Sem Next)(ty:TypeId)(b:Array TypeId)(args:Array Value)(g:Option Bool)(h:zc)(K:Value->Prop):Prop:=
 match (args[0]?:Option Value)with
 |some (Value.map _)=>tH P ty (V3 b ty args) g h K
 |_=>jT P s K
def lz(P:Program)(t:TypeId):Bool:=match P.underlying t with
 |some (.slice el)=>qo P el
 |some (.array _ el)=>qo P el
 |_=>Ta
theorem xu(h:lz P t=Ta):∀el,(P.underlying t=Td (.slice el)\/∃n,P.underlying t=Td (.array n el))->∃i,P.info? el=Td i:=by intro el b;unfold lz at h;grind [jl]
def qF(P:Program)(t:TypeId):Bool:=match P.underlying t with
 |some .string=>Ta
 |_=>Tc
theorem Am(h:qF P t=Ta):P.underlying t=Td .string:=by unfold qF at h;grind
def rq(P:Program)(s:Sem Next)(x:Value)(g:Option Bool)(K:Value->Prop):Prop:=match x with
 |.pointer p=>∃a:Addr,req g (p=Td a)/\K (.pointer (Td a))
 |_=>jT P s K
def Wc(P:Program)(o:Oper)(ρ:Operand->Value)(g:Option Bool)(h:zc)(K:Value->Prop):Prop:=
 match o.op with
 |.load t a=>mK P h t (ρ a) g K
 |.indexAddr t x i=>bif lz P t then pq P t (ρ x) (ρ i) g K else False
 |.index t x i=>bif qF P t then yU (ρ x) (ρ i) g K else jT P (execOp ρ o) K
 |.slice t x lo hi mx=>bif lz P t then tK P t (ρ x) (lo.map ρ) (hi.map ρ) (mx.map ρ) g K else False
 |.binOp b t x y _=>bif xX b y then s5 b (ρ x) (ρ y) g K else bif qY P t y then su b (ρ x) (ρ y) g K else s3 P t (execOp ρ o) b (ρ x) (ρ y) g K
 |.lookup t m k ok=>tH P o.type (VF t (ρ m) (ρ k) ok) g h K
 |.nilCheck x=>rq P (execOp ρ o) (ρ x) g K
 |.call c=>match c.callee with
  |.builtin .len=>wx P (execOp ρ o) o.type c.argTypes (c.args.map ρ) g h K
  |_=>jT P (execOp ρ o) K
 |_=>jT P (execOp ρ o) K
theorem qd{s:Sem Next}{K:Value->Prop}(H:jT P s K)(g:Option Bool):∃v,K v/\(fK g->∀h:zc,QExec P s h (.value v)):=by unfold jT at H;grind [S4]
theorem G6{s:Sem Value}{K:Value->Prop}(H:tH P ty s g h K):∃v,K v/\(fK g->QExec P s h v):=by unfold tH at H;split at H;obtain⟨v,h1,c⟩:=sq H;exact⟨v,c,λb=>h1.out b⟩;exact H.elim
theorem wy{c:BinOp}(t:TypeId)(x y:Operand)(a b:Value)(h1:(c matches .eql | .neq)=Tc):eqGuard c t x y a b=pure ():=by unfold eqGuard;grind
theorem s9{s:Sem Value}(h:s.run P w=.ok v w'):(s >>= λx=>(WW (WY x):Sem Next)).run P w=.ok (.value v) w':=by simp_all
theorem nW{s:Sem Next}{K:Value->Prop}(h:zc)(H:∃v,K v/\(fK g->∀h:zc,QExec P s h (.value v))):∃v,K v/\(fK g->QExec P s h (.value v)):=
 let ⟨v,h1,h2⟩:=H;⟨v,h1,λb=>h2 b h⟩
theorem KA{p:BinOp}{x y:Operand}(q:o.op=.binOp p t x y t'){K:Value->Prop}
  (H:s3 P t (execOp ρ o) p (ρ x) (ρ y) g K):∃v,K v/\(fK g->∀h:zc,QExec P (execOp ρ o) h (.value v)):=by
 have f:∀(p:BinOp) (x y:Operand) (a b:Option Addr) (l c A z:Nat) (w:World),(eqGuard p t x y (.slice a l c) (.slice b A z)).run P w=.ok () w:=λp x y a b l c A z w=>by unfold eqGuard;simp
 have e:∀(p:BinOp) (x y:Operand) (a b:Option Addr) (w:World),(eqGuard p t x y (.pointer a) (.pointer b)).run P w=.ok () w:=λp x y a b w=>by unfold eqGuard;simp
 unfold s3 at H;split at H;rename_i a l c j i;cases hs:oH P t with
 |false=>rw[hs]at H;exact qd H g
 |true=>
  rw[hs,zK]at H;refine⟨_,H,λn h B d=>?_⟩;have m:∃el,P.underlying t=Td (.slice el):=by unfold oH at hs;split at hs;simp_all;cases hs
  obtain⟨el,m⟩:=m;simp only[execOp,q,j,i];refine s9 ?_;rw[Sem.run_bind,f];simp only[Result.andThen_ok,binOp,Sem.run_bind,run_equal_slice_nil _ t _ _ _ _ m];rfl
 rename_i a l c j i;cases hs:oH P t with
 |false=>rw[hs]at H;exact qd H g
 |true=>
  rw[hs,zK]at H;refine⟨_,H,λn h B d=>?_⟩;have m:∃el,P.underlying t=Td (.slice el):=by unfold oH at hs;split at hs;simp_all;cases hs
  obtain⟨el,m⟩:=m;simp only[execOp,q,j,i];refine s9 ?_;rw[Sem.run_bind,f];simp only[Result.andThen_ok,binOp,Sem.run_bind,run_equal_slice_nil _ t _ _ _ _ m];rfl
 rename_i a j i;cases hs:om P t with
 |false=>rw[hs]at H;exact qd H g
 |true=>rw[hs,zK]at H;refine⟨_,H,λn h B d=>?_⟩;have m:=FV hs;simp only[execOp,q,j,i];refine s9 ?_;rw[Sem.run_bind,e];simp only[Result.andThen_ok,binOp,Sem.run_bind,run_equal_pointer_nil _ t _ m];rfl
 rename_i a j i;cases hs:om P t with
 |false=>rw[hs]at H;exact qd H g
 |true=>rw[hs,zK]at H;refine⟨_,H,λn h B d=>?_⟩;have m:=FV hs;simp only[execOp,q,j,i];refine s9 ?_;rw[Sem.run_bind,e];simp only[Result.andThen_ok,binOp,Sem.run_bind,run_equal_pointer_nil _ t _ m];rfl
 rename_i k a D b j i;obtain⟨rfl,h1,r⟩:=H;refine⟨_,r,λn=>?_⟩;have u:=h1.out n;intro h B d;simp only[execOp,q,j,i];rw[wy _ _ _ _ _ rfl];simp[binOp,Op.intDiv,u];rename_i k a D b j i;obtain⟨rfl,h1,r⟩:=H;refine⟨_,r,λn=>?_⟩;have u:=h1.out n;intro h B d;simp only[execOp,q,j,i];rw[wy _ _ _ _ _ rfl];simp[binOp,Op.intDiv,u];rename_i a b j i;obtain⟨h1,r⟩:=H;refine⟨_,r,λn=>?_⟩;have u:=h1.out n;intro h B d;simp only[execOp,q,j,i];rw[wy _ _ _ _ _ rfl];have C:¬((a.size+b.size:Nat):Int)>IntKind.i64.max:=by
  unfold jh at u;have:IntKind.i64.max=9223372036854775807:=by decide
  omega
 simp only[binOp,Op.stringOp,zv C];rfl;exact qd H g
theorem ML{l:BinOp}{x y:Operand}(f:o.op=.binOp l t x y t'){K:Value->Prop}
  (H:s5 l (ρ x) (ρ y) g K):∃v,K v/\(fK g->∀h:zc,QExec P (execOp ρ o) h (.value v)):=by
 unfold s5 at H;split at H;rename_i k a n b j i;split at H;obtain⟨h1,c⟩:=H;refine⟨_,c,λe h B d=>?_⟩;have m:=h1.out e;simp only[execOp,f,j,i];rw[wy _ _ _ _ _ rfl];simp only[binOp,Op.shift,zv (show¬b<0 by omega)];rfl;obtain⟨h1,c⟩:=H;refine⟨_,c,λe h B d=>?_⟩;have m:=h1.out e;simp only[execOp,f,j,i];rw[wy _ _ _ _ _ rfl];simp only[binOp,Op.shift,zv (show¬b<0 by omega)];rfl;exact H.elim;exact H.elim
theorem JG{b:BinOp}{x y:Operand}(j:o.op=.binOp b t x y t'){K:Value->Prop}
  (i:qY P t y=Ta) (H:su b (ρ x) (ρ y) g K):∃v,K v/\(fK g->∀h:zc,QExec P (execOp ρ o) h (.value v)):=by
 have f:∃ms,P.underlying t=Td (.interface ms)/\y=.const .nilIface:=by unfold qY at i;split at i;grind;cases i
 obtain⟨ms,f,rfl⟩:=f;have key:∀{u:Value} (h:zc),m5 u=Ta->QExec P (XY t u .nilIface) h (nJ u):=by intro u h hi B d;have m:=QExec.underlying (h:=h) f B d;unfold XY Op.maxDepth;cases u <;> first|(cases hi;done)|(unfold Op.equalIn;rw[Sem.run_bind,m];rfl)
 have l:∀b u (h:zc),m5 u=Ta->QExec P (eqGuard b t x (.const .nilIface) u .nilIface) h ():=by intro b u h hi B d;unfold eqGuard;cases u <;> first|simp|simp
 have c:∀b u,m5 u=Ta->(binOp b t u .nilIface=match b with | .eql=>(do pure (.bool (<-XY t u .nilIface))) | .neq=>(do pure (.bool (!(<-XY t u .nilIface))))|_=>binOp b t u .nilIface):=by intro b u hi;cases u <;> first|(cases hi;done)|(cases b <;> rfl)
 unfold su at H;split at H;rename_i k;split at H;refine⟨_,H.2,λe h=>?_⟩;have hi:=H.1.out e;simp only[execOp,j,k];refine QExec.val ((l _ _ h hi).bind ?_);rw[c _ _ hi];exact(key h hi).bind (QExec.pure _);refine⟨_,H.2,λe h=>?_⟩;have hi:=H.1.out e;simp only[execOp,j,k];refine QExec.val ((l _ _ h hi).bind ?_);rw[c _ _ hi];exact(key h hi).bind (QExec.pure _);exact H.elim;exact H.elim
theorem xD{b:BinOp}{x y:Operand}(c:o.op=.binOp b t x y t'){K:Value->Prop}
  (H:bif xX b y then s5 b (ρ x) (ρ y) g K else bif qY P t y then su b (ρ x) (ρ y) g K else s3 P t (execOp ρ o) b (ρ x) (ρ y) g K):∃v,K v/\(fK g->∀h:zc,QExec P (execOp ρ o) h (.value v)):=by
 cases hb:xX b y with
 |true=>rw[hb]at H;exact ML c H
 |false=>
  rw[hb]at H;cases hn:qY P t y with
  |true=>rw[hn]at H;exact JG c hn H
  |false=>rw[hn]at H;exact KA c H
theorem HS{c:Call}(b:o.op=.call c)(i:c.callee=.builtin .len){K:Value->Prop}
  (H:wx P (execOp ρ o) o.type c.argTypes (c.args.map ρ) g h K):∃v,K v/\(fK g->QExec P (execOp ρ o) h (.value v)):=by
 unfold wx at H;split at H;obtain⟨v,h1,e⟩:=G6 H;refine⟨v,h1,λf=>?_⟩;have:=e f;intro B d;simp only[execOp,b,resolve,i,Sem.run_bind,Sem.run_pure,Result.andThen_ok,invoke,builtin];rw[this B d];rfl;exact nW h (qd H g)
theorem wB{K:Value->Prop}(H:Wc P o ρ g h K):∃v,K v/\(fK g->QExec P (execOp ρ o) h (.value v)):=by
 unfold Wc at H;split at H;rename_i t a b;obtain⟨v,h1,e⟩:=Gv H;refine⟨v,h1,λf=>?_⟩;simp only[execOp,b];exact(e f).val;rename_i t x i b;cases he:lz P t with
 |false=>simp_all
 |true=>rw[he]at H;obtain⟨v,h1,e⟩:=Zi (xu he) H;refine⟨v,h1,λf=>?_⟩;simp only[execOp,b];exact(e f h).val
 rename_i t x i b;cases he:qF P t with
 |false=>rw[he]at H;exact nW h (qd H g)
 |true=>rw[he]at H;obtain⟨v,h1,e⟩:=Wb (Am he) H;refine⟨v,h1,λf=>?_⟩;simp only[execOp,b];exact(e f h).val
 rename_i t x lo hi mx b;cases he:lz P t with
 |false=>simp_all
 |true=>rw[he]at H;obtain⟨v,h1,e⟩:=Qt (xu he) H;refine⟨v,h1,λf=>?_⟩;simp only[execOp,b];exact(e f h).val
 rename_i n t x y t' b;exact nW h (xD b H);rename_i t m k ok b;obtain⟨v,h1,e⟩:=G6 H;refine⟨v,h1,λf=>?_⟩;simp only[execOp,b];exact(e f).val;rename_i x b;unfold rq at H;split at H;rename_i p l;obtain⟨a,h1,e⟩:=H;refine⟨_,e,λf=>?_⟩;have j:=h1.out f;subst j;intro B d;simp only[execOp,b,l];rfl;exact nW h (qd H g);rename_i c b;split at H;simp_all[HS];exact nW h (qd H g);exact nW h (qd H g)
def mt(o:Oper):Bool:=match o.op with
 |.lookup .. => Tc
 |.call c=>match c.callee with
  |.builtin .len=>Tc
  |_=>Ta
 |_=>Ta
theorem N1{p:Addr}(H:zd h p=Td v):p.block<h.size:=by unfold zd at H;grind
theorem Hh{h h':zc}(k:Keep h.size h h'){p:Addr}(H:zd h p=Td v):zd h' p=Td v:=by have:=N1 H;unfold zd at H ⊢;rw[k.get _ this];exact H
theorem Hd{h h':zc}(k:Keep h.size h h'){p:Addr}:∀{vs:List Value} {i:Nat},ze h p i vs->ze h' p i vs
 |[],_,_=>trivial
 |_::_,_,⟨h1,h2⟩=>⟨Hh k h1,Hd k h2⟩
theorem xQ{K:Value->Prop}(w:mt o=Ta)(H:Wc P o ρ g h K):∃v,K v/\(fK g->∀h',Keep h.size h h'->QExec P (execOp ρ o) h' (.value v)):=by
 unfold Wc at H;split at H;rename_i t a e;unfold mK at H;split at H;rename_i q b n u;obtain⟨x,h1,f⟩:=H;refine⟨_,f,λj h' r=>?_⟩;simp only[execOp,e,n];exact(pI u (Hh r (h1.out j))).val;rename_i q l n u;obtain⟨vs,h0,⟨h1,f⟩,_⟩:=Q9 H (j8 l);refine⟨_,f,λj h' r=>?_⟩;simp only[execOp,e,n];exact(oY u h0 (Hd r (h1.out j))).val;exact H.elim;rename_i t x i e;cases he:lz P t with
 |false=>simp_all
 |true=>rw[he]at H;obtain⟨v,h1,f⟩:=Zi (xu he) H;refine⟨v,h1,λj h' _=>?_⟩;simp only[execOp,e];exact(f j h').val
 rename_i t x i e;cases he:qF P t with
 |false=>rw[he]at H;obtain⟨v,h1,f⟩:=qd H g;grind
 |true=>rw[he]at H;obtain⟨v,h1,f⟩:=Wb (Am he) H;refine⟨v,h1,λj h' _=>?_⟩;simp only[execOp,e];exact(f j h').val
 rename_i t x lo hi mx e;cases he:lz P t with
 |false=>simp_all
 |true=>rw[he]at H;obtain⟨v,h1,f⟩:=Qt (xu he) H;refine⟨v,h1,λj h' _=>?_⟩;simp only[execOp,e];exact(f j h').val
 rename_i C t x y t' e;obtain⟨v,h1,f⟩:=xD e H;grind;rename_i t m k ok e;simp[mt,e]at w;rename_i x e;unfold rq at H;split at H;rename_i p z;obtain⟨a,h1,f⟩:=H;refine⟨_,f,λj h' _=>?_⟩;have n:=h1.out j;subst n;intro B d;simp only[execOp,e,z];rfl;obtain⟨v,h1,f⟩:=qd H g;grind;rename_i c e;split at H;rename_i A;simp[mt,e,A]at w;obtain⟨v,h1,f⟩:=qd H g;grind;obtain⟨v,h1,f⟩:=qd H g;grind
def ml(P:Program){α:Type}:Sem α->zc->(α->zc->Prop)->Prop
 |.pure a,h,K=>K a h
 |.program k,h,K=>ml P (k P) h K
 |.mark _ k,h,K=>ml P k h K
 |.new o k,h,K=>ml P (k h.size) (h.push o) K
 |_,_,_=>False
theorem yH{α:Type}{s:Sem α}{K:α->zc->Prop}(H:ml P s h K)(B:World)(d:Nat):∃x h',s.run P (mk B d h)=.ok x (mk B d h')/\K x h':=by
 induction s generalizing h with
 |pure a=>exact⟨a,h,rfl,H⟩
 |program k b=>exact b P H
 |mark m k b=>exact b H
 |new o k b=>obtain⟨x,h',h1,c⟩:=b h.size H;exact⟨x,h',h1,c⟩
 |_=>exact H.elim
def typed(P:Program)(ty:TypeId)(v:Value)(K:Value->Prop):Prop:=match pa P ty with
 |some c=>mo c λb=>v=b/\K b
 |none=>False
theorem wz{K:Value->Prop}(H:typed P ty v K):K v:=by unfold typed at H;split at H;obtain⟨b,h1,c⟩:=sq H;grind;exact H.elim
def zk(P:Program)(f:FuncId):Bool:=match P.funcs[f]? with
 |some fn=>(match fn.body with
  |some _=>Ta
  | none => false) && !(fn.name == "runtime.NumGoroutine")
 |none=>Tc
theorem Wd(h:zk P f=Ta)(args:Array Value)(w:World):(callFunc f args).run P w=.ok (.enter f args) w:=by unfold zk at h;split at h;rename_i fn b;simp only[Uq,WX]at h;obtain⟨h1,c⟩:=h;unfold callFunc;simp only[program,Sem.run_bind,Sem.run,Result.andThen_ok,b];split at h1;simp_all;cases h1;cases h
def kM(P:Program)(v:Value)(args:Array Value)(K:FuncId->Array Value->Prop):Prop:=match v with
 |.func (.func f) first cap=>zk P f=Ta/\K f (first++args++cap)
 |_=>False
theorem Ep{c:Call}{x:Operand}(b:o.op=.call c)(i:c.callee=.value x){K:FuncId->Array Value->Prop}(H:kM P (ρ x) (c.args.map ρ) K):
  ∃f args,K f args/\∀w,(execOp ρ o).run P w=.ok (.enter f args) w:=by
 unfold kM at H;split at H;rename_i f first cap e
 obtain⟨h1,h⟩:=H;refine⟨_,_,h,λw=>?_⟩;simp only[execOp,b,resolve,i,e,XG,Sem.run_bind,Sem.run_pure,Result.andThen_ok,invoke];exact Wd h1 _ w;exact H.elim
def pD:Operand->Bool
 |.func _=>Ta
 |_=>Tc
def SJ(P:Program)(f:FuncId):Bool:=match P.funcs[f]? with
 |some fn=>(match fn.body with
  |some _=>Tc
  |none=>Ta)
 |none=>Tc
def O8(P:Program)(f:FuncId)(args:Array Value)(h:zc)(K:Value->zc->Prop):Prop:=∀B d,∃v b h',(callFunc f args).run P (mk B d h)=.ok (.value v) (mk B b h')/\K v h'
def Fx(P:Program):Operand->Bool
 |.func f=>SJ P f
 |_=>Tc
def zV(P:Program)(v:Value)(args:Array Value)(h:zc)(K:Value->zc->Prop):Prop:=match v with
 |.func (.func f) first cap=>O8 P f (first++args++cap) h K
 |_=>False
theorem TA{c:Call}{x:Operand}(e:o.op=.call c)(k:c.callee=.value x)(H:zV P (ρ x) (c.args.map ρ) h K)(B:World)(d:Nat):
  ∃v b h',(execOp ρ o).run P (mk B d h)=.ok (.value v) (mk B b h')/\K v h':=by
 unfold zV at H;split at H;rename_i f first cap i
 obtain⟨v,b,h',h1,j⟩:=H B d;refine⟨v,b,h',?_,j⟩;simp only[execOp,e,resolve,k,i,XG,Sem.run_bind,Sem.run_pure,Result.andThen_ok,invoke];exact h1;exact H.elim
def Fo(P:Program)(t:TypeId):Bool:=match P.underlying t with
 |some (.map _ _)=>Ta
 |_=>Tc
def t6(P:Program)(o:Oper)(ρ:Operand->Value)(h:zc)(K:Value->zc->Prop):Prop:=
 match o.op with
 |.store t a x=>XRunU P (Uj t (ρ a) (ρ x)) h λh'=>K undef h'
 |.mapUpdate t m k x=>XRunU P (VC t (ρ m) (ρ k) (ρ x)) h λh'=>K undef h'
 |.insert t m k x=>XRunU P (VC t (ρ m) (ρ k) (ρ x)) h λh'=>K undef h'
 |.entryStore t m s x=>XRunU P (Instr.entryStore t (ρ m) (ρ s) (ρ x)) h λh'=>K undef h'
 |.mapEntry t m k=>qt P (Instr.mapEntry t (ρ m) (ρ k)) h λv h'=>typed P o.type v λe=>K e h'
 |.makeSlice t l c=>qt P (UW t (ρ l) (ρ c)) h λv h'=>typed P o.type v λe=>K e h'
 |.convert s t x=>qt P (convert s t (ρ x)) h λv h'=>typed P o.type v λe=>K e h'
 |.typeAssert x t t' ok=>qt P (Instr.typeAssert (ρ x) t t' ok) h λv h'=>typed P o.type v λe=>K e h'
 |.range t x=>bif Fo P t then qt P (XQ t (ρ x)) h λv h'=>∃q:Option Addr,v=.pointer q/\K (.pointer q) h' else ml P (execOp ρ o) h λi h'=>match i with
   |.value v=>K v h'
   |.skip=>K undef h'
   |_=>False
 |.next x s=>bif s then qt P (WE (ρ x) s o.type) h λv h'=>(v=.tuple #[.bool Tc]/\K (.tuple #[.bool Tc]) h')\/∃k u:Int,v=.tuple #[.bool Ta,.int .i64 k,.int .i32 u]/\K (.tuple #[.bool Ta,.int .i64 k,.int .i32 u]) h'
  else qt P (WE (ρ x) s o.type) h λv h'=>(v=.tuple #[.bool Tc]/\K (.tuple #[.bool Tc]) h')\/∃k u:Value,v=.tuple #[.bool Ta,k,u]/\K (.tuple #[.bool Ta,k,u]) h'
 |.entry x=>qt P (XA (ρ x)) h λv h'=>∃k u:Value,v=.tuple #[k,u]/\K (.tuple #[k,u]) h'
 |.call c=>match c.callee with
  |.builtin b=>match Aj b c.argTypes o.type (c.args.map ρ)with
   |some s=>qt P s h λv h'=>typed P o.type v λe=>K e h'
   |none=>False
  |.value x=>bif Fx P x then zV P (ρ x) (c.args.map ρ) h (λv h'=>typed P o.type v λe=>K e h')else bif pD x then(ml P (execOp ρ o) h λi h'=>match i with
   |.enter f args=>XC P f args h' λv h''=>typed P o.type v λe=>K e h''
   |.value v=>K v h'
   |_=>False)else kM P (ρ x) (c.args.map ρ) λf args=>XC P f args h λv h''=>typed P o.type v λe=>K e h''
  |_=>False
 |_=>ml P (execOp ρ o) h λi h'=>match i with
   |.value v=>K v h'
   |.skip=>K undef h'
   |_=>False
def MO:Builtin->Bool
 |.append | .copy | .clear | .delete=>Ta
 |_=>Tc
def MG(P:Program)(s t:TypeId):Bool:=match P.underlying s,P.underlying t with
 |some (.int _),Td (.int _)=>Ta
 |some .string,Td .string=>Ta
 |_,_=>Tc
def md(P:Program)(o:Oper):Bool:=
 match o.op with
 |.load _ _ | .indexAddr _ _ _ | .index _ _ _ | .slice _ _ _ _ _ | .binOp _ _ _ _ _ | .lookup _ _ _ _ | .nilCheck _=>Ta
 |.move _ | .assign _ | .unOp _ _ _ | .build _ _ | .makeFunc _ _ _ | .makeInterface _ _ | .extract _ _ | .field _ _ _ | .fieldAddr _ _ _=>Ta
 |.convert s t _=>MG P s t
 |.call c=>match c.callee with
  |.builtin b=>!MO b
  |_=>Tc
 |_=>Tc
def vQ(P:Program)(o:Oper)(ρ:Operand->Value)(b:Bool)(h:zc)(K:Value->zc->Prop):Prop:=
 match pa P o.type with
 |some c=>∃J:Value->zc->Prop,(b=Ta->t6 P o ρ h J)/\(b=Tc->mo c λv=>J v h)/\(b=Ta->∀v h',J v h'->mo c λe=>v=e)/\Gr c λv=>∀h',J v h'->K v h'
 |none=>False
def stepW(P:Program)(o:Oper)(ρ:Operand->Value)(g:Option Bool)(h:zc)(K:Value->zc->Prop):Prop:=
 bif md P o then Wc P o ρ g h (λv=>K v h)else match g with
  |none=>t6 P o ρ h K
  |some b=>vQ P o ρ b h K
theorem upon_value{next:Act->World->Prop}{Q:Exit->Act->World->Prop}{s:Sem Next}(h:s.run P w=.ok (.value v) w')(b:next (a.put o.dst v) w'): o.upon P a next Q (s.run P w):=by rw[h];exact b
theorem upon_skip{next:Act->World->Prop}{Q:Exit->Act->World->Prop}{s:Sem Next}(h:s.run P w=.ok .skip w')(b:next (a.put o.dst undef) w'): o.upon P a next Q (s.run P w):=by rw[h];exact b
theorem i9{s:Sem Value}(h:s.run P w=.ok v w'):(s >>= λx=>(WW (WY x):Sem Next)).run P w=.ok (.value v) w':=by simp_all
theorem ou{s:Sem Unit}(h:s.run P w=.ok () w'):(s >>= λ_=>(WW Next.skip:Sem Next)).run P w=.ok .skip w':=by simp_all
theorem AF(H:t6 P o ρ h K)(B:World)(d:Nat){next:Act->World->Prop}{Q:Exit->Act->World->Prop}
  (j:∀v i h',K v h'->next (a.put o.dst v) (mk B i h')):o.upon P a next Q ((execOp ρ o).run P (mk B d h)):=by
 unfold t6 at H;split at H;case h_1 t x y ho=>obtain⟨i,h',h1,e⟩:=H B d;exact upon_skip (by simp only[execOp,ho];exact ou h1) (j _ _ _ e)
 case h_2 t m k x ho=>obtain⟨i,h',h1,e⟩:=H B d;exact upon_skip (by simp only[execOp,ho];exact ou h1) (j _ _ _ e)
 case h_3 t m k x ho=>obtain⟨i,h',h1,e⟩:=H B d;exact upon_skip (by simp only[execOp,ho];exact ou h1) (j _ _ _ e)
 case h_4 t m s x ho=>obtain⟨i,h',h1,e⟩:=H B d;exact upon_skip (by simp only[execOp,ho];exact ou h1) (j _ _ _ e)
 case h_5 t m k ho=>obtain⟨v,i,h',h1,e⟩:=H B d;exact upon_value (by simp only[execOp,ho];exact i9 h1) (j _ _ _ (wz e))
 case h_6 t l c ho=>obtain⟨v,i,h',h1,e⟩:=H B d;exact upon_value (by simp only[execOp,ho];exact i9 h1) (j _ _ _ (wz e))
 case h_7 s t x ho=>obtain⟨v,i,h',h1,e⟩:=H B d;exact upon_value (by simp only[execOp,ho];exact i9 h1) (j _ _ _ (wz e))
 case h_8 x t t' ok ho=>obtain⟨v,i,h',h1,e⟩:=H B d;exact upon_value (by simp only[execOp,ho];exact i9 h1) (j _ _ _ (wz e))
 case h_9 t x ho=>
  cases hm:Fo P t with
  |true=>rw[hm]at H;obtain⟨v,i,h',h1,q,rfl,e⟩:=H B d;exact upon_value (by simp only[execOp,ho];exact i9 h1) (j _ _ _ e)
  |false=>rw[hm]at H;obtain⟨p,h',h1,e⟩:=yH H B d;grind [upon_value,upon_skip]
 case h_10 x s ho=>
  cases s with
  |true=>simp only[zK]at H;obtain⟨v,i,h',h1,e⟩:=H B d;refine upon_value (v:=v) (w':=mk B i h') (by simp only[execOp,ho];exact i9 h1) (j _ _ _ ?_);grind
  |false=>simp only[zL]at H;obtain⟨v,i,h',h1,e⟩:=H B d;refine upon_value (v:=v) (w':=mk B i h') (by simp only[execOp,ho];exact i9 h1) (j _ _ _ ?_);grind
 case h_11 x ho=>obtain⟨v,i,h',h1,k,u,rfl,e⟩:=H B d;exact upon_value (by simp only[execOp,ho];exact i9 h1) (j _ _ _ e)
 case h_12 c ho=>
  split at H;rename_i b w;split at H;rename_i s n;obtain⟨v,i,h',h1,e⟩:=H B d;refine upon_value (w':=mk B i h') ?_ (j _ _ _ (wz e));have key:execOp ρ o=s >>= λx=>(WW (WY x):Sem Next):=by
   simp only[execOp,ho,resolve,w];unfold Aj at n;split at n <;> first
    |(simp only[Ug]at n;subst n;rfl)
    |cases n
  simp_all;exact H.elim
  ·rename_i x r;cases hex:Fx P x with
   |true=>rw[hex]at H;obtain⟨v,i,h',h1,e⟩:=TA ho r H B d;exact upon_value h1 (j _ _ _ (wz e))
   |false=>
   rw[hex]at H;simp only[zL]at H;cases hst:pD x with
   |true=>
    rw[hst]at H;obtain⟨p,h',h1,e⟩:=yH H B d;cases p with
    |enter f args=>rw[h1];refine(e B d).mono ?_;grind [wz]
    |value v=>exact upon_value h1 (j _ _ _ e)
    |_=>exact e.elim
   |false=>rw[hst]at H;simp only[zL]at H;obtain⟨f,args,h1,e⟩:=Ep ho r H;rw[e];refine(h1 B d).mono ?_;grind [wz]
  exact H.elim
 case h_13=>obtain⟨p,h',h1,e⟩:=yH H B d;grind [upon_value,upon_skip]
theorem Ka(H:stepW P o ρ g h K)(c:fK g)(B:World)(d:Nat){next:Act->World->Prop}{Q:Exit->Act->World->Prop}
  (e:∀v i h',K v h'->next (a.put o.dst v) (mk B i h')):o.upon P a next Q ((execOp ρ o).run P (mk B d h)):=by
 unfold stepW at H;cases hq:md P o with
 |true=>rw[hq]at H;obtain⟨v,h1,f⟩:=wB H;exact upon_value (f c B d) (e _ _ _ h1)
 |false=>
  rw[hq]at H;cases g with
  |none=>exact AF H B d e
  |some b=>have j:b=Ta:=c;subst j;simp only[zL]at H;unfold vQ at H;grind [AF,Cl]
theorem NF(H:stepW P o ρ (Td Tc) h K):∃v,K v h:=by
 unfold stepW at H;cases hq:md P o with
 |true=>grind [wB]
 |false=>rw[hq]at H;simp only[zL]at H;unfold vQ at H;grind [Cl]
end
section
variable {n:Nat} {e:bK} {a b:Act} {c:qk} {g:Option Bool} {P:Program} {o:Oper} {h:zc} {K:Value -> zc -> Prop} {ms:List Nat}
def Z5(e:bK):qk->Option (Option Bool)
 |[]=>Td Te
 |c=>match qJ e c with
  |some b=>Td (Td b)
  |none=>Te
theorem Z6(i:Sat n e a)(h:Z5 e c=Td g)(j:valid (qh a) c):fK g:=by unfold Z5 at h;split at h;simp only[Ug]at h;subst h;trivial;split at h;rename_i b f;simp only[Ug]at h;subst h;exact(vC i f).2 j;cases h
theorem HM(j:Sat n e a)(h:Z5 e c=Td g)(f:¬valid (qh a) c):g=Td Tc:=by
 unfold Z5 at h;split at h;exact absurd trivial f;split at h;rename_i b i;simp only[Ug]at h;subst h;cases b with
 |false=>rfl
 |true=>exact absurd ((vC j i).1 rfl) f
 cases h
def pO(b:Bool):Value->Value->Value
 |.bool x,.bool y=>.bool (bif b then x else y)
 |x,y=>bif b then x else y
theorem Cx(b:Bool)(x y:Value):pO b x y=if b=Ta then x else y:=by unfold pO;grind
def tz:Option Value->Option Value->Option Value
 |some v,_=>Td v
 |none,w=>w
def t7(e:bK)(c:qk)(x a b:Operand)(K:Value->Prop):Prop:=
 match x with
 |.tmp s=>match look e s with
  |some (cs,.bool t)=>bif kq cs c then(match tz (Jz e c a) (Jz e ((s,Ta)::cs) a),tz (Jz e c b) (Jz e ((s,Tc)::cs) b)with
    |some va,some vb=>K (pO t va vb)
    |_,_=>False)else False
  |_=>False
 |_=>False
theorem vE{f:Act}(i:Sat n e f){x a b:Operand}{K:Value->Prop}(H:t7 e c x a b K):
  ∃v,K v/\(valid (qh f) c->∃t,f.eval x=.bool t/\(if t=Ta then f.eval a else f.eval b)=v):=by
 unfold t7 at H;split at H;rename_i s;split at H;rename_i cs t l;cases hsf:kq cs c with
 |false=>simp_all
 |true=>
  rw[hsf]at H;simp only[zK]at H;split at H;rename_i p q k j;refine⟨_,H,λo=>⟨t,?_,?_⟩⟩;exact(i.all _ (Xe l)).1 (Q8 hsf o);have h:=Q8 hsf o;have m:qh f s=.bool t:=(i.all _ (Xe l)).1 h;rw[Cx];cases t with
  |true=>simp only[if_true];unfold tz at k;split at k;grind [Ug,ql];exact ql i (c:=(s,Ta)::cs) ⟨m,h⟩ k
  |false=>simp only[Vm,if_false];unfold tz at j;split at j;grind [Ug,ql];exact ql i (c:=(s,Tc)::cs) ⟨m,h⟩ j
  exact H.elim
 exact H.elim;exact H.elim
def mc(P:Program)(o:Oper)(e:bK)(c:qk)(h:zc)(K:Value->zc->Prop):Prop:=
 match o.op with
 |.pick x a b=>t7 e c x a b λv=>K v h
 |_=>bif Yy o.op then(bif known e c o.op.operands.toList then(match Z5 e c with
   |some g=>stepW P o (iY e c) g h K
   |none=>False)else False)else False
def wR(P:Program)(n:Nat)(ops:Array Oper)(K:bK->zc->Prop):List Oper->bK->zc->Prop
 |[],e,h=>K (clean e) h
 |o::rest,e,h=>match ww ops e o.guard with
  |some c=>bif wj n c o.dst then mc P o e c h λv h'=>wR P n ops K rest (putO e o.dst c v) h' else False
  |none=>False
theorem EZ(H:mc P o e c h K)(k:Sat n e a)(m:valid (qh a) c)(B:World)(d:Nat)
  {next:Act->World->Prop} {Q:Exit->Act->World->Prop} (l:∀v i h',K v h'->next (a.put o.dst v) (mk B i h')):o.wp P a (mk B d h) next Q:=by
 unfold mc at H;unfold Oper.wp;split at H;rename_i x y z b;obtain⟨v,h1,f⟩:=vE k H;obtain⟨t,j,p⟩:=f m;refine upon_value (w':=mk B d h) (v:=v) ?_ (l _ _ _ h1);simp only[execOp,b,j,asBool,Sem.run_bind,Sem.run_pure,Result.andThen_ok];rw[p];cases hns:Yy o.op with
 |false=>simp_all
 |true=>
  rw[hns]at H;cases hk:known e c o.op.operands.toList with
  |false=>simp_all
  |true=>rw[hk]at H;simp only[zK]at H;grind [tT,Ka,Z6]
theorem FS(H:mc P o e c h K)(f:Sat n e a)(b:¬valid (qh a) c):∃v,K v h:=by
 unfold mc at H;split at H;grind [vE];cases hns:Yy o.op with
 |false=>simp_all
 |true=>
  rw[hns]at H;cases hk:known e c o.op.operands.toList with
  |false=>simp_all
  |true=>rw[hk]at H;simp only[zK]at H;grind [HM,NF]
def wv:List Oper->List Nat
 |[]=>[]
 |o::l=>match o.dst with
  |some d=>d::wv l
  |none=>wv l
def Same(ms:List Nat)(a b:Act):Prop:=∀i,i∉ms->qh b i=qh a i
theorem Same.refl(ms:List Nat)(a:Act):Same ms a a:=λ_ _=>rfl
theorem Same.trans{a b c:Act}(h:Same ms a b)(k:Same ms b c):Same ms a c:=λi hi=>(k i hi).trans (h i hi)
theorem Same.mono{ms c:List Nat}(h:Same ms a b)(f:∀x∈ms,x∈c):Same c a b:=λi hi=>h i λe=>hi (f i e)
theorem Same.put(a:Act)(d:Option Nat)(v:Value)(h:∀i,d=Td i->i∈ms):Same ms a (a.put d v):=by
 intro i hi;cases d with
 |none=>rfl
 |some j=>grind [yh]
theorem pE{P:Program}{n:Nat}{ops:Array Oper}{K:bK->zc->Prop}{Q:Exit->Act->World->Prop}(B:World):
  ∀(l:List Oper) (e:bK) (h:zc) (a:Act) (d:Nat),wR P n ops K l e h->Sat n e a->(∀k f m h',Sat n k f->Same (wv l) a f->K k h'->Q .normal f (mk B m h'))->wpList P ops Q l a (mk B d h)
 |[],e,h,a,d,H,hs,hQ=>hQ _ _ _ _ hs.clean (Same.refl _ _) H
 |o::rest,e,h,a,d,H,hs,hQ=>by
  unfold wR at H;split at H;rename_i c D;cases hd:wj n c o.dst with
  |false=>simp_all
  |true=>
   rw[hd]at H;simp only[zK]at H;have q:=Zh hs D;have j:∀i,o.dst=Td i->i∈wv (o::rest):=λi hi=>by simp[wv,hi]
   have b:∀x∈wv rest,x∈wv (o::rest):=λx r=>by unfold wv;grind
   have w:∀v u m h',(valid (qh a) c->u=v)->(¬valid (qh a) c->u=undef)->wR P n ops K rest (putO e o.dst c v) h'->wpList P ops Q rest (a.put o.dst u) (mk B m h'):=λv u m h' h1 y C=>
    pE B rest _ _ _ _ C (hs.putO hd h1 y) λk f p h'' z E A=>hQ k f p h'' z ((Same.put a o.dst u j).trans (E.mono b)) A
   unfold wpList;by_cases t:valid (qh a) c;rw[zA (q.2 t)];grind [EZ];rw[zv (λr=>t (q.1 r))];grind [FS]
  exact H.elim
def vH(P:Program)(o:Oper)(ρ:Operand->Value)(g:Option Bool)(h:zc)(K:Value->Prop):Prop:=
 match o.op with
 |.call c=>match c.callee with
  |.value x=>bif pD x then(match Qs P (execOp ρ o)with
    |some (.enter f args)=>match pa P o.type with
     |some b=>mo b λv=>req g (XC P f args h λe h'=>e=v/\h'=h)/\K v
     |none=>False
    |_=>False)else(match pa P o.type with
     |some b=>mo b λv=>req g (kM P (ρ x) (c.args.map ρ) λf args=>XC P f args h λe h'=>e=v/\h'=h)/\K v
     |none=>False)
  |_=>False
 |_=>False
theorem Km{ρ:Operand->Value}{K:Value->Prop}(H:vH P o ρ g h K):
  ∃v,K v/\(fK g->∃f args,(∀w,(execOp ρ o).run P w=.ok (.enter f args) w)/\XC P f args h λj h'=>j=v/\h'=h):=by
 unfold vH at H;split at H;rename_i c i;split at H;rename_i x k;cases hst:pD x with
 |true=>rw[hst]at H;simp only[zK]at H;split at H;rename_i f args l;split at H;obtain⟨v,h1,b⟩:=sq H;exact⟨v,b,λe=>⟨f,args,λw=>Al l w,h1.out e⟩⟩;exact H.elim;exact H.elim
 |false=>rw[hst]at H;simp only[zL]at H;split at H;obtain⟨v,h1,b⟩:=sq H;refine⟨v,b,λe=>?_⟩;obtain⟨f,args,m,n⟩:=Ep i k (h1.out e);grind;exact H.elim
 exact H.elim;exact H.elim
def qZ(o:Oper):Bool:=match o.op with
 |.call c=>match c.callee with
  |.builtin _=>Tc
  |_=>Ta
 |_=>Tc
def yA(P:Program)(o:Oper)(e:bK)(c:qk)(h:zc)(f:Bool)(K:Value->Prop):Prop:=
 match o.op with
 |.pick x a b=>t7 e c x a b K
 |_=>bif Yy o.op then(bif known e c o.op.operands.toList then(match Z5 e c with
   |some g=>bif qZ o then(bif f then vH P o (iY e c) g h K else False)else Wc P o (iY e c) g h K
   |none=>False)else False)else False
def wQ(P:Program)(n:Nat)(ops:Array Oper)(h:zc)(b:Bool)(K:bK->Prop):List Oper->bK->Prop
 |[],e=>K e
 |o::rest,e=>match ww ops e o.guard with
  |some c=>bif wj n c o.dst then yA P o e c h b λv=>wQ P n ops h b K rest (putO e o.dst c v)else False
  |none=>False
def YQ(P:Program)(o:Oper)(a:Act)(B:World)(h:zc)(b:Bool)(v:Value):Prop:=
 (∀d,(execOp a.eval o).run P (mk B d h)=.ok (.value v) (mk B d h)) \/
 (b=Ta/\∃f args,(∀d,(execOp a.eval o).run P (mk B d h)=.ok (.enter f args) (mk B d h))/\XC P f args h λc h'=>c=v/\h'=h)
theorem Nc{b:Bool}{K:Value->Prop}(H:yA P o e c h b K)(k:Sat n e a)(B:World):
  ∃v,K v/\(valid (qh a) c->YQ P o a B h b v):=by
 unfold yA at H;split at H;rename_i x y z q;obtain⟨v,h1,j⟩:=vE k H;refine⟨v,h1,λi=>?_⟩;obtain⟨t,m,l⟩:=j i;refine .inl λd=>?_;simp only[execOp,q,m,asBool,Sem.run_bind,Sem.run_pure,Result.andThen_ok];rw[l];cases hns:Yy o.op with
 |false=>simp_all
 |true=>
  rw[hns]at H;cases hk:known e c o.op.operands.toList with
  |false=>simp_all
  |true=>
   rw[hk]at H;simp only[zK]at H;split at H;rename_i g p;cases hc:qZ o with
   |false=>rw[hc]at H;obtain⟨v,h1,j⟩:=wB H;refine⟨v,h1,λi=>.inl λd=>?_⟩;rw[tT k i hns hk];exact j (Z6 k p i) B d
   |true=>
    rw[hc]at H;cases b with
    |false=>exact H.elim
    |true=>simp only[zK]at H;obtain⟨v,h1,j⟩:=Km H;refine⟨v,h1,λi=>?_⟩;obtain⟨f,args,m,l⟩:=j (Z6 k p i);refine .inr ⟨rfl,f,args,λd=>?_,l⟩;grind [tT]
   exact H.elim
theorem Aw{P:Program}{n:Nat}{ops:Array Oper}{h:zc}{j:Bool}{K:bK->Prop}{Q:Act->Prop}(B:World):
  ∀(l:List Oper) (e:bK) (a:Act),wQ P n ops h j K l e->Sat n e a->(∀q k,Sat n q k->Same (wv l) a k->K q->Q k)->wpQuiet P ops (λw=>∃d,w=mk B d h) Q l a
 |[],e,a,H,hs,hQ=>hQ _ _ hs (Same.refl _ _) H
 |o::rest,e,a,H,hs,hQ=>by
  unfold wQ at H;split at H;rename_i c F;cases hd:wj n c o.dst with
  |false=>simp_all
  |true=>
   rw[hd]at H;simp only[zK]at H;have D:=Zh hs F;have m:∀i,o.dst=Td i->i∈wv (o::rest):=λi hi=>by simp[wv,hi]
   have b:∀x∈wv rest,x∈wv (o::rest):=λx I=>by unfold wv;grind
   obtain⟨v,A,E⟩:=Nc H hs B;have p:∀u,(valid (qh a) c->u=v)->(¬valid (qh a) c->u=undef)->wpQuiet P ops (λw=>∃d,w=mk B d h) Q rest (a.put o.dst u):=λu h1 r=>
    Aw B rest _ _ A (hs.putO hd h1 r) λq k z G C=>hQ q k z ((Same.put a o.dst u m).trans (G.mono b)) C
   unfold wpQuiet;by_cases y:valid (qh a) c;rw[zA (D.2 y)];refine⟨v,?_,p v (λ_=>rfl) (λt=>absurd y t)⟩;rintro w ⟨d,rfl⟩;unfold Oper.quietAt;rcases E y with h1|⟨_,f,args,h1,r⟩;rw[h1 d];exact⟨rfl,rfl⟩;rw[h1 d];refine⟨rfl,(r B d).mono ?_⟩;simp;simp_all
  exact H.elim
end
section
variable {i:Nat} {a b:Act} {o:Oper} {h h':zc} {ρ:Operand -> Value} {P:Program} {g:Option Bool} {ops:Array Oper} {listed:Array Bool}
def J0:List Nat->Nat->Bool
 |[],_=>Tc
 |j::l,i=>bif Nat.beq i j then Ta else J0 l i
theorem Ya{l:List Nat}(h:J0 l i=Tc):i∉l:=by
 induction l with
 |nil=>simp
 |cons j l c=>simp only[J0]at h;by_cases b:Nat.beq i j=Ta;grind;simp_all
def tmpsOf:List Operand->List Nat
 |[]=>[]
 |.tmp t::l=>t::tmpsOf l
 |_::l=>tmpsOf l
def m8(ops:Array Oper)(k:Nat)(S:List Nat):Nat->Bool
 |0=>Ta
 |p+1=>bif (match j7 ops p with
  |some t=>bif J0 S t then Region.waitsFor .any ops k p else Ta
  |none=>Ta)then m8 ops k S p else Tc
theorem Qu{ops:Array Oper}{k:Nat}{S:List Nat}:∀{m:Nat},m8 ops k S m=Ta->∀p t,p<m->j7 ops p=Td t->t∈S->Region.waitsFor .any ops k p=Ta
 |0,_,p,t,hp,_,_=>by omega
 |m+1,h,p,t,hp,hd,ht=>by
  simp only[m8]at h;cases hb:(match j7 ops m with
   |some t=>bif J0 S t then Region.waitsFor .any ops k m else Ta
   |none=>Ta)with
  |false=>simp_all
  |true=>rw[hb]at h;rcases Va p m with h1|h1;exact Qu h p t h1 hd ht;grind [Ya]
def Yb(ops:Array Oper):Nat->Bool
 |0=>Ta
 |j+1=>bif (match ops[j]? with
  |some o=>o.after.toList.all λe=>!(Region.binds .any e)||Nat.blt e.on j
  |none=>Ta)then Yb ops j else Tc
theorem Zf{ops:Array Oper}:∀{n:Nat},Yb ops n=Ta->∀j o,j<n->ops[j]?=Td o->∀e∈o.after,Region.binds .any e=Ta->e.on<j
 |0,_,j,_,hj,_,_,_,_=>by omega
 |n+1,h,j,o,hj,ho,e,he,hb=>by
  simp only[Yb]at h;cases hc:(match ops[n]? with
   |some o=>o.after.toList.all λe=>!(Region.binds .any e)||Nat.blt e.on n
   |none=>Ta)with
  |false=>simp_all
  |true=>
   rw[hc]at h;rcases Va j n with h1|h1;exact Zf h j o h1 ho e he hb;have:j=n:=by omega
   subst this;rw[ho]at hc;have:=UI.1 hc e (by simpa using he);simp_all
def pp(ops:Array Oper)(d:Nat):Nat->Bool
 |0=>Tc
 |p+1=>bif (match j7 ops p with
  |some t=>Nat.beq t d
  |none=>Tc)then Ta else pp ops d p
def n3(ops:Array Oper):Nat->Bool
 |0=>Ta
 |p+1=>bif (match j7 ops p with
  |some t=>!(pp ops t p)
  |none=>Ta)then n3 ops p else Tc
theorem uH{ops:Array Oper}{d:Nat}:∀{m:Nat},pp ops d m=Tc->∀p,p<m->j7 ops p≠Td d
 |0,_,p,hp=>by omega
 |m+1,h,p,hp=>by
  simp only[pp]at h;cases hb:(match j7 ops m with
   |some t=>Nat.beq t d
   |none=>Tc)with
  |true=>simp_all
  |false=>
   rw[hb]at h;rcases Va p m with h1|h1;exact uH h p h1;have:p=m:=by omega
   subst this;intro e;simp_all
theorem Yz{ops:Array Oper}:∀{m:Nat},n3 ops m=Ta->∀p q t,p<m->q<m->j7 ops p=Td t->j7 ops q=Td t->p=q
 |0,_,p,q,t,hp,_,_,_=>by omega
 |m+1,h,p,q,t,hp,hq,e1,e2=>by
  simp only[n3]at h;cases hb:(match j7 ops m with
   |some t=>!(pp ops t m)
   |none=>Ta)with
  |false=>simp_all
  |true=>rw[hb]at h;rcases Va p m with h1|h1 <;> rcases Va q m with h2|h2;exact Yz h p q t h1 h2 e1 e2;grind [WX,uH];grind [WX,uH];omega
def ns(o:Oper):Option Bool:=match o.op with
 |.fieldAddr _ _ _=>Td Ta
 |.indexAddr _ _ _=>Td Ta
 |.move _=>Td Ta
 |.assign _=>match o.after.toList with
  |[]=>Td Ta
  |_=>Te
 |.nilCheck _=>Td Ta
 |.slice _ _ _ _ _=>Td Ta
 |.binOp _ _ _ _ _=>Td Ta
 |.load _ _=>Td Tc
 |_=>Te
def pW(o:Oper):Bool:=match ns o with
 |some _=>Ta
 |none=>Tc
def yq(o:Oper):Bool:=match ns o with
 |some b=>!b
 |none=>Tc
theorem Xf{a b:Act}:∀{l:List Operand},(∀t∈tmpsOf l,qh a t=qh b t)->∀x∈l,a.eval x=b.eval x
 |[],_,x,c=>by cases c
 |y::l,h,x,c=>by
  rcases Up.1 c with rfl|c;cases x with
  |tmp t=>exact h t (by simp[tmpsOf])
  |const v=>rfl
  |global g=>rfl
  |func f=>rfl
  refine Xf (l:=l) (λt e=>h t ?_) x c;cases y <;> simp[tmpsOf,e]
theorem xU(c:Yy o.op=Ta)(h:∀t∈tmpsOf o.op.operands.toList,qh a t=qh b t):execOp a.eval o=execOp b.eval o:= execOp_congr o (λcs b e=>by rw[e]at c;cases c) λx f=>Xf h x (by simpa using f)
theorem RA{p:Addr}(e:h'[p.block]?=h[p.block]?)(i:Nat):zd h' (p.add i)=zd h (p.add i):=by
 have b:(p.add i).block=p.block:=by unfold Ue;split <;> rfl
 unfold zd;rw[b,e]
theorem AZ{h h':zc}{p:Addr}(e:h'[p.block]?=h[p.block]?):∀{vs:List Value} {i:Nat},ze h p i vs->ze h' p i vs
 |[],_,_=>trivial
 |v::vs,i,⟨h1,h2⟩=>⟨(RA e i).trans h1,AZ e h2⟩
def LdOK(o:Oper)(ρ:Operand->Value)(h h':zc):Prop:=yq o=Tc\/Keep h.size h h'\/∀t a p,o.op=.load t a->ρ a=.pointer (Td p)->h'[p.block]?=h[p.block]?
theorem LdOK.congr{ρ c:Operand->Value}(e:∀x∈o.op.operands.toList,c x=ρ x)(H:LdOK o ρ h h'):LdOK o c h h':=by rcases H with H|H|H;exact .inl H;exact .inr (.inl H);refine .inr (.inr λt a p b f=>H t a p b ?_);rw[<-e a (by rw[b];simp[Op.operands])];exact f
theorem OW{t:TypeId}{x:Value}{K:Value->Prop}(H:mK P h t x g K):∃v p,x=.pointer (Td p)/\K v/\(fK g->QExec P (WQ t x) h v/\∀h',h'[p.block]?=h[p.block]?->QExec P (WQ t x) h' v):=by unfold mK at H;split at H;rename_i q a b;obtain⟨x,h1,f⟩:=H;refine⟨_,q,rfl,f,λc=>?_⟩;have h1:zd h q=Td _:=h1.out c;refine⟨pI b h1,λh' e=>pI b ?_⟩;unfold zd at h1 ⊢;rw[e];exact h1;rename_i q l b;obtain⟨vs,h0,⟨h1,f⟩,_⟩:=Q9 H (j8 l);exact⟨_,q,rfl,f,λc=>⟨oY b h0 (h1.out c),λh' e=>oY b h0 (AZ e (h1.out c))⟩⟩;exact H.elim
theorem Ll(n:pW o=Ta){K:Value->Prop}(H:Wc P o ρ g h K):
  ∃v,K v/\(fK g->∀h',LdOK o ρ h h'->QExec P (execOp ρ o) h' (.value v)):=by
 cases ho:o.op with
 |load t x=>
  have f:mt o=Ta:=by unfold mt;rw[ho]
  by_cases b:fK g;obtain⟨j,k,k2⟩:=xQ f H;unfold Wc at H;rw[ho]at H;simp only at H;obtain⟨v,p,l,h1,c⟩:=OW H;have r:j=v:=by
   have a1:=k2 b h (Keep.refl _ _) default 0;have a2:QExec P (execOp ρ o) h (.value v):=by simp only[execOp,ho];exact(c b).1.val
   have a2:=a2 default 0;rw[a1]at a2;injection a2 with a2 _;injection a2
  subst r;refine⟨j,k,λ_ h' e=>?_⟩;rcases e with e|e|e;unfold yq ns at e;rw[ho]at e;cases e;exact k2 b h' e;have:=(c b).2 h' (e t x p ho l);simp only[execOp,ho];exact this.val;obtain⟨j,k,_⟩:=xQ f H;exact⟨j,k,λm=>absurd m b⟩
 |indexAddr t x i=>
  unfold Wc at H;rw[ho]at H;simp only at H;cases he:lz P t with
  |false=>rw[he]at H;exact H.elim
  |true=>rw[he]at H;obtain⟨v,h1,c⟩:=Zi (xu he) H;refine⟨v,h1,λb h' _=>?_⟩;simp only[execOp,ho];exact(c b h').val
 |slice t x lo hi mx=>
  unfold Wc at H;rw[ho]at H;simp only at H;cases he:lz P t with
  |false=>rw[he]at H;exact H.elim
  |true=>rw[he]at H;obtain⟨v,h1,c⟩:=Qt (xu he) H;refine⟨v,h1,λb h' _=>?_⟩;simp only[execOp,ho];exact(c b h').val
 |binOp u t x y t'=>unfold Wc at H;rw[ho]at H;obtain⟨v,h1,c⟩:=xD ho H;exact⟨v,h1,λb h' _=>c b h'⟩
 |nilCheck x=>unfold Wc at H;rw[ho]at H;simp only at H;unfold rq at H;split at H;rename_i p l;obtain⟨a,h1,c⟩:=H;refine⟨_,c,λb h' _ B d=>?_⟩;have q:=h1.out b;subst q;simp only[execOp,ho,l];rfl;obtain⟨v,h1,c⟩:=qd H g;exact⟨v,h1,λb h' _=>c b h'⟩
 |_=>first|(unfold pW ns at n;rw[ho]at n;cases n;done)|(unfold Wc at H;rw[ho]at H;obtain⟨v,h1,c⟩:=qd H g;exact⟨v,h1,λb h' _=>c b h'⟩)
theorem jm{d:Option Nat}{u:Value}{s:Nat}(h:d≠Td s):qh (a.put d u) s=qh a s:=by
 cases d with
 |none=>rfl
 |some t=>grind [yh]
theorem OG{next:Act->World->Prop}{Q:Exit->Act->World->Prop}{r:Result Next}(j:b.defers=[])
  (H:o.upon P b (λc w=>c.defers=[]/\∀v,c=b.put o.dst v->next (a.put o.dst v) w) (λ_ _ _=>False) r):o.upon P a next Q r:=by
 have lo:¬LetsOut (λ(_:Exit) (_:Act) (_:World)=>False):=λh=>by obtain⟨_,_,h⟩:=h;exact h
 cases r with
 |ok x w=>
  cases x with
  |value v=>exact H.2 v rfl
  |skip=>exact H.2 undef rfl
  |defer d=>have:=H.1;rw[xr]at this;cases this
  |enter f args=>refine Calls.mono (show Calls P f args w _ from H) λe w' i=>?_;grind
  |row row args=>exact Rows.mono (show Rows P row args w _ from H) λv w' i=>i.2 v rfl
  |_=>exact H
 |halt x w=>cases x <;> first|exact H.elim|exact H
theorem Xg{i p:Nat}(hi:i∈Region.ready .any ops listed)(f:Region.waitsFor .any ops i p=Ta):listed.getD p Tc=Ta:=by obtain⟨m,h,e,k,l,c⟩:=Region.waitsFor_spec f;obtain⟨_,o,j,b⟩:=mem_ready.1 hi;grind
theorem Qv{n:Nat}(inv:HeadInv .any ops n listed){i p:Nat}(hi:listed.getD i Tc=Ta)(f:Region.waitsFor .any ops i p=Ta):listed.getD p Tc=Ta:=by obtain⟨k,c,e,h,j,b⟩:=Region.waitsFor_spec f;rw[<-b];exact inv.closed i k c hi e h j
theorem Kc{p:Nat->Bool}{N:Nat}(h:∃k,k<N/\p k=Tc):∃k,k<N/\p k=Tc/\∀j,j<k->p j=Ta:=by
 obtain⟨k,h1,c⟩:=h;induction k using Nat.strongRecOn with
 |_ k b=>grind
theorem CQ{o:Oper}:∀{l:List Oper},o∈l->∀i,o.dst=Td i->i∈wv l
 |[],h,_,_=>by cases h
 |x::l,h,i,hi=>by unfold wv;rcases Up.1 h with rfl|h;simp_all;have:=CQ h i hi;grind
theorem yc{k:Nat}(h:ops[k]?=Td o):j7 ops k=o.dst:=by simp[j7,h]
def iM(j:Nat):List Nat->List Nat
 |[]=>[]
 |k::l=>bif Nat.beq k j then iM j l else k::iM j l
theorem pX{j x:Nat}:∀{l:List Nat},x∈iM j l↔x∈l/\x≠j
 |[]=>by simp[iM]
 |k::l=>by
  simp only[iM];cases hb:Nat.beq k j with
  |true=>have:=UC hb;subst this;rw[zK,pX,Up];simp_all
  |false=>
   have b:k≠j:=λe=>by simp_all
   rw[zL,Up,Up,pX];grind
theorem u6{j:Nat}:∀{l:List Nat},l.Nodup->(iM j l).Nodup
 |[],h=>h
 |k::l,h=>by
  simp only[iM];rw[Vf]at h;cases Nat.beq k j with
  |true=>exact u6 h.2
  |false=>rw[zL,Vf];exact⟨λb=>h.1 (pX.1 b).1,u6 h.2⟩
theorem Bq{j:Nat}:∀{l:List Nat},(iM j l).length<=l.length
 |[]=>Uf _
 |k::l=>by simp only[iM];have:=Bq (j:=j) (l:=l);grind
theorem Dc{j:Nat}:∀{l:List Nat},j∈l->(iM j l).length+1<=l.length
 |[],h=>by cases h
 |k::l,h=>by
  simp only[iM];cases hb:Nat.beq k j with
  |true=>simp[Bq,Uz]
  |false=>
   have b:k≠j:=λe=>by simp_all
   have:=Dc (j:=j) (l:=l) (by grind);simp_all
def u9(p:Nat->Prop):List Nat->Prop
 |[]=>True
 |[j]=>p j
 |j::k::l=>p j/\u9 p (k::l)
theorem GH{p:Nat->Prop}:∀{l:List Nat},u9 p l->∀j∈l,p j
 |[],_,j,h=>by cases h
 |[k],H,j,h=>by simp at h;subst h;exact H
 |k::k2::l,H,j,h=>by rcases Up.1 h with rfl|h;exact H.1;exact GH H.2 j h
def pM(p:Nat->Bool):List Nat->List Nat
 |[]=>[]
 |j::l=>bif p j then j::pM p l else pM p l
theorem uI{p:Nat->Bool}{j:Nat}:∀{l:List Nat},j∈l->p j=Ta->j∈pM p l
 |[],h,_=>by cases h
 |k::l,h,hp=>by
  simp only[pM];rcases Up.1 h with rfl|h;simp_all;cases p k with
  |true=>exact UG _ (uI h hp)
  |false=>exact uI h hp
end
section
variable {l:List Nat} {i m n:Nat} {ops:Array Oper} {P:Program} {o:Oper} {h h0:zc} {e:bK} {a b:Act}
def Ax(o:Oper):Bool:=match o.op with
 |.extract _ _=>Ta
 |_=>Tc
variable {gq : Bool}
def nL(o:Oper):Bool:=bif pW o then Ta else Ax o
def kU(ops:Array Oper):Nat->List Nat->List Nat
 |0,S=>S
 |k+1,S=>kU ops k (bif S.any λp=>Region.waitsFor .any ops p k then k::S else S)
theorem xO{ops:Array Oper}{listed:Array Bool}(b:∀i p,listed.getD i Tc=Ta->Region.waitsFor .any ops i p=Ta->listed.getD p Tc=Ta):∀{m:Nat} {S:List Nat},(∀j∈S,listed.getD j Tc=Ta)->∀k∈kU ops m S,listed.getD k Tc=Ta
 |0,S,h,k,hk=>h k hk
 |m+1,S,h,k,hk=>by unfold kU at hk;refine xO b (m:=m) (λj c=>?_) k hk;grind
theorem Y0(h:J0 l i=Ta):i∈l:=by
 induction l with
 |nil=>cases h
 |cons j l b=>simp only[J0]at h;grind [UC,UF,UG]
theorem rU(h:i∈l):J0 l i=Ta:=by grind [Ya]
def N7(ops:Array Oper)(k:Nat):Bool:=match ops[k]? with
 |some o=>!(nL o)
 |none=>Tc
def Tx(ops:Array Oper)(i:Nat):Bool:=(kU ops ops.size [i]).any (N7 ops)
def Pd(o:Oper):Bool:=match o.guard with
 |none=>Tc
 |some _=>Ta
def Gn(ops:Array Oper)(t:Nat):Nat->Bool
 |0=>Tc
 |k+1=>bif (match ops[k]? with
  |some o=>J0 (tmpsOf o.op.operands.toList) t
  |none=>Tc)then Ta else Gn ops t k
def Kl(ops:Array Oper)(i:Nat)(o:Oper):Bool:=match o.op with
 |.assign _=>(match o.dst with
  |some t=>Gn ops t i
  |none=>Tc)
 |_=>Tc
def We(gq:Bool)(ops:Array Oper)(i:Nat):Bool:=match ops[i]? with
 |some o=>bif (bif Pd o then !gq else Tc)then Ta else bif nL o then(bif yq o then Tx ops i else Kl ops i o)else Ta
 |none=>Ta
def iK(gq:Bool)(ops:Array Oper):List Nat:=(UO ops.size).filter (We gq ops)
theorem oU{j:Nat}:j∈iK gq ops↔j<ops.size/\We gq ops j=Ta:=by unfold iK;simp
theorem Kh(ops:Array Oper):(iK gq ops).Nodup:=List.nodup_range.filter _
def my(gq:Bool)(ops:Array Oper)(done S:List Nat)(k:Nat):Nat->Bool
 |0=>Ta
 |p+1=>bif Region.waitsFor .any ops k p then(bif (bif We gq ops p then J0 done p else J0 S p)then my gq ops done S k p else Tc)else my gq ops done S k p
theorem sW{ops:Array Oper}{done S:List Nat}{k:Nat}:∀{m:Nat},my gq ops done S k m=Ta↔∀p,p<m->Region.waitsFor .any ops k p=Ta->(We gq ops p=Ta->p∈done)/\(We gq ops p=Tc->p∈S)
 |0=>⟨λ_ p c=>by omega,λ_=>rfl⟩
 |m+1=>by
  unfold my;have e:=sW (ops:=ops) (done:=done) (S:=S) (k:=k) (m:=m);constructor;intro h p c b;rcases Va p m with h1|h1;grind;have:p=m:=by omega
  subst this;rw[b,zK]at h;cases hi:We gq ops p with
  |true=>simp_all[Y0]
  |false=>simp_all[Y0]
  intro h;have h1:=e.2 λp c b=>h p (by omega) b;cases b:Region.waitsFor .any ops k m with
  |false=>exact h1
  |true=>simp_all[rU]
def sX(gq:Bool)(ops:Array Oper)(done S:List Nat)(k:Nat):List Nat:=bif We gq ops k then S else(bif my gq ops done S k k then k::S else S)
def Yc(gq:Bool)(ops:Array Oper)(done:List Nat):Nat->List Nat
 |0=>[]
 |k+1=>sX gq ops done (Yc gq ops done k) k
theorem wl{ops:Array Oper}{done:List Nat}:∀{m i:Nat},i∈Yc gq ops done m->i<m/\We gq ops i=Tc/\my gq ops done (Yc gq ops done i) i i=Ta
 |0,i,h=>by cases h
 |m+1,i,h=>by
  unfold Yc sX at h;cases hi:We gq ops m with
  |true=>rw[hi,zK]at h;have:=wl h;grind
  |false=>
   rw[hi,zL]at h;cases ho:my gq ops done (Yc gq ops done m) m m with
   |false=>rw[ho,zL]at h;have:=wl h;grind
   |true=>rw[ho,zK]at h;rcases Up.1 h with rfl|h;simp_all;have:=wl h;grind
theorem uk{ops:Array Oper}{done:List Nat}{m:Nat}:∀{m' i:Nat},m<=m'->i∈Yc gq ops done m->i∈Yc gq ops done m'
 |0,i,h,hi=>by simp_all
 |m'+1,i,h,hi=>by rcases Nat.eq_or_lt_of_le h with e|e;simp_all;have:=uk (m':=m') (by omega) hi;unfold Yc sX;grind
theorem rR{done:List Nat}(b:i<m)(h1:We gq ops i=Tc)(c:my gq ops done (Yc gq ops done i) i i=Ta):i∈Yc gq ops done m:=by refine uk (m:=i+1) b ?_;unfold Yc sX;simp_all
theorem sG{done:List Nat}{m i p:Nat}(h:i∈Yc gq ops done m)(c:p<i)(e:Region.waitsFor .any ops i p=Ta):(We gq ops p=Ta->p∈done)/\(We gq ops p=Tc->p∈Yc gq ops done m):=by obtain⟨h1,j,f⟩:=wl h;obtain⟨a,b⟩:=sW.1 f p c e;exact⟨a,λhi=>uk (by omega) (b hi)⟩
def Yd(b c:List Nat)(n:Nat):List Nat:=(UO n).filter λi=>bif J0 c i then !(J0 b i)else Tc
theorem Gs{c b:List Nat}:i∈Yd c b n↔i<n/\i∈b/\i∉c:=by
 unfold Yd;rw[U0,UT];constructor;rintro⟨h1,e⟩;cases hn:J0 b i with
 |false=>simp_all
 |true=>rw[hn,zK]at e;grind [Y0,rU]
 rintro⟨h1,e,f⟩;refine⟨h1,?_⟩;rw[rU e,zK];grind [Y0]
theorem Dv(b c:List Nat)(n:Nat):(Yd b c n).Pairwise (· < ·):=List.pairwise_lt_range.filter _
def wI(P:Program)(n:Nat)(h:zc)(ld:Bool)(ops:Array Oper)(K:bK->Prop):List Nat->bK->Prop
 |[],e=>K e
 |i::l,e=>match ops[i]? with
  |some o=>bif nL o then(bif (bif ld then Ta else !(yq o))then(bif Yy o.op then(match ww ops e o.guard with
   |some c=>bif wj n c o.dst then(bif known e c o.op.operands.toList then(match Z5 e c with
    |some g=>Wc P o (iY e c) g h λv=>wI P n h ld ops K l (putO e o.dst c v)
    |none=>False)else False)else False
   |none=>False)else False)else False)else False
  |none=>False
def qz(ops:Array Oper)(f:Nat->Value):List Nat->Act->Act
 |[],a=>a
 |i::l,a=>qz ops f l (a.put (j7 ops i) (f i))
theorem Ki(b:nL o=Ta){ρ:Operand->Value}{g:Option Bool}{K:Value->Prop}(H:Wc P o ρ g h K):
  ∃v,K v/\(fK g->∀h',LdOK o ρ h h'->QExec P (execOp ρ o) h' (.value v)):=by
 unfold nL at b;cases hb:pW o with
 |true=>exact Ll hb H
 |false=>rw[hb,zL]at b;unfold Ax at b;split at b;rename_i x i c;unfold Wc at H;rw[c]at H;obtain⟨v,h1,e⟩:=qd H g;grind;cases b
theorem C8{ops:Array Oper}{f:Nat->Value}:∀{l:List Nat} {a:Act},(qz ops f l a).tmps.size=a.tmps.size/\(qz ops f l a).defers=a.defers
 |[],_=>⟨rfl,rfl⟩
 |i::l,a=>by unfold qz;have:=C8 (ops:=ops) (f:=f) (l:=l) (a:=a.put (j7 ops i) (f i));rw[this.1,this.2];exact⟨size_put _ _ _,xr _ _ _⟩
theorem yy{ops:Array Oper}{f:Nat->Value}{s:Nat}:∀{l:List Nat} {a:Act},(∀i∈l,j7 ops i≠Td s)->qh (qz ops f l a) s=qh a s
 |[],_,_=>rfl
 |i::l,a,h=>by unfold qz;rw[yy λj b=>h j (UG _ b)];exact jm (h i UF)
theorem yL{ops:Array Oper}{f:Nat->Value}:∀{l m:List Nat} {a:Act},qz ops f (l++m) a=qz ops f m (qz ops f l a)
 |[],_,_=>rfl
 |i::l,m,a=>by rw[U8];show qz ops f (l++m) _=qz ops f m (qz ops f l _);exact yL
theorem wC{P:Program}{n:Nat}{h:zc}{ld:Bool}{ops:Array Oper}{K:bK->Prop}(B:Nat->Value):∀{l:List Nat} {e:bK} {a:Act},l.Nodup->wI P n h ld ops K l e->Sat n e a->∃(f:Nat->Value) (y:bK),K y/\Sat n y (qz ops f l a)/\(∀i,i∉l->f i=B i) /\
  ∀b i C,l=b++i::C->∃o,ops[i]?=Td o/\(ld=Tc->yq o=Tc)/\Yy o.op=Ta/\(∀t,o.dst=Td t->t<n) /\ (UX o (yielded ops (qz ops f b a).tmps)=Ta->∀h',LdOK o (qz ops f b a).eval h h'->QExec P (execOp (qz ops f b a).eval o) h' (.value (f i)))/\(UX o (yielded ops (qz ops f b a).tmps)≠Ta->f i=undef)
 |[],e,a,_,H,hs=>⟨B,e,H,hs,λ_ _=>rfl,λb i C h=>by simp at h⟩
 |i::l,e,a,hnd,H,hs=>by
  unfold wI at H;cases ho:ops[i]? with
  |none=>simp_all
  |some o=>
   rw[ho]at H;simp only at H;cases hq:nL o with
   |false=>simp_all
   |true=>
    rw[hq,zK]at H;cases hld:(bif ld then Ta else !(yq o))with
    |false=>simp_all
    |true=>
     rw[hld,zK]at H;cases hns:Yy o.op with
     |false=>simp_all
     |true=>
      rw[hns,zK]at H;split at H;rename_i c J;cases hd:wj n c o.dst with
      |false=>simp_all
      |true=>
       rw[hd,zK]at H;cases hk:known e c o.op.operands.toList with
       |false=>simp_all
       |true=>
        rw[hk,zK]at H;split at H;rename_i g L;rw[Vf]at hnd;obtain⟨v,F,I⟩:=Ki hq H;have r:j7 ops i=o.dst:=yc ho;obtain⟨u,w,p⟩:∃u,(valid (qh a) c->u=v)/\(¬valid (qh a) c->u=undef):=by by_cases k:valid (qh a) c;simp_all;simp_all
        have q:=Zh hs J;obtain⟨f,y,g1,g2,N,O⟩:=wC (λx=>if x=i then u else B x) (a:=a.put o.dst u) hnd.2 F (hs.putO hd w p);have m:f i=u:=by rw[N i hnd.1,zA rfl]
        have D:∀b,qz ops f (i::b) a=qz ops f b (a.put o.dst u):=λb=>by show qz ops f b (a.put (j7 ops i) (f i))=_;rw[r,m]
        refine⟨f,y,g1,by grind,λj Q=>?_,λb j C A=>?_⟩;simp_all;cases b with
        |nil=>simp only[Vw,VY]at A;obtain⟨rfl,rfl⟩:=A;refine⟨o,ho,λA=>by simp_all,hns,λt E=>by rw[E]at hd;unfold wj at hd;simp_all,λz h' M=>?_,λz=>?_⟩;show QExec P (execOp a.eval o) h' _;have k:=q.1 z;rw[tT hs k hns hk,m,w k];exact I (Z6 hs L k) h' (LdOK.congr (λx G=>(Yx hs k hk x G).symm) M);rw[m];exact p λk=>z (q.2 k)
        |cons S b=>grind
        exact H.elim
      exact H.elim
def qQ(gq:Bool)(ops:Array Oper)(U:List Nat):Nat->Bool
 |0=>Tc
 |k+1=>bif (match ops[k]? with
  |some o=>bif yq o then(bif We gq ops k then Tc else !(J0 U k))else Tc
  |none=>Tc)then Ta else qQ gq ops U k
theorem BP{ops:Array Oper}{U:List Nat}:∀{m:Nat},qQ gq ops U m=Tc->∀k o,k<m->ops[k]?=Td o->yq o=Ta->We gq ops k=Tc->k∈U
 |0,_,k,o,hk,_,_,_=>by omega
 |m+1,h,k,o,hk,ho,hl,hi=>by
  unfold qQ at h;cases hb:(match ops[m]? with
   |some o=>bif yq o then(bif We gq ops m then Tc else !(J0 U m))else Tc
   |none=>Tc)with
  |true=>simp_all
  |false=>
   rw[hb,zL]at h;rcases Va k m with h1|h1;exact BP h k o h1 ho hl hi;have:k=m:=by omega
   simp_all[Y0]
def nj(gq:Bool)(ops:Array Oper)(U:List Nat)(e:bK)(h0 h':zc)(K:Prop):Nat->Prop
 |0=>K
 |k+1=>match ops[k]? with
  |some o=>bif (bif yq o then(bif We gq ops k then Tc else !(J0 U k))else Tc)then(match o.op,ww ops e o.guard with
   |.load _ a,some c=>bif known e c [a]then(match iY e c a,Z5 e c with
    |.pointer (Td p),some g=>req g (h'[p.block]?=h0[p.block]?)/\nj gq ops U e h0 h' K k
    |_,_=>False)else False
   |_,_=>False)else nj gq ops U e h0 h' K k
  |none=>nj gq ops U e h0 h' K k
theorem CH{ops:Array Oper}{U:List Nat}{e:bK}{h0 h':zc}{K:Prop}:∀{m:Nat},nj gq ops U e h0 h' K m->K/\∀k o,k<m->ops[k]?=Td o->yq o=Ta->We gq ops k=Tc->k∉U ->
  ∃t a p c g,o.op=.load t a/\ww ops e o.guard=Td c/\Z5 e c=Td g/\known e c [a]=Ta/\iY e c a=.pointer (Td p)/\req g (h'[p.block]?=h0[p.block]?)
 |0,H=>⟨H,λk o j=>by omega⟩
 |m+1,H=>by
  unfold nj at H;have step:nj gq ops U e h0 h' K m->(∀o,ops[m]?=Td o->yq o=Ta->We gq ops m=Tc->m∉U->∃t a p c g,o.op=.load t a/\ww ops e o.guard=Td c/\Z5 e c=Td g/\known e c [a]=Ta/\iY e c a=.pointer (Td p)/\req g (h'[p.block]?=h0[p.block]?)) ->
    K/\∀k o,k<m+1->ops[k]?=Td o->yq o=Ta->We gq ops k=Tc->k∉U->∃t a p c g,o.op=.load t a/\ww ops e o.guard=Td c/\Z5 e c=Td g/\known e c [a]=Ta/\iY e c a=.pointer (Td p)/\req g (h'[p.block]?=h0[p.block]?):=λh l=>by
   obtain⟨h1,f⟩:=CH h;grind
  cases ho:ops[m]? with
  |none=>grind
  |some o=>
   rw[ho]at H;simp only at H;have same:∀b,ops[m]?=Td b->b=o:=λb h1=>UQ (h1.symm.trans ho);cases hc:(bif yq o then(bif We gq ops m then Tc else !(J0 U m))else Tc)with
   |false=>rw[hc]at H;refine step H λb h1 f i n=>?_;rw[same b h1]at f;rw[f,i,zK,zL]at hc;grind [Y0]
   |true=>grind
def pn(gq:Bool)(ops:Array Oper)(T:List Nat)(e:bK)(h0 h':zc)(K:Prop):Prop:=bif qQ gq ops (kU ops ops.size T) ops.size then nj gq ops (kU ops ops.size T) e h0 h' K ops.size else K
def rD(ops:Array Oper)(todo:List Nat)(j:Nat):Bool:=todo.all λk=>bif Nat.beq k j then Ta else !(J0 (kU ops ops.size [j]) k)
def lj(gq:Bool)(P:Program)(n:Nat)(ops:Array Oper)(h0:zc)(K:bK->zc->Prop):Nat->List Nat->List Nat->bK->zc->Prop
 |_,_,[],e,h=>K (clean e) h
 |0,_,_::_,_,_=>False
 |f+1,T,b::l0,e,h=>u9 (λj=>match ops[j]? with
  |some o=>(match ww ops e o.guard with|some c=>bif wj n c o.dst then mc P o e c h λv h'=>wI P n h' Tc ops (λi=>pn gq ops (j::T) i h0 h' (lj gq P n ops h0 K f (j::T) (iM j (b::l0)) i h')) (Yd (Yc gq ops T ops.size) (Yc gq ops (j::T) ops.size) ops.size) (putO e o.dst c v)else False|none=>False)
  |none=>False) (pM (rD ops (b::l0)) (b::l0))
theorem Kg{K:bK->zc->Prop}{f:Nat}{T todo:List Nat}(H:lj gq P n ops h0 K (f+1) T todo e h){j:Nat}(b:j∈todo)(k:rD ops todo j=Ta):match ops[j]? with
  |some o=>(match ww ops e o.guard with|some c=>bif wj n c o.dst then mc P o e c h λv h'=>wI P n h' Tc ops (λi=>pn gq ops (j::T) i h0 h' (lj gq P n ops h0 K f (j::T) (iM j todo) i h')) (Yd (Yc gq ops T ops.size) (Yc gq ops (j::T) ops.size) ops.size) (putO e o.dst c v)else False|none=>False)
  |none=>False:=by
 cases todo with
 |nil=>cases b
 |cons m l=>exact GH H j (uI b k)
def Xh(gq:Bool)(ops:Array Oper)(k:Nat)(S:List Nat):Nat->Bool
 |0=>Ta
 |p+1=>bif (match j7 ops p with
  |some t=>bif J0 S t then(bif Region.waitsFor .any ops k p then Ta else bif We gq ops p then Region.waitsFor .any ops p k else Tc)else Ta
  |none=>Ta)then Xh gq ops k S p else Tc
theorem Y1{ops:Array Oper}{k:Nat}{S:List Nat}:∀{m:Nat},Xh gq ops k S m=Ta->∀p t,p<m->j7 ops p=Td t->t∈S->Region.waitsFor .any ops k p=Ta\/(We gq ops p=Ta/\Region.waitsFor .any ops p k=Ta)
 |0,_,p,t,hp,_,_=>by omega
 |m+1,h,p,t,hp,hd,ht=>by
  simp only[Xh]at h;cases hb:(match j7 ops m with
   |some t=>bif J0 S t then(bif Region.waitsFor .any ops k m then Ta else bif We gq ops m then Region.waitsFor .any ops m k else Tc)else Ta
   |none=>Ta)with
  |false=>simp_all
  |true=>
   rw[hb]at h;rcases Va p m with h1|h1;exact Y1 h p t h1 hd ht;have:p=m:=by omega
   simp_all[rU]
def Xi(gq:Bool)(ops:Array Oper):Nat->Bool
 |0=>Ta
 |k+1=>bif (match ops[k]? with
  |some o=>Xh gq ops k (tmpsOf o.op.operands.toList) ops.size
  |none=>Ta)then Xi gq ops k else Tc
theorem Y2{ops:Array Oper}:∀{m:Nat},Xi gq ops m=Ta->∀k o,k<m->ops[k]?=Td o->Xh gq ops k (tmpsOf o.op.operands.toList) ops.size=Ta
 |0,_,k,o,hk,_=>by omega
 |m+1,h,k,o,hk,ho=>by
  unfold Xi at h;cases hb:(match ops[m]? with
   |some o=>Xh gq ops m (tmpsOf o.op.operands.toList) ops.size
   |none=>Ta)with
  |false=>simp_all
  |true=>rw[hb,zK]at h;rcases Va k m with h1|h1;exact Y2 h k o h1 ho;grind
def nN(ops:Array Oper)(o:Oper):List Nat:=match o.guard with
 |none=>[]
 |some (j,_)=>match j7 ops j with
  |some t=>[t]
  |none=>[]
def nV(ops:Array Oper):Nat->Bool
 |0=>Ta
 |k+1=>bif (match ops[k]? with
  |some o=>bif Yy o.op then m8 ops k (nN ops o) ops.size else Tc
  |none=>Ta)then nV ops k else Tc
theorem uE{ops:Array Oper}:∀{m:Nat},nV ops m=Ta->∀k o,k<m->ops[k]?=Td o->Yy o.op=Ta/\m8 ops k (nN ops o) ops.size=Ta
 |0,_,k,o,hk,_=>by omega
 |m+1,h,k,o,hk,ho=>by
  unfold nV at h;cases hb:(match ops[m]? with
   |some o=>bif Yy o.op then m8 ops m (nN ops o) ops.size else Tc
   |none=>Ta)with
  |false=>simp_all
  |true=>rw[hb,zK]at h;rcases Va k m with h1|h1;exact uE h k o h1 ho;grind
theorem Wg(h:∀t∈nN ops o,qh a t=qh b t):UX o (yielded ops a.tmps)=UX o (yielded ops b.tmps):=by
 unfold UX;cases hg:o.guard with
 |none=>rfl
 |some f=>
  obtain⟨j,p⟩:=f;have:yielded ops a.tmps j=yielded ops b.tmps j:=by
   unfold yielded;cases hd:(ops[j]?).bind (·.dst)with
   |none=>rfl
   |some t=>
    have e:j7 ops j=Td t:=by
     unfold j7;cases hoj:ops[j]? with
     |none=>simp_all
     |some i=>simp_all
    have c:=h t (by unfold nN;simp_all);unfold qh at c;simp only[Vh]at c;simp only[VK];cases h1:a.tmps[t]? <;> cases h2:b.tmps[t]? <;> rw[h1,h2]at c <;> simp at c <;> first|rfl|(subst c;rfl)|(rw[<-c];rfl)|(rw[c];rfl)
  grind
def mO(gq:Bool)(ops:Array Oper):Bool:=bif nV ops ops.size then(bif Yb ops ops.size then(bif n3 ops ops.size then Xi gq ops ops.size else Tc)else Tc)else Tc
theorem GJ(h:mO gq ops=Ta):nV ops ops.size=Ta/\Yb ops ops.size=Ta/\n3 ops ops.size=Ta/\Xi gq ops ops.size=Ta:=by unfold mO at h;simp_all
structure St7 (gq:Bool) (P:Program) (n:Nat) (ops:Array Oper) (h0:zc) (K:bK->zc->Prop) (f:Nat->Value) (a0:Act) (listed:Array Bool) (a b:Act) (e:bK) (h:zc) (done todo:List Nat):Prop where
 inv:HeadInv .any ops ops.size listed
 ag:∀s,(∀i o,ops[i]?=Td o->We gq ops i=Tc->listed.getD i Tc=Tc->o.dst≠Td s)->qh a s=qh b s
 sz:a.tmps.size=n
 ad:a.defers=[]
 sb:Sat n e b
 qv:∀i o t,ops[i]?=Td o->i∈Yc gq ops done ops.size->o.dst=Td t->qh b t=f i/\t<n
 qx:∀i o,ops[i]?=Td o->i∈Yc gq ops done ops.size->listed.getD i Tc=Tc->(UX o (yielded ops b.tmps)=Ta->∀h',LdOK o b.eval h0 h'->QExec P (execOp b.eval o) h' (.value (f i)))/\(UX o (yielded ops b.tmps)≠Ta->f i=undef)
 tt:∀j,j∈iK gq ops->(j∈todo↔listed.getD j Tc=Tc)
 ch:∀j,j∈iK gq ops->(listed.getD j Tc=Ta↔j∈done)
 dn:∀j∈done,j∈iK gq ops
 th:∀j∈todo,j∈iK gq ops
 nd:todo.Nodup
 wt:∃fu,todo.length<=fu/\lj gq P n ops h0 K fu done todo e h
 kp:∀i o,ops[i]?=Td o->yq o=Ta->We gq ops i=Tc->listed.getD i Tc=Tc->UX o (yielded ops b.tmps)=Ta->LdOK o b.eval h0 h
 sm:Same (wv ops.toList) a0 a
theorem DT{ld:Bool}(G:nV ops ops.size=Ta)(y:Yb ops ops.size=Ta)(O:n3 ops ops.size=Ta)(M:Xi gq ops ops.size=Ta){f:Nat->Value}(F:b.tmps.size=n)(m:∀i∈l,i<ops.size)(aa:∀i∈l,We gq ops i=Tc)(w:l.Pairwise (· < ·)) (H:∀c i e,l=c++i::e->∃o,ops[i]?=Td o/\(ld=Tc->yq o=Tc)/\Yy o.op=Ta/\(∀t,o.dst=Td t->t<n) /\ (UX o (yielded ops (qz ops f c b).tmps)=Ta->∀h',LdOK o (qz ops f c b).eval h h'->QExec P (execOp (qz ops f c b).eval o) h' (.value (f i)))/\(UX o (yielded ops (qz ops f c b).tmps)≠Ta->f i=undef)):
  ∀i o,ops[i]?=Td o->i∈l->(∀t,o.dst=Td t->qh (qz ops f l b) t=f i/\t<n)/\(ld=Tc->yq o=Tc) /\ (UX o (yielded ops (qz ops f l b).tmps)=Ta->∀h',LdOK o (qz ops f l b).eval h h'->QExec P (execOp (qz ops f l b).eval o) h' (.value (f i)))/\(UX o (yielded ops (qz ops f l b).tmps)≠Ta->f i=undef):=by
 intro i o E hi;obtain⟨c,e,rfl⟩:=List.append_of_mem hi;obtain⟨z,q1,U,q4,V,Z,Y⟩:=H c i e rfl;have:z=o:=UQ (q1.symm.trans E);subst this;have p:i<ops.size:=m i (by simp);have hs:∀j∈e,i<j:=λj k=>by rw[WN]at w;simp_all
 have q:qz ops f (c++i::e) b=qz ops f e ((qz ops f c b).put (j7 ops i) (f i)):=by rw[yL];rfl
 have r:j7 ops i=z.dst:=yc E;have C:∀j∈i::e,Region.waitsFor .any ops i j=Ta->False:=λj k I=>by obtain⟨oj,L,x,J,S,T⟩:=Region.waitsFor_spec I;have h1:=Zf y i oj p L x J S;grind
 have Q:qz ops f (c++i::e) b=qz ops f (i::e) (qz ops f c b):=yL;have A:∀t∈tmpsOf z.op.operands.toList,qh (qz ops f (c++i::e) b) t=qh (qz ops f c b) t:=λt u=>by rw[Q];refine yy λj k D=>C j k ?_;rcases Y1 (Y2 M i z p E) j t (m j (by simp[k])) D u with h|h;exact h;simp_all
 have N:UX z (yielded ops (qz ops f (c++i::e) b).tmps)=UX z (yielded ops (qz ops f c b).tmps):=Wg λt u=>by rw[Q];exact yy λj k D=>C j k (Qu (uE G i z p E).2 j t (m j (by simp[k])) D u)
 rw[N];refine⟨λt u=>?_,U,λI h' hh=>?_,Y⟩;have B:=V t u;refine⟨?_,B⟩;rw[q,yy λj k D=>?_,r,u,Ze (by rw[C8.1,F];exact B)];have:=Yz O i j t p (m j (by simp[k])) (by rw[r,u]) D;grind;rw[xU q4 A];exact Z I h' (LdOK.congr (λx J=>(Xf A x J).symm) hh)
theorem Ub{K:bK->zc->Prop}{Q:Exit->Act->World->Prop}(B:World)(hmix:mO gq ops=Ta){a0:Act}
    (hQ:∀e' a' d' h',Sat n e' a'->Same (wv ops.toList) a0 a'->K e' h'->Q .normal a' (mk B d' h')):
    ∀(N:Nat) (U:List Nat) (listed:Array Bool) (f:Nat->Value) (a b:Act) (e:bK) (h:zc) (d:Nat) (done todo:List Nat),U.length=N->U.Nodup->(∀k,k∈U↔k<ops.size/\listed.getD k Tc=Tc) ->
      St7 gq P n ops h0 K f a0 listed a b e h done todo->wpAny P .any ops Q N listed a (mk B d h):=by
  obtain⟨hng,hback,hnd,hsl⟩:=GJ hmix
  have hgd:∀(i:Nat) (o:Oper),ops[i]?=Td o->Yy o.op=Ta/\m8 ops i (nN ops o) ops.size=Ta:=λi o ho=>uE hng i o (Uu.1 ho).1 ho
  have hslot0:∀k o,ops[k]?=Td o->∀p t,p<ops.size->j7 ops p=Td t->t∈tmpsOf o.op.operands.toList->Region.waitsFor .any ops k p=Ta\/(We gq ops p=Ta/\Region.waitsFor .any ops p k=Ta):=λk o ho p t hp hd ht=>
    Y1 (Y2 hsl k o (Uu.1 ho).1 ho) p t hp hd ht
  have hbk:∀k p,Region.waitsFor .any ops k p=Ta->p<k:=λk p hw=>by
    obtain⟨oj,hoj,x,hx,hb,hon⟩:=Region.waitsFor_spec hw
    have:=Zf hback k oj (Uu.1 hoj).1 hoj x hx hb
    omega
  have fin:∀{listed:Array Bool} {f:Nat->Value} {a b:Act} {e:bK} {h:zc} {d:Nat} {done todo:List Nat},(∀k,k<ops.size->listed.getD k Tc=Ta)->St7 gq P n ops h0 K f a0 listed a b e h done todo->Q .normal a (mk B d h):=by
    intro listed f a b e h d done todo hall S
    have htodo:todo=[]:=by
      cases htd:todo with
      |nil=>rfl
      |cons j l=>
        have hm:j∈todo:=by rw[htd];simp
        have hj:=S.th j hm
        have:=(S.tt j hj).1 hm
        rw[hall j (oU.1 hj).1]at this;cases this
    obtain⟨fu,_,hw⟩:=S.wt
    rw[htodo]at hw
    have hw:K (clean e) h:=by cases fu <;> exact hw
    have hv:∀s,qh a s=qh b s:=λs=>S.ag s λi o ho hq hl=>by
      grind
    have hs:Sat n e a:=⟨S.ad,S.sz,λx hx=>by
      have:=S.sb.all x hx
      have e1:qh a=qh b:=funext hv
      grind⟩
    exact hQ _ _ _ _ hs.clean S.sm hw
  intro N
  induction N with
  |zero=>
    intro U listed f a b e h d done todo hU _ hmem S
    have hUn:U=[]:=V6.1 hU
    subst hUn
    have hall:∀k,k<ops.size->listed.getD k Tc=Ta:=λk hk=>by
      simp_all
    refine⟨?_,fin hall S⟩
    rw[List.eq_nil_iff_forall_not_mem]
    intro j hj
    obtain⟨h1,o,ho,_⟩:=mem_ready.1 hj
    grind
  |succ N ih=>
    intro U listed f a b e h d done todo hU hdup hmem S
    have hex:∃k,k<ops.size/\listed.getD k Tc=Tc:=by
      cases U with
      |nil=>cases hU
      |cons k U=>exact⟨k,(hmem k).1 UF⟩
    refine⟨λhr=>?_,λi hi=>?_⟩
    · exfalso
      obtain⟨k,hk1,hk2,hk3⟩:=Kc hex
      have:k∈Region.ready .any ops listed:=mem_ready.2 ⟨by rw[<-hk2];simp[S.inv.size,hk1],ops[k],Vn hk1,λx hx hb=>hk3 _ (Zf hback k ops[k] hk1 (Vn hk1) x hx hb)⟩
      grind
    · obtain⟨hun1,o,ho,hall⟩:=mem_ready.1 hi
      have hun:listed.getD i Tc=Tc:=getD_both hun1
      have hlt:i<ops.size:=(Uu.1 ho).1
      obtain⟨hns,hgs⟩:=hgd i o ho
      have hils:i<listed.size:=by rw[S.inv.size];exact hlt
      have hU':(U.erase i).length=N:=by rw[List.length_erase_of_mem ((hmem i).2 ⟨hlt,hun⟩),hU];rfl
      have hdup':(U.erase i).Nodup:=hdup.erase i
      have hmem':∀k,k∈U.erase i↔k<ops.size/\(listed.setIfInBounds i Ta).getD k Tc=Tc:=λk=>by
        rw[hdup.mem_erase_iff,hmem k]
        by_cases hk:i=k
        · subst hk;simp[hils]
        · rw[getD_set_ne Tc hk];grind
      have inv':=S.inv.set hi hlt
      have hset:∀k,k≠i->(listed.setIfInBounds i Ta).getD k Tc=listed.getD k Tc:=λk hk=>getD_set_ne Tc (Ne.symm hk)
      have hsetI:(listed.setIfInBounds i Ta).getD i Tc=Ta:=by simp[hils]
      have hops:∀t∈tmpsOf o.op.operands.toList,qh a t=qh b t:=λt ht=>S.ag t λk ok hok hq hl hd=>by
        rcases hslot0 i o ho k t (Uu.1 hok).1 (by rw[yc hok,hd]) ht with hw|hw
        grind [Xg]
        grind
      have hexec:=xU hns hops
      have hsame:∀v,Same (wv ops.toList) a0 (a.put o.dst v):=λv=>S.sm.trans (Same.put a o.dst _ λt ht=>CQ (by
          grind) t ht)
      unfold wpOp
      rw[ho]
      simp only
      have hwab:UX o (yielded ops a.tmps)=UX o (yielded ops b.tmps):=Wg λt ht=>S.ag t λk ok hok hq hl hd=>by
        have hw:=Qu hgs k t (Uu.1 hok).1 (by rw[yc hok,hd]) ht
        grind [Xg]
      cases hq:We gq ops i with
      |false=>
        have hrdyG:∀m k ok,k<m->ops[k]?=Td ok->We gq ops k=Tc->(∀p,Region.waitsFor .any ops k p=Ta->listed.getD p Tc=Ta)->k∈Yc gq ops done ops.size:=by
          intro m
          induction m with
          |zero=>omega
          |succ m ihm=>
            intro k ok hk hok hkh hkw
            refine rR (Uu.1 hok).1 hkh (sW.2 λp hp hw=>⟨λhph=>?_,λhph=>?_⟩)
            · have hpl:=hkw p hw
              exact(S.ch p (oU.2 ⟨by grind,hph⟩)).1 hpl
            · have hps:p<ops.size:=by have:=(Uu.1 hok).1;omega
              have hin:=ihm p ops[p] (by omega) (Vn hps) hph λq hq2=>Qv S.inv (hkw p hw) hq2
              grind [wl,rR]
        have hrdy:=hrdyG (i+1) i o (by omega) ho hq λp hw=>Xg hi hw
        have hqx:=S.qx i o ho hrdy hun
        have hnot:i∉iK gq ops:=λhm=>by rw[(oU.1 hm).2]at hq;cases hq
        have hunset:∀k,(listed.setIfInBounds i Ta).getD k Tc=Tc->listed.getD k Tc=Tc:=λk hu=>by
          grind
        have hfin:wpAny P .any ops Q N (listed.setIfInBounds i Ta) (a.put o.dst (f i)) (mk B d h):=by
         refine ih _ _ f _ b e h d done todo hU' hdup' hmem' { S with inv:=inv',ag:=λs hs=>?_,sz:=by rw[size_put];exact S.sz,ad:=by rw[xr];exact S.ad,tt:=λj hj=>(by have:j≠i:=λe=>hnot (e ▸ hj);rw[hset j this];exact S.tt j hj),ch:=λj hj=>?_,qx:=λk ok hok hk hu=>S.qx k ok hok hk (hunset k hu),kp:=λk ok hok hl hkh hk=>?_,sm:=hsame _ }
         · by_cases hd:o.dst=Td s
           · obtain⟨hv,hsn⟩:=S.qv i o s ho hrdy hd
             rw[hd,Ze (by rw[S.sz];exact hsn),hv]
           · rw[jm hd]
             refine S.ag s λk ok hok hqk hlk=>?_
             grind
         · have:j≠i:=λe=>hnot (e ▸ hj)
           rw[hset j this];exact S.ch j hj
         · by_cases hki:k=i
           grind
           · rw[hset k hki]at hk;exact S.kp k ok hok hl hkh hk
        by_cases hw:UX o (yielded ops a.tmps)=Ta
        · rw[zA hw]
          left
          unfold Oper.wp
          rw[hexec,hqx.1 (by grind) h (by
            cases hl:yq o with
            |false=>exact .inl hl
            |true=>exact S.kp i o ho hl hq hun (by grind)) B d,Oper.upon_value]
          exact hfin
        grind
      |true=>
        have hin:i∈iK gq ops:=oU.2 ⟨hlt,hq⟩
        have hit:i∈todo:=(S.tt i hin).2 hun
        obtain⟨fu,hfu,hW0⟩:=S.wt
        have hcl:∀p q,(listed.setIfInBounds i Ta).getD p Tc=Ta->Region.waitsFor .any ops p q=Ta->(listed.setIfInBounds i Ta).getD q Tc=Ta:=λp q h1 h2=>Qv inv' h1 h2
        have hcand:rD ops todo i=Ta:=by
          unfold rD
          rw[UI]
          intro k hk
          cases hki:Nat.beq k i with
          |true=>rfl
          |false=>
            have hne:k≠i:=λe=>by rw[e]at hki;simp at hki
            cases hr:J0 (kU ops ops.size [i]) k with
            |false=>rfl
            |true=>
              exfalso
              have:=xO hcl (m:=ops.size) (S:=[i]) (λj hj=>by grind) k (Y0 hr)
              rw[hset k hne]at this
              have h2:=(S.tt k (S.th k hk)).1 hk
              grind
        have hW:match ops[i]? with
            |some o=>(match ww ops e o.guard with|some c=>bif wj n c o.dst then mc P o e c h λv h'=>wI P n h' Tc ops (λe'=>pn gq ops (i::done) e' h0 h' (lj gq P n ops h0 K (fu-1) (i::done) (iM i todo) e' h')) (Yd (Yc gq ops done ops.size) (Yc gq ops (i::done) ops.size) ops.size) (putO e o.dst c v)else False|none=>False)
            |none=>False:=by
          cases fu with
          |zero=>grind
          |succ fu=>
            grind [Kg]
        rw[ho]at hW
        simp only at hW
        cases hch:ww ops e o.guard with
        |none=>grind
        |some c=>
        rw[hch]at hW
        simp only at hW
        cases hd:wj n c o.dst with
        |false=>grind
        |true=>
          rw[hd,zK]at hW
          have hwv:=Zh S.sb hch
          have key:∀(v u:Value) (d':Nat) (h':zc),(valid (qh b) c->u=v)->(¬valid (qh b) c->u=undef)->wI P n h' Tc ops (λe'=>pn gq ops (i::done) e' h0 h' (lj gq P n ops h0 K (fu-1) (i::done) (iM i todo) e' h')) (Yd (Yc gq ops done ops.size) (Yc gq ops (i::done) ops.size) ops.size) (putO e o.dst c v)->wpAny P .any ops Q N (listed.setIfInBounds i Ta) (a.put o.dst u) (mk B d' h'):=by
           intro v v2 d' h' hv1 hv0 hK
           have sb1:Sat n (putO e o.dst c v) (b.put o.dst v2):=S.sb.putO hd hv1 hv0
           generalize hbl:Yd (Yc gq ops done ops.size) (Yc gq ops (i::done) ops.size) ops.size=bl at hK
           have hbm:∀k,k∈bl↔k<ops.size/\k∈Yc gq ops (i::done) ops.size/\k∉Yc gq ops done ops.size:=λk=>by rw[<-hbl];exact Gs
           have hbsort:bl.Pairwise (· < ·):=by rw[<-hbl];exact Dv _ _ _
           have hbnd:bl.Nodup:=hbsort.imp λh=>by omega
           obtain⟨f',e2,HK,sb2,hf0,hfx⟩:=wC f hbnd hK sb1
           have hbf:=DT hng hback hnd hsl (f:=f') (l:=bl) (b:=b.put o.dst v2) sb1.size (λk hk=>((hbm k).1 hk).1) (λk hk=>(wl ((hbm k).1 hk).2.1).2.1) hbsort hfx
           have hbnh:∀k∈bl,We gq ops k=Tc:=λk hk=>(wl ((hbm k).1 hk).2.1).2.1
           have hlist':∀j,j∈iK gq ops->((listed.setIfInBounds i Ta).getD j Tc=Ta↔j∈i::done):=λj hj=>by
             by_cases hji:j=i
             · subst hji;grind
             · rw[hset j hji,S.ch j hj];simp[hji]
           have hjl:∀j∈i::done,(listed.setIfInBounds i Ta).getD j Tc=Ta:=λj hj=>by
             rcases Up.1 hj with rfl|hj
             · exact hsetI
             · exact getD_set_true ((S.ch j (S.dn j hj)).2 hj)
           have hup:∀k,k∈kU ops ops.size (i::done)->(listed.setIfInBounds i Ta).getD k Tc=Ta:=λk hk=>xO hcl hjl k hk
           have hundone:i∉done:=λhm=>by rw[(S.ch i hin).2 hm]at hun;cases hun
           have hslot1:∀k ok,ops[k]?=Td ok->k∈Yc gq ops done ops.size->listed.getD k Tc=Tc->∀t∈tmpsOf ok.op.operands.toList,qh (b.put o.dst v2) t=qh b t:=λk ok hok hk hu t ht=>jm λhdo=>by
             rcases hslot0 k ok hok i t hlt (by rw[yc ho,hdo]) ht with hw|hw
             · exact hundone ((sG hk (hbk k i hw) hw).1 hq)
             · rw[Xg hi hw.2]at hu;cases hu
           have hslot2:∀k ok,ops[k]?=Td ok->k∈Yc gq ops done ops.size->listed.getD k Tc=Tc->∀t∈tmpsOf ok.op.operands.toList,qh (qz ops f' bl (b.put o.dst v2)) t=qh b t:=λk ok hok hk hu t ht=>by
             rw[yy λp hp hdp=>?_]
             · exact hslot1 k ok hok hk hu t ht
             · rcases hslot0 k ok hok p t ((hbm p).1 hp).1 hdp ht with hw|hw
               · exact((hbm p).1 hp).2.2 ((sG hk (hbk k p hw) hw).2 (hbnh p hp))
               · have:=hbnh p hp
                 grind
           have hslot3:∀k ok,ops[k]?=Td ok->k∈Yc gq ops done ops.size->UX ok (yielded ops (qz ops f' bl (b.put o.dst v2)).tmps)=UX ok (yielded ops b.tmps):=λk ok hok hk=>Wg λt ht=>by
             have hwt:∀p,p<ops.size->j7 ops p=Td t->Region.waitsFor .any ops k p=Ta:=λp hp hd=>Qu (hgd k ok hok).2 p t hp hd ht
             rw[yy λp hp hdp=>((hbm p).1 hp).2.2 ((sG hk (hbk k p (hwt p ((hbm p).1 hp).1 hdp)) (hwt p ((hbm p).1 hp).1 hdp)).2 (hbnh p hp))]
             exact jm λhdo=>hundone ((sG hk (hbk k i (hwt i hlt (by rw[yc ho,hdo]))) (hwt i hlt (by rw[yc ho,hdo]))).1 hq)
           have hdist:∀k ok t,ops[k]?=Td ok->k≠i->ok.dst=Td t->o.dst≠Td t:=λk ok t hok hki hdk hdo=>by
             have:=Yz hnd k i t (Uu.1 hok).1 hlt (by rw[yc hok,hdk]) (by rw[yc ho,hdo])
             exact hki this
           have hne_i:∀k,We gq ops k=Tc->k≠i:=λk hk e=>by rw[e,hq]at hk;cases hk
           have hQK:lj gq P n ops h0 K (fu-1) (i::done) (iM i todo) e2 h'/\(∀k ok,ops[k]?=Td ok->yq ok=Ta->We gq ops k=Tc->(listed.setIfInBounds i Ta).getD k Tc=Tc->UX ok (yielded ops (qz ops f' bl (b.put o.dst v2)).tmps)=Ta->LdOK ok (qz ops f' bl (b.put o.dst v2)).eval h0 h'):=by
             unfold pn at HK
             cases hl:qQ gq ops (kU ops ops.size (i::done)) ops.size with
             |false=>
               rw[hl,zL]at HK
               exact⟨HK,λk ok hok hlo hkh hf _=>by rw[hup k (BP hl k ok (Uu.1 hok).1 hok hlo hkh)]at hf;cases hf⟩
             |true=>
               rw[hl,zK]at HK
               obtain⟨g1,g2⟩:=CH HK
               refine⟨g1,λk ok hok hlo hkh hf hw=>.inr (.inr λt a p hop hp=>?_)⟩
               obtain⟨t',a',p',c',g',e1,ec,eg,e2',e3,e4⟩:=g2 k ok (Uu.1 hok).1 hok hlo hkh (λhm=>by rw[hup k hm]at hf;cases hf)
               rw[hop]at e1
               injection e1 with _ e1
               subst e1
               have hvc:=(Zh sb2 ec).1 hw
               have eb:(qz ops f' bl (b.put o.dst v2)).eval a=iY e2 c' a:=Yx sb2 hvc e2' a (by simp)
               rw[eb,e3]at hp
               injection hp with hp
               injection hp with hp
               rw[<-hp];exact e4.out (Z6 sb2 eg hvc)
           have htt:∀j,j∈iK gq ops->(j∈iM i todo↔(listed.setIfInBounds i Ta).getD j Tc=Tc):=λj hj=>by
             rw[pX]
             by_cases hji:j=i
             · subst hji;rw[hsetI];simp
             · rw[hset j hji,<-S.tt j hj];simp;omega
           refine ih _ _ f' _ (qz ops f' bl (b.put o.dst v2)) e2 h' d' (i::done) (iM i todo) hU' hdup' hmem' ⟨inv',λs hs=>?_,by rw[size_put];exact S.sz,by rw[xr];exact S.ad,sb2,λk ok t hok hk hdk=>?_,λk ok hok hk hu=>?_,htt,hlist',(λj hj=>by
             rcases Up.1 hj with rfl|hj
             · exact hin
             · exact S.dn j hj),(λj hj=>S.th j (pX.1 hj).1),u6 S.nd,⟨fu-1,by have:=Dc hit;omega,hQK.1⟩,hQK.2,hsame _⟩
           · -- slots
             have hs':∀k ok,ops[k]?=Td ok->We gq ops k=Tc->listed.getD k Tc=Tc->ok.dst≠Td s:=λk ok hok hqk hlk=>hs k ok hok hqk (by rw[hset k (hne_i k hqk)];exact hlk)
             have hbl:∀p∈bl,j7 ops p≠Td s:=λp hp hdp=>by
               have hps:=((hbm p).1 hp).1
               have hok:ops[p]?=Td ops[p]:=Vn hps
               have hph:=hbnh p hp
               refine hs p _ hok hph ?_ (by rw[<-yc hok];exact hdp)
               cases hlp:(listed.setIfInBounds i Ta).getD p Tc with
               |false=>rfl
               |true=>
                 exfalso
                 rw[hset p (hne_i p hph)]at hlp
                 have:∀m q,q<m->q<ops.size->We gq ops q=Tc->listed.getD q Tc=Ta->q∈Yc gq ops done ops.size:=by
                   intro m
                   induction m with
                   |zero=>omega
                   |succ m ihm=>
                     intro q hqm hqs hqh hql
                     refine rR hqs hqh (sW.2 λp2 hp2 hw2=>⟨λhph2=>?_,λhph2=>?_⟩)
                     · exact(S.ch p2 (oU.2 ⟨by omega,hph2⟩)).1 (Qv S.inv hql hw2)
                     · have hin2:=ihm p2 (by omega) (by omega) hph2 (Qv S.inv hql hw2)
                       obtain⟨_,g2,g3⟩:=wl hin2
                       exact rR hp2 g2 g3
                 exact((hbm p).1 hp).2.2 (this (p+1) p (by omega) hps hph hlp)
             rw[yy hbl]
             by_cases hds:o.dst=Td s
             · rw[hds]
               have hsn:s<n:=by
                 rw[hds]at hd
                 unfold wj at hd
                 simp at hd;exact hd.2
               rw[Ze (by rw[S.sz];exact hsn),Ze (by rw[S.sb.size];exact hsn)]
             · rw[jm hds,jm hds];exact S.ag s hs'
           · by_cases hkb:k∈bl
             · exact(hbf k ok hok hkb).1 t hdk
             · have hk0:k∈Yc gq ops done ops.size:=Classical.byContradiction λhc=>hkb ((hbm k).2 ⟨(Uu.1 hok).1,hk,hc⟩)
               have hkh:=(wl hk0).2.1
               obtain⟨q1,q2⟩:=S.qv k ok t hok hk0 hdk
               refine⟨?_,q2⟩
               rw[yy λp hp hdp=>?_,jm (hdist k ok t hok (hne_i k hkh) hdk),q1,hf0 k hkb]
               have:=Yz hnd p k t ((hbm p).1 hp).1 (Uu.1 hok).1 hdp (by rw[yc hok,hdk])
               subst this;exact hkb hp
           · by_cases hkb:k∈bl
             · obtain⟨_,q2,q3,q4⟩:=hbf k ok hok hkb
               exact⟨λhw h'' _=>q3 hw h'' (.inl (q2 rfl)),q4⟩
             · have hk0:k∈Yc gq ops done ops.size:=Classical.byContradiction λhc=>hkb ((hbm k).2 ⟨(Uu.1 hok).1,hk,hc⟩)
               have hu0:listed.getD k Tc=Tc:=by rw[<-hset k (hne_i k (wl hk0).2.1)];exact hu
               have hx:=S.qx k ok hok hk0 hu0
               rw[hslot3 k ok hok hk0,hf0 k hkb,xU (b:=b) (hgd k ok hok).1 (hslot2 k ok hok hk0 hu0)]
               exact⟨λhw h'' hh=>hx.1 hw h'' (LdOK.congr (λx hx=>(Xf (hslot2 k ok hok hk0 hu0) x hx).symm) hh),hx.2⟩
          by_cases hv:valid (qh b) c
          · rw[zA (by grind)]
            left
            unfold Oper.wp
            rw[hexec]
            refine OG (b:=b) S.sb.defers ?_
            refine EZ hW S.sb hv B d λv d' h' hK=>⟨by rw[xr];exact S.sb.defers,λv2 hv2=>?_⟩
            have hbv:b.put o.dst v2=b.put o.dst v:=hv2.symm
            by_cases hds:∃t,o.dst=Td t
            · obtain⟨t,ht⟩:=hds
              have htn:t<n:=by
                have hd2:=hd
                rw[ht]at hd2
                unfold wj at hd2
                simp at hd2;exact hd2.2
              have:v2=v:=by
                have e1:qh (b.put o.dst v2) t=qh (b.put o.dst v) t:=by rw[hbv]
                rw[ht,Ze (by rw[S.sb.size];exact htn),Ze (by rw[S.sb.size];exact htn)]at e1
                exact e1
              grind
            · have hdn:o.dst=Te:=by
                cases hdx:o.dst with
                |none=>rfl
                |some t=>grind
              have e1:a.put o.dst v2=a.put o.dst v:=by rw[hdn];rfl
              grind
          · rw[zv (by grind)]
            obtain⟨v,hK⟩:=FS hW S.sb hv
            grind
theorem AD{K:bK->zc->Prop}{Q:Exit->Act->World->Prop}(B:World)(q:mO gq ops=Ta) (H:wI P n h Ta ops (λC=>lj gq P n ops h K (iK gq ops).length [] (iK gq ops) C h) (Yd [] (Yc gq ops [] ops.size) ops.size) e) (D:Sat n e a)
  (hQ:∀C G d' h',Sat n C G->Same (wv ops.toList) a G->K C h'->Q .normal G (mk B d' h')) (d:Nat):wpAny P .any ops Q ops.size (VZ ops.size Tc) a (mk B d h):=by
 obtain⟨E,r,O,M⟩:=GJ q;have m:∀k,k∈Yd [] (Yc gq ops [] ops.size) ops.size↔k∈Yc gq ops [] ops.size:=λk=>by rw[Gs];exact⟨λh=>h.2.1,λh=>⟨(wl h).1,h,by simp⟩⟩
 have c:=Dv [] (Yc gq ops [] ops.size) ops.size;generalize Yd [] (Yc gq ops [] ops.size) ops.size=bl at H m c;have A:bl.Nodup:=c.imp λh=>by omega
 obtain⟨f,Y,HK,N,_,S⟩:=wC (λ_=>undef) A H D;have z:=DT E r O M (f:=f) (l:=bl) (b:=a) D.size (λk L=>(wl ((m k).1 L)).1) (λk L=>(wl ((m k).1 L)).2.1) c S;have w:∀s,(∀i o,ops[i]?=Td o->We gq ops i=Tc->(VZ ops.size Tc).getD i Tc=Tc->o.dst≠Td s)->qh a s=qh (qz ops f bl a) s:=λs F=>(yy λp V J=>by have T:=(wl ((m p).1 V)).1;have y:ops[p]?=Td ops[p]:=Vn T;exact F p _ y (wl ((m p).1 V)).2.1 (getD_replicate_false _ _) (by rw[<-yc y];exact J)).symm;refine Ub B q hQ ops.size (UO ops.size) _ f a (qz ops f bl a) Y h d [] (iK gq ops) List.length_range List.nodup_range (λk=>by rw[UT,getD_replicate_false];simp) ⟨⟨by simp,λj oj _ U=>(by rw[getD_replicate_false]at U;cases U),λt ht Z=>by omega⟩,w,D.size,D.defers,N,λi o t I hi hd=>(z i o I ((m i).2 hi)).1 t hd,λi o I hi _=>(z i o I ((m i).2 hi)).2.2,(λj u=>by rw[getD_replicate_false];simp[u]),(λj u=>by rw[getD_replicate_false];simp),(λj u=>by cases u),(λj u=>u),Kh ops,⟨_,Uf _,HK⟩,λ_ _ _ _ _ _=>λ_=>.inr (.inl (Keep.refl _ _)),Same.refl _ _⟩
def un:List (Nat×Nat)->Nat->Option Nat
 |[],_=>Te
 |(j,m)::l,i=>bif Nat.beq i j then Td m else un l i
def regionF(P:Program)(n:Nat)(f:List (Nat×Nat))(id:Nat)(ops:Array Oper)(b:Bool)(K:bK->zc->Prop)(e:bK)(h:zc):Prop:=
 bif b then(match un f id with
  |none=>bif Region.lexB .any ops then wQ P n ops h Ta (λc=>K (clean c) h) ops.toList e else False
  |some m=>bif mO (Nat.beq m 7000) ops then wI P n h Ta ops (λc=>lj (Nat.beq m 7000) P n ops h K (iK (Nat.beq m 7000) ops).length [] (iK (Nat.beq m 7000) ops) c h) (Yd [] (Yc (Nat.beq m 7000) ops [] ops.size) ops.size) e else False)
 else wR P n ops K ops.toList e h
theorem Y3(l m:List Oper):wv (l++m)=wv l++wv m:=by
 induction l with
 |nil=>rfl
 |cons o l b=>simp only[U8,wv];split <;> simp[b]
theorem DN(l:P.follows .mixedOrders=Ta){o:List (Nat×Nat)}{id:Nat}{b:Bool}{K:bK->zc->Prop} (H:regionF P n o id ops b K e h) (B:World) (d:Nat) (f:Sat n e a) {Q:Exit->Act->World->Prop}
  (i:∀j c k h',Sat n j c->Same (wv ops.toList) a c->K j h'->Q .normal c (mk B k h')):(YA id ops b).wp P Q a (mk B d h):=by
 unfold regionF at H;cases b with
 |false=>exact wp_region_list (pE B _ _ _ _ _ H f i)
 |true=>
  simp only[zK]at H;split at H;cases hB:Region.lexB .any ops with
  |false=>rw[hB]at H;exact H.elim
  |true=>rw[hB]at H;refine wp_region_quiet (C:=λw=>∃d,w=mk B d h) l hB ⟨d+1,rfl⟩ ?_;refine Aw B _ _ _ H f λj c p r q=>?_;rintro w' ⟨k,rfl⟩;exact i _ _ _ _ p.clean r q
  rename_i m _;cases hB:mO (Nat.beq m 7000) ops with
  |false=>rw[hB]at H;exact H.elim
  |true=>rw[hB]at H;exact wp_region_any l (AD B hB H f i (d+1))
end
section
variable {n:Nat} {e:bK} {a:Act} {ms:List Nat} {P:Program} {h:zc} {R:Value -> zc -> Prop} {f:FuncId}
@[reducible] def jK:List Atom->Type->Type
 |[],X=>X
 |t::l,X=>t.den->jK l X
def qB{X:Type}:(l:List Atom)->jK l X->(List Value->X->Prop)->Prop
 |[],f,k=>k [] f
 |t::l,f,k=>∀x:t.den,qB l (f x) λvs y=>k (t.enc x::vs) y
def iG{X:Type}:(l:List Atom)->List Value->jK l X->Option X
 |[],[],f=>Td f
 |t::l,v::vs,f=>match t.dec v with
  |some x=>iG l vs (f x)
  |none=>Te
 |_,_,_=>Te
def ny{X:Type}:(l:List Atom)->(List Value->X)->jK l X
 |[],f=>f []
 |t::l,f=>λx=>ny l λvs=>f (t.enc x::vs)
def nq{X Y:Type}:(l:List Atom)->jK l X->jK l Y->jK l (X×Y)
 |[],f,g=>(f,g)
 |_::l,f,g=>λx=>nq l (f x) (g x)
theorem tO{X:Type}:∀{l:List Atom} {vs:List Value} {f:jK l X} {x:X} {k:List Value->X->Prop},iG l vs f=Td x->qB l f k->k vs x
 |[],[],f,x,k,h,g=>by simp only[iG,Ug]at h;subst h;exact g
 |[],_::_,f,x,k,h,g=>by simp[iG]at h
 |_::_,[],f,x,k,h,g=>by simp[iG]at h
 |t::l,v::vs,f,x,k,h,g=>by simp only[iG]at h;split at h;rename_i y b;have:=tO h (g y);grind [Atom.enc_of_dec];cases h
theorem yC{X:Type}:∀{l:List Atom} {vs:List Value} {f:List Value->X} {x:X},iG l vs (ny l f)=Td x->x=f vs
 |[],[],f,x,h=>by simp only[iG,ny,Ug]at h;exact h.symm
 |[],_::_,f,x,h=>by simp[iG]at h
 |_::_,[],f,x,h=>by simp[iG]at h
 |t::l,v::vs,f,x,h=>by simp only[iG,ny]at h;split at h;rename_i y b;have:=yC h;grind [Atom.enc_of_dec];cases h
theorem yN{X:Type}:∀{l:List Atom} {f:List Value->X} {k:List Value->X->Prop},(∀vs,k vs (f vs))->qB l (ny l f) k
 |[],_,_,h=>h []
 |_::_,_,_,h=>λ_=>yN λ_=>h _
abbrev iy:=List (Nat×VT)
def y9:iy->List Atom
 |[]=>[]
 |(_,.one t)::J=>t::y9 J
 |(_,.agg l)::J=>l++y9 J
def J1(σ:Nat->Option Value):iy->Option (List Value)
 |[]=>Td []
 |(i,.one _)::J=>match σ i,J1 σ J with
  |some v,some vs=>Td (v::vs)
  |_,_=>Te
 |(i,.agg l)::J=>match σ i,J1 σ J with
  |some (.agg cs),some vs=>bif Nat.beq cs.toList.length l.length then Td (cs.toList++vs)else Te
  |_,_=>Te
def Z7:iy->List Value->bK
 |[],_=>[]
 |(i,.one _)::J,v::vs=>(i,[],v)::Z7 J vs
 |(_,.one _)::_,[]=>[]
 |(i,.agg l)::J,vs=>(i,[],.agg (vs.take l.length).toArray)::Z7 J (vs.drop l.length)
def lY(e:bK)(i:Nat):Option Value:=match look e i with
 |some ([],v)=>Td v
 |_=>Te
theorem Z8(h:Sat n e a){i:Nat}{v:Value}(b:lY e i=Td v):qh a i=v:=by unfold lY at b;split at b;rename_i u c;simp only[Ug]at b;subst b;exact(h.all _ (Xe c)).1 trivial;cases b
theorem qw{n:Nat}{e:bK}{a:Act}(h:Sat n e a):∀{J:iy} {vs:List Value},J1 (lY e) J=Td vs->J1 (λi=>Td (qh a i)) J=Td vs
 |[],vs,hv=>hv
 |(i,.one t)::J,vs,hv=>by simp only[J1]at hv ⊢;split at hv;rename_i v us h1 b;simp only[qw h b,Z8 h h1];exact hv;cases hv
 |(i,.agg l)::J,vs,hv=>by simp only[J1]at hv ⊢;split at hv;rename_i cs us h1 b;simp only[qw h b,Z8 h h1];exact hv;cases hv
theorem Wh{σ:Nat->Value}:∀{J:iy} {vs:List Value},J1 (λi=>Td (σ i)) J=Td vs->∀x∈Z7 J vs,fact σ x
 |[],vs,_,x,b=>by cases b
 |(i,.one t)::J,vs,hv,x,b=>by simp only[J1]at hv;split at hv;rename_i v us h1 e;simp only[Ug]at h1 hv;subst hv;simp only[Z7,Up]at b;rcases b with rfl|b;exact⟨λ_=>h1,λf=>absurd trivial f⟩;exact Wh e x b;cases hv
 |(i,.agg l)::J,vs,hv,x,b=>by
  simp only[J1]at hv;split at hv;rename_i cs us h1 e;simp only[Ug]at h1;cases hb:Nat.beq cs.toList.length l.length with
  |false=>simp_all
  |true=>rw[hb]at hv;simp only[zK,Ug]at hv;subst hv;have c:cs.toList.length=l.length:=UC hb;simp only[Z7,Up]at b;rcases b with rfl|b;refine⟨λ_=>?_,λf=>absurd trivial f⟩;simp_all;rw[<-c,List.drop_left]at b;exact Wh e x b
  cases hv
def Y4(ms:List Nat):bK->bK
 |[]=>[]
 |(i,[],v)::e=>bif J0 ms i then Y4 ms e else(i,[],v)::Y4 ms e
 |(_,_::_,_)::e=>Y4 ms e
theorem PN{x:Nat×qk×Value}(h:x∈Y4 ms e):x∈e/\x.2.1=[]/\x.1∉ms:=by
 induction e with
 |nil=>cases h
 |cons y e b=>
  obtain⟨i,c,v⟩:=y;cases c with
  |nil=>
   simp only[Y4]at h;cases hm:J0 ms i with
   |true=>simp_all
   |false=>rw[hm]at h;simp only[zL]at h;rcases Up.1 h with rfl|h;exact⟨UF,rfl,Ya hm⟩;simp_all
  |cons g c=>simp only[Y4]at h;simp_all
theorem Wi{a a1:Act}(l:Sat n e a)(h:a1.defers=[])(hz:a1.tmps.size=n)(b:Same ms a a1){J:iy}{vs:List Value}
  (o:J1 (λi=>Td (qh a1 i)) J=Td vs):Sat n (Z7 J vs++Y4 ms e) a1:=by
 refine⟨h,hz,λx c=>?_⟩;rcases Uo.1 c with c|c;exact Wh o x c;obtain⟨h1,f,k⟩:=PN c;have j:=l.all x h1;refine⟨λ_=>?_,λm=>absurd (by rw[f];trivial) m⟩;rw[b _ k];exact j.1 (by rw[f];trivial)
def yo:Code->Option Nat
 |.region id _ _=>Td id
 |.seq a b=>match yo a with
  |some i=>Td i
  |none=>yo b
 |.cond _ a b=>match yo a with
  |some i=>Td i
  |none=>yo b
 |.block _ b=>yo b
 |.loop b=>yo b
 |.scope b=>yo b
 |_=>Te
def wm:Code->List Nat
 |.region _ ops _=>wv ops.toList
 |.seq a b=>wm a++wm b
 |.cond _ a b=>wm a++wm b
 |.block _ b=>wm b
 |.loop b=>wm b
 |.scope b=>wm b
 |_=>[]
structure Plan where
 tails:List (Nat×Nat)
 loops:List (Nat×iy)
 joins:List (Nat×iy)
def CZ:List (Nat×iy)->Nat->Option iy
 |[],_=>Te
 |(j,m)::l,i=>bif Nat.beq i j then Td m else CZ l i
def pP(l:List (Nat×iy)):Option Nat->Option iy
 |some i=>CZ l i
 |none=>Te
abbrev Ye:=Exit->bK->zc->Prop
def mb(K:bK->zc->Prop)(Q:Ye):Ye
 |.normal,e,h=>K e h
 |x,e,h=>Q x e h
def lM(id:Nat)(Q:Ye):Ye
 |.exit i,e,h=>bif Nat.beq i id then Q .normal e h else Q (.exit i) e h
 |x,e,h=>Q x e h
def Oe(Q:Ye):Ye
 |.goto _,_,_=>False
 |x,e,h=>Q x e h
def pj{X:Type}(J:iy)(F:jK (y9 J) X)(e:bK)(k:X->Prop):Prop:=
 match J1 (lY e) J with
 |some vs=>match iG (y9 J) vs F with
  |some q=>k q
  |none=>False
 |none=>False
def CM(J:iy)(rest:bK->zc->Prop)(F:(bK->zc->Prop)->Prop)(b:bK):Prop:=
 ∀K:jK (y9 J) (zc->Prop),qB (y9 J) K (λvs q=>∀h,rest (Z7 J vs++b) h->q h)->F λe h=>pj J K e λq=>q h
def um(J:iy)(body:(bK->zc->Prop)->bK->zc->Prop)(b e:bK)(h:zc):Prop:=
 ∃(I:jK (y9 J) (zc->Prop)) (μ:jK (y9 J) (zc->Nat)),(pj J (nq (y9 J) I μ) e λp=>p.1 h) /\
  qB (y9 J) (nq (y9 J) I μ) λvs p=>∀h,p.1 h->body (λc h'=>pj J (nq (y9 J) I μ) c λq=>q.1 h'/\q.2 h'<p.2 h) (Z7 J vs++b) h
def W(P:Program)(n:Nat)(pl:Plan):Code->Ye->bK->zc->Prop
 |.skip,Q,e,h=>Q .normal e h
 |.ret,Q,e,h=>Q .ret e h
 |.exit id,Q,e,h=>Q (.exit id) e h
 |.label _,Q,e,h=>Q .normal e h
 |.goto l,Q,e,h=>Q (.goto l) e h
 |.region id ops draw,Q,e,h=>regionF P n pl.tails id ops draw (λe h=>Q .normal e h) e h
 |.seq x y,Q,e,h=>match pP pl.joins (yo y)with
  |none=>W P n pl x (mb (λe h=>W P n pl y Q e h) Q) e h
  |some J=>CM J (λe h=>W P n pl y Q e h) (λK=>W P n pl x (mb K Q) e h) (Y4 (wm x) e)
 |.cond c x y,Q,e,h=>match Jz e [] c with
  |some (.bool b)=>(b=Ta->W P n pl x Q e h)/\(b=Tc->W P n pl y Q e h)
  |_=>False
 |.block id x,Q,e,h=>W P n pl x (lM id Q) e h
 |.loop x,Q,e,h=>match pP pl.loops (yo x)with
  |some J=>um J (λf e h=>W P n pl x (mb f Q) e h) (Y4 (wm x) e) e h
  |none=>False
 |.scope x,Q,e,h=>W P n pl x (Oe Q) e h
 |_,_,_,_=>False
def Ge(n:Nat)(B:World)(ms:List Nat)(b:Act)(Q:Ye):Exit->Act->World->Prop:=
 λx a w=>∃e d h,w=mk B d h/\Sat n e a/\Same ms b a/\Q x e h
theorem Wj{X:Type}{J:iy}{F:jK (y9 J) X}{k:X->Prop}(h:pj J F e k):∃vs q,J1 (lY e) J=Td vs/\iG (y9 J) vs F=Td q/\k q:=by unfold pj at h;grind
theorem R9(hm:P.follows .mixedOrders=Ta){pl:Plan}:∀(c:Code) (Q:Ye) (e:bK) (h:zc),W P n pl c Q e h ->
  ∀(B:World) (d:Nat) (a:Act),Sat n e a->c.wp P (Ge n B (wm c) a Q) a (mk B d h):=by
 intro c;induction c with
 |skip=>exact λQ e h H B d a f=>wp_skip ⟨e,d,h,rfl,f,Same.refl _ _,H⟩
 |ret=>exact λQ e h H B d a f=>wp_ret ⟨e,d,h,rfl,f,Same.refl _ _,H⟩
 |exit id=>exact λQ e h H B d a f=>wp_exit ⟨e,d,h,rfl,f,Same.refl _ _,H⟩
 |label l=>exact λQ e h H B d a f=>wp_label ⟨e,d,h,rfl,f,Same.refl _ _,H⟩
 |goto l=>exact λQ e h H B d a f=>wp_goto ⟨e,d,h,rfl,f,Same.refl _ _,H⟩
 |region id ops ak=>exact λQ e h H B d a f=>DN hm H B d f λe' a' d' h' j o q3=>⟨e',d',h',rfl,j,o,q3⟩
 |seq x y z A=>
  intro Q e h H B d a f;simp only[W]at H;have E:∀i∈wm x,i∈wm (x.seq y):=λi hi=>Uv _ hi;have O:∀i∈wm y,i∈wm (x.seq y):=λi hi=>UH _ hi;split at H;refine wp_seq (wp_mono (z _ _ _ H B d a f) ?_);rintro ex a1 w1 ⟨t,d1,h1,rfl,s1,m,j⟩;cases ex with
  |normal=>refine wp_mono (A _ _ _ j B d1 a1 s1) ?_;rintro ex a2 w2 ⟨r,d2,u,rfl,s2,w,o⟩;exact⟨r,d2,u,rfl,s2,(m.mono E).trans (w.mono O),o⟩
  |_=>exact⟨t,d1,h1,rfl,s1,m.mono E,j⟩
  rename_i J hJ;have H':=H (ny (y9 J) λvs=>λh=>W P n pl y Q (Z7 J vs++Y4 (wm x) e) h) (yN λvs h G=>G);refine wp_seq (wp_mono (z _ _ _ H' B d a f) ?_);rintro ex a1 w1 ⟨t,d1,h1,rfl,s1,m,j⟩;cases ex with
  |normal=>obtain⟨vs,q,N,G,hk⟩:=Wj j;have Y:=yC G;subst Y;have S:Sat n (Z7 J vs++Y4 (wm x) e) a1:=Wi f s1.defers s1.size m (qw s1 N);refine wp_mono (A _ _ _ hk B d1 a1 S) ?_;rintro ex a2 w2 ⟨r,d2,u,rfl,s2,w,o⟩;exact⟨r,d2,u,rfl,s2,(m.mono E).trans (w.mono O),o⟩
  |_=>exact⟨t,d1,h1,rfl,s1,m.mono E,j⟩
 |cond c x y z A=>intro Q e h H B d a f;simp only[W]at H;have E:∀i∈wm x,i∈wm (XS c x y):=λi hi=>Uv _ hi;have O:∀i∈wm y,i∈wm (XS c x y):=λi hi=>UH _ hi;split at H;rename_i b C;refine wp_cond_split (ql f (c:=[]) trivial C) (λT=>?_) (λac=>?_);refine wp_mono (z _ _ _ (H.1 T) B d a f) ?_;rintro ex a2 w2 ⟨r,d2,u,rfl,s2,w,o⟩;exact⟨r,d2,u,rfl,s2,w.mono E,o⟩;refine wp_mono (A _ _ _ (H.2 ac) B d a f) ?_;rintro ex a2 w2 ⟨r,d2,u,rfl,s2,w,o⟩;exact⟨r,d2,u,rfl,s2,w.mono O,o⟩;exact H.elim
 |block id x L=>
  intro Q e h H B d a f;refine wp_block (wp_mono (L _ _ _ H B d a f) ?_);rintro ex a1 w1 ⟨t,d1,h1,rfl,s1,m,j⟩;cases ex with
  |exit i=>simp only[lM]at j;simp only[Exit.inBlock];by_cases C:Nat.beq i id=Ta;rw[zA (UC C)];simp only[C,zK]at j;exact⟨t,d1,h1,rfl,s1,m,j⟩;rw[zv (λhe=>C (by rw[he];simp))];simp only[C,zL]at j;exact⟨t,d1,h1,rfl,s1,m,j⟩
  |_=>exact⟨t,d1,h1,rfl,s1,m,j⟩
 |loop x L=>
  intro Q e h H B d a f;simp only[W]at H;split at H;rename_i J hJ;obtain⟨I,μ,h0,D⟩:=H;obtain⟨aa,p0,ai,aj,ah⟩:=Wj h0;let F:=nq (y9 J) I μ;let at_:Act->Option ((zc->Prop)×(zc->Nat)):=λa1=>(J1 (λi=>Td (qh a1 i)) J).bind λvs=>iG (y9 J) vs F;refine wp_loop (λa1 w1=>∃d1 h1 vs p,w1=mk B d1 h1/\a1.defers=[]/\a1.tmps.size=n/\Same (wm x) a a1/\J1 (λi=>Td (qh a1 i)) J=Td vs/\iG (y9 J) vs F=Td p/\p.1 h1) (λa1 w1=>match at_ a1 with|some p=>p.2 w1.heap|none=>0) ⟨d,h,aa,p0,rfl,f.defers,f.size,Same.refl _ _,qw f ai,aj,ah⟩ ?_;rintro a1 w1 ⟨d1,h1,vs,p,rfl,U,af,k,N,hp,hI⟩;have s1:Sat n (Z7 J vs++Y4 (wm x) e) a1:=Wi f U af k N;have C:=tO hp D h1 hI;refine wp_mono (L _ _ _ C B d1 a1 s1) ?_;rintro ex a2 w2 ⟨r,d2,u,rfl,s2,w,o⟩;cases ex with
  |normal=>
   obtain⟨Z,q,M,G,V,ae⟩:=Wj o;refine⟨⟨d2,u,Z,q,rfl,s2.defers,s2.size,k.trans w,qw s2 M,G,V⟩,?_⟩;have t:at_ a1=Td p:=by simp only[at_,N,VK];exact hp
   have r:at_ a2=Td q:=by simp only[at_,qw s2 M,VK];exact G
   rw[t,r];exact ae
  |_=>exact⟨r,d2,u,rfl,s2,k.trans w,o⟩
  exact H.elim
 |scope x L=>
  intro Q e h H B d a f;refine wp_scope_straight (wp_mono (L _ _ _ H B d a f) ?_);rintro ex a1 w1 ⟨t,d1,h1,rfl,s1,m,j⟩;cases ex with
  |goto l=>exact j
  |_=>exact⟨t,d1,h1,rfl,s1,m,j⟩
 |_=>exact λQ e h H=>H.elim
def kf:Nat->List Value->bK
 |_,[]=>[]
 |i,v::vs=>(i,[],v)::kf (i+1) vs
def kj(P:Program)(h:zc)(e:bK):List ResultVar->(List Value->Prop)->Prop
 |[],K=>K []
 |.tmp t::l,K=>match lY e t with
  |some v=>kj P h e l λvs=>K (v::vs)
  |none=>False
 |.cell a t::l,K=>match lY e a with
  |some p=>mK P h t p Te λv=>kj P h e l λvs=>K (v::vs)
  |none=>False
def kE:List Value->Value
 |[v]=>v
 |vs=>.tuple vs.toArray
def rI(P:Program)(rs:List ResultVar)(R:Value->zc->Prop):Ye
 |.normal,e,h=>kj P h e rs λvs=>R (kE vs) h
 |.ret,e,h=>kj P h e rs λvs=>R (kE vs) h
 |_,_,_=>False
def mQ(tmps:Array Value):ResultVar->Sem Value
 |.tmp t=>pure (tmps.getD t undef)
 |.cell a t=>do loadVar t (<-asAddr (tmps.getD a undef))
theorem vD{P:Program}{n:Nat}{h:zc}{e:bK}{a:Act}(c:Sat n e a):∀{l:List ResultVar} {K:List Value->Prop},kj P h e l K->∃vs,K vs/\vs.length=l.length/\QExec P (l.mapM (mQ a.tmps)) h vs
 |[],K,H=>⟨[],H,rfl,λ_ _=>by simp⟩
 |.tmp t::l,K,H=>by simp only[kj]at H;split at H;rename_i v o;obtain⟨vs,h1,f,i⟩:=vD c H;refine⟨v::vs,h1,by simp[f],?_⟩;rw[XR];refine QExec.bind (x:=v) ?_ (i.bind (QExec.pure _));rw[<-Z8 c o];exact QExec.pure _;exact H.elim
 |.cell x t::l,K,H=>by simp only[kj]at H;split at H;rename_i p j;obtain⟨v,q,m⟩:=Gv H;obtain⟨vs,h1,f,i⟩:=vD c q;refine⟨v::vs,h1,by simp[f],?_⟩;rw[XR];refine QExec.bind (x:=v) ?_ (i.bind (QExec.pure _));have k:a.tmps.getD x undef=p:=Z8 c j;simp only[mQ,k];have b:=m trivial;unfold WQ at b;unfold mK at H;split at H;exact b;exact b;exact H.elim;exact H.elim
theorem Z9{fn:Func}(j:Sat n e a){rs:List ResultVar}(f:fn.results.toList=rs)(H:kj P h e rs λvs=>R (kE vs) h):
  ∃v,R v h/\QExec P (results fn a.tmps) h v:=by
 obtain⟨vs,h1,c,i⟩:=vD j H;refine⟨_,h1,?_⟩;intro B d;have b:results fn a.tmps=(fn.results.mapM (mQ a.tmps) >>= λvs=>WW (if h:vs.size=1 then vs[0]else .tuple vs)):=by unfold results;congr 1
 rw[b,Array.mapM_eq_mapM_toList,f,Sem.run_bind,Sem.run_map,i B d];simp only[Result.andThen_ok,Sem.run_pure]
 match vs,c with
 |[],_=>rfl
 |[v],_=>rfl
 |v::u::vs,_=>simp[kE]
theorem Xj(args:Array Value)(k:Nat):∀(vs:List Value) (i:Nat),(∀j v,vs[j]?=Td v->(args++VZ k undef).getD (i+j) undef=v) ->
  ∀x∈kf i vs,fact (λi=>(args++VZ k undef).getD i undef) x
 |[],_,_,x,b=>by cases b
 |v::vs,i,h,x,b=>by simp only[kf,Up]at b;rcases b with rfl|b;exact⟨λ_=>h 0 v rfl,λe=>absurd trivial e⟩;exact Xj args k vs (i+1) (λj u c=>by have:=h (j+1) u (by simpa using c);grind) x b
theorem RH(r:P.follows .mixedOrders=Ta){fn:Func}{c:Code}(pl:Plan)(vs:List Value){rs:List ResultVar}(o:P.funcs[f]?=Td fn)(m:fn.body=Td c)(l:fn.results.toList=rs)(q:fn.ntmps=n)
  (hz:Nat.ble vs.length n=Ta) (H:W P n pl c (rI P rs R) (kf 0 vs) h):XC P f vs.toArray h R:=by
 intro B d;subst q;refine calls_of_wp o m ?_;have u:vs.length<=fn.ntmps:=VE hz;have p:Sat fn.ntmps (kf 0 vs) { tmps:=vs.toArray++VZ (fn.ntmps-vs.toArray.size) undef,defers:=[] }:=by
  refine⟨rfl,by simp;omega,?_⟩;refine Xj vs.toArray _ vs 0 λj v t=>?_;have i:j<vs.length:=by rcases Va j vs.length with h|h;exact h;simp_all
  simp only[Uy,Vh];rw[VU (by simpa using i)];simp[t]
 refine wp_mono (R9 r c _ _ _ H B d _ p) ?_;rintro ex a w ⟨z,d1,h1,rfl,s1,y,e⟩;cases ex with
 |normal=>obtain⟨v,k,b⟩:=Z9 s1 l e;exact⟨s1.defers,v,b B d1,v,d1,h1,rfl,rfl,k⟩
 |ret=>obtain⟨v,k,b⟩:=Z9 s1 l e;exact⟨s1.defers,v,b B d1,v,d1,h1,rfl,rfl,k⟩
 |_=>exact e.elim
def codeOf(fn:Func):Code:=match fn.body with
 |some c=>c
 |none=>.skip
def Qa(fn:Func):Bool:=match fn.body with
 |some _=>Ta
 |none=>Tc
theorem I2(e:P.follows .mixedOrders=Ta)(pl:Plan)(vs:List Value){fn:Func}{rs:List ResultVar}(i:P.funcs[f]?=Td fn)(b:Qa fn=Ta)(j:fn.results.toList=rs)(k:fn.ntmps=n)
  (hz:Nat.ble vs.length n=Ta) (H:W P n pl (codeOf fn) (rI P rs R) (kf 0 vs) h):XC P f vs.toArray h R:=by
 have c:fn.body=Td (codeOf fn):=by unfold Qa at b;unfold codeOf;split at b;omega;cases b
 grind [RH]
end
section
variable {n:Nat} {h h':zc} {a:Addr} {e t ty:TypeId} {xs news:List Value} {P:Program} {z:Value}
theorem qp(h:zc)(o:Obj):(h.push o)[h.size]?=Td o:=by simp
theorem OI(k:Keep n h h')(b:a.block<n):zd h' a=zd h a:=by unfold zd;rw[k.get _ b]
theorem Hb(e:h'[a.block]?=h[a.block]?):zd h' a=zd h a:=by unfold zd;rw[e]
def Arr(n:Nat)(h:zc)(a:Option Addr)(cs:List Value):Prop:=
 cs=[]\/∃b o,a=Td ⟨b,o,Te⟩/\b<n/\∀i v,cs[i]?=Td v->zd h ⟨b,o+i,Te⟩=Td v
theorem Arr.keep{a:Option Addr}{cs:List Value}(H:Arr n h a cs)(k:Keep n h h'):Arr n h' a cs:=by rcases H with e|⟨b,o,e,c,f⟩;exact .inl e;exact .inr ⟨b,o,e,c,λi v hi=>(OI k (a:=⟨b,o+i,Te⟩) c).trans (f i v hi)⟩
theorem zh(b o i:Nat):(⟨b,o,Te⟩:Addr).add i=⟨b,o+i,Te⟩:=by unfold Ue;simp
theorem BS(a:Option Addr)(sz m:Nat):im a sz 0 m=a:=by
 unfold im;split;rfl;cases a with
 |none=>rfl
 |some p=>simp[Ue]
theorem wrap64{n:Int}(h1:-9223372036854775808<=n)(f:n<=9223372036854775807):Ud .i64 n=n:=by
 unfold Ud;have e:(2:Int) ^ U7 .i64=18446744073709551616:=by decide
 have b:(2:Int) ^ (U7 .i64-1)=9223372036854775808:=by decide
 simp only[e,b];have c:XZ .i64=Ta:=rfl;grind
theorem zq{k:Nat}(h:k<9223372036854775807):Ud .i64 ((k:Int)+1)=((k+1:Nat):Int):=by grind [wrap64]
def Owns(h:zc)(base:Nat)(e:TypeId)(sz:Nat)(s:Sl)(xs:List Value):Prop:=
 (mk default 0 h).ownsRow base e sz (.slice s.a s.len s.cap) s.len xs
theorem Owns.nil(h:zc)(base:Nat)(e:TypeId)(sz:Nat):Owns h base e sz ⟨Te,0,0⟩ []:=World.ownsRow_nil _ _ _ _
theorem Owns.length{base:Nat}{sz:Nat}{s:Sl}(H:Owns h base e sz s xs):xs.length=s.len*sz:=H.1
theorem Owns.arr{base:Nat}{sz:Nat}{s:Sl}(H:Owns h base e sz s xs):Arr h.size h s.a xs:=by rcases H.2 with⟨f,h0⟩|⟨g,cap,b,f,p,k,m,q,n,o⟩;have j:=H.1;rw[h0]at j;exact .inl (by simpa using j);simp only[UY]at f;have c:g<h.size:=(Uu.1 k).1;refine .inr ⟨g,0,f.1,c,λi v hi=>?_⟩;have l:h[g]?=Td (.cells b e (0,0)):=k;unfold zd;grind
theorem Owns.base_le{base:Nat}{sz:Nat}{s:Sl}(H:Owns h base e sz s xs):∀p,s.a=Td p->base<=p.block/\p.block<h.size:=by intro p b;exact World.ownsRow.lt H p.block (by simp[Value.ownBlock,b])
theorem Owns.keep{base:Nat}{sz:Nat}{s:Sl}(H:Owns h base e sz s xs)(k:∀p,s.a=Td p->h'[p.block]?=h[p.block]?):Owns h' base e sz s xs:=by refine⟨H.1,?_⟩;rcases H.2 with j|⟨g,cap,b,c,f,i,rest⟩;grind;simp only[UY]at c;refine .inr ⟨g,cap,b,by simp[c],f,?_,rest⟩;have:=k _ c.1;exact this.trans i
theorem Owns.keepN{base:Nat}{sz:Nat}{s:Sl}(H:Owns h base e sz s xs)(k:Keep h.size h h'):Owns h' base e sz s xs:= H.keep λp b=>k.get _ (H.base_le p b).2
structure ElemT (P:Program) (t e:TypeId) (z:Value) (sz bytes:Nat):Prop where
 slice:P.underlying t=Td (.slice e)
 info:∃i,P.info? e=Td i/\i.zero=Td z/\i.size=sz/\i.bytes=bytes
 zero:z.cells.size=sz
 pos:0<sz
theorem Ea{w:World}{i:TypeInfo}{sz bytes base:Nat}(A:P.underlying t=Td (.slice e))(hi:P.info? e=Td i)(hz:i.zero=Td z)(C:i.size=sz)(D:i.bytes=bytes) {v:Value} (f:w.ownsRow base e sz v n xs) {m c:Nat} (y:news.length=m*sz) (b:∀j u,news[j]?=Td u->w.cell? (a.add j)=Td u) (h1:∀u∈news,u.oneCell'=Ta) (N:n+m<=4611686018427387904) (k:(n+m)*bytes<=140737488355328) {H:Value} {w':World} (Y:(Us #[t,t] ty #[v,.slice (Td a) m c]).run P w=.ok H w'):
  ∀B l I,H=.slice (Td B) l I->(∃p O V,v=.slice (Td p) O V/\B.block=p.block)\/B.block=w.heap.size:=by
 subst C D;intro B l I M;rcases f.2 with⟨rfl,rfl⟩|⟨g,cap,q,rfl,Q,L,S,J,G,E⟩;by_cases U:m=0;subst U;have T:news=[]:=UN (by simpa using y);subst T;have F:(Us #[t,t] ty #[.slice Te 0 0,.slice (Td a) 0 c]).run P w=.ok (.slice Te 0 0) w:=by simp[Us,run_underlying A,sizeOf,typeInfo,hi,Builtin.lenOf,VQ,loadCells,loadCellsFrom]
 simp_all;have F:=run_append_nil (P:=P) (ty:=ty) w t e i z A hi hz a m c news y b (by omega) (by omega) (by grind);grind;by_cases h:n+m<=cap;have r:n*i.size+news.length<=q.size:=by rw[y,G,<-VH];exact UM _ h
 have F:=run_append_room (P:=P) (ty:=ty) w t e i A hi g n cap q L a m c news y b h1 h r;simp_all;have o:∀j u,xs[j]?=Td u->w.cell? ((⟨g,0,Te⟩:Addr).add j)=Td u:=f.cells (g:=g) rfl;have F:=run_append_grow (P:=P) (ty:=ty) w t e i z A hi hz ⟨g,0,Te⟩ n cap xs f.1 o a m c news y b (by omega) (by omega) (growslice_fits (by omega) k);grind
theorem xw{sz bytes:Nat}(T:ElemT P t e z sz bytes){base:Nat}{s:Sl}(H:Owns h base e sz s xs) {src:Sl} (hs:Arr n h src.a news) (hl:news.length=src.len*sz) (h1:∀u∈news,u.oneCell'=Ta) (m:(s.len+src.len)*bytes<=140737488355328) (M:s.len+src.len<=4611686018427387904) (r:base<=h.size) {K:Value->zc->Prop} (hK:∀(f:Sl) (h':zc),f.len=s.len+src.len->Owns h' base e sz f (xs++news)->(∀i,i<h.size->(∀p,s.a=Td p->i≠p.block)->h'[i]?=h[i]?)->h.size<=h'.size->(∀k,f.a=Td k->(∃p,s.a=Td p/\k.block=p.block)\/k.block=h.size)->K (.slice f.a f.len f.cap) h'):
  qt P (Us #[t,t] ty #[.slice s.a s.len s.cap,.slice src.a src.len src.cap]) h K:=by
 intro B d;obtain⟨i,hi,hz,D,E⟩:=T.info;have key:∃A w',(Us #[t,t] ty #[.slice s.a s.len s.cap,.slice src.a src.len src.cap]).run P (mk B d h)=.ok A w'/\w'.ownsRow base e sz A (s.len+src.len) (xs++news)/\(mk B d h).grownBy w' (Value.ownBlock (.slice s.a s.len s.cap)) /\
   ∀k l L,A=.slice (Td k) l L->(∃p,s.a=Td p/\k.block=p.block)\/k.block=h.size:=by
  have c:(mk B d h).ownsRow base e sz (.slice s.a s.len s.cap) s.len xs:=H;rcases hs with U|⟨b,o,U,V,hc⟩;subst U;have h0:src.len=0:=by rcases WR src.len with h0|h0;exact h0;have:=Nat.mul_pos h0 T.pos;grind
  rw[h0];have S:∃q,q=src.a:=⟨_,rfl⟩;obtain⟨q,Z⟩:=S;rw[<-Z];cases q with
  |none=>
   refine⟨_,mk B d h,?_,by simpa using c,⟨rfl,rfl,rfl,Uf _,λ_ _ _=>rfl⟩,λk l L C=>.inl ⟨k,by simp_all,rfl⟩⟩;have hT:=T.slice;have ac:s.len<=s.cap:=by rcases c.2 with⟨J,O⟩|⟨g,cap,aa,J,_,_,af,_⟩;omega;simp_all
   generalize s.a=sa at *;cases sa <;> simp[Us,run_underlying hT,sizeOf,typeInfo,hi,Builtin.lenOf,VQ,ac,storeCells]
  |some p=>obtain⟨A,w',F,I,y,_⟩:=run_append_own (P:=P) (w:=mk B d h) base t ty e i z sz bytes T.slice hi hz D E T.zero T.pos (.slice s.a s.len s.cap) s.len xs c p 0 src.cap [] (by simp) (by simp) (by simp) (by unfold maxLen;omega) (by simp_all) r;refine⟨A,w',F,I,y,λk l L C=>?_⟩;rcases Ea T.slice hi hz D E c (news:=[]) (by simp) (by simp) (by simp) (by omega) (by simp_all) F k l L C with⟨q,l0,c0,Z,V⟩|V;simp_all;exact .inr V
  rw[U];obtain⟨A,w',F,I,y,_⟩:=run_append_own (P:=P) (w:=mk B d h) base t ty e i z sz bytes T.slice hi hz D E T.zero T.pos (.slice s.a s.len s.cap) s.len xs c ⟨b,o,Te⟩ src.len src.cap news hl (λj u hu=>by rw[zh];exact hc j u hu) h1 (by unfold maxLen;omega) m r;refine⟨A,w',F,I,y,λk l L C=>?_⟩;rcases Ea T.slice hi hz D E c hl (λj u hu=>by rw[zh];exact hc j u hu) h1 M m F k l L C with⟨q,l0,c0,Z,N⟩|N;simp_all;exact .inr N
 obtain⟨A,w',F,I,y,r4⟩:=key;have hw:w'=mk B w'.drawn w'.heap:=by have J:=y.os;have O:=y.tape;have e3:=y.output;cases w';simp only[mk]at *;subst J;subst O;subst e3;rfl
 rw[hw]at F;have hv:∃f:Sl,A=.slice f.a f.len f.cap/\f.len=s.len+src.len:=by rcases I.2 with⟨J,O⟩|⟨g,cap,aa,J,_⟩;exact⟨⟨Te,0,0⟩,J,O.symm⟩;exact⟨⟨Td ⟨g,0,Te⟩,s.len+src.len,cap⟩,J,rfl⟩
 obtain⟨f,rfl,G⟩:=hv;refine⟨_,_,_,F,hK f w'.heap G ?_ ?_ y.size λk Y=>r4 k f.len f.cap (by rw[Y])⟩;rw[<-G]at I;exact I;intro j hj ae;refine y.block j hj λQ=>?_;cases S:s.a with
 |none=>rw[S]at Q;cases Q
 |some p=>rw[S]at Q;simp only[Value.ownBlock,Ug]at Q;grind
end
section
variable {h:zc} {m:Nat} {P:Program} {kt t et:TypeId} {z:Value}
def X1(l:List (Bt×Value))(k:Bt):Option Value:=match l with
 |[]=>Te
 |p::l=>if p.1=k then Td p.2 else X1 l k
def kH(l:List (Bt×Value))(k:Bt)(v:Value):List (Bt×Value):=match l with
 |[]=>[(k,v)]
 |p::l=>if p.1=k then(k,v)::l else p::kH l k v
theorem KD(l:List (Bt×Value))(k b:Bt)(v:Value):X1 (kH l k v) b=if k=b then Td v else X1 l b:=by
 induction l with
 |nil=>simp[kH,X1]
 |cons p l c=>simp only[kH];split;rename_i h;simp only[X1];simp_all;rename_i h;simp only[X1,c];grind
def MapAt(h:zc)(m:Nat)(l:List (Bt×Value)):Prop:=∃c b,h[m]?=Td (.map c b)/\c.toList.map (λe=>(e.key,e.val))=l.map λp=>(UA p.1,p.2)
theorem MapAt.keep{h h':zc}{l:List (Bt×Value)}(H:MapAt h m l)(k:h'[m]?=h[m]?):MapAt h' m l:=by obtain⟨e,c,h1,b⟩:=H;exact⟨e,c,k.trans h1,b⟩
theorem MapAt.lt{l:List (Bt×Value)}(H:MapAt h m l):m<h.size:=by obtain⟨b,c,h1,e⟩:=H;grind
theorem MapAt.new(h:zc):MapAt (h.push (.map #[] 0)) h.size []:=⟨#[],0,qp _ _,rfl⟩
structure MapT (P:Program) (t kt et:TypeId) (z:Value):Prop where
 map:P.underlying t=Td (.map kt et)
 key:P.underlying kt=Td .string
 zero:∃i,P.info? et=Td i/\i.zero=Td z
theorem sJ(a b:Bt):(a==b)=decide (a=b):=by show ByteArray.beq a b=_;cases a;cases b;rw[UR];simp[ByteArray.beq]
instance lawfulBA:LawfulBEq Bt where
 eq_of_beq:=λ {a b} h=>by rw[sJ]at h;simpa using h
 rfl:=λ {a}=>by rw[sJ];simp
theorem Y5(k:Bt):∀(f:List MapEntry) (l:List (Bt×Value)) (i:Nat),f.map (λe=>(e.key,e.val))=l.map (λp=>(UA p.1,p.2)) ->
  (X1 l k=Te/\VO .string (.string k) f i=Td Te)\/(∃j v e,X1 l k=Td v/\f[j]?=Td e/\e.key=.string k/\e.val=v/\VO .string (.string k) f i=Td (Td (i+j,v)) /\ ∀w,(f.modify j λe=>{ e with key:=.string k,val:=w }).map (λe=>(e.key,e.val))=(kH l k w).map λp=>(UA p.1,p.2))
 |[],l,i,h=>by
  have:l=[]:=by cases l <;> simp_all
  subst this;exact .inl ⟨rfl,rfl⟩
 |e::f,l,i,h=>by
  cases l with
  |nil=>simp at h
  |cons p l=>
   simp only[UJ,VY,Vl]at h;obtain⟨⟨h1,m⟩,n⟩:=h;by_cases c:p.1=k;refine .inr ⟨0,p.2,e,by simp[X1,c],rfl,by rw[h1,c],m,?_,λw=>?_⟩;have b:(k==p.1)=Ta:=by rw[sJ];simpa using c.symm
   simp[VO,XN,h1,m,b];simp[kH,c,n];have b:(k==p.1)=Tc:=by rw[sJ];simpa using λe=>c e.symm
   rcases Y5 k f l (i+1) n with⟨g1,g2⟩|⟨j,v,t,g1,g2,u,o,r,q⟩;refine .inl ⟨by simp[X1,c,g1],?_⟩;simp[VO,XN,h1,b,g2];refine .inr ⟨j+1,v,t,by simp[X1,c,g1],by simpa using g2,u,o,?_,λw=>?_⟩;simp[VO,XN,h1,b,r];omega;simp[kH,c,h1,m,q w]
theorem Wk(c:P.underlying kt=Td .string)(b:Bool)(k:Bt)(h:zc):QExec P (Instr.checkKey b 10000 kt (.string k)) h ():=by intro B d;have e:=QExec.underlying (h:=h) c B d;unfold Instr.checkKey;simp_all
theorem xx(c:P.underlying kt=Td .string)(k:Bt)(b:List MapEntry)(r:Option (Nat×Value))(h:zc)(e:VO .string (.string k) b 0=Td r):
  QExec P (Instr.findKey kt (.string k) b) h r:=by
 intro B d;have f:=QExec.underlying (h:=h) c B d;unfold Instr.findKey;simp_all
theorem Z0{b:Array MapEntry}{c:Nat}(e:h[m]?=Td (.map b c)):QExec P (getObj m) h (.map b c):=by intro B d;have:(mk B d h).heap[m]?=Td (.map b c):=e;simp[getObj,Sem.run,this]
theorem OU(hz:∃i,P.info? t=Td i/\i.zero=Td z):QExec P (zeroValue t) h z:=by obtain⟨i,h1,b⟩:=hz;intro B d;simp[zeroValue,typeInfo,program,h1,b,Sem.run]
def iU(l:List (Bt×Value))(k:Bt)(z:Value):Value:=(X1 l k).getD z
theorem Qb(T:MapT P t kt et z){l:List (Bt×Value)}(H:MapAt h m l)(k:Bt)(ok:Bool):
  QExec P (VF t (.map (Td m)) (.string k) ok) h (if ok then .tuple #[iU l k z,.bool (X1 l k).isSome]else iU l k z):=by
 obtain⟨b,c,h1,f⟩:=H;intro B d;have i:=QExec.underlying (h:=h) T.map B d;have n:=Z0 (P:=P) h1 B d;have p:=Wk T.key b.isEmpty k h B d;unfold VF;rw[Sem.run_bind,i];simp only[Result.andThen_ok,Sem.run_bind,n,Sem.run_pure,p];rcases Y5 k b.toList l 0 f with⟨g1,g2⟩|⟨j,v,e,g1,g2,r,q,o,_⟩;rw[xx T.key k b.toList Te h g2 B d];have hz:=OU (h:=h) T.zero B d;simp only[Result.andThen_ok,Sem.run_bind,hz,Sem.run_pure,iU,g1];simp;rw[xx T.key k b.toList _ h o B d];simp only[Result.andThen_ok,iU,g1];simp
theorem Y6{l:List (Bt×Value)}{k:Bt}{v:Value}(g:X1 l k=Te):kH l k v=l++[(k,v)]:=by
 induction l with
 |nil=>rfl
 |cons p l c=>simp only[X1]at g;split at g;cases g;rename_i b;simp[kH,b,c g]
theorem Pr(T:MapT P t kt et z){l:List (Bt×Value)}(H:MapAt h m l)(k:Bt)(v:Value){K:zc->Prop}
  (y:∀h':zc,MapAt h' m (kH l k v)->h'.size=h.size->(∀i,i≠m->h'[i]?=h[i]?)->K h'):XRunU P (VC t (.map (Td m)) (.string k) v) h K:=by
 have f:=H.lt;obtain⟨b,c,h1,q⟩:=H;intro B d;have r:=QExec.underlying (h:=h) T.map B d;have w:=Z0 (P:=P) h1 B d;have A:=Wk T.key Tc k h B d;have n:∀o:Obj,(setObj m o).run P (mk B d h)=.ok () (mk B d (h.setIfInBounds m o)):=by intro o;have:(mk B d h).heap[m]?=Td (.map b c):=h1;simp[setObj,Sem.run,this];rfl
 unfold VC;rcases Y5 k b.toList l 0 q with⟨g1,g2⟩|⟨j,I,e,g1,g2,D,E,C,F⟩;refine⟨d,h.setIfInBounds m (.map (b.push { key:=.string k,val:=v,born:=c }) (c+1)),?_,y _ ⟨b.push { key:=.string k,val:=v,born:=c },c+1,by simp[f],?_⟩ (by simp) (λi hi=>by grind)⟩;rw[Sem.run_bind,r];simp only[Result.andThen_ok,Sem.run_bind,w,A];rw[xx T.key k b.toList Te h g2 B d];simp_all;rw[Y6 g1];simp[q];have u:j<b.size:=by have:=(UV.1 g2).1;simpa using this
 refine⟨d,_,?_,y (h.setIfInBounds m (.map (b.modify j λe=>{ e with key:=.string k,val:=v }) c)) ⟨b.modify j λe=>{ e with key:=.string k,val:=v },c,by simp[f],?_⟩ (by simp) (λi hi=>by grind)⟩;rw[Sem.run_bind,r];simp only[Result.andThen_ok,Sem.run_bind,w,A];rw[xx T.key k b.toList _ h C B d];simp only[Result.andThen_ok,Uy];have p:((b[j]?).map (·.key)).getD (.string k)=.string k:=by
  have:b[j]?=Td e:=by simpa using g2
  rw[this];exact D
 rw[p];have G:WF (.string k) (.string k)=pure (.string k):=by unfold WF;rw[zA (by show(k==k)=Ta;simp)]
 simp_all;simp_all
end
section
variable {h h':zc} {b n o:Nat} {cs:Array Value} {v:Value} {P:Program}
def Blk(h:zc)(b:Nat)(cs:Array Value):Prop:=∃T,h[b]?=Td (.cells cs T (0,0))
theorem Blk.keep(H:Blk h b cs)(k:h'[b]?=h[b]?):Blk h' b cs:=by obtain⟨T,e⟩:=H;exact⟨T,k.trans e⟩
theorem Blk.keepN(H:Blk h b cs)(k:Keep n h h')(c:b<n):Blk h' b cs:=H.keep (k.get b c)
theorem Blk.new(h:zc)(cs:Array Value)(T:TypeId):Blk (h.push (.cells cs T)) h.size cs:=⟨T,qp _ _⟩
theorem Blk.lt(H:Blk h b cs):b<h.size:=by obtain⟨T,e⟩:=H;grind
theorem Blk.cell(H:Blk h b cs)(c:cs[o]?=Td v):zd h ⟨b,o,Te⟩=Td v:=by obtain⟨T,e⟩:=H;unfold zd;simp[e,c]
theorem Blk.cellAdd{b o k:Nat}(H:Blk h b cs)(c:cs[o+k]?=Td v):zd h ((⟨b,o,Te⟩:Addr).add k)=Td v:=by rw[zh];exact H.cell c
theorem Blk.ld{cs:List Value}(H:Blk h b cs.toArray):ze h ⟨b,0,Te⟩ 0 cs:=by
 have key:∀(l:List Value) (i:Nat),(∀j v,l[j]?=Td v->cs[i+j]?=Td v)->ze h ⟨b,0,Te⟩ i l:=by
  intro l;induction l with
  |nil=>intro i _;trivial
  |cons v l c=>intro i hi;refine⟨?_,c (i+1) λj u e=>?_⟩;rw[zh,Uy];exact H.cell (by have:=hi 0 v rfl;grind);have:=hi (j+1) u (by simpa using e);grind
 simp_all
theorem Keep.setBlk(o:Obj)(c:n<=b):Keep n h (h.setIfInBounds b o):= ⟨by simp,λi hi=>by grind⟩
theorem ul(H:Blk h b cs)(B:World)(d:Nat):(mk B d h).frozen? ⟨b,o,Te⟩=Tc:=by obtain⟨T,e⟩:=H;have:(mk B d h).heap[b]?=Td (.cells cs T (0,0)):=e;simp[World.frozen?,this]
theorem Cc{T:TypeId}(e:h[b]?=Td (.cells cs T (0,0)))(k:o<cs.size)(f:v.oneCell'=Ta)(B:World)(d:Nat):
  (store ⟨b,o,Te⟩ v).run P (mk B d h)=.ok () (mk B d (h.setIfInBounds b (.cells (cs.setIfInBounds o v) T (0,0)))):=by
 have l:(mk B d h).cell? ⟨b,o,Te⟩=Td cs[o]:=Blk.cell (h:=h) ⟨T,e⟩ (by simp[k]);have j:=ul (o:=o) (⟨T,e⟩:Blk h b cs) B d;have c:(mk B d h).setCell ⟨b,o,Te⟩ v=mk B d (h.setIfInBounds b (.cells (cs.setIfInBounds o v) T (0,0))):=by unfold World.setCell mk;simp only;congr 1;have m:b<h.size:=(Uu.1 e).1;apply XP;intro i;rw[Array.getElem?_modify];by_cases hi:i=b;simp_all;grind
 cases v with
 |agg x=>simp[Value.oneCell']at f
 |tuple x=>simp[Value.oneCell']at f
 |_=>simp only[store,Sem.run,l,j,Vm,if_false,c]
theorem cells_one(b:v.oneCell'=Ta):v.cells=#[v]:=by cases v <;> first|rfl|simp[Value.oneCell']at b
theorem jo{t:TypeId}(hi:qo P t=Ta)(k:je P t=1)(H:Blk h b cs)(f:o<cs.size)(c:v.oneCell'=Ta){K:zc->Prop}
  (m:∀h':zc,Blk h' b (cs.setIfInBounds o v)->h'.size=h.size->(∀i,i≠b->h'[i]?=h[i]?)->K h'):XRunU P (Uj t (.pointer (Td ⟨b,o,Te⟩)) v) h K:=by
 obtain⟨T,e⟩:=H;have j:b<h.size:=(Uu.1 e).1;intro B d;refine⟨d,_,?_,m (h.setIfInBounds b (.cells (cs.setIfInBounds o v) T (0,0))) ⟨T,by simp[j]⟩ (by simp) λi hi=>by grind⟩;have hz:=QExec.sizeOf (P:=P) (h:=h) (jl hi).choose_spec B d;unfold Uj WZ;simp only[Sem.run_bind,Sem.run_pure,Result.andThen_ok];unfold storeVar;rw[Sem.run_bind,hz];simp only[Result.andThen_ok];rw[k,cells_one c];simp only[List.size_toArray,Uz,Vb,Uy,ne_eq,not_true_eq_false,if_false];show Sem.run P (storeCells ⟨b,o,Te⟩ [v]) _=_;unfold storeCells;rw[Sem.run_bind];have l:(⟨b,o,Te⟩:Addr).add 0=⟨b,o,Te⟩:=by rw[zh];rfl
 rw[l,Cc e f c B d];rfl
theorem Q0{P:Program}{b:Nat}{T:TypeId}(B:World)(d:Nat):∀(vs:List Value) (i:Nat) (h:zc) (cs:Array Value),h[b]?=Td (.cells cs T (0,0))->i+vs.length<=cs.size->(∀v∈vs,v.oneCell'=Ta) ->
  ∃h',(storeCells ⟨b,0,Te⟩ vs i).run P (mk B d h)=.ok () (mk B d h')/\h'[b]?=Td (.cells (cs.toList.take i++vs++cs.toList.drop (i+vs.length)).toArray T (0,0))/\h'.size=h.size/\∀j,j≠b->h'[j]?=h[j]?
 |[],i,h,cs,e,_,_=>⟨h,rfl,by simpa using e,rfl,λ_ _=>rfl⟩
 |v::vs,i,h,cs,e,hl,hv=>by
  have l:b<h.size:=(Uu.1 e).1;simp only[Uz]at hl;have h1:=Cc (P:=P) e (o:=i) (by omega) (hv v UF) B d;have n:(h.setIfInBounds b (.cells (cs.setIfInBounds i v) T (0,0)))[b]?=Td (.cells (cs.setIfInBounds i v) T (0,0)):=by simp[l]
  have c:i+1+vs.length<=(cs.setIfInBounds i v).size:=by rw[UL];omega
  obtain⟨h',p,m,f,q⟩:=Q0 (P:=P) B d vs (i+1) (h.setIfInBounds b (.cells (cs.setIfInBounds i v) T (0,0))) (cs.setIfInBounds i v) n c λu k=>hv u (UG _ k);refine⟨h',?_,?_,by rw[f];simp,λj r=>by grind⟩;unfold storeCells;rw[Sem.run_bind,zh,Uy,h1];simp_all;rw[m];congr 3;have hi:i<cs.toList.length:=by simp;omega
  simp only[Array.toList_setIfInBounds,Uz];rw[List.take_set,List.drop_set_of_lt (by omega)];have t:(cs.toList.take (i+1)).set i v=cs.toList.take i++[v]:=by
   rw[Un hi,List.set_append_right _ _ (by simp;omega)];have:i-(cs.toList.take i).length=0:=by simp;omega
   rw[this];rfl
  grind
theorem Owns.base{h:zc}{base b:Nat}{e:TypeId}{sz:Nat}{s:Sl}{xs:List Value}(H:Owns h base e sz s xs)(j:b<=base):Owns h b e sz s xs:=by refine⟨H.1,?_⟩;rcases H.2 with k|⟨g,cap,c,f,i,rest⟩;grind;exact .inr ⟨g,cap,c,f,by omega,rest⟩
end
end Go.X
end
section
namespace Go.X
variable {cs:List Value}
inductive Tr where
 |mk (kind:Int) (text:Bt) (keys:List Bt) (items:List Tr)
namespace Tr
@[reducible] def kind:Tr->Int|mk k _ _ _=>k
@[reducible] def text:Tr->Bt|mk _ s _ _=>s
@[reducible] def keys:Tr->List Bt|mk _ _ ks _=>ks
@[reducible] def items:Tr->List Tr|mk _ _ _ xs=>xs
@[simp] theorem Uc(t:Tr):mk t.kind t.text t.keys t.items=t:=by cases t;rfl
instance:Inhabited Tr:=⟨mk 0 ⟨#[]⟩ [] []⟩
end Tr
inductive Ty where
 |int (k:IntKind)|bool|str|row (t:Ty)|tree|unit|pair (a b:Ty)|ptr (t:Ty)|iter|err
 deriving DecidableEq
@[reducible] def El:Ty->Type
 |.int _=>Int
 |.bool=>Bool
 |.str=>Bt
 |.row t=>List (El t)
 |.tree=>Tr
 |.unit=>Unit
 |.pair a b=>El a×El b
 |.ptr t=>El t
 |.iter=>Bt×Nat
 |.err=>Bool
def oR:(t:Ty)->El t
 |.int _=>(0:Int)
 |.bool=>Tc
 |.str=>(⟨#[]⟩:Bt)
 |.row _=>[]
 |.tree=>default
 |.unit=>()
 |.pair a b=>(oR a,oR b)
 |.ptr t=>oR t
 |.iter=>(⟨#[]⟩,0)
 |.err=>Ta
def sz:Ty->Nat
 |.tree=>4
 |.unit=>0
 |.pair a b=>sz a+sz b
 |_=>1
abbrev Fr:=Nat->Option (Array Value)
def Fr.le(M M':Fr):Prop:=∀b cs,M b=Td cs->M' b=Td cs
theorem Fr.le.refl(M:Fr):Fr.le M M:=λ_ _ h=>h
theorem Fr.le.trans{a b c:Fr}(h:Fr.le a b)(k:Fr.le b c):Fr.le a c:=λ_ _ e=>k _ _ (h _ _ e)
def cut(cs:Array Value)(o n:Nat):List Value:=(cs.toList.drop o).take n
def RowAt(M:Fr){α:Type}(R:α->List Value->Prop)(z:Nat)(xs:List α)(v:Value):Prop:=
 ∃a c,v=.slice a xs.length c/\(xs.length<=140737488355328/\xs.length<=c)/\(xs=[]\/∃b o cs,a=Td ⟨b,o,Te⟩/\M b=Td cs/\∀i (h:i<xs.length),R xs[i] (cut cs (o+i*z) z))
inductive TrRd (M:Fr):Tr->List Value->Prop where
 |mk {k:Int} {s:Bt} {ks:List Bt} {xs:List Tr} {vk:Value} {a:Option Addr} {c b o:Nat} {cs:Array Value}
  (hk:RowAt M (λs cs=>cs=[.string s]) 1 ks vk) (hn:xs.length<=140737488355328/\xs.length<=c) (hz:xs=[]\/(a=Td ⟨b,o,Te⟩/\M b=Td cs))
  (hi:∀i (h:i<xs.length),TrRd M xs[i] (cut cs (o+i*4) 4)):TrRd M (.mk k s ks xs) [.int .i64 k,.string s,vk,.slice a xs.length c]
def xy(s:Bt)(p:Nat):Value:=.iface 0 (.agg #[.string s,.int .i64 p])
def Rd(M:Fr):(t:Ty)->El t->List Value->Prop
 |.int k,i,cs=>cs=[.int k i]
 |.bool,b,cs=>cs=[.bool b]
 |.str,s,cs=>cs=[.string s]
 |.row t,xs,cs=>∃v,cs=[v]/\RowAt M (Rd M t) (sz t) xs v
 |.tree,t,cs=>TrRd M t cs
 |.unit,_,cs=>cs=[]
 |.pair a b,x,cs=>∃c1 c2,cs=c1++c2/\Rd M a x.1 c1/\Rd M b x.2 c2
 |.ptr t,x,cs=>∃b o c,cs=[.pointer (Td ⟨b,o,Te⟩)]/\M b=Td c/\Rd M t x (cut c o (sz t))
 |.iter,x,cs=>cs=[xy x.1 x.2]
 |.err,b,cs=>∃v,cs=[v]/\((b=Ta/\v=.nilIface)\/(b=Tc/\∃t u,v=.iface t u))
theorem RowAt.mono{M M':Fr}(j:Fr.le M M'){α:Type}{R f:α->List Value->Prop}{z:Nat}{xs:List α}{v:Value}(H:RowAt M R z xs v)(n:∀x∈xs,∀cs,R x cs->f x cs):RowAt M' f z xs v:=by obtain⟨a,c,e,l,h⟩:=H;refine⟨a,c,e,l,h.imp id ?_⟩;rintro⟨b,o,cs,m,p,k⟩;exact⟨b,o,cs,m,j _ _ p,λi h=>n _ (Ur _) _ (k i h)⟩
theorem TrRd.mono{M M':Fr}(b:Fr.le M M'){t:Tr}(H:TrRd M t cs):TrRd M' t cs:=by
 induction H with
 |mk c f hz _ e=>exact .mk (c.mono b λ_ _ _ h=>h) f (hz.imp id λh=>⟨h.1,b _ _ h.2⟩) e
theorem Rd.mono{M M':Fr}(c:Fr.le M M'):∀{t:Ty} {x:El t} {cs:List Value},Rd M t x cs->Rd M' t x cs
 |.int _,_,_,h=>h
 |.bool,_,_,h=>h
 |.str,_,_,h=>h
 |.row _,_,_,⟨v,e,h⟩=>⟨v,e,h.mono c λ_ _ _ h=>Rd.mono c h⟩
 |.tree,_,_,h=>TrRd.mono c h
 |.unit,_,_,h=>h
 |.pair _ _,_,_,⟨c1,c2,e,h1,h2⟩=>⟨c1,c2,e,Rd.mono c h1,Rd.mono c h2⟩
 |.ptr _,_,_,⟨b,o,cc,e,h1,h2⟩=>⟨b,o,cc,e,c _ _ h1,Rd.mono c h2⟩
 |.iter,_,_,h=>h
 |.err,_,_,h=>h
theorem Rd.len{M:Fr}:∀{t:Ty} {x:El t} {cs:List Value},Rd M t x cs->cs.length=sz t
 |.int _,_,_,h=>by rw[h];rfl
 |.bool,_,_,h=>by rw[h];rfl
 |.str,_,_,h=>by rw[h];rfl
 |.row t,_,_,⟨v,e,_⟩=>by rw[e];rfl
 |.tree,_,_,h=>by cases h;rfl
 |.unit,_,_,h=>by rw[h];rfl
 |.pair _ _,_,_,⟨c1,c2,e,h1,h2⟩=>by rw[e,Uk,Rd.len h1,Rd.len h2];rfl
 |.ptr _,_,_,⟨b,o,cc,e,_⟩=>by rw[e];rfl
 |.iter,_,_,h=>by rw[h];rfl
 |.err,_,_,⟨v,e,_⟩=>by rw[e];rfl
theorem Rd.one{M:Fr}:∀{t:Ty} {x:El t} {cs:List Value},Rd M t x cs->∀v∈cs,v.oneCell'=Ta
 |.int _,_,_,h=>by rw[h];simp[Value.oneCell']
 |.bool,_,_,h=>by rw[h];simp[Value.oneCell']
 |.str,_,_,h=>by rw[h];simp[Value.oneCell']
 |.row t,_,_,⟨v,e,a,c,e2,_⟩=>by rw[e,e2];simp[Value.oneCell']
 |.tree,_,_,h=>by
  cases h with
  |mk i _ _ _=>obtain⟨a,c,e,_⟩:=i;rw[e];simp[Value.oneCell']
 |.unit,_,_,h=>by rw[h];simp
 |.pair _ _,_,_,⟨c1,c2,e,h1,h2⟩=>by intro v f;rw[e]at f;rcases Uo.1 f with f|f;exact Rd.one h1 v f;exact Rd.one h2 v f
 |.ptr _,_,_,⟨b,o,cc,e,_⟩=>by rw[e];simp[Value.oneCell']
 |.iter,_,_,h=>by rw[h];simp[Value.oneCell',xy]
 |.err,_,_,⟨v,e,h⟩=>by rw[e];rcases h with⟨_,rfl⟩|⟨_,t,u,rfl⟩ <;> simp[Value.oneCell']
theorem TrRd.keys{M:Fr}{t:Tr}(H:TrRd M t cs):∃e f,cs=[.int .i64 t.kind,.string t.text,e,f]/\Rd M (.row .str) t.keys [e]/\Rd M (.row .tree) t.items [f]:=by
 cases H with
 | @mk k s ks xs e a c b o cs hk hn hz hi=>exact⟨e,_,rfl,⟨e,rfl,hk⟩,⟨_,rfl,a,c,rfl,hn,hz.imp id λh=>⟨b,o,cs,h.1,h.2,hi⟩⟩⟩
theorem TrRd.of{M:Fr}{k:Int}{s:Bt}{ks:List Bt}{xs:List Tr}{l n:Value}(h1:Rd M (.row .str) ks [l])(f:Rd M (.row .tree) xs [n]):TrRd M (.mk k s ks xs) [.int .i64 k,.string s,l,n]:=by
 obtain⟨v,e,h1⟩:=h1;obtain⟨t,r,a,c,j,m,f⟩:=f;cases e;cases r;subst j;rcases f with rfl|⟨b,o,cs,q,j,p⟩;exact .mk (b:=0) (o:=0) (cs:=#[]) h1 m (.inl rfl) λi h=>absurd h (by simp)
 exact .mk h1 m (.inr ⟨q,j⟩) p
def Bd:(t:Ty)->El t->Prop
 |.row _,xs=>xs.length<=140737488355328
 |.tree,t=>t.keys.length<=140737488355328/\t.items.length<=140737488355328
 |.pair a b,x=>Bd a x.1/\Bd b x.2
 |_,_=>True
theorem Rd.bd{M:Fr}:∀{t:Ty} {x:El t} {cs:List Value},Rd M t x cs->Bd t x
 |.int _,_,_,_=>trivial
 |.bool,_,_,_=>trivial
 |.str,_,_,_=>trivial
 |.row t,_,_,⟨v,_,a,c,_,h,_⟩=>h.1
 |.tree,_,_,h=>by
  cases h with
  |mk b f _ _=>obtain⟨a,c,e,h,_⟩:=b;exact⟨h.1,f.1⟩
 |.unit,_,_,_=>trivial
 |.pair _ _,_,_,⟨_,_,_,h1,h2⟩=>⟨Rd.bd h1,Rd.bd h2⟩
 |.ptr _,_,_,_=>trivial
 |.iter,_,_,_=>trivial
 |.err,_,_,_=>trivial
inductive AA where
 |v (x:Value)
 |d (t:Ty) (x:El t)
 |box (c o:Nat)
 |own (c:Nat)
 |oelt (c z:Nat) (i:Nat) (o:Nat)
 |elt (t:Ty) (x:El t) (o:Nat)
 |dc (t:Ty) (xs:List (El t))
inductive AG where
 |a (x:AA)
 |agg (l:List AA)
inductive AV where
 |g (x:AG)
 |tup (l:List AG)
 |nx (b:Bool) (p:Int) (c:Int)
structure Gh where
 M:Fr
 β:Nat->Nat
 σ:Nat->Sl
def All2{α β:Type}(R:α->β->Prop):List α->List β->Prop
 |[],[]=>True
 |x::xs,y::ys=>R x y/\All2 R xs ys
 |_,_=>False
def aK(s:Sl):Value:=.slice s.a s.len s.cap
abbrev iV(x : Int): Value := .int .i64 x
abbrev tA(a : Int)(b : Bt)(c d : Sl): Value := .agg #[.int .i64 a, .string b, aK c, aK d]
abbrev tL(a : Int)(b : Bt)(c d : Sl): List Value := [.int .i64 a, .string b, aK c, aK d]
abbrev tC: Array Value := #[.int .i64 0, .string ⟨#[]⟩, .slice Te 0 0, .slice Te 0 0]
abbrev tZ: Value := .agg tC
def DenA(γ:Gh):AA->Value->Prop
 |.v x,u=>u=x
 |.d t x,u=>Rd γ.M t x [u]
 |.box c o,u=>u=.pointer (Td ⟨γ.β c,o,Te⟩)
 |.own c,u=>u=aK (γ.σ c)
 |.oelt c z i o,u=>∃g,(γ.σ c).a=Td ⟨g,0,Te⟩/\u=.pointer (Td ⟨g,i*z+o,Te⟩)
 |.elt t x o,u=>∃b f cs,u=.pointer (Td ⟨b,f+o,Te⟩)/\γ.M b=Td cs/\Rd γ.M t x (cut cs f (sz t))
 |.dc t xs,u=>∃s:Sl,u=aK s/\s.cap=s.len/\Rd γ.M (.row t) xs [u]
def DenG(γ:Gh):AG->Value->Prop
 |.a x,u=>DenA γ x u
 |.agg l,u=>∃us,u=.agg us.toArray/\All2 (DenA γ) l us
def DenV(γ:Gh):AV->Value->Prop
 |.g x,u=>DenG γ x u
 |.tup l,u=>∃us,u=.tuple us.toArray/\All2 (DenG γ) l us
 |.nx b p c,u=>(b=Ta->u=.tuple #[.bool Ta,.int .i64 p,.int .i32 c])/\(b=Tc->u=.tuple #[.bool Tc])
theorem All2.length{α β:Type}{R:α->β->Prop}:∀{l:List α} {m:List β},All2 R l m->l.length=m.length
 |[],[],_=>rfl
 |[],_::_,h=>h.elim
 |_::_,[],h=>h.elim
 |_::_,_::_,h=>by simp[All2.length h.2]
theorem All2.imp{α β:Type}{R b:α->β->Prop}:∀{l:List α} {m:List β},All2 R l m->(∀x∈l,∀y,R x y->b x y)->All2 b l m
 |[],[],_,_=>trivial
 |[],_::_,h,_=>h.elim
 |_::_,[],h,_=>h.elim
 |_::_,_::_,h,k=>⟨k _ UF _ h.1,All2.imp h.2 λx e y c=>k x (UG _ e) y c⟩
theorem All2.append{α β:Type}{R:α->β->Prop}:∀{l b:List α} {m m':List β},All2 R l m->All2 R b m'->All2 R (l++b) (m++m')
 |[],_,[],_,_,h=>h
 |[],_,_::_,_,h,_=>h.elim
 |_::_,_,[],_,h,_=>h.elim
 |_::_,_,_::_,_,h,k=>⟨h.1,All2.append h.2 k⟩
theorem All2.take{α β:Type}{R:α->β->Prop}:∀(n:Nat) {l:List α} {m:List β},All2 R l m->All2 R (l.take n) (m.take n)
 |0,_,_,_=>by simp[All2]
 |_+1,[],[],_=>trivial
 |_+1,[],_::_,h=>h.elim
 |_+1,_::_,[],h=>h.elim
 |n+1,_::_,_::_,h=>⟨h.1,All2.take n h.2⟩
theorem All2.drop{α β:Type}{R:α->β->Prop}:∀(n:Nat) {l:List α} {m:List β},All2 R l m->All2 R (l.drop n) (m.drop n)
 |0,_,_,h=>by simpa using h
 |_+1,[],[],_=>trivial
 |_+1,[],_::_,h=>h.elim
 |_+1,_::_,[],h=>h.elim
 |n+1,_::_,_::_,h=>by simpa using All2.drop n h.2
theorem All2.get{α β:Type}{R:α->β->Prop}:∀{l:List α} {m:List β} {i:Nat} {x:α},All2 R l m->l[i]?=Td x->∃y,m[i]?=Td y/\R x y
 |[],[],_,_,_,h=>by simp at h
 |[],_::_,_,_,h,_=>h.elim
 |_::_,[],_,_,h,_=>h.elim
 |_::_,y::_,0,_,h,e=>by simp at e;subst e;exact⟨y,rfl,h.1⟩
 |_::_,_::_,i+1,_,h,e=>by simpa using All2.get h.2 (by simpa using e)
def Yf:(t:Ty)->El t->List AA
 |.int k,i=>[.v (.int k i)]
 |.bool,b=>[.v (.bool b)]
 |.str,s=>[.v (.string s)]
 |.row t,xs=>[.d (.row t) xs]
 |.tree,t=>[.v (.int .i64 t.kind),.v (.string t.text),.d (.row .str) t.keys,.d (.row .tree) t.items]
 |.unit,_=>[]
 |.pair a b,x=>Yf a x.1++Yf b x.2
 |.ptr t,x=>[.elt t x 0]
 |.iter,x=>[.d .iter x]
 |.err,x=>[.d .err x]
theorem wo{γ:Gh}:∀{t:Ty} {x:El t} {cs:List Value},Rd γ.M t x cs->All2 (DenA γ) (Yf t x) cs
 |.int _,_,_,h=>by rw[h];exact⟨rfl,trivial⟩
 |.bool,_,_,h=>by rw[h];exact⟨rfl,trivial⟩
 |.str,_,_,h=>by rw[h];exact⟨rfl,trivial⟩
 |.row t,_,_,⟨v,e,h⟩=>by rw[e];exact⟨⟨v,rfl,h⟩,trivial⟩
 |.tree,_,_,h=>by obtain⟨f,i,e,h1,c⟩:=TrRd.keys h;rw[e];exact⟨rfl,rfl,h1,c,trivial⟩
 |.unit,_,_,h=>by rw[h];trivial
 |.pair _ _,_,_,⟨c1,c2,e,h1,c⟩=>by rw[e];exact(wo h1).append (wo c)
 |.ptr t,x,_,⟨b,o,cc,e,h1,c⟩=>by rw[e];exact⟨⟨b,o,cc,rfl,h1,c⟩,trivial⟩
 |.iter,x,_,h=>by rw[h];exact⟨rfl,trivial⟩
 |.err,x,_,⟨v,e,h⟩=>by rw[e];exact⟨⟨v,rfl,h⟩,trivial⟩
def nA:Ty->Bool
 |.iter=>Ta
 |.err=>Ta
 |.pair a b=>bif nA a then Ta else nA b
 |_=>Tc
theorem Rd.noIt{M:Fr}:∀{t:Ty} {x:El t} {cs:List Value},nA t=Tc->Rd M t x cs->∀s p,xy s p∉cs
 |.int _,_,_,_,h,s,p=>by rw[h];simp[xy]
 |.bool,_,_,_,h,s,p=>by rw[h];simp[xy]
 |.str,_,_,_,h,s,p=>by rw[h];simp[xy]
 |.row t,_,_,_,⟨v,e,a,c,e2,_⟩,s,p=>by rw[e,e2];simp[xy]
 |.tree,_,_,_,h,s,p=>by
  cases h with
  |mk i _ _ _=>obtain⟨a,c,e,_⟩:=i;rw[e];simp[xy]
 |.unit,_,_,_,h,s,p=>by rw[h];simp
 |.pair a b,_,_,hi,⟨c1,c2,e,h1,h2⟩,s,p=>by
  simp only[nA]at hi;cases ha:nA a with
  |true=>simp_all
  |false=>rw[ha]at hi;rw[e];intro f;rcases Uo.1 f with f|f;exact Rd.noIt ha h1 s p f;exact Rd.noIt hi h2 s p f
 |.ptr _,_,_,_,⟨b,o,cc,e,_⟩,s,p=>by rw[e];simp[xy]
 |.iter,_,_,hi,_,_,_=>by cases hi
 |.err,_,_,hi,_,_,_=>by cases hi
def jJ:List AA->Bool
 |[.d t _]=>nA t
 |[.v (.iface _ _)]=>Ta
 |_=>Tc
theorem tI{γ:Gh}{l:List AA}{us:List Value}(h:jJ l=Tc)(j:All2 (DenA γ) l us)(s:Bt)(p:Nat):us≠[xy s p]:=by
 intro e;subst e
 match l,j with
 |[x],j=>
  cases x with
  |v y=>rw[<-show xy s p=y from j.1]at h;simp[jJ,xy]at h
  |d t y=>exact Rd.noIt (show nA t=Tc from h) (show Rd γ.M t y [xy s p]from j.1) s p (by simp)
  |box c o=>have:xy s p=_:=j.1;simp[xy]at this
  |own c=>have:xy s p=_:=j.1;simp[xy,aK]at this
  |oelt c z i o=>obtain⟨g,_,e⟩:=j.1;simp[xy]at e
  |elt t y o=>obtain⟨b,f,cs,e,_⟩:=j.1;simp[xy]at e
  |dc t xs=>obtain⟨k,e,_⟩:=j.1;simp[xy,aK]at e
 |[],j=>exact j.elim
 |_::_::_,j=>exact j.2.elim
inductive Ch where
 |box (l:List AA)
 |row (e:TypeId) (t:Ty) (xs:List (El t))
 |fz (t:Ty) (xs:List (El t))
abbrev CS:=List (Nat×Ch)
def Yg:CS->Nat->Option Ch
 |[],_=>Te
 |(j,k)::l,i=>bif Nat.beq i j then Td k else Yg l i
theorem qf{l:CS}{i:Nat}{k:Ch}(h:Yg l i=Td k):(i,k)∈l:=by
 induction l with
 |nil=>cases h
 |cons x l b=>obtain⟨j,e⟩:=x;simp only[Yg]at h;by_cases c:Nat.beq i j=Ta;simp_all;simp_all
def Qq(t t':Ty)(x:El t):Option (El t'):=if h:t=t' then Td (h ▸ x)else Te
theorem Y7{M:Fr}{t t':Ty}{x:El t}{y:El t'}(h:Qq t t' x=Td y)(r:Rd M t x cs):Rd M t' y cs:=by unfold Qq at h;grind
def kY(cs:CS):(t:Ty)->AA->Option (El t)
 |.int k,.v (.int k' i)=>if k=k' then Td i else Te
 |.bool,.v (.bool b)=>Td b
 |.str,.v (.string s)=>Td s
 |.row t,.v (.slice Te 0 0)=>Td ([]:List (El t))
 |.row t,.d t' x=>Qq t' (.row t) x
 |.row t,.dc t' x=>Qq (.row t') (.row t) x
 |.row t,.own c=>match Yg cs c with
  |some (.fz t' xs)=>Qq (.row t') (.row t) xs
  |_=>Te
 |.ptr t,.elt t' x 0=>Qq t' t x
 |.ptr t,.d t' x=>Qq t' (.ptr t) x
 |.iter,.d t' x=>Qq t' .iter x
 |.err,.d t' x=>Qq t' .err x
 |.err,.v .nilIface=>Td Ta
 |.err,.v (.iface _ _)=>Td Tc
 |_,_=>Te
def collect(cs:CS):(t:Ty)->List AA->Option (El t×List AA)
 |.unit,l=>Td ((),l)
 |.pair a b,l=>match collect cs a l with
  |some (x,l')=>match collect cs b l' with
   |some (y,l'')=>Td ((x,y),l'')
   |none=>Te
  |none=>Te
 |.tree,k::s::ks::xs::l=>match kY cs (.int .i64) k,kY cs .str s,kY cs (.row .str) ks,kY cs (.row .tree) xs with
  |some k,Td s,Td ks,some xs=>Td (Tr.mk k s ks xs,l)
  |_,_,_,_=>Te
 |.tree,_=>Te
 |t,x::l=>match kY cs t x with
  |some y=>Td (y,l)
  |none=>Te
 |_,[]=>Te
def lu(γ:Gh)(cs:CS):Prop:=∀c t xs,(c,Ch.fz t xs)∈cs->Rd γ.M (.row t) xs [aK (γ.σ c)]
theorem ji{γ:Gh}{cs:CS}(j:lu γ cs){t:Ty}{x:AA}{y:El t}(h:kY cs t x=Td y){u:Value}(c:DenA γ x u):Rd γ.M t y [u]:=by unfold kY at h;split at h;split at h;rename_i k;simp only[Ug]at h;subst h;subst k;exact congrArg (λu=>[u]) c;cases h;simp only[Ug]at h;subst h;exact congrArg (λu=>[u]) c;simp only[Ug]at h;subst h;exact congrArg (λu=>[u]) c;simp only[Ug]at h;subst h;exact⟨u,rfl,Te,0,c,by simp,.inl rfl⟩;exact Y7 h c;obtain⟨s,_,_,c⟩:=c;exact Y7 h c;split at h;rename_i t' xs i;rw[show u=_ from c];exact Y7 h (j _ _ _ (qf i));cases h;rename_i t t' x;obtain⟨b,f,cs',e,h1,l⟩:=c;exact⟨b,f,cs',by rw[e];rfl,h1,by unfold Qq at h;grind⟩;exact Y7 h c;exact Y7 h c;exact Y7 h c;simp only[Ug]at h;subst h;exact⟨u,rfl,.inl ⟨rfl,c⟩⟩;rename_i t' m;simp only[Ug]at h;subst h;exact⟨u,rfl,.inr ⟨rfl,_,_,c⟩⟩;cases h
theorem Yh{γ:Gh}{cs:CS}(c:lu γ cs):∀{t:Ty} {l e:List AA} {y:El t},collect cs t l=Td (y,e)->∀{us:List Value},All2 (DenA γ) l us->∃c1 c2,us=c1++c2/\Rd γ.M t y c1/\All2 (DenA γ) e c2
 |.unit,l,e,y,h,us,hu=>by simp only[collect,Ug,Vl]at h;obtain⟨_,rfl⟩:=h;exact⟨[],us,rfl,rfl,hu⟩
 |.pair a b,l,e,y,h,us,hu=>by simp only[collect]at h;split at h;rename_i x H h1;split at h;rename_i z I i;simp only[Ug,Vl]at h;obtain⟨rfl,rfl⟩:=h;obtain⟨c1,c2,rfl,j,n⟩:=Yh c h1 hu;obtain⟨o,G,rfl,f,m⟩:=Yh c i n;exact⟨c1++o,G,by simp,⟨c1,o,rfl,j,f⟩,m⟩;cases h;cases h
 |.tree,l,e,y,h,us,hu=>by
  match l,us,hu,h with
  |k::s::ks::xs::l,u1::u2::u3::u4::us,hu,h=>simp only[collect]at h;split at h;rename_i A p r q h1 i D w;simp only[Ug,Vl]at h;obtain⟨rfl,rfl⟩:=h;obtain⟨d1,d2,d3,E,C⟩:=hu;have j:=ji c h1 d1;have n:=ji c i d2;have f:=ji c D d3;have m:=ji c w E;refine⟨[u1,u2,u3,u4],us,rfl,?_,C⟩;have F:[u1]=[Vo .i64 A]:=j;have B:[u2]=[UA p]:=n;cases F;cases B;exact TrRd.of f m;cases h
  |[],_,_,h=>simp[collect]at h
  |[_],_,_,h=>simp[collect]at h
  |[_,_],_,_,h=>simp[collect]at h
  |[_,_,_],_,_,h=>simp[collect]at h
  |_::_::_::_::_,[],hu,_=>exact hu.elim
  |_::_::_::_::_,[_],hu,_=>exact hu.2.elim
  |_::_::_::_::_,[_,_],hu,_=>exact hu.2.2.elim
  |_::_::_::_::_,[_,_,_],hu,_=>exact hu.2.2.2.elim
 |.int k,x::l,e,y,h,u::us,hu=>by simp only[collect]at h;split at h;rename_i z hz;simp only[Ug,Vl]at h;obtain⟨rfl,rfl⟩:=h;exact⟨[u],us,rfl,ji c hz hu.1,hu.2⟩;cases h
 |.bool,x::l,e,y,h,u::us,hu=>by simp only[collect]at h;split at h;rename_i z hz;simp only[Ug,Vl]at h;obtain⟨rfl,rfl⟩:=h;exact⟨[u],us,rfl,ji c hz hu.1,hu.2⟩;cases h
 |.str,x::l,e,y,h,u::us,hu=>by simp only[collect]at h;split at h;rename_i z hz;simp only[Ug,Vl]at h;obtain⟨rfl,rfl⟩:=h;exact⟨[u],us,rfl,ji c hz hu.1,hu.2⟩;cases h
 |.row _,x::l,e,y,h,u::us,hu=>by simp only[collect]at h;split at h;rename_i z hz;simp only[Ug,Vl]at h;obtain⟨rfl,rfl⟩:=h;exact⟨[u],us,rfl,ji c hz hu.1,hu.2⟩;cases h
 |.ptr _,x::l,e,y,h,u::us,hu=>by simp only[collect]at h;split at h;rename_i z hz;simp only[Ug,Vl]at h;obtain⟨rfl,rfl⟩:=h;exact⟨[u],us,rfl,ji c hz hu.1,hu.2⟩;cases h
 |.iter,x::l,e,y,h,u::us,hu=>by simp only[collect]at h;split at h;rename_i z hz;simp only[Ug,Vl]at h;obtain⟨rfl,rfl⟩:=h;exact⟨[u],us,rfl,ji c hz hu.1,hu.2⟩;cases h
 |.iter,_::_,_,_,_,[],hu=>hu.elim
 |.iter,[],_,_,h,_,_=>by simp[collect]at h
 |.err,x::l,e,y,h,u::us,hu=>by simp only[collect]at h;split at h;rename_i z hz;simp only[Ug,Vl]at h;obtain⟨rfl,rfl⟩:=h;exact⟨[u],us,rfl,ji c hz hu.1,hu.2⟩;cases h
 |.err,_::_,_,_,_,[],hu=>hu.elim
 |.err,[],_,_,h,_,_=>by simp[collect]at h
 |.int _,_::_,_,_,_,[],hu=>hu.elim
 |.bool,_::_,_,_,_,[],hu=>hu.elim
 |.str,_::_,_,_,_,[],hu=>hu.elim
 |.row _,_::_,_,_,_,[],hu=>hu.elim
 |.ptr _,_::_,_,_,_,[],hu=>hu.elim
 |.int _,[],_,_,h,_,_=>by simp[collect]at h
 |.bool,[],_,_,h,_,_=>by simp[collect]at h
 |.str,[],_,_,h,_,_=>by simp[collect]at h
 |.row _,[],_,_,h,_,_=>by simp[collect]at h
 |.ptr _,[],_,_,h,_,_=>by simp[collect]at h
end Go.X
end
section
namespace Go.X
section
variable {M M':Fr} {h h':zc} {b c o n0:Nat} {γ γ':Gh} {us:List Value} {u:Value} {t:Ty} {cs C R:CS} {e:TypeId}
def AgM(M:Fr)(h:zc):Prop:=∀b c,M b=Td c->∃T m,h[b]?=Td (.cells c T m)
theorem AgM.lt(H:AgM M h){c:Array Value}(e:M b=Td c):b<h.size:=by obtain⟨T,m,f⟩:=H b c e;grind
theorem AgM.none{M:Fr}{h:zc}(H:AgM M h){b:Nat}(f:h.size<=b):M b=Te:=by
 cases e:M b with
 |none=>rfl
 |some c=>have:=H.lt e;omega
theorem AgM.cell(H:AgM M h){c:Array Value}{v:Value}(e:M b=Td c)(i:c[o]?=Td v):zd h ⟨b,o,Option.none⟩=Td v:=by obtain⟨T,m,f⟩:=H b c e;unfold zd;simp[f,i]
def Gx(c:Option Nat)(γ γ':Gh):Prop:=Fr.le γ.M γ'.M/\∀i,c≠Td i->γ'.β i=γ.β i/\γ'.σ i=γ.σ i
theorem Gx.refl(c:Option Nat)(γ:Gh):Gx c γ γ:=⟨Fr.le.refl _,λ_ _=>⟨rfl,rfl⟩⟩
def mE(c:Nat):AA->Bool
 |.box j _=>Nat.beq j c
 |.own j=>Nat.beq j c
 |.oelt j _ _ _=>Nat.beq j c
 |_=>Tc
def jX(c:Nat):List AA->Bool
 |[]=>Tc
 |x::l=>bif mE c x then Ta else jX c l
def kV(c:Nat):Ch->Bool
 |.box l=>jX c l
 |_=>Tc
def sw(c:Nat):AG->Bool
 |.a x=>mE c x
 |.agg l=>jX c l
def sT(c:Nat):List AG->Bool
 |[]=>Tc
 |x::l=>bif sw c x then Ta else sT c l
def td(c:Nat):AV->Bool
 |.g x=>sw c x
 |.tup l=>sT c l
 |.nx _ _ _=>Tc
def mh{α:Type}(f:Nat->α->Bool):Option Nat->α->Bool
 |none,_=>Tc
 |some c,x=>f c x
theorem qR{j c:Nat}(h:Nat.beq j c=Tc):Td c≠Td j:=by intro e;simp_all
theorem DenA.gx{c:Option Nat}(g:Gx c γ γ'):∀{x:AA} {u:Value},mh mE c x=Tc->DenA γ x u->DenA γ' x u
 |.v _,_,_,h=>h
 |.d _ _,_,_,h=>Rd.mono g.1 h
 |.box j o,u,hm,h=>by
  have:c≠Td j:=by cases c with|none=>simp|some c=>exact qR hm
  rw[show u=_ from h];simp only[DenA,(g.2 j this).1]
 |.own j,u,hm,h=>by
  have:c≠Td j:=by cases c with|none=>simp|some c=>exact qR hm
  rw[show u=_ from h];simp only[DenA,(g.2 j this).2]
 |.oelt j z i o,u,hm,h=>by
  have:c≠Td j:=by cases c with|none=>simp|some c=>exact qR hm
  obtain⟨b,k,l⟩:=h;exact⟨b,by rw[(g.2 j this).2];exact k,l⟩
 |.elt _ _ _,_,_,⟨b,f,cs,e,h1,h2⟩=>⟨b,f,cs,e,g.1 _ _ h1,Rd.mono g.1 h2⟩
 |.dc _ _,_,_,⟨s,k,l,h⟩=>⟨s,k,l,Rd.mono g.1 h⟩
theorem SY{l:List AA}(h:jX c l=Tc):∀x∈l,mE c x=Tc:=by
 induction l with
 |nil=>simp
 |cons y l b=>intro x e;simp only[jX]at h;grind
theorem DenL.gx{c:Option Nat}(g:Gx c γ γ'){l:List AA}(b:mh jX c l=Tc)(h:All2 (DenA γ) l us):All2 (DenA γ') l us:= h.imp λx f u e=>DenA.gx g (by cases c with|none=>rfl|some c=>exact SY b x f) e
theorem DenG.gx{c:Option Nat}(g:Gx c γ γ'){x:AG}(b:mh sw c x=Tc)(h:DenG γ x u):DenG γ' x u:=by
 cases x with
 |a x=>exact DenA.gx g (by cases c <;> exact b) h
 |agg l=>obtain⟨us,e,h⟩:=h;exact⟨us,e,DenL.gx g (by cases c <;> exact b) h⟩
theorem Lp{l:List AG}(h:sT c l=Tc):∀x∈l,sw c x=Tc:=by
 induction l with
 |nil=>simp
 |cons y l b=>intro x e;simp only[sT]at h;grind
theorem DenV.gx{c:Option Nat}(g:Gx c γ γ'){x:AV}(f:mh td c x=Tc)(h:DenV γ x u):DenV γ' x u:=by
 cases x with
 |g x=>exact DenG.gx g (by cases c <;> exact f) h
 |tup l=>obtain⟨us,e,h⟩:=h;exact⟨us,e,h.imp λx j u i=>DenG.gx g (by cases c with|none=>rfl|some c=>exact Lp f x j) i⟩
 |nx b p c=>exact h
def RowC(M:Fr)(t:Ty)(xs:List (El t))(cells:List Value):Prop:=
 cells.length=xs.length*sz t/\∀i (h:i<xs.length),Rd M t xs[i] ((cells.drop (i*sz t)).take (sz t))
theorem RowC.mono(b:Fr.le M M'){xs:List (El t)}{cells:List Value}(H:RowC M t xs cells):RowC M' t xs cells:=⟨H.1,λi h=>Rd.mono b (H.2 i h)⟩
theorem RowC.nil(M:Fr)(t:Ty):RowC M t [] []:=⟨by simp,λi h=>absurd h (by simp)⟩
theorem RowC.single{x:El t}{cs:List Value}(h:Rd M t x cs):RowC M t [x] cs:=by
 have b:=h.len;refine⟨by simp[b],λi hi=>?_⟩;have:i=0:=by simpa using hi
 subst this;grind
theorem RowC.append{xs ys:List (El t)}{c1 c2:List Value}(h1:RowC M t xs c1)(j:RowC M t ys c2):RowC M t (xs++ys) (c1++c2):=by
 refine⟨by rw[Uk,Uk,h1.1,j.1,VH],λi hi=>?_⟩;by_cases b:i<xs.length;rw[VD b];have h:(i+1)*sz t<=c1.length:=by rw[h1.1];exact UM _ b
 rw[VH,XW]at h;rw[List.drop_append_of_le_length (by omega),V4 (by grind)];exact h1.2 i b;have c:xs.length<=i:=by omega
 rw[V1 c];have f:i-xs.length<ys.length:=by rw[Uk]at hi;omega
 have:=j.2 (i-xs.length) f;have e:(c1++c2).drop (i*sz t)=c2.drop ((i-xs.length)*sz t):=by
  rw[List.drop_append];have:c1.length<=i*sz t:=by rw[h1.1];exact UM _ c
  rw[VV this,Vw,h1.1,<-Nat.sub_mul]
 grind
theorem RowC.one{xs:List (El t)}{cells:List Value}(H:RowC M t xs cells):∀v∈cells,v.oneCell'=Ta:=by
 intro v c;obtain⟨j,b,rfl⟩:=List.getElem_of_mem c;have hz:0<sz t:=by rcases WR (sz t)with h|h;rw[H.1,h,Nat.mul_zero]at b;omega;exact h
 have hi:j / sz t<xs.length:=by rw[H.1]at b;exact Nat.div_lt_of_lt_mul (by grind)
 refine Rd.one (H.2 _ hi) _ ?_;rw[List.mem_iff_getElem?];refine⟨j % sz t,?_⟩;rw[UU,zA (Nat.mod_lt _ hz),Vd,WS,Nat.div_add_mod,Ul b]
theorem RowC.rd{xs:List (El t)}{cells:List Value}(H:RowC M t xs cells){cs:Array Value}(h:M b=Td cs)(j:(cs.toList.drop o).take (xs.length*sz t)=cells)(k:xs.length<=140737488355328/\xs.length<=c):
  Rd M (.row t) xs [.slice (Td ⟨b,o,Te⟩) xs.length c]:=by
 refine⟨_,rfl,_,_,rfl,k,.inr ⟨b,o,cs,rfl,h,λi hi=>?_⟩⟩;have:=H.2 i hi;rw[<-j]at this;have f:(i+1)*sz t<=xs.length*sz t:=UM _ hi;rw[VH,XW]at f;have e:(((cs.toList.drop o).take (xs.length*sz t)).drop (i*sz t)).take (sz t)=cut cs (o+i*sz t) (sz t):=by unfold cut;rw[List.drop_take,List.take_take,XB,XO (by omega)]
 simp_all
theorem Rd.rowC(ag:AgM M h){xs:List (El t)}(H:Rd M (.row t) xs [u]):∃s:Sl,u=aK s/\s.len=xs.length/\(xs.length<=140737488355328/\xs.length<=s.cap)/\∃cells,RowC M t xs cells/\Arr h.size h s.a cells:=by
 obtain⟨v,e,a,c,rfl,m,H⟩:=H;cases e;refine⟨⟨a,xs.length,c⟩,rfl,rfl,m,?_⟩;rcases H with rfl|⟨b,o,cs,rfl,l,hi⟩;exact⟨[],RowC.nil _ _,.inl rfl⟩;have f:xs=[]\/xs.length*sz t<=(cs.toList.drop o).length:=by
  rcases WR xs.length with h0|h0;simp_all;right;have:=(hi (xs.length-1) (by omega)).len;unfold cut at this;rw[Ve,Vu]at this;rw[Vu];rcases WR (sz t)with hz|hz;grind;have e:xs.length*sz t=(xs.length-1)*sz t+sz t:=by rw[<-WT];congr 1;omega
  rw[e];omega
 rcases f with rfl|f;exact⟨[],RowC.nil _ _,.inl rfl⟩;refine⟨(cs.toList.drop o).take (xs.length*sz t),⟨by simp_all,λi j=>?_⟩,.inr ⟨b,o,rfl,ag.lt l,λi v n=>?_⟩⟩;have:=hi i j;have k:(i+1)*sz t<=xs.length*sz t:=UM _ j;rw[VH,XW]at k;unfold cut at this;rw[List.drop_take,List.take_take,XB,XO (by omega)];exact this;refine ag.cell l ?_;grind
def uc(o:Option Obj)(us:List Value):Prop:=((∃T,o=Td (.cells us.toArray T (0,0)))/\∀s p,us≠[xy s p])\/(∃s p,us=[xy s p]/\o=Td (.stringIter s p))
def DenC(n0:Nat)(γ:Gh)(h:zc)(c:Nat):Ch->Prop
 |.box l=>∃us,uc h[γ.β c]? us/\All2 (DenA γ) l us
 |.row e t xs=>∃cells,Owns h n0 e (sz t) (γ.σ c) cells/\RowC γ.M t xs cells/\xs.length<=140737488355328/\(γ.σ c).len=xs.length
 |.fz t xs=>Rd γ.M (.row t) xs [aK (γ.σ c)]
def blk(γ:Gh)(c:Nat):Ch->Option Nat
 |.box _=>Td (γ.β c)
 |.row _ _ _=>(γ.σ c).a.map (·.block)
 |.fz _ _=>Te
structure Inv (h0:zc) (W:Nat->Prop) (M0:Fr) (cs:CS) (γ:Gh) (h:zc):Prop where
 ag:AgM γ.M h
 frame:∀i,i<h0.size->¬W i->h[i]?=h0[i]?
 size:h0.size<=h.size
 old:∀b,b<h0.size->γ.M b=M0 b
 le:Fr.le M0 γ.M
 den:∀x∈cs,DenC h0.size γ h x.1 x.2
 sep:∀x∈cs,∀b,blk γ x.1 x.2=Td b->(h0.size<=b\/W b)/\γ.M b=Te
 apart:cs.Pairwise λx y=>∀b,blk γ x.1 x.2=Td b->blk γ y.1 y.2≠Td b
variable {h0 : zc} {W : Nat -> Prop} {M0 : Fr}
theorem DenC.lt{k:Ch}(H:DenC n0 γ h c k):∀b,blk γ c k=Td b->b<h.size:=by
 intro b f;cases k with
 |box l=>obtain⟨us,e,_⟩:=H;simp only[blk,Ug]at f;subst f;rcases e with⟨⟨T,e⟩,_⟩|⟨s,p,_,e⟩;grind;grind
 |row e t xs=>obtain⟨cells,h1,_⟩:=H;simp only[blk,VL]at f;obtain⟨p,i,rfl⟩:=f;exact(h1.base_le p i).2
 |fz t xs=>cases f
theorem DenC.gx{c:Option Nat}(g:Gx c γ γ'){j:Nat}{k:Ch}(u:c≠Td j)(q:mh kV c k=Tc)(H:DenC n0 γ h j k)(f:∀b,blk γ j k=Td b->h'[b]?=h[b]?):DenC n0 γ' h' j k:=by
 obtain⟨r,i⟩:=g.2 j u;cases k with
 |box l=>obtain⟨us,e,h1⟩:=H;exact⟨us,by rw[r,f _ rfl];exact e,DenL.gx g (by cases c <;> exact q) h1⟩
 |row e t xs=>obtain⟨cells,h1,n,o,w⟩:=H;refine⟨cells,?_,n.mono g.1,o,by grind⟩;rw[i];exact h1.keep λp m=>f _ (by simp[blk,m])
 |fz t xs=>simp only[DenC,i];exact Rd.mono g.1 H
theorem nI{c:Option Nat}(g:Gx c γ γ'){j:Nat}(k:Ch)(e:c≠Td j):blk γ' j k=blk γ j k:=by obtain⟨b,f⟩:=g.2 j e;cases k <;> simp[blk,b,f]
theorem Inv.rest{cs rest:CS}{γ γ':Gh}{h h':zc}(I:Inv h0 W M0 cs γ h)(hsub:rest.Sublist cs){c:Option Nat}(g:Gx c γ γ') (hmen:∀x∈rest,c≠Td x.1/\mh kV c x.2=Tc) (hk:∀x∈rest,∀b,blk γ x.1 x.2=Td b->h'[b]?=h[b]?/\γ'.M b=Te)
  (ag:AgM γ'.M h') (hframe:∀i,i<h0.size->¬W i->h'[i]?=h[i]?) (hsize:h.size<=h'.size) (hold:∀b,b<h0.size->γ'.M b=γ.M b):Inv h0 W M0 rest γ' h' where
 ag:=ag
 frame:=λi hi hw=>(hframe i hi hw).trans (I.frame i hi hw)
 size:=Vj I.size hsize
 old:=λb hb=>(hold b hb).trans (I.old b hb)
 le:=I.le.trans g.1
 den:=λx hx=>(I.den x (hsub.subset hx)).gx g (hmen x hx).1 (hmen x hx).2 λb hb=>(hk x hx b hb).1
 sep:=λx hx b hb=>by rw[nI g _ (hmen x hx).1]at hb;exact⟨(I.sep x (hsub.subset hx) b hb).1,(hk x hx b hb).2⟩
 apart:=by refine(I.apart.sublist hsub).imp_of_mem λ {x y} hx hy h=>?_;intro b hb;rw[nI g _ (hmen x hx).1]at hb;rw[nI g _ (hmen y hy).1];exact h b hb
theorem Inv.cons{rest:CS}(I:Inv h0 W M0 rest γ h){k:Ch}(hd:DenC h0.size γ h c k)(hs:∀b,blk γ c k=Td b->(h0.size<=b\/W b)/\γ.M b=Te)
  (ha:∀b,blk γ c k=Td b->∀x∈rest,blk γ x.1 x.2≠Td b):Inv h0 W M0 ((c,k)::rest) γ h where
 ag:=I.ag
 frame:=I.frame
 size:=I.size
 old:=I.old
 le:=I.le
 den:=λx hx=>by rcases Up.1 hx with rfl|hx;exact hd;exact I.den x hx
 sep:=λx hx=>by rcases Up.1 hx with rfl|hx;exact hs;exact I.sep x hx
 apart:=VB.2 ⟨λy hy b hb=>ha b hb y hy,I.apart⟩
theorem Inv.sub{cs rest:CS}(I:Inv h0 W M0 cs γ h)(hsub:rest.Sublist cs):Inv h0 W M0 rest γ h where
 ag:=I.ag
 frame:=I.frame
 size:=I.size
 old:=I.old
 le:=I.le
 den:=λx hx=>I.den x (hsub.subset hx)
 sep:=λx hx=>I.sep x (hsub.subset hx)
 apart:=I.apart.sublist hsub
theorem Inv.fz(I:Inv h0 W M0 cs γ h):lu γ cs:=λc t xs b=>I.den _ b
theorem Inv.call(I:Inv h0 W M0 cs γ h)(k:Keep h.size h h')(m:Fr.le γ.M M')(e:∀b,b<h.size->M' b=γ.M b)(ag:AgM M' h'):Inv h0 W M0 cs { γ with M:=M' } h':= I.rest (List.Sublist.refl _) (c:=Te) ⟨m,λ_ _=>⟨rfl,rfl⟩⟩ (λx _=>⟨by simp,rfl⟩) (λx l b j=>by have f:=(I.den x l).lt b j;exact⟨k.get b f,(e b f).trans (I.sep x l b j).2⟩) ag (λi hi _=>k.get i (VP hi I.size)) k.size (λb j=>e b (VP j I.size))
def ym(c:Nat):CS->CS
 |[]=>[]
 |(j,k)::l=>bif (bif Nat.beq j c then Ta else kV c k)then ym c l else(j,k)::ym c l
def Zo(c:Nat):CS->Bool
 |[]=>Ta
 |(j,k)::l=>bif (bif Nat.beq j c then Ta else kV c k)then Tc else Zo c l
def io(c:Nat):CS->CS
 |[]=>[]
 |(j,k)::l=>bif Nat.beq j c then io c l else(j,k)::io c l
theorem jy(c:Nat):∀l:CS,(ym c l).Sublist l
 |[]=>.slnil
 |(j,k)::l=>by
  simp only[ym];cases(bif Nat.beq j c then Ta else kV c k)with
  |true=>exact(jy c l).cons _
  |false=>exact(jy c l).cons_cons _
theorem w5(c:Nat):∀l:CS,(io c l).Sublist l
 |[]=>.slnil
 |(j,k)::l=>by
  simp only[io];cases Nat.beq j c with
  |true=>exact(w5 c l).cons _
  |false=>exact(w5 c l).cons_cons _
theorem wK{c:Nat}:∀{l:CS} {x:Nat×Ch},x∈ym c l->Td c≠Td x.1/\kV c x.2=Tc
 |(j,k)::l,x,h=>by
  simp only[ym]at h;cases hb:(bif Nat.beq j c then Ta else kV c k)with
  |true=>rw[hb]at h;exact wK h
  |false=>
   rw[hb]at h;rcases Up.1 h with rfl|h;cases hj:Nat.beq j c with
   |true=>simp[hj]at hb
   |false=>simp only[hj,zL]at hb;exact⟨qR hj,hb⟩
   exact wK h
theorem uB{c:Nat}:∀{l:CS},Zo c l=Ta->∀x∈l,Td c≠Td x.1/\kV c x.2=Tc
 |[],_,x,h=>by cases h
 |(j,k)::l,hn,x,h=>by
  simp only[Zo]at hn;cases hb:(bif Nat.beq j c then Ta else kV c k)with
  |true=>simp_all
  |false=>
   rw[hb]at hn;rcases Up.1 h with rfl|h;cases hj:Nat.beq j c with
   |true=>simp[hj]at hb
   |false=>simp only[hj,zL]at hb;exact⟨qR hj,hb⟩
   exact uB hn x h
theorem Qw{c:Nat}:∀{l:CS} {x:Nat×Ch},x∈io c l->x∈l/\x.1≠c
 |(j,k)::l,x,h=>by
  simp only[io]at h;cases hb:Nat.beq j c with
  |true=>rw[hb]at h;exact⟨UG _ (Qw h).1,(Qw h).2⟩
  |false=>rw[hb]at h;rcases Up.1 h with rfl|h;refine⟨UF,λe=>?_⟩;simp_all;exact⟨UG _ (Qw h).1,(Qw h).2⟩
def lG(γ:Gh)(c b:Nat):Gh:={ γ with β:=λi=>bif Nat.beq i c then b else γ.β i }
def i8(γ:Gh)(c:Nat)(s:Sl):Gh:={ γ with σ:=λi=>bif Nat.beq i c then s else γ.σ i }
theorem oD(γ:Gh)(c b:Nat):Gx (Td c) γ (lG γ c b):=⟨Fr.le.refl _,λi hi=>by
 have:Nat.beq i c=Tc:=by
  cases h:Nat.beq i c with
  |false=>rfl
  |true=>simp_all
 simp[lG,this]⟩
theorem Zp(γ:Gh)(c:Nat)(s:Sl):Gx (Td c) γ (i8 γ c s):=⟨Fr.le.refl _,λi hi=>by
 have:Nat.beq i c=Tc:=by
  cases h:Nat.beq i c with
  |false=>rfl
  |true=>simp_all
 simp[i8,this]⟩
theorem Yi(γ:Gh)(c b:Nat):(lG γ c b).β c=b:=by simp[lG]
theorem qq(γ:Gh)(c:Nat)(s:Sl):(i8 γ c s).σ c=s:=by simp[i8]
theorem nG(e:Zo c R=Ta):∀x∈ym c C++R,Td c≠Td x.1/\mh kV (Td c) x.2=Tc:=by intro x b;rcases Uo.1 b with b|b;exact wK b;exact uB e x b
theorem Inv.newBoxO(I:Inv h0 W M0 (C++R) γ h)(o:Zo c R=Ta){l:List AA}(p:All2 (DenA γ) l us)(r:jX c l=Tc){ob:Obj}(n:uc (Td ob) us):
  Inv h0 W M0 ((c,.box l)::ym c C++R) (lG γ c h.size) (h.push ob):=by
 have k:∀x∈ym c C++R,∀b,blk γ x.1 x.2=Td b->b<h.size:=λx j b f=>(I.den x (((jy c C).append_right R).subset j)).lt b f;have q:Inv h0 W M0 (ym c C++R) (lG γ c h.size) (h.push ob):=by refine I.rest ((jy c C).append_right R) (oD γ c h.size) (nG o) (λx j b f=>?_) (λb t e=>?_) (λi hi _=>?_) (by simp) (λb f=>rfl);have:=k x j b f;exact⟨by grind,(I.sep x (((jy c C).append_right R).subset j) b f).2⟩;have:=I.ag.lt e;obtain⟨u,m,w⟩:=I.ag b t e;grind;have:=I.size;grind
 refine q.cons ⟨us,by rw[Yi,qp];exact n,DenL.gx (oD γ c h.size) r p⟩ (λb f=>?_) (λb f x j e=>?_);simp only[blk,Yi,Ug]at f;subst f;exact⟨.inl I.size,I.ag.none (Uf _)⟩;simp only[blk,Yi,Ug]at f;subst f;rw[nI (oD γ c h.size) _ (nG o x j).1]at e;grind
theorem Inv.newBox(I:Inv h0 W M0 (C++R) γ h)(i:Zo c R=Ta){l:List AA}(e:All2 (DenA γ) l us)(f:jX c l=Tc)(b:jJ l=Tc)(T:TypeId):
  Inv h0 W M0 ((c,.box l)::ym c C++R) (lG γ c h.size) (h.push (.cells us.toArray T)):=
 Inv.newBoxO I i e f (.inl ⟨⟨T,rfl⟩,λs p=>tI b e s p⟩)
theorem pJ{α:Type}{R:α->α->Prop}(c:∀x y,R x y->R y x):∀{l:List α},l.Pairwise R->∀{x y:α},x∈l->y∈l->x≠y->R x y
 |[],_,_,_,hx,_,_=>by cases hx
 |z::l,h,x,y,hx,hy,hne=>by rw[VB]at h;rcases Up.1 hx with e|h1;grind;rcases Up.1 hy with f|b;simp_all;exact pJ c h.2 h1 b hne
theorem Inv.setBox(I:Inv h0 W M0 (C++R) γ h){l r:List AA}(u:(c,Ch.box l)∈C)(e:uc h'[γ.β c]? us)
  (B:∀i,i≠γ.β c->h'[i]?=h[i]?) (G:h'.size=h.size) (z:All2 (DenA γ) r us) (J:∀x∈R,x.1≠c):Inv h0 W M0 ((c,.box r)::io c C++R) γ h':=by
 have q:=I.sep _ (Uv R u) _ rfl;have p:∀x∈io c C++R,blk γ x.1 x.2≠Td (γ.β c):=by
  intro x j;have n:x≠(c,Ch.box l):=by rintro rfl;rcases Uo.1 j with j|j;exact(Qw j).2 rfl;grind
  have k:x∈C++R:=((w5 c C).append_right R).subset j;have w:=@pJ _ (λ(x y:Nat×Ch)=>∀b,blk γ x.1 x.2=Td b->blk γ y.1 y.2≠Td b) (λx y h b f o=>h b o f) _ I.apart;intro f;exact w (Uv R u) k (λe=>n e.symm) _ rfl f
 have A:Inv h0 W M0 (io c C++R) γ h':=by refine I.rest ((w5 c C).append_right R) (c:=Te) (Gx.refl _ _) (λx _=>⟨by simp,rfl⟩) (λx j b f=>?_) (λb D E=>?_) (λi hi F=>?_) (by omega) (λb f=>rfl);exact⟨B b λt=>p x j (t ▸ f),(I.sep x (((w5 c C).append_right R).subset j) b f).2⟩;obtain⟨H,m,t⟩:=I.ag b D E;grind;grind
 refine A.cons ⟨us,e,z⟩ (λb f=>?_) (λb f x j=>?_);simp only[blk,Ug]at f;grind;simp only[blk,Ug]at f;simp_all
theorem Inv.newRow(I:Inv h0 W M0 (C++R) γ h)(D:Zo c R=Ta)(G:h.size<=h'.size){p:Option Nat}(z:∀i,i<h.size->p≠Td i->h'[i]?=h[i]?) (u:∀b,p=Td b->h0.size<=b/\γ.M b=Te/\∀x∈C++R,blk γ x.1 x.2≠Td b) {s:Sl} {xs:List (El t)} {cells:List Value} (n:Owns h' h0.size e (sz t) s cells) (k:∀q,s.a=Td q->p=Td q.block\/q.block=h.size) (o:RowC γ.M t xs cells) (H:xs.length<=140737488355328) (F:s.len=xs.length):
  Inv h0 W M0 ((c,.row e t xs)::ym c C++R) (i8 γ c s) h':=by
 have f:=(jy c C).append_right R;have w:∀x∈ym c C++R,∀b,blk γ x.1 x.2=Td b->b<h.size:=λx l b k=>(I.den x (f.subset l)).lt b k;have E:Inv h0 W M0 (ym c C++R) (i8 γ c s) h':=by refine I.rest f (Zp γ c s) (nG D) (λx l b k=>?_) (λb A y=>?_) (λi hi N=>?_) G (λb k=>rfl);exact⟨z b (w x l b k) λr=>(u b r).2.2 x (f.subset l) k,(I.sep x (f.subset l) b k).2⟩;obtain⟨J,m,r⟩:=I.ag b A y;exact⟨J,m,by rw[z b (I.ag.lt y) λL=>by have:=(u b L).2.1;rw[show γ.M b=Td A from y]at this;cases this];exact r⟩;have:=I.size;grind
 refine E.cons ⟨cells,by rw[qq];exact n,o,H,by rw[qq];exact F⟩ (λb j=>?_) (λb j x l r=>?_);simp only[blk,qq,VL]at j;obtain⟨q,B,rfl⟩:=j;rcases k q B with h1|h1;exact⟨.inl (u _ h1).1,(u _ h1).2.1⟩;rw[h1];exact⟨.inl I.size,I.ag.none (Uf _)⟩;simp only[blk,qq,VL]at j;obtain⟨q,B,rfl⟩:=j;rw[nI (Zp γ c s) _ (nG D x l).1]at r;grind
def mU(c:Nat):CS->CS
 |[]=>[]
 |(j,k)::l=>bif Nat.beq j c then(match k with
  |.row _ t xs=>(j,.fz t xs)::mU c l
  |k=>(j,k)::mU c l)else(j,k)::mU c l
def iQ(γ:Gh)(b:Nat)(cs:Array Value):Gh:={ γ with M:=λi=>bif Nat.beq i b then Td cs else γ.M i }
theorem Inv.freeze1{A C:CS}{xs:List (El t)}(I:Inv h0 W M0 (A++(c,.row e t xs)::C) γ h):∃γ',Inv h0 W M0 (A++(c,.fz t xs)::C) γ' h/\Gx Te γ γ':=by
 obtain⟨cells,w,n,Y,Q⟩:=I.den (c,.row e t xs) (by simp);have L:=n.1;rcases w.2 with⟨m,h1⟩|⟨g,cap,j,m,k,N,S,J,V,F⟩;refine⟨γ,?_,Gx.refl _ _⟩;have G:xs=[]:=UN (by omega);have T:DenC h0.size γ h c (.fz t xs):=by subst G;simp only[UY]at m;exact⟨_,rfl,Te,0,by simp[aK,m],⟨by simp,by simp⟩,.inl rfl⟩
 have l:∀x,x∈A++(c,Ch.fz t xs)::C->x∈A++(c,Ch.row e t xs)::C\/x=(c,Ch.fz t xs):=by intro x f;simp only[Uo,Up]at f ⊢;rcases f with h|h|h;grind;exact .inr h;simp_all
 refine⟨I.ag,I.frame,I.size,I.old,I.le,λx f=>?_,λx f b i=>?_,?_⟩;grind [den];rcases l x f with h|rfl;exact I.sep x h b i;cases i;have:=I.apart;simp only[WN,VB]at this ⊢;obtain⟨a1,⟨a2,B⟩,E⟩:=this;refine⟨a1,⟨λy r b i=>(by simp[blk]at i),B⟩,λx f y r b i=>?_⟩;rcases Up.1 r with rfl|r;simp[blk];grind;simp only[UY]at m;have P:γ.M g=Te:=(I.sep (c,.row e t xs) (by simp) g (by simp[blk,m.1])).2;have z:Fr.le γ.M (iQ γ g j).M:=by
  intro b H u;have:Nat.beq b g=Tc:=by
   cases i:Nat.beq b g with
   |false=>rfl
   |true=>simp_all
  simp[iQ,this,u]
 have gx:Gx Te γ (iQ γ g j):=⟨z,λ_ _=>⟨rfl,rfl⟩⟩;have O:g<h.size:=(Uu.1 N).1;have D:∀x,x∈A++C->blk γ x.1 x.2≠Td g:=by intro x f;have:=I.apart;simp only[WN,VB]at this;obtain⟨a1,⟨a2,B⟩,E⟩:=this;rcases Uo.1 f with f|f;intro i;exact E x f (c,.row e t xs) UF g i (by simp[blk,m.1]);exact a2 x f g (by simp[blk,m.1])
 have p:∀b,b≠g->(iQ γ g j).M b=γ.M b:=by
  intro b i;have:Nat.beq b g=Tc:=by
   cases h:Nat.beq b g with
   |false=>rfl
   |true=>simp_all
  simp[iQ,this]
 have q:Inv h0 W M0 (A++C) (iQ γ g j) h:=by
  refine I.rest (by simp) gx (λx _=>⟨by simp,rfl⟩) (λx f b i=>?_) (λb H u=>?_) (λ_ _ _=>rfl) (Uf _) (λb i=>p b (by omega));have k:b≠g:=λU=>D x f (U ▸ i);refine⟨rfl,(p b k).trans (I.sep x ?_ b i).2⟩;grind;by_cases k:b=g;subst k;have:H=j:=by simp[iQ]at u;exact u.symm
  subst this;exact⟨_,_,N⟩;rw[p b k]at u;exact I.ag b H u
 refine⟨iQ γ g j,?_,gx⟩;have T:DenC h0.size (iQ γ g j) h c (.fz t xs):=by
  have:=(n.mono z).rd (b:=g) (o:=0) (c:=cap) (cs:=j) (by simp[iQ]) (by simp_all) ⟨Y,by omega⟩;show Rd _ _ _ [aK (γ.σ c)];have Z:aK (γ.σ c)=.slice (Td ⟨g,0,Te⟩) xs.length cap:=by unfold aK;rw[m.1,Q,m.2.2]
  rw[Z];exact this
 have l:∀x,x∈A++(c,Ch.fz t xs)::C->x∈A++C\/x=(c,Ch.fz t xs):=by intro x f;simp only[Uo,Up]at f ⊢;rcases f with h|h|h;grind;exact .inr h;grind
 refine⟨q.ag,q.frame,q.size,q.old,q.le,λx f=>?_,λx f b i=>?_,?_⟩;grind [den];rcases l x f with h|rfl;exact q.sep x h b i;cases i;have:=q.apart;simp only[WN,VB]at this ⊢;obtain⟨a1,B,E⟩:=this;refine⟨a1,⟨λy r b i=>(by simp[blk]at i),B⟩,λx f y r b i=>?_⟩;rcases Up.1 r with rfl|r;simp[blk];grind
theorem Inv.freeze{R:CS}{h:zc}(c:Nat):∀(C A:CS) {γ:Gh},Inv h0 W M0 (A++C++R) γ h->∃γ',Inv h0 W M0 (A++mU c C++R) γ' h/\Gx Te γ γ'
 |[],A,γ,I=>⟨γ,I,Gx.refl _ _⟩
 |(j,k)::l,A,γ,I=>by
  have go:∀(k:Ch) {γ:Gh},Inv h0 W M0 (A++(j,k)::l++R) γ h->∃γ',Inv h0 W M0 (A++(j,k)::mU c l++R) γ' h/\Gx Te γ γ':=by intro k γ I;have:=Inv.freeze c l (A++[(j,k)]) (R:=R) (γ:=γ) (by simpa using I);simpa using this
  simp only[mU];cases Nat.beq j c with
  |true=>
   cases k with
   |row e t xs=>obtain⟨m,n,g1⟩:=Inv.freeze1 (A:=A) (C:=l++R) (γ:=γ) (by simpa using I);obtain⟨b,f,g2⟩:=go (.fz t xs) (γ:=m) (by simpa using n);exact⟨b,f,g1.1.trans g2.1,λi hi=>⟨(g2.2 i hi).1.trans (g1.2 i hi).1,(g2.2 i hi).2.trans (g1.2 i hi).2⟩⟩
   |box o=>exact go _ I
   |fz t xs=>exact go _ I
  |false=>exact go _ I
end
section
variable {i n:Nat} {c:qk} {v:AV} {γ γ':Gh} {a:Act} {u:Value} {o:Oper} {g:Option Bool} {σ:Operand -> Value}
abbrev yz:=List (Nat×qk×AV)
def lW:yz->Nat->Option (qk×AV)
 |[],_=>Te
 |(j,c,v)::e,i=>bif Nat.beq i j then Td (c,v)else lW e i
def mP(γ:Gh)(σ:Nat->Value)(x:Nat×qk×AV):Prop:=(valid σ x.2.1->DenV γ x.2.2 (σ x.1))/\(¬valid σ x.2.1->σ x.1=undef)
structure SatA (n:Nat) (e:yz) (γ:Gh) (a:Act):Prop where
 defers:a.defers=[]
 size:a.tmps.size=n
 all:∀x∈e,mP γ (qh a) x
def pS:yz->Nat->yz
 |[],_=>[]
 |(j,c,v)::e,i=>bif (bif Nat.beq i j then Ta else mentions c i)then pS e i else(j,c,v)::pS e i
def Da(e:yz)(i:Nat)(c:qk)(v:AV):yz:=(i,c,v)::pS e i
def sQ(e:yz):Option Nat->qk->AV->yz
 |none,_,_=>e
 |some d,c,v=>Da e d c v
def mn:yz->yz
 |[]=>[]
 |(j,[],v)::e=>(j,[],v)::mn e
 |(_,_::_,_)::e=>mn e
def oV(c:Nat):yz->yz
 |[]=>[]
 |(j,ch,v)::e=>bif td c v then oV c e else(j,ch,v)::oV c e
def te:Option Nat->yz->yz
 |none,e=>e
 |some c,e=>oV c e
theorem Zj{e:yz}(h:lW e i=Td (c,v)):(i,c,v)∈e:=by
 induction e with
 |nil=>cases h
 |cons x e f=>obtain⟨j,b,l⟩:=x;simp only[lW]at h;by_cases k:Nat.beq i j=Ta;simp_all;simp_all
theorem Mj{e:yz}{x:Nat×qk×AV}(h:x∈pS e i):x∈e/\x.1≠i/\mentions x.2.1 i=Tc:=by
 induction e with
 |nil=>cases h
 |cons y e o=>
  obtain⟨j,f,n⟩:=y;simp only[pS]at h;by_cases k:Nat.beq i j=Ta;simp_all;have c:Nat.beq i j=Tc:=Bool.eq_false_iff.2 k;simp only[c,zL]at h;by_cases l:mentions f i=Ta;simp_all;have b:mentions f i=Tc:=by simpa using l
  simp only[b,zL]at h;rcases Up.1 h with rfl|h;refine⟨UF,λm=>?_,b⟩;simp_all;simp_all
theorem RE{e:yz}{x:Nat×qk×AV}(h:x∈mn e):x∈e/\x.2.1=[]:=by
 induction e with
 |nil=>cases h
 |cons y e i=>
  obtain⟨j,b,f⟩:=y;cases b with
  |nil=>simp only[mn]at h;grind
  |cons c cs=>simp only[mn]at h;simp_all
theorem HU{c:Option Nat}{e:yz}{x:Nat×qk×AV}(h:x∈te c e):x∈e/\mh td c x.2.2=Tc:=by
 cases c with
 |none=>exact⟨h,rfl⟩
 |some c=>
  have key:∀e:yz,x∈oV c e->x∈e/\td c x.2.2=Tc:=by
   intro e;induction e with
   |nil=>intro h;cases h
   |cons y e b=>obtain⟨j,f,i⟩:=y;intro h;simp only[oV]at h;grind
  exact key e h
theorem SatA.sub{e b:yz}(h:SatA n e γ a)(c:∀x∈b,x∈e):SatA n b γ a:=⟨h.defers,h.size,λx f=>h.all x (c x f)⟩
theorem SatA.clean{e:yz}(h:SatA n e γ a):SatA n (mn e) γ a:=h.sub λ_ b=>(RE b).1
theorem SatA.gx{e:yz}{c:Option Nat}(h:SatA n e γ a)(g:Gx c γ γ'):SatA n (te c e) γ' a:= ⟨h.defers,h.size,λx i=>by obtain⟨h1,f⟩:=HU i;exact⟨λb=>((h.all x h1).1 b).gx g f,(h.all x h1).2⟩⟩
theorem SatA.gx0{e:yz}(h:SatA n e γ a)(g:Gx Te γ γ'):SatA n e γ' a:=h.gx g
theorem SatA.put{e:yz}(h:SatA n e γ a)(hi:i<n)(w:mentions c i=Tc)
  (y:valid (qh a) c->DenV γ v u) (t:¬valid (qh a) c->u=undef):SatA n (Da e i c v) γ (a.put (Td i) u):=by
 refine⟨by rw[xr];exact h.defers,by rw[size_put];exact h.size,λx m=>?_⟩;have k:i<a.tmps.size:=by rw[h.size];exact hi
 rcases Up.1 m with rfl|m;have l:=Yw (σ:=qh (a.put (Td i) u)) (τ:=qh a) w (λj o=>yh o);refine⟨λf=>?_,λf=>?_⟩;simp only;rw[Ze k];grind;exact(Ze k).trans (t (λb=>f (l.2 b)));obtain⟨h1,q,r⟩:=Mj m;have l:=Yw (σ:=qh (a.put (Td i) u)) (τ:=qh a) r (λj o=>yh o);have p:=h.all x h1;refine⟨λf=>?_,λf=>?_⟩;rw[yh q];exact p.1 (l.1 f);exact(yh q).trans (p.2 (λb=>f (l.2 b)))
theorem SatA.putO{e:yz}(h:SatA n e γ a){d:Option Nat}(f:wj n c d=Ta)
  (k:valid (qh a) c->DenV γ v u) (l:¬valid (qh a) c->u=undef):SatA n (sQ e d c v) γ (a.put d u):=by
 cases d with
 |none=>exact h
 |some i=>
  simp only[wj]at f;by_cases j:mentions c i=Ta;grind;have b:mentions c i=Tc:=by simpa using j
  simp only[b,zL]at f;exact h.put (by simp_all) b k l
def wZ:Value->AG
 |.agg cs=>.agg (cs.toList.map .v)
 |v=>.a (.v v)
def oQ:Value->AV
 |.tuple vs=>.tup (vs.toList.map wZ)
 |v=>.g (wZ v)
theorem Dm(γ:Gh)(v:Value):DenG γ (wZ v) v:=by
 cases v with
 |agg cs=>
  refine⟨cs.toList,by simp,?_⟩;generalize cs.toList=l;induction l with
  |nil=>trivial
  |cons x l b=>exact⟨rfl,b⟩
 |_=>exact rfl
theorem Wl(γ:Gh)(v:Value):DenV γ (oQ v) v:=by
 cases v with
 |tuple vs=>
  refine⟨vs.toList,by simp,?_⟩;generalize vs.toList=l;induction l with
  |nil=>trivial
  |cons x l b=>exact⟨Dm γ x,b⟩
 |agg cs=>exact Dm γ (.agg cs)
 |_=>exact rfl
def km:List AA->Option (List Value)
 |[]=>Td []
 |.v x::l=>match km l with
  |some vs=>Td (x::vs)
  |none=>Te
 |_::_=>Te
def oL:AV->Option Value
 |.g (.a (.v x))=>Td x
 |.g (.agg l)=>match km l with
  |some vs=>Td (.agg vs.toArray)
  |none=>Te
 |_=>Te
theorem Bv{γ:Gh}:∀{l:List AA} {vs us:List Value},km l=Td vs->All2 (DenA γ) l us->us=vs
 |[],vs,[],h,_=>by simp only[km,Ug]at h;exact h
 |[],_,_::_,_,h=>h.elim
 |.v x::l,vs,u::us,h,hd=>by simp only[km]at h;split at h;rename_i ws b;simp only[Ug]at h;subst h;rw[show u=x from hd.1,Bv b hd.2];cases h
 |.v _::_,_,[],_,h=>h.elim
 |.d _ _::_,_,_,h,_=>by simp[km]at h
 |.box _ _::_,_,_,h,_=>by simp[km]at h
 |.own _::_,_,_,h,_=>by simp[km]at h
 |.oelt _ _ _ _::_,_,_,h,_=>by simp[km]at h
 |.elt _ _ _::_,_,_,h,_=>by simp[km]at h
 |.dc _ _::_,_,_,h,_=>by simp[km]at h
theorem xS{x:AV}{v u:Value}(h:oL x=Td v)(b:DenV γ x u):u=v:=by unfold oL at h;split at h;simp only[Ug]at h;subst h;exact b;rename_i l;split at h;rename_i vs c;simp only[Ug]at h;subst h;obtain⟨us,rfl,e⟩:=b;rw[Bv c e];cases h;cases h
def iZ(e:yz)(c:qk):Operand->Option AV
 |.tmp t=>match lW e t with
  |some (cs,v)=>bif kq cs c then Td v else Te
  |none=>Te
 |.const v=>Td (oQ v)
 |.global g=>Td (.g (.a (.v (.pointer (Td ⟨g,0,Te⟩)))))
 |.func f=>Td (.g (.a (.v (.func (.func f) #[] #[]))))
theorem xz{e:yz}(h:SatA n e γ a)(k:valid (qh a) c){x:Operand}(b:iZ e c x=Td v):DenV γ v (a.eval x):=by
 cases x with
 |tmp t=>simp only[iZ]at b;split at b;rename_i cs u j;by_cases i:kq cs c=Ta;simp only[i,zK,Ug]at b;subst b;exact(h.all _ (Zj j)).1 (Q8 i k);grind;cases b
 |const u=>simp only[iZ,Ug]at b;subst b;exact Wl γ u
 |global g=>simp only[iZ,Ug]at b;subst b;exact rfl
 |func f=>simp only[iZ,Ug]at b;subst b;exact rfl
def oK:AV->Option Bool
 |.g (.a (.v (.bool b)))=>Td b
 |_=>Te
theorem uU{b:Bool}(h:oK v=Td b)(c:DenV γ v u):u=.bool b:=by unfold oK at h;split at h;simp only[Ug]at h;subst h;exact c;cases h
def pN(ops:Array Oper)(e:yz):Option (Nat×Bool)->Option qk
 |none=>Td []
 |some (j,p)=>match j7 ops j with
  |some g=>match lW e g with
   |some (cg,v)=>match oK v with
    |some _=>Td ((g,p)::cg)
    |none=>Te
   |none=>Te
  |none=>Te
def qI(e:yz):qk->Option Bool
 |[]=>Td Ta
 |(g,p)::c=>match lW e g with
  |some (cg,v)=>match oK v with
   |some b=>bif xt cg c then(match qI e c with
    |some cb=>Td (cb&&(bif p then b else !b))
    |none=>Te)else Te
   |none=>Te
  |none=>Te
theorem Wm{n:Nat}{e:yz}{γ:Gh}{a:Act}(h:SatA n e γ a):∀{c:qk} {b:Bool},qI e c=Td b->(b=Ta↔valid (qh a) c)
 |[],b,hb=>by simp only[qI,Ug]at hb;simp[<-hb,valid]
 |(g,p)::c,b,hb=>by
  simp only[qI]at hb;split at hb;rename_i t v o;split at hb;rename_i m j;by_cases l:xt t c=Ta;simp only[l,zK]at hb;split at hb;rename_i cb i;simp only[Ug]at hb;have r:=Wm h i;have k:=h.all _ (Zj o);rw[Q7 l]at k;by_cases f:valid (qh a) c;have h1:qh a g=.bool m:=uU j (k.1 f);have q:=r.2 f;subst hb;simp only[valid,h1,f,q,Vz,and_true,Value.bool.injEq];grind;have h1:cb=Tc:=by cases cb with|false=>rfl|true=>simp_all
  subst hb;simp[valid,f,h1];cases hb;grind;cases hb;cases hb
theorem Fu{ops:Array Oper}{e:yz}(h:SatA n e γ a)(f:pN ops e o.guard=Td c):
  UX o (yielded ops a.tmps)=Ta↔valid (qh a) c:=by
 unfold UX;cases hg:o.guard with
 |none=>rw[hg]at f;simp only[pN,Ug]at f;simp[<-f,valid]
 |some t=>
  obtain⟨j,p⟩:=t;rw[hg]at f;simp only[pN]at f;split at f;rename_i g i;split at f;rename_i u v q;split at f;rename_i b w;simp only[Ug]at f;subst f;have k:((ops[j]?).bind (·.dst))=Td g:=by simp only[j7]at i;split at i;simp_all;cases i
  have m:=h.all _ (Zj q);have r:yielded ops a.tmps j=Td p↔qh a g=.bool p:=by
   unfold yielded qh;rw[k];simp only[VK];cases ht:a.tmps[g]? with
   |none=>simp[Vh,ht,undef]
   |some v=>cases v <;> simp[Vh,ht]
  simp only[beq_iff_eq,r,valid];constructor;intro h1;refine⟨h1,?_⟩;by_cases l:valid (qh a) u;exact l;have:=m.2 l;simp only at this;rw[h1]at this;exact absurd this.symm Ai;simp_all;cases f;cases f;cases f
def Xk(e:yz):qk->Option (Option Bool)
 |[]=>Td Te
 |c=>match qI e c with
  |some b=>Td (Td b)
  |none=>Te
theorem F9{e:yz}(i:SatA n e γ a)(h:Xk e c=Td g)(j:valid (qh a) c):fK g:=by unfold Xk at h;split at h;simp only[Ug]at h;subst h;trivial;split at h;rename_i b f;simp only[Ug]at h;subst h;exact(Wm i f).2 j;cases h
theorem Dl{e:yz}(j:SatA n e γ a)(h:Xk e c=Td g)(f:¬valid (qh a) c):g=Td Tc:=by
 unfold Xk at h;split at h;exact absurd trivial f;split at h;rename_i b i;simp only[Ug]at h;subst h;cases b with
 |false=>rfl
 |true=>exact absurd ((Wm j i).1 rfl) f
 cases h
def rF(ρ:Operand->Option AV)(x:Operand):Value:=match ρ x with
 |some av=>match oL av with
  |some v=>v
  |none=>undef
 |none=>undef
def oo(ρ:Operand->Option AV):List Operand->Bool
 |[]=>Ta
 |x::l=>match ρ x with
  |some av=>match oL av with
   |some _=>oo ρ l
   |none=>Tc
  |none=>Tc
theorem Kp{ρ:Operand->Option AV}(h:∀x av,ρ x=Td av->DenV γ av (σ x)){l:List Operand}(c:oo ρ l=Ta):∀x∈l,σ x=rF ρ x:=by
 induction l with
 |nil=>simp
 |cons y l i=>intro x f;simp only[oo]at c;split at c;rename_i av e;split at c;rename_i v b;rcases Up.1 f with rfl|f;rw[xS b (h _ _ e)];simp[rF,e,b];grind;cases c;cases c
theorem Lz{ρ:Operand->Option AV}(f:∀x av,ρ x=Td av->DenV γ av (σ x))(c:Yy o.op=Ta)(e:oo ρ o.op.operands.toList=Ta):
  execOp σ o=execOp (rF ρ) o:=
 execOp_congr o (λcs b h=>by rw[h]at c;cases c) λx i=>Kp f e x (by simpa using i)
end
section
variable {o n f k:Nat} {h:zc} {u:Value} {us:List Value} {cs:CS} {γ:Gh} {t ty:TypeId} {P:Program}
variable {h0 : zc} {W : Nat -> Prop} {M0 : Fr}
def takeN(l:List AA)(o n:Nat):Option (List AA):=bif Nat.beq ((l.drop o).take n).length n then Td ((l.drop o).take n)else Te
theorem Xl{l r:List AA}(h:takeN l o n=Td r):r=(l.drop o).take n/\r.length=n:=by
 unfold takeN at h;cases hb:Nat.beq ((l.drop o).take n).length n with
 |false=>simp_all
 |true=>rw[hb]at h;simp_all
theorem DW{h:zc}{p:Addr}:∀{us:List Value} {i:Nat},(∀j v,us[j]?=Td v->zd h (p.add (i+j))=Td v)->ze h p i us
 |[],_,_=>trivial
 |v::us,i,H=>⟨by have:=H 0 v rfl;omega,DW λj u b=>by have:=H (j+1) u (by simpa using b);grind⟩
def Behind(h:zc)(u:Value)(us:List Value):Prop:=∃b o,u=.pointer (Td ⟨b,o,Te⟩)/\∀j v,us[j]?=Td v->zd h ⟨b,o+j,Te⟩=Td v
theorem Behind.ld(H:Behind h u us):∃p:Addr,u=.pointer (Td p)/\ze h p 0 us/\∀v,us=[v]->zd h p=Td v:=by obtain⟨b,o,e,f⟩:=H;refine⟨_,e,DW λj v c=>?_,λv c=>?_⟩;rw[zh,Uy];exact f j v c;have:=f 0 v (by rw[c];rfl);omega
theorem H8{cs:Array Value}{f n j:Nat}{v:Value}(h:(cut cs f n)[j]?=Td v):cs[f+j]?=Td v:=by unfold cut at h;grind
def tf(cs:CS)(n:Nat):AA->Option (List AA)
 |.box c o=>match Yg cs c with
  |some (.box l)=>bif jJ l then Te else takeN l o n
  |_=>Te
 |.elt t x o=>takeN (Yf t x) o n
 |_=>Te
theorem ND(I:Inv h0 W M0 cs γ h){y:AA}{r:List AA}(k:tf cs n y=Td r)(w:DenA γ y u):
  ∃us,Behind h u us/\us.length=n/\All2 (DenA γ) r us:=by
 unfold tf at k;split at k
 ·rename_i c o;split at k
  ·rename_i l z;cases hit:jJ l with
   |true=>simp_all
   |false=>
   rw[hit]at k;obtain⟨rfl,q⟩:=Xl k;obtain⟨us,e,A⟩:=I.den _ (qf z);rcases e with⟨⟨T,e⟩,_⟩|⟨s,p,e,_⟩;case inr=>grind [tI]
   have m:=(A.drop o).take n;refine⟨(us.drop o).take n,⟨_,_,w,λj v i=>?_⟩,by rw[<-m.length];exact q,m⟩;rw[UU]at i;split at i;rw[Vd]at i;unfold zd;simp_all;cases i
  cases k
 rename_i t x o;obtain⟨rfl,q⟩:=Xl k;obtain⟨b,f,D,e,C,B⟩:=w;have m:=((wo (γ:=γ) B).drop o).take n;refine⟨_,⟨_,_,e,λj v i=>?_⟩,by rw[<-m.length];exact q,m⟩;rw[UU]at i;split at i;rw[Vd]at i;have:=H8 i;exact I.ag.cell C (by grind);cases i;cases k
theorem If(I:Inv h0 W M0 cs γ h){c:Nat}{e:TypeId}{t:Ty}{xs:List (El t)}(J:Yg cs c=Td (.row e t xs)){i:Nat}{y:El t}(B:xs[i]?=Td y){r:List AA}(G:takeN (Yf t y) o n=Td r)(D:DenA γ (.oelt c (sz t) i o) u):∃us,Behind h u us/\us.length=n/\All2 (DenA γ) r us:=by
 obtain⟨rfl,H⟩:=Xl G;obtain⟨g,E,rfl⟩:=D;obtain⟨cells,f,l,_,F⟩:=I.den _ (qf J);simp only at F f;rcases f.2 with⟨m,h1⟩|⟨g',cap,w,m,_,p,_,_,_,k⟩;simp_all;simp only[UY]at m;rw[E]at m;have z:g=g':=by have:=m.1;simp only[Ug,Addr.mk.injEq]at this;exact this.1
 subst z;have hi:i<xs.length:=(UV.1 B).1;have q:xs[i]=y:=(UV.1 B).2;have A:=l.2 i hi;rw[q]at A;have C:=((wo (γ:=γ) A).drop o).take n;refine⟨_,⟨_,_,rfl,λj v b=>?_⟩,by rw[<-C.length];exact H,C⟩;rw[UU]at b;split at b;rw[Vd,UU]at b;split at b;rw[Vd,<-k,UU]at b;split at b;have L:h[g]?=Td (.cells w e (0,0)):=p;unfold zd;grind;cases b;cases b;cases b
def lQ:Option Nat->List AA->Option AG
 |none,[x]=>Td (.a x)
 |some _,l=>Td (.agg l)
 |_,_=>Te
def Wn(P:Program)(t:TypeId):Option (Option Nat):=match jY P t with
 |some (.one _)=>Td Te
 |some (.agg l)=>Td (Td l.length)
 |none=>Te
def kX:Option Nat->Nat
 |none=>1
 |some n=>n
theorem wO{s:Option Nat}(c:Wn P t=Td s)(n:Behind h u us)(k:us.length=kX s){r:List AA}(b:All2 (DenA γ) r us){ag:AG}(i:lQ s r=Td ag):
  ∃v,DenG γ ag v/\QExec P (WQ t u) h v:=by
 obtain⟨p,e,m,h1⟩:=n.ld;subst e;have f:∀v,QExec P (loadVar t p) h v->QExec P (WQ t (.pointer (Td p))) h v:=λv o B d=>by unfold WQ WZ;simp only[Sem.run_bind,Sem.run_pure,Result.andThen_ok];exact o B d
 unfold Wn at c;split at c;rename_i a j;simp only[Ug]at c;subst c
 match us,k,r,b with
 |[v],_,[x],b=>simp only[lQ,Ug]at i;subst i;exact⟨v,b.1,f v (pI j (h1 v rfl))⟩
 |[v],_,[],b=>exact b.elim
 |[v],_,_::_::_,b=>exact b.2.elim
 rename_i l j;simp only[Ug]at c;subst c;simp only[lQ,Ug]at i;subst i;exact⟨.agg us.toArray,⟨us,rfl,b⟩,f _ (oY j k m)⟩;cases c
def oF(P:Program)(cs:CS)(t:TypeId)(b:AA)(g:Option Bool)(K:AV->Prop):Prop:=
 match Wn P t with
 |some s=>match b with
  |.oelt c z i o=>match Yg cs c with
   |some (.row e ty xs)=>bif Nat.beq z (sz ty)then(∃y:El ty,req g (xs[i]?=Td y)/\match takeN (Yf ty y) o (kX s)with
    |some r=>match lQ s r with
     |some ag=>K (.g ag)
     |none=>False
    |none=>False)else False
   |_=>False
  |b=>match tf cs (kX s) b with
   |some r=>match lQ s r with
    |some ag=>K (.g ag)
    |none=>False
   |none=>False
 |none=>False
theorem Cq{p:AA}{g:Option Bool}{K:AV->Prop}(H:oF P cs t p g K):
  ∃av,K av/\(fK g->∀γ h u,Inv h0 W M0 cs γ h->DenA γ p u->∃v,DenV γ av v/\QExec P (WQ t u) h v):=by
 unfold oF at H;split at H;rename_i s m;split at H;rename_i c z i o;split at H;rename_i e ty xs w;cases hz:Nat.beq z (sz ty)with
 |false=>simp_all
 |true=>rw[hz]at H;obtain⟨y,q,H⟩:=H;split at H;rename_i r k;split at H;rename_i ag f;refine⟨_,H,λn γ h u I b=>?_⟩;rw[UC hz]at b;obtain⟨us,h1,j,l⟩:=If I w (q.out n) k b;exact wO m h1 j l f;exact H.elim;exact H.elim
 exact H.elim;split at H;rename_i r k;split at H;rename_i ag f;refine⟨_,H,λn γ h u I b=>?_⟩;obtain⟨us,h1,j,l⟩:=ND I k b;exact wO m h1 j l f;exact H.elim;exact H.elim;exact H.elim
def q8(P:Program)(t:TypeId)(f:Nat):Option (Nat×TypeId):=match P.underlying t with
 |some (.struct fs)=>match fs[f]? with
  |some b=>match P.info? b.type with
   |some i=>bif Nat.beq i.size 0 then Te else Td (b.offset,b.type)
   |none=>Te
  |none=>Te
 |_=>Te
def rK(k:Nat):AA->Option AA
 |.box c o=>Td (.box c (o+k))
 |.elt t x o=>Td (.elt t x (o+k))
 |.oelt c z i o=>Td (.oelt c z i (o+k))
 |_=>Te
theorem PD(c:q8 P t f=Td (k,ty))(b o:Nat):QExec P (Instr.fieldAt t (.pointer (Td ⟨b,o,Te⟩)) f) h (.pointer (Td ⟨b,o+k,Te⟩)):=by
 unfold q8 at c;split at c;rename_i r n;split at c;rename_i p l;split at c;rename_i i hi;cases hz:Nat.beq i.size 0 with
 |true=>simp_all
 |false=>
  rw[hz]at c;simp only[zL,Ug,Vl]at c;obtain⟨rfl,rfl⟩:=c;intro B d;have m:=QExec.underlying (h:=h) n B d;have q:=QExec.sizeOf (h:=h) hi B d;have j:¬(je P p.type=0):=by unfold je;rw[hi];intro e;simp only at e;rw[e]at hz;simp at hz
  unfold Instr.fieldAt WZ fieldPlace;simp only[Sem.run_bind,m,Result.andThen_ok,l,Sem.run_pure,q,j,if_false,zh]
 cases c;cases c;cases c
theorem Ck{j c:AA}(h:rK k j=Td c)(i:DenA γ j u):∃b o,u=.pointer (Td ⟨b,o,Te⟩)/\DenA γ c (.pointer (Td ⟨b,o+k,Te⟩)):=by unfold rK at h;split at h;simp only[Ug]at h;subst h;exact⟨_,_,i,rfl⟩;simp only[Ug]at h;subst h;obtain⟨b,f,cs,e,h1,m⟩:=i;exact⟨_,_,e,b,f,cs,by grind,h1,m⟩;simp only[Ug]at h;subst h;obtain⟨g,l,n⟩:=i;exact⟨_,_,n,g,l,by grind⟩;cases h
def qO(P:Program)(ty:TypeId)(l:List AA)(k:Nat):Option AG:=match Wn P ty with
 |some s=>match takeN l k (kX s)with
  |some r=>lQ s r
  |none=>Te
 |none=>Te
theorem BI{s:Option Nat}(c:Wn P t=Td s)(h:zc):QExec P (isAgg t) h s.isSome:=by
 unfold Wn at c;split at c;rename_i a b;simp only[Ug]at c;subst c;unfold jY at b;split at b;grind;grind;rename_i d i o f;intro B e;have j:=QExec.underlying (h:=h) f B e;unfold isAgg;simp_all;cases b;rename_i l b;simp only[Ug]at c;subst c;unfold jY at b;have f:(∃k,P.underlying t=Td (.struct k))\/∃n e,P.underlying t=Td (.array n e):=by split at b;simp_all;simp_all;simp at b;cases b
 intro B e;rcases f with⟨k,f⟩|⟨m,p,f⟩;have j:=QExec.underlying (h:=h) f B e;unfold isAgg;simp_all;have j:=QExec.underlying (h:=h) f B e;unfold isAgg;simp_all;cases c
theorem HV(b:Wn P t=Td (Td n)):je P t=n/\∃i,P.info? t=Td i:=by
 unfold Wn at b;split at b;cases b
 ·rename_i l c;simp only[Ug]at b;subst b;unfold jY at c;have key:∀x:Option (List Atom),(match x with
    |some l=>bif Nat.beq l.length (je P t)then Td (VT.agg l)else Te
    |none=>Te)=Td (.agg l)->je P t=l.length:=by
   intro x e;split at e;rename_i f;cases hb:Nat.beq f.length (je P t)with
   |false=>simp_all
   |true=>simp_all
   cases e
  split at c;exact⟨key _ c,info_of_underlying (by assumption)⟩;exact⟨key _ c,info_of_underlying (by assumption)⟩;simp at c;cases c
 cases b
theorem xJ{l:List AA}{ag:AG}(b:qO P ty l k=Td ag)(m:All2 (DenA γ) l us)(h:zc):∃v,DenG γ ag v/\QExec P (part ty us.toArray k) h v:=by
 unfold qO at b;split at b;rename_i s j;split at b;rename_i r p;obtain⟨rfl,t⟩:=Xl p;have c:=(m.drop k).take (kX s);have e:((us.drop k).take (kX s)).length=kX s:=by rw[<-c.length];exact t
 cases s with
 |none=>
  generalize f:(us.drop k).take (kX Te)=q at *
  match q,e,f with
  |[v],_,f=>
   generalize o:(l.drop k).take (kX Te)=r' at *
   match r',c with
   |[x],c=>
    simp only[lQ,Ug]at b;subst b;refine⟨v,c.1,λB d=>?_⟩;have u:=BI j h B d;have w:us[k]?=Td v:=by
     have:((us.drop k).take 1)[0]?=Td v:=by rw[show(us.drop k).take 1=[v]from f];rfl
     rw[UU,zA (by omega),Vd]at this;simpa using this
    unfold part;simp_all
   |[],c=>exact c.elim
   |_::_::_,c=>exact c.2.elim
 |some n=>simp only[lQ,Ug]at b;subst b;refine⟨.agg ((us.drop k).take n).toArray,⟨_,rfl,c⟩,λB d=>?_⟩;have u:=BI j h B d;obtain⟨hz,i,hi⟩:=HV j;have y:=QExec.sizeOf (h:=h) hi B d;unfold part;simp_all
 cases b;cases b
end
section
variable {cs:CS} {γ:Gh} {h:zc} {u:Value} {t el:TypeId} {a:Option Addr} {n:Int} {av:AV} {P:Program} {g:Option Bool} {σ:Operand -> Value} {b:Bool} {o:Oper}
variable {h0 : zc} {W : Nat -> Prop} {M0 : Fr}
def rowOf(cs:CS):AA->Option ((t:Ty)×List (El t))
 |.d (.row t) xs=>Td ⟨t,xs⟩
 |.dc t xs=>Td ⟨t,xs⟩
 |.own c=>match Yg cs c with
  |some (.fz t xs)=>Td ⟨t,xs⟩
  |_=>Te
 |_=>Te
theorem qG(I:Inv h0 W M0 cs γ h){e:AA}{r:(t:Ty)×List (El t)}(b:rowOf cs e=Td r)(c:DenA γ e u):Rd γ.M (.row r.1) r.2 [u]:=by unfold rowOf at b;split at b;simp only[Ug]at b;subst b;exact c;simp only[Ug]at b;subst b;obtain⟨s,_,_,h⟩:=c;exact h;split at b;rename_i t xs f;simp only[Ug]at b;subst b;rw[show u=_ from c];exact I.den _ (qf f);cases b;cases b
theorem Rd.sub{M:Fr}{t:Ty}{xs:List (El t)}{n c:Nat}(H:Rd M (.row t) xs [.slice a n c]){l r m:Nat}(h1:l<=r)(w:r<=xs.length)(C:r<=m)(A:m<=c):
  Rd M (.row t) ((xs.take r).drop l) [.slice (im a (sz t) l m) (r-l) (m-l)]:=by
 obtain⟨v,e,z,y,j,D,H⟩:=H;cases e;simp only[UY]at j;obtain⟨rfl,rfl,rfl⟩:=j;have f:((xs.take r).drop l).length=r-l:=by simp;omega
 refine⟨_,rfl,im a (sz t) l m,m-l,by rw[f],⟨by omega,by omega⟩,?_⟩;by_cases B:r=l;simp_all;rcases H with u|⟨b,o,cs,q,k,hi⟩;simp_all;right;have h:¬(m=l):=by omega
 refine⟨b,o+l*sz t,cs,?_,k,λi p=>?_⟩;unfold im;rw[zv h,q];simp[zh];grind
def tE:AV->Option Int
 |.g (.a (.v (.int _ n)))=>Td n
 |_=>Te
theorem FC(h:tE av=Td n)(b:DenV γ av u):∃k,u=.int k n:=by unfold tE at h;split at h;simp only[Ug]at h;subst h;exact⟨_,b⟩;cases h
def oy(P:Program)(t:TypeId):Option TypeId:=match P.underlying t with
 |some (.slice el)=>bif qo P el then Td el else Te
 |_=>Te
theorem sD(h:oy P t=Td el):P.underlying t=Td (.slice el)/\qo P el=Ta:=by unfold oy at h;grind
def vN(P:Program)(cs:CS)(t:TypeId)(b:AA)(n:Int)(g:Option Bool)(K:AV->Prop):Prop:=
 match oy P t with
 |some el=>match rowOf cs b with
  |some r=>bif Nat.beq (je P el) (sz r.1)then ∃y:El r.1,req g (0<=n/\r.2[n.toNat]?=Td y)/\K (.g (.a (.elt r.1 y 0)))else False
  |none=>match b with
   |.own c=>match Yg cs c with
    |some (.row e ty xs)=>bif Nat.beq (je P el) (sz ty)then req g (0<=n/\n.toNat<xs.length)/\K (.g (.a (.oelt c (sz ty) n.toNat 0)))else False
    |_=>False
   |_=>False
 |none=>False
theorem BJ(f:P.underlying t=Td (.slice el))(l:qo P el=Ta){a:Addr}{len cap:Nat}{k:IntKind}(h1:0<=n)(c:n<(len:Int))(h:zc):
  QExec P (XU t (.slice (Td a) len cap) (.int k n)) h (.pointer (Td (a.add (n.toNat*je P el)))):=by
 have:=Zi (P:=P) (t:=t) (x:=.slice (Td a) len cap) (i:=.int k n) (g:=Te) (K:=λv=>v=.pointer (Td (a.add (n.toNat*je P el)))) (λj e=>by simp_all[jl]) (by unfold pq;rw[f];exact⟨a,⟨rfl,h1,c⟩,rfl⟩);obtain⟨v,rfl,b⟩:=this;exact b trivial h
theorem TG{G:AA}{K:AV->Prop}(H:vN P cs t G n g K):
  ∃av,K av/\(fK g->∀γ h u k,Inv h0 W M0 cs γ h->DenA γ G u->∃v,DenV γ av v/\QExec P (XU t u (.int k n)) h v):=by
 unfold vN at H;split at H;rename_i el z;obtain⟨F,E⟩:=sD z;split at H;rename_i r T;cases hz:Nat.beq (je P el) (sz r.1)with
 |false=>simp_all
 |true=>rw[hz]at H;obtain⟨y,B,A⟩:=H;refine⟨_,A,λq γ h u k I p=>?_⟩;obtain⟨i,l⟩:=B.out q;have j:=UC hz;obtain⟨v,e,a,c,O,hn,H⟩:=qG I T p;cases e;subst O;have hi:n.toNat<r.2.length:=(UV.1 l).1;have U:r.2[n.toNat]=y:=(UV.1 l).2;rcases H with Z|⟨b,o,L,V,M,w⟩;simp_all;subst V;refine⟨_,?_,BJ F E i (by omega) h⟩;have:=w n.toNat hi;rw[U]at this;rw[zh,j];exact⟨b,o+n.toNat*sz r.1,L,rfl,M,this⟩
 split at H;rename_i c _;split at H;rename_i e ty xs Y;cases hz:Nat.beq (je P el) (sz ty)with
 |false=>simp_all
 |true=>rw[hz]at H;obtain⟨B,A⟩:=H;refine⟨_,A,λq γ h u k I p=>?_⟩;obtain⟨i,hi⟩:=B.out q;have j:=UC hz;obtain⟨cells,f,J,_,S⟩:=I.den _ (qf Y);simp only at S f;rcases f.2 with⟨m,h1⟩|⟨g',cap,Q,m,_,N,_,_,_,C⟩;omega;simp only[UY]at m;have D:u=aK (γ.σ c):=p;subst D;unfold aK;rw[m.1];refine⟨_,?_,BJ F E i (by omega) h⟩;rw[zh,j,Uy];exact⟨g',m.1,rfl⟩
 exact H.elim;exact H.elim;exact H.elim
def qH(ρ:Operand->Option AV)(d:Int):Option Operand->Option Int
 |none=>Td d
 |some x=>match ρ x with
  |some av=>tE av
  |none=>Te
theorem Yj{ρ:Operand->Option AV}(c:∀x av,ρ x=Td av->DenV γ av (σ x)){d n:Int}{x:Option Operand}(h:qH ρ d x=Td n):yj (x.map σ) d=Td n:=by unfold qH at h;split at h;exact h;rename_i y;split at h;rename_i av b;obtain⟨k,e⟩:=FC h (c _ _ b);simp[yj,e];cases h
def vm(P:Program)(cs:CS)(ρ:Operand->Option AV)(t:TypeId)(b:AA)(lo hi mx:Option Operand)(g:Option Bool)(K:AV->Prop):Prop:=
 match oy P t with
 |some el=>match rowOf cs b with
  |some r=>bif Nat.beq (je P el) (sz r.1)then(match qH ρ 0 lo,qH ρ (r.2.length:Int) hi with
   |some l,some h=>match mx with
    |none=>req g (0<=l/\l<=h/\h<=(r.2.length:Int))/\K (.g (.a (.d (.row r.1) ((r.2.take h.toNat).drop l.toNat))))
    |some m=>match qH ρ 0 (Td m),hi with
     |some m,some _=>req g (0<=l/\l<=h/\h<=(r.2.length:Int)/\m=h)/\K (.g (.a (.dc r.1 ((r.2.take h.toNat).drop l.toNat))))
     |_,_=>False
   |_,_=>False)else False
  |none=>False
 |none=>False
theorem FA(f:P.underlying t=Td (.slice el))(q:qo P el=Ta){len cap:Nat}{lo hi mx:Option Value}{l r m:Int}(b:yj lo 0=Td l)(e:yj hi (len:Int)=Td r)(j:yj mx (cap:Int)=Td m) (h0:mx=Te\/∃v,hi=Td v) (h1:0<=l) (c:l<=r) (i:r<=m) (o:m<=(cap:Int)) (h:zc):
  QExec P (XM t (.slice a len cap) lo hi mx) h (.slice (im a (je P el) l.toNat m.toNat) (r.toNat-l.toNat) (m.toNat-l.toNat)):=by
 have:=Qt (P:=P) (t:=t) (x:=.slice a len cap) (lo:=lo) (hi:=hi) (mx:=mx) (g:=Te) (K:=λv=>v=.slice (im a (je P el) l.toNat m.toNat) (r.toNat-l.toNat) (m.toNat-l.toNat)) (λp n=>by simp_all[jl]) (by unfold tK;rw[f];simp only[b,e,j];exact⟨h0,⟨h1,c,i,o⟩,trivial⟩);obtain⟨v,rfl,k⟩:=this;exact k trivial h
theorem QI{ρ:Operand->Option AV}{G:AA}{lo hi mx:Option Operand}{K:AV->Prop}(H:vm P cs ρ t G lo hi mx g K):
  ∃av,K av/\(fK g->∀γ h u σ,Inv h0 W M0 cs γ h->(∀x av,ρ x=Td av->DenV γ av (σ x))->DenA γ G u->∃v,DenV γ av v/\QExec P (XM t u (lo.map σ) (hi.map σ) (mx.map σ)) h v):=by
 unfold vm at H;split at H;rename_i el w;obtain⟨F,C⟩:=sD w;split at H;rename_i r E;cases hz:Nat.beq (je P el) (sz r.1)with
 |false=>simp_all
 |true=>
  rw[hz]at H;have n:=UC hz;simp only[zK]at H;split at H;rename_i l O D k;split at H;obtain⟨B,y⟩:=H;refine⟨_,y,λq γ h u σ I j o=>?_⟩;obtain⟨h1,p,L⟩:=B.out q;have f:=qG I E o;have b:=f;obtain⟨v,e,a,c,z,M,_⟩:=b;cases e;subst z;refine⟨_,?_,FA F C (Yj j D) (Yj j k) (m:=(c:Int)) rfl (.inl rfl) h1 p (by omega) (Int.le_refl _) h⟩;rw[n];exact f.sub (by omega) (by omega) (by omega) (by omega);rename_i m;split at H;rename_i m' Q N;obtain⟨B,y⟩:=H;refine⟨_,y,λq γ h u σ I j o=>?_⟩;obtain⟨h1,p,L,J⟩:=B.out q;subst J;have f:=qG I E o;have b:=f;obtain⟨v,e,a,c,z,M,_⟩:=b;cases e;subst z;have i:=Yj j N;have A:yj ((Td m).map σ) (c:Int)=Td m':=by unfold yj at i ⊢;simp only[XX]at i ⊢;split at i <;> simp_all
  refine⟨_,?_,FA F C (Yj j D) (Yj j k) A (.inr ⟨_,rfl⟩) h1 p (Int.le_refl _) (by omega) h⟩;rw[n];refine⟨⟨_,_,_⟩,rfl,rfl,f.sub (by omega) (by omega) (by omega) (by omega)⟩;exact H.elim;exact H.elim
 exact H.elim;exact H.elim
def y4(cs:CS):AA->Option Nat
 |.d (.row _) xs=>Td xs.length
 |.dc _ xs=>Td xs.length
 |.own c=>match Yg cs c with
  |some (.fz _ xs)=>Td xs.length
  |some (.row _ _ xs)=>Td xs.length
  |_=>Te
 |_=>Te
theorem Sx(I:Inv h0 W M0 cs γ h){k:AA}{n:Nat}(b:y4 cs k=Td n)(f:DenA γ k u):∃a c,u=.slice a n c:=by
 have key:∀{t:Ty} {xs:List (El t)},Rd γ.M (.row t) xs [u]->∃a c,u=.slice a xs.length c:=by rintro t xs ⟨v,e,a,c,l,_⟩;cases e;exact⟨a,c,l⟩
 unfold y4 at b;split at b;simp only[Ug]at b;subst b;exact key f;simp only[Ug]at b;subst b;obtain⟨s,_,_,f⟩:=f;exact key f;split at b;rename_i c t xs i;simp only[Ug]at b;subst b;rw[show u=_ from f]at key ⊢;exact key (I.den _ (qf i));rename_i c e t xs i;simp only[Ug]at b;subst b;obtain⟨cells,_,_,_,j⟩:=I.den _ (qf i);simp only at j;rw[show u=_ from f];exact⟨_,_,by unfold aK;rw[j]⟩;cases b;cases b
def CP:AA->List AA
 |.v x=>x.cells.toList.map .v
 |x=>[x]
def o7:AV->Option (List AA)
 |.g (.a x)=>Td (CP x)
 |.g (.agg l)=>Td l
 |_=>Te
theorem OY(h:u.oneCell'=Ta):u.cells.toList=[u]:=by cases u <;> first|rfl|simp[Value.oneCell']at h
theorem Yk(γ:Gh):∀l:List Value,All2 (DenA γ) (l.map .v) l
 |[]=>trivial
 |_::l=>⟨rfl,Yk γ l⟩
theorem SF{x:AA}(j:DenA γ x u):All2 (DenA γ) (CP x) u.cells.toList:=by
 have key:u.oneCell'=Ta->All2 (DenA γ) [x] u.cells.toList:=λh=>by rw[OY h];exact⟨j,trivial⟩
 cases x with
 |v y=>rw[show u=y from j];exact Yk γ _
 |d t y=>exact key (Rd.one (show Rd γ.M t y [u]from j) u (by simp))
 |box c o=>exact key (by rw[show u=_ from j];rfl)
 |own c=>exact key (by rw[show u=_ from j];rfl)
 |oelt c z i o=>obtain⟨g,_,e⟩:=j;exact key (by rw[e];rfl)
 |elt t y o=>obtain⟨b,f,cs,e,_⟩:=j;exact key (by rw[e];rfl)
 |dc t xs=>obtain⟨s,e,_⟩:=j;exact key (by rw[e];rfl)
theorem yG{l:List AA}(h:o7 av=Td l)(b:DenV γ av u):All2 (DenA γ) l u.cells.toList:=by unfold o7 at h;split at h;simp only[Ug]at h;subst h;exact SF b;simp only[Ug]at h;subst h;obtain⟨us,rfl,c⟩:=b;simpa[Value.cells]using c;cases h
def oJ(b:Nat->Option (Nat×Nat))(cells:List AA):List (Nat×AV)->Option (List AA)
 |[]=>Td cells
 |(i,av)::rest=>match b i,o7 av with
  |some (off,size),some l=>bif Nat.beq l.length size then(bif Nat.ble (off+l.length) cells.length then oJ b (cells.take off++l++cells.drop (off+l.length)) rest else Te)else Te
  |_,_=>Te
theorem JK(vs:List Value):∀(k off:Nat) (cs:Array Value),off+k+vs.length<=cs.size ->
  ((vs.zipIdx k).foldl (λcs (x:Value×Nat)=>cs.setIfInBounds (off+x.2) x.1) cs).toList=cs.toList.take (off+k)++vs++cs.toList.drop (off+k+vs.length):=by
 induction vs with
 |nil=>simp
 |cons v vs b=>
  intro k off cs h;simp only[Uz]at h;rw[List.zipIdx_cons,List.foldl_cons];refine(b (k+1) off (cs.setIfInBounds (off+k) v) (by grind)).trans ?_;simp only[Array.toList_setIfInBounds,Uz];have hi:off+k<cs.toList.length:=by simp;omega
  rw[<-Nat.add_assoc,List.drop_set_of_lt (by omega)];have c:(cs.toList.set (off+k) v).take (off+k+1)=cs.toList.take (off+k)++[v]:=by
   rw[List.take_set,Un hi,List.set_append_right _ _ (by simp;omega)];have:off+k-(cs.toList.take (off+k)).length=0:=by simp;omega
   rw[this];rfl
  grind
theorem vR{b:Nat->Option (Nat×Nat)}{γ:Gh}:∀{c:List (Nat×AV)} {cells r:List AA} {us:List Value} {ps:List (Nat×Value)},oJ b cells c=Td r->All2 (DenA γ) cells us->All2 (λ(x:Nat×AV) (y:Nat×Value)=>x.1=y.1/\DenV γ x.2 y.2) c ps ->
  ∃ws:List Value,Instr.fill b us.toArray ps=Td ws.toArray/\All2 (DenA γ) r ws
 |[],cells,r,us,[],h,hc,_=>by simp only[oJ,Ug]at h;subst h;exact⟨us,rfl,hc⟩
 |[],_,_,_,_::_,_,_,e=>e.elim
 |_::_,_,_,_,[],_,_,e=>e.elim
 |(i,av)::rest,cells,r,us,(j,v)::ps,h,hc,e=>by
  obtain⟨⟨f,t⟩,e⟩:=e;simp only at f t;subst f;simp only[oJ]at h;split at h;rename_i off size l p w;cases hb:Nat.beq l.length size with
  |false=>simp_all
  |true=>
   rw[hb]at h;simp only[zK]at h;cases hb2:Nat.ble (off+l.length) cells.length with
   |false=>simp_all
   |true=>
    rw[hb2]at h;simp only[zK]at h;have m:=yG w t;have o:=m.length;have A:=hc.length;have h1:=UC hb;have B:=VE hb2;have q:v.cells.size=size:=by rw[<-h1,o];simp
    have k:All2 (DenA γ) (cells.take off++l++cells.drop (off+l.length)) (us.take off++v.cells.toList++us.drop (off+l.length)):=((hc.take off).append m).append (hc.drop _);obtain⟨ws,z,u⟩:=vR h k e;refine⟨ws,?_,u⟩;simp only[Instr.fill,p];have n:¬((decide (v.cells.size≠size)||decide (off+v.cells.size>us.toArray.size))=Ta):=by rw[q];simp;omega
    rw[zv n];rw[<-z];congr 1;apply Array.ext';have:=JK v.cells.toList 0 off us.toArray (by simp;omega);grind [Array.toList_zipIdx,trans]
  cases h
def qL(P:Program):List Field->Bool
 |[]=>Ta
 |f::l=>bif qo P f.type then qL P l else Tc
theorem EJ{P:Program}{h:zc}:∀{l:List Field},qL P l=Ta->QExec P (l.mapM λf=>do pure (f.offset,<-Go.sizeOf f.type)) h (l.map λf=>(f.offset,je P f.type))
 |[],_=>λ_ _=>rfl
 |f::l,H=>by
  simp only[qL]at H;cases ho:qo P f.type with
  |false=>simp_all
  |true=>rw[ho]at H;obtain⟨i,hi⟩:=jl ho;rw[XR];exact QExec.bind (QExec.bind (QExec.sizeOf hi) (QExec.pure _)) (QExec.bind (EJ H) (QExec.pure _))
def placeOf(P:Program)(b:Array Field)(i:Nat):Option (Nat×Nat):=match b[i]? with
 |some f=>Td (f.offset,je P f.type)
 |none=>Te
def m3(ρ:Operand->Option AV):List (Nat×Operand)->Option (List (Nat×AV))
 |[]=>Td []
 |(i,x)::l=>match ρ x,m3 ρ l with
  |some av,some r=>Td ((i,av)::r)
  |_,_=>Te
theorem v7{γ:Gh}{ρ:Operand->Option AV}{σ:Operand->Value}(b:∀x av,ρ x=Td av->DenV γ av (σ x)):∀{l:List (Nat×Operand)} {r:List (Nat×AV)},m3 ρ l=Td r ->
  All2 (λ(x:Nat×AV) (y:Nat×Value)=>x.1=y.1/\DenV γ x.2 y.2) r (l.map λx=>(x.1,σ x.2))
 |[],r,h=>by simp only[m3,Ug]at h;subst h;trivial
 |(i,x)::l,r,h=>by simp only[m3]at h;split at h;rename_i av e h1 c;simp only[Ug]at h;subst h;exact⟨⟨rfl,b _ _ h1⟩,v7 b c⟩;cases h
def zeroOf(P:Program)(t:TypeId):Option Value:=match P.info? t with
 |some i=>i.zero
 |none=>Te
theorem vZ{z:Value}(h:zeroOf P t=Td z)(b:zc):QExec P (zeroValue t) b z:=by unfold zeroOf at h;split at h;rename_i i hi;intro B d;simp[zeroValue,typeInfo,program,hi,Sem.run,h];cases h
def vy(P:Program)(t:TypeId)(b:List (Nat×AV)):Option (List AA):=match P.underlying t,zeroOf P t with
 |some (.struct fs),some z=>bif qL P fs.toList then oJ (placeOf P fs) (z.cells.toList.map .v) b else Te
 |_,_=>Te
theorem JW{b:List (Nat×AV)}{r:List AA}(h:vy P t b=Td r){ps:List (Nat×Value)}(l:All2 (λ(x:Nat×AV) (y:Nat×Value)=>x.1=y.1/\DenV γ x.2 y.2) b ps)(c:zc):
  ∃ws:List Value,QExec P (Instr.build t ps.toArray) c (.agg ws.toArray)/\All2 (DenA γ) r ws:=by
 unfold vy at h;split at h;rename_i e z m hz;cases hof:qL P e.toList with
 |false=>simp_all
 |true=>
  rw[hof]at h;simp only[zK]at h;obtain⟨ws,p,o⟩:=vR h (Yk γ _) l;refine⟨ws,?_,o⟩;intro B d;have n:=QExec.underlying (h:=c) m B d;have j:=vZ hz c B d;have k:=EJ (P:=P) (h:=c) hof B d;unfold Instr.build;rw[Sem.run_bind,j];simp only[Result.andThen_ok];rw[Sem.run_bind,n];simp only[Result.andThen_ok];rw[Sem.run_bind,Array.mapM_eq_mapM_toList,Sem.run_map,k];simp only[Result.andThen_ok];have q:(λi=>((e.toList.map λf=>(f.offset,je P f.type)).toArray)[i]?)=placeOf P e:=by funext i;unfold placeOf;cases hi:e[i]? <;> simp[hi]
  simp_all
 cases h
def vT(P:Program)(t:TypeId)(a b:Value):Option Bool:=match P.underlying t,a,b with
 |some (.int _),.int k x,.int k' y=>if k=k' then Td (x==y)else Te
 |some .string,.string x,.string y=>Td (x.toList==y.toList)
 |some .bool,.bool x,.bool y=>Td (x==y)
 |_,_,_=>Te
def nc(P:Program)(xs ys:List AA):List Field->Option Bool
 |[]=>Td Ta
 | f :: fs => if f.name = "_" then none else match qO P f.type xs f.offset, qO P f.type ys f.offset with
  |some (.a (.v a)),Td (.a (.v b))=>match vT P f.type a b,nc P xs ys fs with
   |some p,some q=>Td (p&&q)
   |_,_=>Te
  |_,_=>Te
def zZ(P:Program)(o:Oper)(ρ:Operand->Option AV):Option Bool:=match o.op with
 |.binOp .eql t x y _=>match ρ x,ρ y with
  |some (.g (.agg xs)),Td (.g (.agg ys))=>match P.underlying t with
   |some (.struct _)=>bif P.stoodInHeld t then Te else bif P.eqGuardType P.depth t then Te else nc P xs ys (P.fieldsOf t).toList
   |_=>Te
  |_,_=>Te
 |.binOp .neq t x y _=>match ρ x,ρ y with
  |some (.g (.agg xs)),Td (.g (.agg ys))=>match P.underlying t with
   |some (.struct _)=>bif P.stoodInHeld t then Te else bif P.eqGuardType P.depth t then Te else(match nc P xs ys (P.fieldsOf t).toList with
    |some b=>Td (!b)
    |none=>Te)
   |_=>Te
  |_,_=>Te
 |_=>Te
theorem QC{a b:Value}{r:Bool}(h:vT P t a b=Td r)(d:Nat)(w:World):(Op.equalIn (d+1) t a b).run P w=.ok r w:=by unfold vT at h;grind [Ug,run_equalIn_int,run_equalIn_string,run_equalIn_bool']
theorem An{P:Program}{γ:Gh}{xs ys:List AA}{us vs:List Value}(n:All2 (DenA γ) xs us)(m:All2 (DenA γ) ys vs)(d:Nat)(h:zc):∀(c:List Field) (b:Bool),nc P xs ys c=Td b->QExec P (Op.eqFields (d+1) us.toArray vs.toArray c) h b
 |[],b,hb=>by simp only[nc,Ug]at hb;subst hb;exact QExec.pure _
 |f::c,b,hb=>by
  unfold nc at hb;split at hb;cases hb;rename_i z;split at hb;rename_i a b' k i;split at hb;rename_i p q w r;simp only[Ug]at hb;subst hb;obtain⟨t,C,o⟩:=xJ k n h;obtain⟨y,u,A⟩:=xJ i m h;have l:t=a:=C;have e:y=b':=u;subst l;subst e;intro B j;unfold Op.eqFields;rw[zA (by exact z)];rw[Sem.run_bind,o B j];simp only[Result.andThen_ok];rw[Sem.run_bind,A B j];simp only[Result.andThen_ok];rw[Sem.run_bind,QC w d];simp only[Result.andThen_ok];cases p with
  |false=>rfl
  |true=>simpa using An n m d h c q r B j
  cases hb;cases hb
theorem NX{ρ:Operand->Option AV}(H:zZ P o ρ=Td b)(k:∀x av,ρ x=Td av->DenV γ av (σ x))(h:zc):QExec P (execOp σ o) h (.value (.bool b)):=by
 have key:∀{t:TypeId} {xs ys:List AA} {us vs:List Value} {j:Array Field} {b:Bool},P.underlying t=Td (.struct j)->P.stoodInHeld t=Tc->All2 (DenA γ) xs us->All2 (DenA γ) ys vs->nc P xs ys (P.fieldsOf t).toList=Td b->QExec P (Op.equalIn 10000 t (.agg us.toArray) (.agg vs.toArray)) h b:=by
  intro t xs ys us vs j b e c i f u B d;have r:P.underlying t=Td (.struct (P.fieldsOf t)):=by rw[e];simp[Program.fieldsOf,e]
  rw[run_equalIn_struct _ 9999 t us.toArray vs.toArray r c];exact An i f 9998 h _ b u B d
 unfold zZ at H;split at H;rename_i t x y w l;split at H;rename_i xs ys i f;split at H;rename_i j e;cases c:P.stoodInHeld t with
 |true=>simp_all
 |false=>
  cases hg:P.eqGuardType P.depth t with
  |true=>simp_all
  |false=>rw[c,hg]at H;obtain⟨us,p,d1⟩:=k _ _ i;obtain⟨vs,q,d2⟩:=k _ _ f;have m:=key e c d1 d2 H;simp only[execOp,l,p,q];refine QExec.val λB d=>?_;rw[Sem.run_bind,run_eqGuard_agg _ _ _ _ _ _ _ hg];simp only[Result.andThen_ok];rw[run_eql_struct,m B d];rfl
 cases H;cases H;rename_i t x y w l;split at H;rename_i xs ys i f;split at H;rename_i j e;cases c:P.stoodInHeld t with
 |true=>simp_all
 |false=>
  cases hg:P.eqGuardType P.depth t with
  |true=>simp_all
  |false=>rw[c,hg]at H;simp only[zL]at H;split at H;rename_i b' n;simp only[Ug]at H;subst H;obtain⟨us,p,d1⟩:=k _ _ i;obtain⟨vs,q,d2⟩:=k _ _ f;have m:=key e c d1 d2 n;simp only[execOp,l,p,q];refine QExec.val λB d=>?_;rw[Sem.run_bind,run_eqGuard_agg _ _ _ _ _ _ _ hg];simp only[Result.andThen_ok];rw[run_neq_struct,m B d];rfl;cases H
 cases H;cases H;cases H
def xa(P:Program)(o:Oper)(ρ:Operand->Option AV)(g:Option Bool)(cs:CS)(K:AV->Prop):Prop:=
 bif (bif mt o then(bif md P o then(bif Yy o.op then oo ρ o.op.operands.toList else Tc)else Tc)else Tc)then Wc P o (rF ρ) g #[] (λv=>K (oQ v))else
 match o.op with
 |.move x=>match ρ x with
  |some av=>K av
  |none=>False
 |.assign x=>match ρ x with
  |some av=>K av
  |none=>False
 |.extract x i=>match ρ x with
  |some (.tup l)=>match l[i]? with
   |some ag=>K (.g ag)
   |none=>False
  |some (.nx b p c)=>match i with
   |0=>K (.g (.a (.v (.bool b))))
   |1=>req g (b=Ta)/\K (.g (.a (.v (.int .i64 p))))
   |2=>req g (b=Ta)/\K (.g (.a (.v (.int .i32 c))))
   |_=>False
  |_=>False
 |.field t x f=>match ρ x,q8 P t f with
  |some (.g (.agg l)),Td (k,ty)=>match qO P ty l k with
   |some ag=>K (.g ag)
   |none=>False
  |_,_=>False
 |.fieldAddr t x f=>match ρ x,q8 P t f with
  |some (.g (.a aa)),Td (k,_)=>match rK k aa with
   |some h=>K (.g (.a h))
   |none=>False
  |_,_=>False
 |.load t x=>match ρ x with
  |some (.g (.a aa))=>oF P cs t aa g K
  |_=>False
 |.indexAddr t x i=>match ρ x,ρ i with
  |some (.g (.a aa)),some iv=>match tE iv with
   |some n=>vN P cs t aa n g K
   |none=>False
  |_,_=>False
 |.slice t x lo hi mx=>match ρ x with
  |some (.g (.a aa))=>vm P cs ρ t aa lo hi mx g K
  |_=>False
 |.nilCheck x=>match ρ x with
  |some (.g (.a aa))=>match rK 0 aa with
   |some _=>K (.g (.a aa))
   |none=>False
  |_=>False
 |.build t e=>match m3 ρ e.toList with
  |some ps=>match vy P t ps with
   |some r=>K (.g (.agg r))
   |none=>False
  |none=>False
 |.call c=>match c.callee with
  |.builtin .len=>match c.args.toList,c.argTypes.toList with
   |[x],[t]=>match ρ x,P.underlying t with
    |some (.g (.a (.v (.string s)))),Td .string=>K (.g (.a (.v (.int .i64 (s.size:Int)))))
    |some (.g (.a (.v (.slice _ n _)))),Td (.slice _)=>K (.g (.a (.v (.int .i64 (n:Int)))))
    |some (.g (.a aa)),Td (.slice _)=>match y4 cs aa with
     |some n=>K (.g (.a (.v (.int .i64 (n:Int)))))
     |none=>False
    |_,_=>False
   |_,_=>False
  |_=>False
 |_=>False
theorem Kq{ρ:Operand->Option AV}{K:AV->Prop}(H:xa P o ρ g cs K):
  ∃av,K av/\(fK g->∀γ h σ,Inv h0 W M0 cs γ h->(∀x av,ρ x=Td av->DenV γ av (σ x))->∃v,DenV γ av v/\QExec P (execOp σ o) h (.value v)):=by
 unfold xa at H;cases hb:(bif mt o then(bif md P o then(bif Yy o.op then oo ρ o.op.operands.toList else Tc)else Tc)else Tc)with
 |true=>
  rw[hb]at H;cases hfam:mt o with
  |false=>simp_all
  |true=>
   cases w:md P o with
   |false=>simp_all
   |true=>
    cases hns:Yy o.op with
    |false=>simp_all
    |true=>rw[hfam,w,hns]at hb;simp only[zK]at hb H;obtain⟨v,h1,z⟩:=xQ hfam H;refine⟨_,h1,λA γ h σ I m=>⟨v,Wl γ v,?_⟩⟩;rw[Lz m hns hb];exact z A h ⟨by simp,λi hi=>absurd hi (by simp)⟩
 |false=>
  rw[hb]at H;simp only[zL]at H;have val:∀{s:Sem Value} {h:zc} {v:Value},QExec P s h v->QExec P (s >>= λx=>(WW (WY x):Sem Next)) h (.value v):=λw=>QExec.val w;split at H;rename_i x q;split at H;rename_i av j;exact⟨av,H,λ_ γ h σ I m=>⟨_,m _ _ j,by simp only[execOp,q];exact QExec.pure _⟩⟩;exact H.elim;rename_i x q;split at H;rename_i av j;exact⟨av,H,λ_ γ h σ I m=>⟨_,m _ _ j,by simp only[execOp,q];exact QExec.pure _⟩⟩;exact H.elim;rename_i x i q;split at H;rename_i l j;split at H;rename_i ag G;refine⟨_,H,λ_ γ h σ I m=>?_⟩;obtain⟨us,e,z⟩:=m _ _ j;obtain⟨u,E,y⟩:=z.get G;refine⟨u,y,?_⟩;simp only[execOp,q,e];refine val λB d=>?_;unfold Instr.extract;simp[E];exact H.elim;rename_i b p c j;split at H;refine⟨_,H,λ_ γ h σ I m=>⟨_,rfl,?_⟩⟩;obtain⟨Q,e2⟩:=m _ _ j;simp only[execOp,q];refine val λB d=>?_;cases b with
  |true=>rw[Q rfl];rfl
  |false=>rw[e2 rfl];rfl
  refine⟨_,H.2,λA γ h σ I m=>⟨_,rfl,?_⟩⟩;obtain⟨Q,_⟩:=m _ _ j;simp only[execOp,q,Q (H.1.out A)];exact val λB d=>rfl;refine⟨_,H.2,λA γ h σ I m=>⟨_,rfl,?_⟩⟩;obtain⟨Q,_⟩:=m _ _ j;simp only[execOp,q,Q (H.1.out A)];exact val λB d=>rfl;exact H.elim;exact H.elim;rename_i t x f q;split at H;rename_i l k ty j C;split at H;rename_i ag G;refine⟨_,H,λ_ γ h σ I m=>?_⟩;obtain⟨us,e,z⟩:=m _ _ j;obtain⟨v,y,w⟩:=xJ G z h;refine⟨v,y,?_⟩;simp only[execOp,q,e];refine val λB d=>?_;unfold q8 at C;split at C;rename_i fs E;split at C;rename_i fl T;split at C;rename_i i hi;cases hz:Nat.beq i.size 0 with
  |true=>simp_all
  |false=>rw[hz]at C;simp only[zL,Ug,Vl]at C;obtain⟨rfl,rfl⟩:=C;have S:=QExec.underlying (h:=h) E B d;unfold Instr.field;rw[Sem.run_bind,S];simp only[Result.andThen_ok,T,asAgg,Sem.run_bind,Sem.run_pure];exact w B d
  cases C;cases C;cases C;exact H.elim;exact H.elim;rename_i t x f q;split at H;rename_i O k ty j C;split at H;rename_i ac L;refine⟨_,H,λ_ γ h σ I m=>?_⟩;obtain⟨b,o',e,y⟩:=Ck L (m _ _ j);refine⟨_,y,?_⟩;simp only[execOp,q];simp_all[PD];exact H.elim;exact H.elim;rename_i t x q;split at H;rename_i O j;obtain⟨av,h1,z⟩:=Cq (h0:=h0) (W:=W) (M0:=M0) H;refine⟨av,h1,λA γ h σ I m=>?_⟩;obtain⟨v,y,w⟩:=z A γ h _ I (m _ _ j);refine⟨v,y,?_⟩;simp only[execOp,q];exact val w;exact H.elim;rename_i t x i q;split at H;rename_i O iv j U;split at H;rename_i n V;obtain⟨av,h1,z⟩:=TG (h0:=h0) (W:=W) (M0:=M0) H;refine⟨av,h1,λA γ h σ I m=>?_⟩;obtain⟨k,e⟩:=FC V (m _ _ U);obtain⟨v,y,w⟩:=z A γ h _ k I (m _ _ j);refine⟨v,y,?_⟩;simp only[execOp,q];simp_all;exact H.elim;exact H.elim;rename_i t x lo hi mx q;split at H;rename_i O j;obtain⟨av,h1,z⟩:=QI (h0:=h0) (W:=W) (M0:=M0) H;refine⟨av,h1,λA γ h σ I m=>?_⟩;obtain⟨v,y,w⟩:=z A γ h _ σ I m (m _ _ j);refine⟨v,y,?_⟩;simp only[execOp,q];exact val w;exact H.elim;rename_i x q;split at H;rename_i O j;split at H;rename_i ac L;refine⟨_,H,λ_ γ h σ I m=>?_⟩;obtain⟨b,o',e,y⟩:=Ck L (m _ _ j);have Z:=m _ _ j;refine⟨σ x,Z,?_⟩;simp only[execOp,q];rw[e];exact QExec.pure _;exact H.elim;exact H.elim;rename_i t D q;split at H;rename_i ps Y;split at H;rename_i r hr;refine⟨_,H,λ_ γ h σ I m=>?_⟩;obtain⟨ws,w,y⟩:=JW hr (v7 m Y) h;refine⟨.agg ws.toArray,⟨ws,rfl,y⟩,?_⟩;simp only[execOp,q];have e:(D.map λx=>(x.1,σ x.2))=(D.toList.map λx=>(x.1,σ x.2)).toArray:=by rw[<-Array.toList_map]
  simp_all;exact H.elim;exact H.elim;rename_i c q;split at H;rename_i hc;split at H;rename_i x t J N;have F:c.args=#[x]:=by have:=congrArg List.toArray J;simp at this;exact this
  have M:c.argTypes=#[t]:=by have:=congrArg List.toArray N;simp at this;exact this
  have key:∀(σ:Operand->Value) (h:zc) (n:Int),(QExec P (V3 #[t] o.type #[σ x]) h (.int .i64 n))->QExec P (execOp σ o) h (.value (.int .i64 n)):=by
   intro σ h n w;have e:execOp σ o=(V3 c.argTypes o.type (c.args.map σ) >>= λx=>(WW (WY x):Sem Next)):=by simp only[execOp,q,resolve,hc];rfl
   rw[e,F,M];refine val ?_;simpa using w
  split at H;rename_i s j E;refine⟨_,H,λ_ γ h σ I m=>⟨_,rfl,key σ h _ λB d=>?_⟩⟩;have w:=QExec.underlying (h:=h) E B d;have e:σ x=.string s:=m _ _ j;unfold V3;simp only[List.getElem?_toArray,List.getElem?_cons_zero,e,Sem.run_bind,w,Result.andThen_ok,Sem.run_pure];rfl;rename_i a n cp el j E;refine⟨_,H,λ_ γ h σ I m=>⟨_,rfl,key σ h _ λB d=>?_⟩⟩;have w:=QExec.underlying (h:=h) E B d;have e:σ x=.slice a n cp:=m _ _ j;unfold V3;simp only[List.getElem?_toArray,List.getElem?_cons_zero,e,Sem.run_bind,w,Result.andThen_ok,Sem.run_pure];rfl;rename_i O el _ _ j E;split at H;rename_i n V;refine⟨_,H,λ_ γ h σ I m=>⟨_,rfl,key σ h _ λB d=>?_⟩⟩;have w:=QExec.underlying (h:=h) E B d;obtain⟨a,cp,e⟩:=Sx I V (m _ _ j);unfold V3;simp only[List.getElem?_toArray,List.getElem?_cons_zero,e,Sem.run_bind,w,Result.andThen_ok,Sem.run_pure];rfl;exact H.elim;exact H.elim;exact H.elim;exact H.elim;exact H.elim
def vP(P:Program)(o:Oper)(ρ:Operand->Option AV):Option Bool:=match o.op with
 |.binOp op t x (.const .nilIface) _=>match ρ x,ρ (.const .nilIface),P.underlying t with
  |some (.g (.a (.d .err b))),Td (.g (.a (.v .nilIface))),Td (.interface _)=>match op with
   |.eql=>Td b
   |.neq=>Td (!b)
   |_=>Te
  |_,_,_=>Te
 |_=>Te
theorem Ke{ρ:Operand->Option AV}(H:vP P o ρ=Td b)(n:∀x av,ρ x=Td av->DenV γ av (σ x))(h:zc):QExec P (execOp σ o) h (.value (.bool b)):=by
 have key:∀{t:TypeId} {ms:Array (String×TypeId)} {b:Bool} {u:Value},P.underlying t=Td (.interface ms)->((b=Ta/\u=.nilIface)\/(b=Tc/\∃t k,u=.iface t k))->QExec P (XY t u .nilIface) h b:=by intro t ms b u l i B d;have p:=QExec.underlying (h:=h) l B d;unfold XY Op.maxDepth;rcases i with⟨rfl,rfl⟩|⟨rfl,t',k,rfl⟩;unfold Op.equalIn;rw[Sem.run_bind,p];rfl;unfold Op.equalIn;rw[Sem.run_bind,p];rfl
 unfold vP at H;split at H;rename_i c t x C q;split at H;rename_i b0 ms y r l;have z:σ (.const .nilIface)=.nilIface:=n _ _ r;obtain⟨u,e,i⟩:=(show Rd γ.M .err b0 [σ x]from n _ _ y);have A:u=σ x:=by simpa using e.symm
 subst A;have m:=key l i;have w:∀c,QExec P (eqGuard c t x (.const .nilIface) (σ x) .nilIface) h ():=by intro c B d;unfold eqGuard;rcases i with⟨_,j⟩|⟨_,t',k,j⟩;simp_all;simp_all
 have f:∀c,(binOp c t (σ x) .nilIface=match c with | .eql=>(do pure (.bool (<-XY t (σ x) .nilIface))) | .neq=>(do pure (.bool (!(<-XY t (σ x) .nilIface))))|_=>binOp c t (σ x) .nilIface):=by intro c;rcases i with⟨_,j⟩|⟨_,t',k,j⟩;rw[j];cases c <;> rfl;rw[j];cases c <;> rfl
 simp only[execOp,q,z];refine QExec.val ((w c).bind ?_);split at H;simp only[Ug]at H;subst H;rw[f];exact m.bind (QExec.pure _);simp only[Ug]at H;subst H;rw[f];exact m.bind (QExec.pure _);cases H;cases H;cases H
def Fc(o:Oper)(ρ:Operand->Option AV):Option (TypeId×Nat×Nat):=match o.op with
 |.load t x=>match ρ x with
  |some (.g (.a (.v (.pointer (Td ⟨b,off,Te⟩)))))=>Td (t,b,off)
  |_=>Te
 |_=>Te
def pZ(gl:Fr)(b off:Nat)(v:Value):Prop:=∃cs,gl b=Td cs/\cs[off]?=Td v
def nQ(gl:Fr)(b:Nat)(g:Option Bool):List Atom->Nat->(List AA->Prop)->Prop
 |[],_,K=>K []
 |.int k::l,o,K=>∃x:Int,req g (pZ gl b o (.int k x))/\nQ gl b g l (o+1) λr=>K (.v (.int k x)::r)
 |.str::l,o,K=>∃x:Bt,req g (pZ gl b o (.string x))/\nQ gl b g l (o+1) λr=>K (.v (.string x)::r)
 |.bool::l,o,K=>∃x:Bool,req g (pZ gl b o (.bool x))/\nQ gl b g l (o+1) λr=>K (.v (.bool x)::r)
 |_::_,_,_=>False
theorem Zk{gl:Fr}{b:Nat}{g:Option Bool}:∀{l:List Atom} {o:Nat} {K:List AA->Prop},nQ gl b g l o K->∃vs:List Value,vs.length=l.length/\K (vs.map .v)/\(fK g->∀(j:Nat) (v:Value),vs[j]?=Td v->pZ gl b (o+j) v)
 |[],o,K,H=>⟨[],rfl,H,λ_ j v h=>by simp at h⟩
 |.int k::l,o,K,⟨x,h1,h2⟩=>by
  obtain⟨vs,e,i,m⟩:=Zk h2;refine⟨.int k x::vs,by simp[e],i,λf j v c=>?_⟩;cases j with
  |zero=>simp at c;subst c;exact h1.out f
  |succ j=>grind
 |.str::l,o,K,⟨x,h1,h2⟩=>by
  obtain⟨vs,e,i,m⟩:=Zk h2;refine⟨.string x::vs,by simp[e],i,λf j v c=>?_⟩;cases j with
  |zero=>simp at c;subst c;exact h1.out f
  |succ j=>grind
 |.bool::l,o,K,⟨x,h1,h2⟩=>by
  obtain⟨vs,e,i,m⟩:=Zk h2;refine⟨.bool x::vs,by simp[e],i,λf j v c=>?_⟩;cases j with
  |zero=>simp at c;subst c;exact h1.out f
  |succ j=>grind
 |.sl::_,_,_,H=>H.elim
 |.mp::_,_,_,H=>H.elim
 |.ptr::_,_,_,H=>H.elim
 |.raw::_,_,_,H=>H.elim
def As(P:Program)(gl:Fr)(t:TypeId)(b off:Nat)(g:Option Bool)(K:AV->Prop):Prop:=match jY P t with
 |some (.one a)=>nQ gl b g [a] off λr=>match r with
  |[x]=>K (.g (.a x))
  |_=>False
 |some (.agg l)=>nQ gl b g l off λr=>K (.g (.agg r))
 |none=>False
def FF(P:Program)(o:Oper)(ρ:Operand->Option AV):Option (Nat×Nat×Int×Nat×Nat):=match o.op with
 |.indexAddr t x i=>match ρ x,ρ i,P.underlying t with
  |some (.g (.a (.v (.pointer (Td ⟨b,off,Te⟩))))),Td (.g (.a (.v (.int _ n)))),Td (.array len el)=>bif qo P el then Td (b,off,n,len,je P el)else Te
  |_,_,_=>Te
 |_=>Te
def qA(P:Program)(gl:Fr)(o:Oper)(ρ:Operand->Option AV)(g:Option Bool)(cs:CS)(K:AV->Prop):Prop:=match zZ P o ρ with
 |some b=>K (.g (.a (.v (.bool b))))
 |none=>match vP P o ρ with
  |some b=>K (.g (.a (.v (.bool b))))
  |none=>match Fc o ρ with
   |some (t,b,off)=>As P gl t b off g K
   |none=>match FF P o ρ with
    |some (b,off,n,len,z)=>req g (0<=n/\n<(len:Int))/\K (.g (.a (.v (.pointer (Td ⟨b,off+n.toNat*z,Te⟩)))))
    |none=>xa P o ρ g cs K
theorem sY{gl:Fr}(L:Fr.le gl M0){ρ:Operand->Option AV}{K:AV->Prop}(H:qA P gl o ρ g cs K):
  ∃av,K av/\(fK g->∀γ h σ,Inv h0 W M0 cs γ h->(∀x av,ρ x=Td av->DenV γ av (σ x))->∃v,DenV γ av v/\QExec P (execOp σ o) h (.value v)):=by
 unfold qA at H;split at H;rename_i b y;exact⟨_,H,λ_ γ h σ _ f=>⟨_,rfl,NX y f h⟩⟩;split at H;rename_i b y;exact⟨_,H,λ_ γ h σ _ f=>⟨_,rfl,Ke y f h⟩⟩;split at H;rename_i t b off e;unfold Fc at e;split at e;rename_i t' x D;split at e;rename_i b' c F;simp only[Ug,Vl]at e;obtain⟨rfl,rfl,rfl⟩:=e;have key:∀{s:Option Nat} {vs:List Value} {ag:AG},Wn P t'=Td s->vs.length=kX s->lQ s (vs.map .v)=Td ag->(fK g->∀(j:Nat) (v:Value),vs[j]?=Td v->pZ gl b' (c+j) v)->fK g->∀γ h σ,Inv h0 W M0 cs γ h->(∀x av,ρ x=Td av->DenV γ av (σ x))->∃u,DenV γ (.g ag) u/\QExec P (execOp σ o) h (.value u):=by intro s vs ag V Y U Z e γ h σ I f;have E:σ x=.pointer (Td ⟨b',c,Te⟩):=f _ _ F;obtain⟨u,N,B⟩:=wO (γ:=γ) V (u:=σ x) (us:=vs) ⟨_,_,E,λj w T=>by obtain⟨cc,p,m⟩:=Z e j w T;exact I.ag.cell (I.le _ _ (L _ _ p)) m⟩ Y (Yk γ vs) U;exact⟨u,N,by simp only[execOp,D];exact QExec.val B⟩
 unfold As at H;split at H;rename_i a G;obtain⟨vs,p,m,q⟩:=Zk H
 match vs,p,m,q with
 |[v],p,m,q=>exact⟨_,m,key (s:=Te) (by unfold Wn;rw[G]) rfl rfl q⟩
 rename_i l G;obtain⟨vs,p,m,q⟩:=Zk H;exact⟨_,m,key (s:=Td l.length) (by unfold Wn;rw[G]) p rfl q⟩;exact H.elim;cases e;cases e;split at H;rename_i b off n len z e;unfold FF at e;split at e;rename_i t x i D;split at e;rename_i b' c k r M el F hi E;cases hok:qo P el with
 |false=>simp_all
 |true=>rw[hok]at e;simp only[zK,Ug,Vl]at e;obtain⟨rfl,rfl,rfl,rfl,rfl⟩:=e;refine⟨_,H.2,λC γ h σ I f=>⟨_,rfl,?_⟩⟩;have A:σ x=.pointer (Td ⟨b',c,Te⟩):=f _ _ F;have J:σ i=.int k r:=f _ _ hi;obtain⟨h1,O⟩:=H.1.out C;obtain⟨v,rfl,B⟩:=Zi (P:=P) (t:=t) (x:=.pointer (Td ⟨b',c,Te⟩)) (i:=.int k r) (g:=Te) (K:=λv=>v=.pointer (Td (Ue ⟨b',c,Te⟩ (r.toNat*je P el)))) (λS Q=>by simp_all[jl]) (by unfold pq;rw[E];exact⟨_,⟨rfl,h1,O⟩,rfl⟩);have:=B trivial h;rw[zh]at this;simp only[execOp,D,A,J];exact QExec.val this
 cases e;cases e;exact Kq H
end
end Go.X
end
