/- A part of the proof: nothing is stated here for its own sake. -/
import Derived.Deep.Quiet
import Derived.StillTail
import Derived.Laws.Strings
import Derived.Laws.Cover3
import Derived.Laws.Pointers
import Derived.Scope
import Derived.Laws.OwnMore
open _root_.Go.Addr renaming add->YK
open _root_.Array renaming getD_eq_getD_getElem?->zay,getElem?_append_left->zbs,getElem?_eq_getElem->zal,getElem?_eq_some_iff->YV,getElem?_setIfInBounds_ne->zb2,getElem?_toList->zav,range->zc4,replicate->zar,size_push->ZI,size_setIfInBounds->zah
open _root_.Bool renaming and_eq_true->ZE,eq_iff_iff->ZR,false_eq_true->zaz,not_eq_true'->zcg,true_and->zao
open _root_.Go.Builtin renaming append_->YY,firstCells->zbk,len_->zb5
open _root_.Classical renaming byContradiction->zb3
open _root_.Go.Code renaming cond->zda,region->zc3
open _root_.Go.Deferred renaming ofValue->zcw
open _root_.Go.Instr renaming entry->zde,findNow->zcy,index->zdc,indexAt->zdb,keyThatStays->zc2,loadAt->zcl,lookup->zcm,mapUpdate->zbz,next->zc9,range->zdd,sliceAt->zcx,storeAt->YN,sureAddr->zcu
open _root_.Go.IntKind renaming bits->zc6,signed->zdm,wrap->YJ
open _root_.List renaming all_eq_true->ZJ,cons_append->zaq,drop_drop->zbt,drop_eq_nil_of_le->zac,eq_nil_of_length_eq_zero->zaa,filter_cons->zb9,getElem?_drop->zan,getElem?_eq_getElem->YR,getElem?_eq_some_iff->ZH,getElem?_take->ZQ,getElem?_toArray->zb4,getElem_mem->YW,getElem_of_mem->zbx,length_append->ZC,length_cons->ZV,length_drop->zab,length_eq_zero_iff->zau,length_nil->zb7,length_take->za0,mapM_cons->zc5,map_cons->zae,mem_append->ZG,mem_append_left->YZ,mem_append_right->ZL,mem_cons->YS,mem_cons_of_mem->YU,mem_cons_self->ZB,mem_filter->zcq,mem_iff_getElem?->zce,mem_range->zbc,mem_singleton->zaf,nil_append->zba,nodup_cons->zcp,pairwise_append->zch,pairwise_cons->za2,range->zak,replicate->zct,take_append_drop->zax,take_succ_eq_append_getElem->YP
open _root_.List.cons renaming injEq->za4
open _root_.Nat renaming add_mul->zb0,blt_eq->zbj,eq_of_beq_eq_true->YT,eq_zero_or_pos->zcd,le_of_ble_eq_true->zaw,le_refl->YM,le_trans->zaj,lt_of_lt_of_le->zcc,lt_or_ge->zad,min_eq_left->zcz,mul_le_mul_right->ZF,one_mul->zdf,succ_mul->zcn,zero_add->ZP
open _root_.Go.Next renaming value->zck
open _root_.Go.Op renaming equal->zdl
open _root_.Option renaming bind_some->zbl,map_eq_some_iff->zbu
open _root_.Option.some renaming inj->ZS,injEq->YL
open _root_.Prod.mk renaming injEq->za1
open _root_.Pure renaming pure->zcf
open _root_.Go.Region renaming binds->zdi,wanted->ZT
open _root_.Go.Value renaming int->zdk,string->ZD
open _root_.Go.Value.slice renaming injEq->ZU
set_option linter.all false
set_option maxRecDepth 100000
namespace Go.X
end Go.X
namespace Go.Proofs
end Go.Proofs
open Go Go.X Go.Proofs
open _root_.Bool renaming true->Ta,false->Tb
open _root_.Option renaming some->Tc,none->Td
section
namespace Go.X
section
theorem za{c:Prop}{h:Decidable c}(n:¬c){α:Sort _}{t e:α}:@ite α c h t e=e:=if_neg n
theorem zb{c:Prop}{h:Decidable c}(n:c){α:Sort _}{t e:α}:@ite α c h t e=t:=if_pos n
theorem zA{p:Prop}[Decidable p]:(decide p=true)=p:=decide_eq_true_eq
theorem zB{p:Prop}[Decidable p](h:decide p=true):p:=of_decide_eq_true h
theorem zC{p:Prop}[Decidable p](h:decide p=false):¬p:=of_decide_eq_false h
theorem zD{p:Prop}[Decidable p](h:p):decide p=true:=decide_eq_true h
theorem zE{p:Prop}[Decidable p](h:¬p):decide p=false:=decide_eq_false h
theorem zF{α:Sort _}(a b:α):cond true a b=a:=rfl
theorem zG{α:Sort _}(a b:α):cond false a b=b:=rfl
abbrev Bt:= ByteArray
variable {i n m:Nat} {v u:Value} {a:Act} {o:Oper}
abbrev zc:=Array Obj
abbrev qc:=List (Nat×Bool)
abbrev aR:=List (Nat×qc×Value)
def mk(B:World)(d:Nat)(h:zc):World:={ B with heap:=h,drawn:=d }
def look:aR->Nat->Option (qc×Value)
 |[],_=>Td
 |(j,c,v)::e,i=>bif Nat.beq i j then Tc (c,v)else look e i
def valid(σ:Nat->Value):qc->Prop
 |[]=>True
 |(g,p)::c=>σ g=.bool p/\valid σ c
def qe(a:Act)(i:Nat):Value:=a.tmps.getD i undef
def fact(σ:Nat->Value)(x:Nat×qc×Value):Prop:=(valid σ x.2.1->σ x.1=x.2.2)/\(¬valid σ x.2.1->σ x.1=undef)
structure Sat (n:Nat) (e:aR) (a:Act):Prop where
 defers:a.defers=[]
 size:a.tmps.size=n
 all:∀x∈e,fact (qe a) x
def mentions:qc->Nat->Bool
 |[],_=>Tb
 |(g,_)::c,i=>bif Nat.beq i g then Ta else mentions c i
def pH:aR->Nat->aR
 |[],_=>[]
 |(j,c,v)::e,i=>bif (bif Nat.beq i j then Ta else mentions c i)then pH e i else(j,c,v)::pH e i
def put(e:aR)(i:Nat)(c:qc)(v:Value):aR:=(i,c,v)::pH e i
def putO(e:aR):Option Nat->qc->Value->aR
 |none,_,_=>e
 |some d,c,v=>put e d c v
def clean:aR->aR
 |[]=>[]
 |(j,[],v)::e=>(j,[],v)::clean e
 |(_,_::_,_)::e=>clean e
theorem mr{e:aR}{c:qc}(h:look e i=Tc (c,v)):(i,c,v)∈e:=by
 induction e with
 |nil=>cases h
 |cons x e f=>obtain⟨j,k,b⟩:=x;simp only[look]at h;by_cases l:Nat.beq i j=Ta;simp_all;simp_all
theorem Lx{e:aR}{x:Nat×qc×Value}(h:x∈pH e i):x∈e/\x.1≠i/\mentions x.2.1 i=Tb:=by
 induction e with
 |nil=>cases h
 |cons y e o=>
  obtain⟨j,f,n⟩:=y;simp only[pH]at h;by_cases k:Nat.beq i j=Ta;simp_all;have c:Nat.beq i j=Tb:=Bool.eq_false_iff.2 k;simp only[c,zG]at h;by_cases l:mentions f i=Ta;simp_all;have b:mentions f i=Tb:=by simpa using l
  simp only[b,zG]at h;rcases YS.1 h with rfl|h;refine⟨ZB,λm=>?_,b⟩;simp_all;simp_all
theorem RB{e:aR}{x:Nat×qc×Value}(h:x∈clean e):x∈e/\x.2.1=[]:=by
 induction e with
 |nil=>cases h
 |cons y e i=>
  obtain⟨j,b,f⟩:=y;cases b with
  |nil=>simp only[clean]at h;grind
  |cons c cs=>simp only[clean]at h;simp_all
theorem Sat.sub{e e':aR}(h:Sat n e a)(b:∀x∈e',x∈e):Sat n e' a:=⟨h.defers,h.size,λx c=>h.all x (b x c)⟩
theorem Sat.clean{n:Nat}{e:aR}{a:Act}(h:Sat n e a):Sat n (clean e) a:=h.sub λ_ b=>(RB b).1
theorem Zv{σ τ:Nat->Value}{c:qc}(b:mentions c i=Tb)(h:∀j,j≠i->σ j=τ j):valid σ c↔valid τ c:=by
 induction c with
 |nil=>exact Iff.rfl
 |cons x c k=>obtain⟨g,p⟩:=x;simp only[mentions]at b;by_cases f:Nat.beq i g=Ta;grind;simp only[f,zG]at b;have l:g≠i:=λe=>f (by rw[e];simp);simp only[valid,h g l,k b]
theorem xo(hi:i<a.tmps.size):qe (a.put (Tc i) u) i=u:=by simp[qe,Act.put,hi]
theorem qt{i j:Nat}(h:j≠i):qe (a.put (Tc i) u) j=qe a j:=by simp[qe,Act.put,zb2 (Ne.symm h)]
theorem size_put(a:Act)(d:Option Nat)(u:Value):(a.put d u).tmps.size=a.tmps.size:=by cases d <;> simp[Act.put]
theorem x7(a:Act)(d:Option Nat)(u:Value):(a.put d u).defers=a.defers:=by cases d <;> simp[Act.put]
theorem Sat.put{n:Nat}{e:aR}{a:Act}(h:Sat n e a){i:Nat}{c:qc}{v u:Value}(hi:i<n)(w:mentions c i=Tb)
  (r:valid (qe a) c->u=v) (t:¬valid (qe a) c->u=undef):Sat n (put e i c v) (a.put (Tc i) u):=by
 refine⟨by rw[x7];exact h.defers,by rw[size_put];exact h.size,λx m=>?_⟩;have k:i<a.tmps.size:=by rw[h.size];exact hi
 rcases YS.1 m with rfl|m;have l:=Zv (σ:=qe (a.put (Tc i) u)) (τ:=qe a) w (λj o=>qt o);refine⟨λf=>?_,λf=>?_⟩;exact(xo k).trans (r (l.1 f));exact(xo k).trans (t (λb=>f (l.2 b)));obtain⟨h1,q,s⟩:=Lx m;have l:=Zv (σ:=qe (a.put (Tc i) u)) (τ:=qe a) s (λj o=>qt o);have p:=h.all x h1;refine⟨λf=>?_,λf=>?_⟩;exact(qt q).trans (p.1 (l.1 f));exact(qt q).trans (p.2 (λb=>f (l.2 b)))
def wh(n:Nat)(c:qc):Option Nat->Bool
 |none=>Ta
 |some d=>bif mentions c d then Tb else Nat.blt d n
theorem Sat.putO{n:Nat}{e:aR}{a:Act}(h:Sat n e a){d:Option Nat}{c:qc}{v u:Value}(f:wh n c d=Ta)
  (l:valid (qe a) c->u=v) (m:¬valid (qe a) c->u=undef):Sat n (putO e d c v) (a.put d u):=by
 cases d with
 |none=>exact h
 |some i=>
  simp only[wh]at f;by_cases k:mentions c i=Ta;grind;have b:mentions c i=Tb:=by simpa using k
  simp only[b,zG]at f;exact h.put (by simp_all) b l m
def Zw:qc->qc->Bool
 |[],[]=>Ta
 |(g,p)::c,(g',p')::c'=>bif Nat.beq g g' then(bif p then(bif p' then Zw c c' else Tb)else(bif p' then Tb else Zw c c'))else Tb
 |_,_=>Tb
theorem Jg:∀{c c':qc},Zw c c'=Ta->c=c'
 |[],[],_=>rfl
 |[],_::_,h=>by simp[Zw]at h
 |_::_,[],h=>by simp[Zw]at h
 |(g,p)::c,(g',p')::c',h=>by simp only[Zw]at h;by_cases b:Nat.beq g g'=Ta;simp only[b,zF]at h;have e:=YT b;cases p <;> cases p' <;> simp at h <;> rw[e,Jg h];grind
def iH(cs:qc):qc->Bool
 |[]=>Zw cs []
 |x::c=>bif Zw cs (x::c)then Ta else iH cs c
theorem Jh{σ:Nat->Value}{cs:qc}:∀{c:qc},iH cs c=Ta->valid σ c->valid σ cs
 |[],h,_=>by rw[Jg h];trivial
 |x::c,h,hv=>by simp only[iH]at h;by_cases b:Zw cs (x::c)=Ta;rw[Jg b];exact hv;simp only[b,zG]at h;exact Jh h hv.2
def X0(e:aR)(c:qc):Operand->Option Value
 |.tmp t=>match look e t with
  |some (cs,v)=>bif iH cs c then Tc v else Td
  |none=>Td
 |.const v=>Tc v
 |.global g=>Tc (.pointer (Tc ⟨g,0,Td⟩))
 |.func f=>Tc (.func (.func f) #[] #[])
theorem yc{e:aR}(h:Sat n e a){c:qc}(l:valid (qe a) c){x:Operand}(b:X0 e c x=Tc v):a.eval x=v:=by
 cases x with
 |tmp t=>simp only[X0]at b;split at b;rename_i cs u k;by_cases i:iH cs c=Ta;simp only[i,zF,YL]at b;subst b;exact(h.all _ (mr k)).1 (Jh i l);grind;cases b
 |const u=>simp only[X0,YL]at b;exact b
 |global g=>simp only[X0,YL]at b;exact b
 |func f=>simp only[X0,YL]at b;exact b
def gB(e:aR)(c:qc)(x:Operand):Value:=match X0 e c x with
 |some v=>v
 |none=>undef
def known(e:aR)(c:qc):List Operand->Bool
 |[]=>Ta
 |x::l=>match X0 e c x with
  |some _=>known e c l
  |none=>Tb
theorem Wd{e:aR}(h:Sat n e a){c:qc}(k:valid (qe a) c){l:List Operand}(b:known e c l=Ta):∀x∈l,a.eval x=gB e c x:=by
 induction l with
 |nil=>simp
 |cons y l m=>intro x i;simp only[known]at b;split at b;rename_i v f;rcases YS.1 i with rfl|i;rw[yc h k f];simp[gB,f];grind;cases b
def Y8:Op->Bool
 |.select _ _=>Tb
 |_=>Ta
theorem sw{e:aR}(h:Sat n e a){c:qc}(l:valid (qe a) c)(f:Y8 o.op=Ta)(i:known e c o.op.operands.toList=Ta):
  execOp a.eval o=execOp (gB e c) o:=
 execOp_congr o (λcs b k=>by rw[k]at f;cases f) λx m=>Wd h l i x (by simpa using m)
def yz(ops:Array Oper)(j:Nat):Option Nat:=match ops[j]? with
 |some o=>o.dst
 |none=>Td
def Zi(ops:Array Oper)(e:aR):Option (Nat×Bool)->Option qc
 |none=>Tc []
 |some (j,p)=>match yz ops j with
  |some g=>match look e g with
   |some (cg,.bool _)=>Tc ((g,p)::cg)
   |_=>Td
  |none=>Td
def oM(e:aR):qc->Option Bool
 |[]=>Tc Ta
 |(g,p)::c=>match look e g with
  |some (cg,.bool b)=>bif Zw cg c then(match oM e c with
    |some f=>Tc (f&&(bif p then b else !b))
    |none=>Td)else Td
  |_=>Td
theorem Gs{b:Bool}:undef≠.bool b:=by simp[undef]
theorem uU{n:Nat}{e:aR}{a:Act}(h:Sat n e a):∀{c:qc} {b:Bool},oM e c=Tc b->(b=Ta↔valid (qe a) c)
 |[],b,hb=>by simp only[oM,YL]at hb;simp[<-hb,valid]
 |(g,p)::c,b,hb=>by
  simp only[oM]at hb;split at hb;rename_i t o q;by_cases m:Zw t c=Ta;simp only[m,zF]at hb;split at hb;rename_i k i;simp only[YL]at hb;have s:=uU h i;have l:=h.all _ (mr q);rw[Jg m]at l;by_cases f:valid (qe a) c;have h1:qe a g=.bool o:=l.1 f;have r:=s.2 f;subst hb;simp only[valid,h1,f,r,zao,and_true,Value.bool.injEq];grind;have h1:k=Tb:=by cases k with|false=>rfl|true=>simp_all
  subst hb;simp[valid,f,h1];cases hb;grind;cases hb
theorem Z5{ops:Array Oper}{e:aR}(h:Sat n e a){c:qc}(f:Zi ops e o.guard=Tc c):
  ZT o (yielded ops a.tmps)=Ta↔valid (qe a) c:=by
 unfold ZT;cases hg:o.guard with
 |none=>rw[hg]at f;simp only[Zi,YL]at f;simp[<-f,valid]
 |some s=>
  obtain⟨j,p⟩:=s;rw[hg]at f;simp only[Zi]at f;split at f;rename_i g i;split at f;rename_i t b q;simp only[YL]at f;subst f;have k:((ops[j]?).bind (·.dst))=Tc g:=by simp only[yz]at i;split at i;simp_all;cases i
  have m:=h.all _ (mr q);have r:yielded ops a.tmps j=Tc p↔qe a g=.bool p:=by
   unfold yielded qe;rw[k];simp only[zbl];cases ht:a.tmps[g]? with
   |none=>simp[zay,ht,undef]
   |some v=>cases v <;> simp[zay,ht]
  simp only[beq_iff_eq,r,valid];constructor;intro h1;refine⟨h1,?_⟩;by_cases l:valid (qe a) t;exact l;have:=m.2 l;simp only at this;rw[h1]at this;exact absurd this.symm Gs;simp_all;cases f;cases f
structure Keep (n:Nat) (h h':zc):Prop where
 size:h.size<=h'.size
 get:∀i,i<n->h'[i]?=h[i]?
theorem Keep.refl(n:Nat)(h:zc):Keep n h h:=⟨YM _,λ_ _=>rfl⟩
theorem Keep.trans{a b c:zc}(h:Keep n a b)(k:Keep m b c)(e:n<=m):Keep n a c:= ⟨zaj h.size k.size,λi hi=>(k.get i (zcc hi e)).trans (h.get i hi)⟩
theorem Keep.mono{a b:zc}(h:Keep n a b)(c:m<=n):Keep m a b:=⟨h.size,λi hi=>h.get i (zcc hi c)⟩
theorem Keep.push(h:zc)(o:Obj)(b:n<=h.size):Keep n h (h.push o):= ⟨by simp,λi hi=>by grind⟩
end
section
variable {P:Program} {α:Type} {h:zc} {v x i:Value} {t:TypeId} {g:Option Bool} {n l r:Int}
def ze(h:zc)(a:Addr):Option Value:=
 match h[a.block]? with
 |some (.cells c _ _)=>if a.spot.isSome then Td else c[a.off]?
 |_=>Td
theorem Hd(B:World)(d:Nat)(h:zc)(a:Addr):(mk B d h).cell? a=ze h a:=rfl
def Yw(P:Program){α:Type}:Sem α->Option α
 |.pure a=>Tc a
 |.program k=>Yw P (k P)
 |.mark _ k=>Yw P k
 |_=>Td
def QExec(P:Program){α:Type}(s:Sem α)(h:zc)(x:α):Prop:=∀B d,s.run P (mk B d h)=.ok x (mk B d h)
theorem qf{s:Sem α}{x:α}(h:Yw P s=Tc x)(w:World):s.run P w=.ok x w:=by
 induction s with
 |pure a=>simp only[Yw,YL]at h;subst h;rfl
 |program k b=>exact b P h
 |mark m k b=>exact b h
 |_=>simp[Yw]at h
theorem Mj{s:Sem α}{x:α}(h:Yw P s=Tc x)(b:zc):QExec P s b x:=λ_ _=>qf h _
theorem QExec.bind{α β:Type}{s:Sem α}{f:α->Sem β}{x:α}{y:β}(h1:QExec P s h x)(b:QExec P (f x) h y):QExec P (s >>= f) h y:=by intro B d;rw[Sem.run_bind,h1 B d];exact b B d
theorem QExec.pure(x:α):QExec P (zcf x) h x:=λ_ _=>rfl
theorem QExec.val{s:Sem Value}(h1:QExec P s h v):QExec P (s >>= λx=>zcf (zck x)) h (zck v):=h1.bind (QExec.pure _)
theorem QExec.underlying{d:TypeDesc}(b:P.underlying t=Tc d):QExec P (Go.underlying t) h d:=by intro B e;simp[Go.underlying,program,b,Sem.run]
def yb(P:Program)(t:TypeId):Nat:=match P.info? t with
 |some i=>i.size
 |none=>0
theorem QExec.sizeOf{i:TypeInfo}(hi:P.info? t=Tc i):QExec P (Go.sizeOf t) h (yb P t):=by intro B d;simp[Go.sizeOf,typeInfo,program,hi,Sem.run,yb]
theorem info_of_underlying{d:TypeDesc}(b:P.underlying t=Tc d):∃i,P.info? t=Tc i:=by unfold Program.underlying at b;grind
inductive Atom where
 |int (k:IntKind)|bool|str|sl|mp|ptr|raw|ad
structure Sl where
 a:Option Addr
 len:Nat
 cap:Nat
@[reducible] def Atom.den:Atom->Type
 |.int _=>Int | .bool=>Bool | .str=>Bt | .sl=>Sl | .mp=>Option Nat | .ptr=>Option Addr | .raw=>Value | .ad=>Addr
def Atom.enc:(t:Atom)->t.den->Value
 |.int k,n=>.int k n
 |.bool,b=>.bool b
 |.str,s=>.string s
 |.sl,s=>.slice s.a s.len s.cap
 |.mp,m=>.map m
 |.ptr,p=>.pointer p
 |.raw,v=>v
 |.ad,p=>.pointer (Tc p)
def Atom.dec:(t:Atom)->Value->Option t.den
 |.int k,.int k' n=>if k=k' then Tc n else Td
 |.bool,.bool b=>Tc b
 |.str,.string s=>Tc s
 |.sl,.slice a l c=>Tc ⟨a,l,c⟩
 |.mp,.map m=>Tc m
 |.ptr,.pointer p=>Tc p
 |.raw,v=>Tc v
 |.ad,.pointer (Tc p)=>Tc p
 |_,_=>Td
theorem Atom.enc_of_dec{t:Atom}{x:t.den}(h:t.dec v=Tc x):t.enc x=v:=by
 cases t with
 |ad=>
  cases v with
  |pointer p=>
   cases p with
   |none=>simp[Atom.dec]at h
   |some a=>simp[Atom.dec]at h;rw[h];rfl
  |_=>simp[Atom.dec]at h
 |_=>cases v <;> simp_all[Atom.dec,Atom.enc] <;> (grind)
inductive VT where
 |one (t:Atom)
 |agg (l:List Atom)
inductive RT where
 |one (v:VT)
 |tup (l:List VT)
def sV:List Atom->(List Value->Prop)->Prop
 |[],F=>F []
 |t::l,F=>∃x:t.den,sV l λvs=>F (t.enc x::vs)
def uL:VT->(Value->Prop)->Prop
 |.one t,F=>∃x:t.den,F (t.enc x)
 |.agg l,F=>sV l λvs=>F (.agg vs.toArray)
def xS:List VT->(List Value->Prop)->Prop
 |[],F=>F []
 |t::l,F=>uL t λv=>xS l λvs=>F (v::vs)
def jP:RT->(Value->Prop)->Prop
 |.one v,F=>uL v F
 |.tup l,F=>xS l λvs=>F (.tuple vs.toArray)
def pt:List Atom->(List Value->Prop)->Prop
 |[],F=>F []
 |t::l,F=>∀x:t.den,pt l λvs=>F (t.enc x::vs)
def oI:VT->(Value->Prop)->Prop
 |.one t,F=>∀x:t.den,F (t.enc x)
 |.agg l,F=>pt l λvs=>F (.agg vs.toArray)
def mV:List VT->(List Value->Prop)->Prop
 |[],F=>F []
 |t::l,F=>oI t λv=>mV l λvs=>F (v::vs)
def Cq:RT->(Value->Prop)->Prop
 |.one v,F=>oI v F
 |.tup l,F=>mV l λvs=>F (.tuple vs.toArray)
theorem Ji:∀{l:List Atom} {F G:List Value->Prop},sV l F->pt l G->∃vs,vs.length=l.length/\F vs/\G vs
 |[],_,_,h,g=>⟨[],rfl,h,g⟩
 |_::_,_,_,⟨x,h⟩,g=>let ⟨vs,h0,h1,h2⟩:=Ji h (g x);⟨_,by simp[h0],h1,h2⟩
theorem xf:∀(l:List Atom),pt l λ_=>True
 |[]=>trivial
 |_::l=>λ_=>xf l
theorem Au{v:VT}{F G:Value->Prop}(h:uL v F)(g:oI v G):∃u,F u/\G u:=by
 cases v with
 |one t=>obtain⟨x,h⟩:=h;exact⟨_,h,g x⟩
 |agg l=>obtain⟨vs,_,h1,b⟩:=Ji h g;grind
theorem UP(v:VT):oI v λ_=>True:=by
 cases v with
 |one t=>exact λ_=>trivial
 |agg l=>exact xf l
theorem yX:∀{l:List VT} {F G:List Value->Prop},xS l F->mV l G->∃vs,F vs/\G vs
 |[],_,_,h,g=>⟨[],h,g⟩
 |_::_,_,_,h,g=>let ⟨_,h1,h2⟩:=Au h g;let ⟨_,h3,h4⟩:=yX h1 h2;⟨_,h3,h4⟩
theorem HA:∀(l:List VT),mV l λ_=>True
 |[]=>trivial
 |v::l=>by
  have h:=HA l;simp only[mV];cases v with
  |one t=>exact λ_=>h
  |agg b=>
   simp only[oI];have key:∀(b:List Atom) (f:List Value->List Value),pt b λ_=>mV l λ_=>True:=λb _=>by
    induction b with
    |nil=>exact h
    |cons t b c=>exact λ_=>c
   exact key b id
theorem Du{r:RT}{F G:Value->Prop}(h:jP r F)(g:Cq r G):∃v,F v/\G v:=by
 cases r with
 |one v=>exact Au h g
 |tup l=>obtain⟨vs,h1,b⟩:=yX h g;grind
theorem nt{r:RT}{F:Value->Prop}(h:jP r F):∃v,F v:=by
 cases r with
 |one v=>obtain⟨u,h1,_⟩:=Au h (UP v);grind
 |tup l=>obtain⟨vs,h1,_⟩:=yX h (HA l);grind
def Gv:TypeDesc->Atom
 |.int k=>.int k
 |.bool=>.bool
 |.string=>.str
 |.slice _=>.sl
 |.map _ _=>.mp
 |.pointer _=>.ptr
 |_=>.raw
def qQ(P:Program):Nat->TypeId->Option (List Atom)
 |0,_=>Td
 |n+1,t=>match P.underlying t with
  |some (.struct fs)=>fs.toList.foldr (λf l=>match qQ P n f.type,l with
    |some x,some y=>Tc (x++y)
    |_,_=>Td) (Tc [])
  |some (.array m e)=>match qQ P n e with
    |some x=>Tc (zct m x).flatten
    |none=>Td
  |some d=>Tc [Gv d]
  |none=>Td
def ik(P:Program)(t:TypeId):Option VT:=match P.underlying t with
 |some (.struct _)|some (.array _ _)=>match qQ P 8 t with
  |some l=>bif Nat.beq l.length (yb P t)then Tc (.agg l)else Td
  |none=>Td
 |some d=>Tc (.one (Gv d))
 |none=>Td
def B8(P:Program):List TypeId->Option (List VT)
 |[]=>Tc []
 |t::l=>match ik P t,B8 P l with
  |some x,some y=>Tc (x::y)
  |_,_=>Td
def mj(P:Program)(t:TypeId):Option RT:=match P.underlying t with
 |some (.tuple ts)=>match B8 P ts.toList with
  |some l=>Tc (.tup l)
  |none=>Td
 |_=>match ik P t with
  |some v=>Tc (.one v)
  |none=>Td
def req:Option Bool->Prop->Prop
 |none,p=>p
 |some b,p=>b=Ta->p
def eQ:Option Bool->Prop
 |none=>True
 |some b=>b=Ta
theorem req.out{p:Prop}(h:req g p)(c:eQ g):p:=by
 cases g with
 |none=>exact h
 |some b=>exact h c
def zd(h:zc)(p:Addr):Nat->List Value->Prop
 |_,[]=>True
 |i,v::vs=>ze h (p.add i)=Tc v/\zd h p (i+1) vs
def kX(P:Program)(h:zc)(t:TypeId)(p:Value)(g:Option Bool)(K:Value->Prop):Prop:=
 match p,ik P t with
 |.pointer (Tc p),Tc (.one a)=>∃x:a.den,req g (ze h p=Tc (a.enc x))/\K (a.enc x)
 |.pointer (Tc p),Tc (.agg l)=>sV l λvs=>req g (zd h p 0 vs)/\K (.agg vs.toArray)
 |_,_=>False
theorem Hf{P:Program}{h:zc}{p:Addr}:∀(vs:List Value) (i:Nat) (b:Array Value),zd h p i vs->QExec P (loadCellsFrom p i vs.length b) h (b++vs.toArray)
 |[],i,b,_=>by intro B d;simp[loadCellsFrom]
 |v::vs,i,b,⟨h1,h2⟩=>by have c:=Hf (P:=P) vs (i+1) (b.push v) h2;intro B d;simp only[ZV,loadCellsFrom,Sem.run_bind,run_load];rw[Hd,h1];simp only[Result.andThen_ok];rw[c B d];simp
theorem pC{a:Atom}{p:Addr}(c:ik P t=Tc (.one a))(i:ze h p=Tc v):QExec P (loadVar t p) h v:=by
 unfold ik at c;cases hu:P.underlying t with
 |none=>simp_all
 |some d=>
  rw[hu]at c;intro B e;have f:=QExec.underlying (h:=h) hu B e;have b:(isAgg t).run P (mk B e h)=.ok Tb (mk B e h):=by unfold isAgg;rw[Sem.run_bind,f];cases d <;> first|rfl|grind
  unfold loadVar;rw[Sem.run_bind,b];simp only[Result.andThen_ok,zaz,if_false,run_load];rw[Hd,i]
theorem oW{l:List Atom}{p:Addr}{vs:List Value}(c:ik P t=Tc (.agg l))(u:vs.length=l.length)(r:zd h p 0 vs):QExec P (loadVar t p) h (.agg vs.toArray):=by
 unfold ik at c;cases hu:P.underlying t with
 |none=>simp_all
 |some d=>
  rw[hu]at c;obtain⟨i,hi⟩:=info_of_underlying hu;have b:(∃f,d=.struct f)\/(∃n e,d=.array n e):=by cases d <;> first|exact Or.inl ⟨_,rfl⟩|exact Or.inr ⟨_,_,rfl⟩|(simp at c)
  have s:yb P t=l.length:=by
   have k:(match qQ P 8 t with
     |some l=>bif Nat.beq l.length (yb P t)then Tc (VT.agg l)else Td
     |none=>Td)=Tc (.agg l):=by
    rcases b with⟨f,rfl⟩|⟨n,e,rfl⟩ <;> exact c
   split at k;rename_i q _;cases hb:Nat.beq q.length (yb P t)with
   |false=>simp_all
   |true=>simp_all
   cases k
  intro B e;have m:=QExec.underlying (h:=h) hu B e;have hA:(isAgg t).run P (mk B e h)=.ok Ta (mk B e h):=by unfold isAgg;rw[Sem.run_bind,m];rcases b with⟨f,rfl⟩|⟨n,e',rfl⟩ <;> rfl
  have o:=QExec.sizeOf (h:=h) hi B e;unfold loadVar;rw[Sem.run_bind,hA];simp only[Result.andThen_ok,if_true];rw[Sem.run_bind,o];simp only[Result.andThen_ok];have w:=Hf (P:=P) vs 0 #[] r B e;unfold loadCells;simp_all
theorem Cc{p:Value}{K:Value->Prop}(H:kX P h t p g K):
  ∃v,K v/\(eQ g->QExec P (zcl t p) h v):=by
 unfold kX at H;split at H;rename_i q a b;obtain⟨x,h1,c⟩:=H;exact⟨_,c,λe=>pC b (h1.out e)⟩;rename_i q l b;obtain⟨vs,h0,⟨h1,c⟩,_⟩:=Ji H (xf l);exact⟨_,c,λe=>oW b h0 (h1.out e)⟩;exact H.elim
def oZ(P:Program)(t:TypeId)(x i:Value)(g:Option Bool)(K:Value->Prop):Prop:=
 match P.underlying t with
 |some (.slice el)=>match x,i with
  |.slice base len _,.int _ n=>∃a:Addr,req g (base=Tc a/\0<=n/\n<(len:Int))/\K (.pointer (Tc (a.add (n.toNat*yb P el))))
  |_,_=>False
 |some (.array len el)=>match x,i with
  |.pointer base,.int _ n=>∃a:Addr,req g (base=Tc a/\0<=n/\n<(len:Int))/\K (.pointer (Tc (a.add (n.toNat*yb P el))))
  |_,_=>False
 |_=>False
def qj(P:Program)(t:TypeId):Bool:=match P.info? t with
 |some _=>Ta
 |none=>Tb
theorem ju(h:qj P t=Ta):∃i,P.info? t=Tc i:=by unfold qj at h;grind
theorem xp(t:TypeId)(B:World)(d:Nat):(∃i,P.info? t=Tc i)->(Go.sizeOf t).run P (mk B d h)=.ok (yb P t) (mk B d h):=λ⟨_,hi⟩=>QExec.sizeOf hi B d
theorem Z6{K:Value->Prop} (c:∀el,(P.underlying t=Tc (.slice el)\/∃n,P.underlying t=Tc (.array n el))->∃i,P.info? el=Tc i) (H:oZ P t x i g K):
  ∃v,K v/\(eQ g->∀h:zc,QExec P (zdb t x i) h v):=by
 unfold oZ at H;split at H;rename_i el b;split at H;rename_i base len cap k n;obtain⟨a,h1,e⟩:=H;refine⟨_,e,λm=>?_⟩;obtain⟨rfl,f,p⟩:=h1.out m;intro h B d;have o:=QExec.underlying (h:=h) b B d;have l:=xp (h:=h) el B d (c el (Or.inl b));unfold zdb;simp[asIntOf,Sem.run_bind,o,l,f,p];exact H.elim;rename_i len el b;split at H;rename_i base k n;obtain⟨a,h1,e⟩:=H;refine⟨_,e,λm=>?_⟩;obtain⟨rfl,f,p⟩:=h1.out m;intro h B d;have o:=QExec.underlying (h:=h) b B d;have l:=xp (h:=h) el B d (c el (Or.inr ⟨_,b⟩));unfold zdb;simp[asIntOf,Sem.run_bind,o,l,f,p,zcu];exact H.elim;exact H.elim
def zf(s:Bt)(i:Nat):Int:=((s.data[i]?.getD 0).toNat:Int)
def vC(x i:Value)(g:Option Bool)(K:Value->Prop):Prop:=
 match x,i with
 |.string s,.int _ n=>req g (0<=n/\n<(s.size:Int))/\K (.int .u8 (zf s n.toNat))
 |_,_=>False
theorem QG(s:Bt)(i:Nat)(h:i<s.size):s[i]?=Tc (s.data[i]?.getD 0):=by have h':i<s.data.size:=h;rw[getElem?_pos s i h];simp[zal h'];rfl
theorem Cu{K:Value->Prop}(e:P.underlying t=Tc .string)(H:vC x i g K):
  ∃v,K v/\(eQ g->∀h:zc,QExec P (zdc t x i) h v):=by
 unfold vC at H;split at H;rename_i s k n;obtain⟨h1,c⟩:=H;refine⟨_,c,λm=>?_⟩;obtain⟨f,o⟩:=h1.out m;intro h B d;have b:=QExec.underlying (h:=h) e B d;unfold zdc;have l:=QG s n.toNat (by omega);simp only[asIntOf,Sem.run_bind,b,Sem.run_pure,Result.andThen_ok,f,if_true,l,zf];exact H.elim
def fF(a:Option Addr)(sz l m:Nat):Option Addr:=if m=l then a else a.map (·.add (l*sz))
def je:Option Value->Int->Option Int
 |none,d=>Tc d
 |some (.int _ n),_=>Tc n
 |some _,_=>Td
def qR(P:Program)(t:TypeId)(x:Value)(lo hi mx:Option Value)(g:Option Bool)(K:Value->Prop):Prop:=
 match P.underlying t with
 |some .string=>match x,mx with
  |.string s,none=>match je lo 0,je hi (s.size:Int)with
   |some l,some r=>req g (0<=l/\l<=r/\r<=(s.size:Int))/\K (.string (s.extract l.toNat r.toNat))
   |_,_=>False
  |_,_=>False
 |some (.slice el)=>match x with
  |.slice a len cap=>match je lo 0,je hi (len:Int),je mx (cap:Int)with
   |some l,Tc r,some m=>(mx=Td\/∃v,hi=Tc v)/\req g (0<=l/\l<=r/\r<=m/\m<=(cap:Int))/\K (.slice (fF a (yb P el) l.toNat m.toNat) (r.toNat-l.toNat) (m.toNat-l.toNat))
   |_,_,_=>False
  |_=>False
 |some (.array n el)=>match x,mx with
  |.pointer (Tc a),none=>match je lo 0,je hi (n:Int)with
   |some l,some r=>req g (0<=l/\l<=r/\r<=(n:Int))/\K (.slice (fF (Tc a) (yb P el) l.toNat n) (r.toNat-l.toNat) (n-l.toNat))
   |_,_=>False
  |_,_=>False
 |_=>False
theorem jv{v:Option Value}{d n:Int}(h:je v d=Tc n):(v=Td/\n=d)\/∃k,v=Tc (.int k n):=by unfold je at h;grind
theorem ji{k:IntKind}{y:Nat}{c:BoundsCode}(h0:0<=n)(h1:n<=(y:Int)):QExec P (Instr.sliceBound (.int k n) y c) h n.toNat:=by intro B d;simp[Instr.sliceBound,asIntOf,h0,h1]
theorem AO{n:Nat}{lo hi:Option Value}(f:je lo 0=Tc l)(m:je hi (n:Int)=Tc r)(c:0<=l)(i:l<=r)(b:r<=(n:Int)):
  QExec P (Instr.sliceBounds Tb n n lo hi Td) h (l.toNat,r.toNat,n):=by
 have e:(r.toNat:Int)=r:=Int.toNat_of_nonneg (by omega);rcases jv f with⟨rfl,rfl⟩|⟨k,rfl⟩ <;> rcases jv m with⟨rfl,rfl⟩|⟨k',rfl⟩;exact QExec.pure _;exact QExec.bind (QExec.pure n) (QExec.bind (ji (by omega) b) (QExec.pure _));exact QExec.bind (QExec.pure n) (QExec.bind (QExec.pure n) (QExec.bind (ji c i) (QExec.pure _)));exact QExec.bind (QExec.pure n) (QExec.bind (ji (by omega) b) (QExec.bind (ji c (by omega)) (QExec.pure _)))
theorem MJ{len cap:Nat}{lo hi mx:Option Value}{l r m:Int}(f:je lo 0=Tc l)(i:je hi (len:Int)=Tc r)(p:je mx (cap:Int)=Tc m) (h0:mx=Td\/∃v,hi=Tc v) (b:0<=l) (q:l<=r) (o:r<=m) (n:m<=(cap:Int)):
  QExec P (Instr.sliceBounds Ta len cap lo hi mx) h (l.toNat,r.toNat,m.toNat):=by
 have e:(r.toNat:Int)=r:=Int.toNat_of_nonneg (by omega);have u:(m.toNat:Int)=m:=Int.toNat_of_nonneg (by omega);rcases jv p with⟨rfl,rfl⟩|⟨t,rfl⟩;rcases jv f with⟨rfl,rfl⟩|⟨k,rfl⟩ <;> rcases jv i with⟨rfl,rfl⟩|⟨s,rfl⟩;exact QExec.pure _;exact QExec.bind (QExec.pure cap) (QExec.bind (ji (by omega) o) (QExec.pure _));exact QExec.bind (QExec.pure cap) (QExec.bind (QExec.pure len) (QExec.bind (ji b q) (QExec.pure _)));exact QExec.bind (QExec.pure cap) (QExec.bind (ji (by omega) o) (QExec.bind (ji b (by omega)) (QExec.pure _)));rcases h0 with h0|⟨v,rfl⟩;cases h0;rcases jv i with⟨c,_⟩|⟨s,c⟩;cases c;cases c;rcases jv f with⟨rfl,rfl⟩|⟨k,rfl⟩;exact QExec.bind (x:=m.toNat) (ji (by omega) n) (QExec.bind (ji (by omega) (by omega)) (QExec.pure _));exact QExec.bind (x:=m.toNat) (ji (by omega) n) (QExec.bind (ji (by omega) (by omega)) (QExec.bind (ji b (by omega)) (QExec.pure _)))
theorem Yx{lo hi mx:Option Value}{K:Value->Prop} (q:∀el,(P.underlying t=Tc (.slice el)\/∃n,P.underlying t=Tc (.array n el))->∃i,P.info? el=Tc i) (H:qR P t x lo hi mx g K):
  ∃v,K v/\(eQ g->∀h:zc,QExec P (zcx t x lo hi mx) h v):=by
 unfold qR at H;split at H;rename_i b;split at H;rename_i s;split at H;rename_i l r e k;obtain⟨h1,f⟩:=H;refine⟨_,f,λp=>?_⟩;obtain⟨o,u,w⟩:=h1.out p;intro h B d;have c:=QExec.underlying (h:=h) b B d;have bb:=AO (P:=P) (h:=h) e k o u w B d;unfold zcx;rw[Sem.run_bind,c];simp only[Result.andThen_ok];unfold Instr.slice;simp_all;exact H.elim;exact H.elim;rename_i el b;split at H;rename_i a len cap;split at H;rename_i l r m e k z;obtain⟨h0,h1,f⟩:=H;refine⟨_,f,λp=>?_⟩;obtain⟨o,u,w,A⟩:=h1.out p;intro h B d;have c:=QExec.underlying (h:=h) b B d;have y:=xp (h:=h) el B d (q el (.inl b));have bb:=MJ (P:=P) (h:=h) e k z h0 o u w A B d;unfold zcx;rw[Sem.run_bind,c];simp only[Result.andThen_ok];unfold Instr.slice;rw[Sem.run_bind,c];simp[bb,y,fF];exact H.elim;exact H.elim;rename_i n el b;split at H;rename_i a;split at H;rename_i l r e k;obtain⟨h1,f⟩:=H;refine⟨_,f,λp=>?_⟩;obtain⟨o,u,w⟩:=h1.out p;intro h B d;have c:=QExec.underlying (h:=h) b B d;have y:=xp (h:=h) el B d (q el (.inr ⟨n,b⟩));have bb:=AO (P:=P) (h:=h) e k o u w B d;unfold zcx;rw[Sem.run_bind,c];simp only[Result.andThen_ok,zcu,Sem.run_bind,Sem.run_pure,bb,y];unfold fF;split <;> rfl;exact H.elim;exact H.elim;exact H.elim
end
section
variable {P:Program} {f:FuncId} {h:zc} {K:Value -> zc -> Prop} {t ty t':TypeId} {g:Option Bool} {w w':World} {v:Value} {o:Oper} {ρ:Operand -> Value} {a:Act}
def XC(P:Program)(f:FuncId)(args:Array Value)(h:zc)(R:Value->zc->Prop):Prop:=
 ∀B d,Calls P f args (mk B d h) λe w'=>∃v b h',e=.returned v/\w'=mk B b h'/\R v h'
theorem XC.mono{args:Array Value}{R b:Value->zc->Prop}(H:XC P f args h R)(e:∀v h',R v h'->b v h'):XC P f args h b:= λB d=>(H B d).mono λ_ _ ⟨v,i,h',c,k,r⟩=>⟨v,i,h',c,k,e _ _ r⟩
def xd(P:Program)(s:Sem Value)(h:zc)(K:Value->zc->Prop):Prop:=∀B d,∃v b h',s.run P (mk B d h)=.ok v (mk B b h')/\K v h'
def XRunU(P:Program)(s:Sem Unit)(h:zc)(K:zc->Prop):Prop:=∀B d,∃b h',s.run P (mk B d h)=.ok () (mk B b h')/\K h'
theorem XRunU.mono{s:Sem Unit}{K b:zc->Prop}(H:XRunU P s h K)(c:∀h',K h'->b h'):XRunU P s h b:= λB d=>let ⟨d',h',e,k⟩:=H B d;⟨d',h',e,c _ k⟩
def jq(n:Nat):Prop:=n<=9223372036854775807
def iA(P:Program)(s:Sem Next)(K:Value->Prop):Prop:=match Yw P s with
 |some (.value v)=>K v
 |_=>False
def tE(P:Program)(ty:TypeId)(s:Sem Value)(g:Option Bool)(h:zc)(K:Value->Prop):Prop:=match mj P ty with
 |some rt=>jP rt λv=>req g (QExec P s h v)/\K v
 |none=>False
def zI(P:Program)(ty:TypeId)(s:Sem Value)(g:Option Bool)(K:Value->Prop):Prop:=match mj P ty with
 |some rt=>jP rt λv=>req g (∀h:zc,QExec P s h v)/\K v
 |none=>False
def mL(P:Program)(t:TypeId):Bool:=match P.underlying t with
 |some (.slice _)=>Ta
 |_=>Tb
def lY(P:Program)(t:TypeId):Bool:=match P.underlying t with
 |some (.pointer e)=>Nat.beq e (P.pointee t)
 |_=>Tb
theorem Cb(h:lY P t=Ta):P.underlying t=Tc (.pointer (P.pointee t)):=by unfold lY at h;grind [YT]
def sO(P:Program)(t:TypeId)(s:Sem Next)(c:BinOp)(x y:Value)(g:Option Bool)(K:Value->Prop):Prop:=
 match c,x,y with
 |.eql,.slice a _ _,.slice Td 0 0=>bif mL P t then K (.bool a.isNone)else iA P s K
 |.neq,.slice a _ _,.slice Td 0 0=>bif mL P t then K (.bool (!a.isNone))else iA P s K
 |.eql,.pointer a,.pointer none=>bif lY P t then K (.bool a.isNone)else iA P s K
 |.neq,.pointer a,.pointer none=>bif lY P t then K (.bool (!a.isNone))else iA P s K
 |.quo,.int k a,.int k' b=>k=k'/\req g (b≠0)/\K (.int k (k.wrap (a.tdiv b)))
 |.rem,.int k a,.int k' b=>k=k'/\req g (b≠0)/\K (.int k (a.tmod b))
 |.add,.string a,.string b=>req g (jq (a.size+b.size))/\K (.string (a++b))
 |_,_,_=>iA P s K
def Al(b:BinOp)(y:Operand):Bool:=match y with
 |.const _=>Tb
 |_=>match b with
  |.shl | .shr=>Ta
  |_=>Tb
def tc(c:BinOp)(x y:Value)(g:Option Bool)(K:Value->Prop):Prop:=
 match x,y with
 |.int k a,.int _ b=>match c with
  |.shl=>req g (0<=b)/\K (.int k (k.wrap (a*2 ^ (min b.toNat k.bits))))
  |.shr=>req g (0<=b)/\K (.int k (a.fdiv (2 ^ (min b.toNat k.bits))))
  |_=>False
 |_,_=>False
def oz(P:Program)(t:TypeId)(y:Operand):Bool:=match y with
 |.const .nilIface=>match P.underlying t with
  |some (.interface _)=>Ta
  |_=>Tb
 |_=>Tb
def kC:Value->Bool
 |.nilIface=>Ta
 |.iface _ _=>Ta
 |_=>Tb
def kF:Value->Bool
 |.nilIface=>Ta
 |_=>Tb
def rB(b:BinOp)(x y:Value)(g:Option Bool)(K:Value->Prop):Prop:=match y with
 |.nilIface=>match b with
  |.eql=>req g (kC x=Ta)/\K (.bool (kF x))
  |.neq=>req g (kC x=Ta)/\K (.bool (!kF x))
  |_=>False
 |_=>False
def DG(b:Builtin)(c:Array TypeId)(e:TypeId)(args:Array Value):Option (Sem Value):=
 match b with
 |.append=>Tc (YY c e args)
 |.copy=>Tc (Builtin.copy_ c e args)
 |.clear=>Tc (Builtin.clear_ c e args)
 |.delete=>Tc (Builtin.delete_ c e args)
 |.len=>Tc (zb5 c e args)
 |_=>Td
def vY(P:Program)(s:Sem Next)(ty:TypeId)(b:Array TypeId)(args:Array Value)(g:Option Bool)(h:zc)(K:Value->Prop):Prop:=
 match (args[0]?:Option Value)with
 |some (Value.map _)=>tE P ty (zb5 b ty args) g h K
 |_=>iA P s K
def iX(P:Program)(t:TypeId):Bool:=match P.underlying t with
 |some (.slice el)=>qj P el
 |some (.array _ el)=>qj P el
 |_=>Ta
theorem Zx(h:iX P t=Ta):∀el,(P.underlying t=Tc (.slice el)\/∃n,P.underlying t=Tc (.array n el))->∃i,P.info? el=Tc i:=by intro el b;unfold iX at h;grind [ju]
def pR(P:Program)(t:TypeId):Bool:=match P.underlying t with
 |some .string=>Ta
 |_=>Tb
theorem G5(h:pR P t=Ta):P.underlying t=Tc .string:=by unfold pR at h;grind
def sZ(P:Program)(s:Sem Next)(x:Value)(g:Option Bool)(K:Value->Prop):Prop:=match x with
 |.pointer p=>∃a:Addr,req g (p=Tc a)/\K (.pointer (Tc a))
 |_=>iA P s K
def gi(P:Program)(o:Oper)(ρ:Operand->Value)(g:Option Bool)(h:zc)(K:Value->Prop):Prop:=
 match o.op with
 |.load t a=>kX P h t (ρ a) g K
 |.indexAddr t x i=>bif iX P t then oZ P t (ρ x) (ρ i) g K else False
 |.index t x i=>bif pR P t then vC (ρ x) (ρ i) g K else zI P o.type (zdc t (ρ x) (ρ i)) g K
 |.slice t x lo hi mx=>bif iX P t then qR P t (ρ x) (lo.map ρ) (hi.map ρ) (mx.map ρ) g K else False
 |.binOp b t x y _=>bif Al b y then tc b (ρ x) (ρ y) g K else bif oz P t y then rB b (ρ x) (ρ y) g K else sO P t (execOp ρ o) b (ρ x) (ρ y) g K
 |.lookup t m k ok=>tE P o.type (zcm t (ρ m) (ρ k) ok) g h K
 |.nilCheck x=>sZ P (execOp ρ o) (ρ x) g K
 |.call c=>match c.callee with
  |.builtin .len=>vY P (execOp ρ o) o.type c.argTypes (c.args.map ρ) g h K
  |_=>iA P (execOp ρ o) K
 |_=>iA P (execOp ρ o) K
theorem qn{s:Sem Next}{K:Value->Prop}(H:iA P s K)(g:Option Bool):∃v,K v/\(eQ g->∀h:zc,QExec P s h (.value v)):=by unfold iA at H;grind [Mj]
theorem Gn{s:Sem Value}{K:Value->Prop}(H:tE P ty s g h K):∃v,K v/\(eQ g->QExec P s h v):=by unfold tE at H;split at H;obtain⟨v,h1,c⟩:=nt H;exact⟨v,c,λb=>h1.out b⟩;exact H.elim
theorem HV{s:Sem Value}{K:Value->Prop}(H:zI P ty s g K):∃v,K v/\(eQ g->∀h:zc,QExec P s h v):=by unfold zI at H;split at H;obtain⟨v,h1,c⟩:=nt H;exact⟨v,c,λb=>h1.out b⟩;exact H.elim
theorem Zj{c:BinOp}(t:TypeId)(x y:Operand)(a b:Value)(h1:(c matches .eql | .neq)=Tb):eqGuard c t x y a b=pure ():=by unfold eqGuard;grind
theorem p9{s:Sem Value}(h:s.run P w=.ok v w'):(s >>= λx=>(zcf (zck x):Sem Next)).run P w=.ok (.value v) w':=by simp_all
theorem nG{s:Sem Next}{K:Value->Prop}(h:zc)(H:∃v,K v/\(eQ g->∀h:zc,QExec P s h (.value v))):∃v,K v/\(eQ g->QExec P s h (.value v)):=
 let ⟨v,h1,h2⟩:=H;⟨v,h1,λb=>h2 b h⟩
theorem Uk{q:BinOp}{x y:Operand}(r:o.op=.binOp q t x y t'){K:Value->Prop}
  (H:sO P t (execOp ρ o) q (ρ x) (ρ y) g K):∃v,K v/\(eQ g->∀h:zc,QExec P (execOp ρ o) h (.value v)):=by
 have f:∀(q:BinOp) (x y:Operand) (a b:Option Addr) (l c z c':Nat) (w:World),(eqGuard q t x y (.slice a l c) (.slice b z c')).run P w=.ok () w:=λq x y a b l c z c' w=>by unfold eqGuard;simp
 have e:∀(q:BinOp) (x y:Operand) (a b:Option Addr) (w:World),(eqGuard q t x y (.pointer a) (.pointer b)).run P w=.ok () w:=λq x y a b w=>by unfold eqGuard;simp
 unfold sO at H;split at H;rename_i a l c m i;cases hs:mL P t with
 |false=>rw[hs]at H;exact qn H g
 |true=>
  rw[hs,zF]at H;refine⟨_,H,λp h B d=>?_⟩;have n:∃el,P.underlying t=Tc (.slice el):=by unfold mL at hs;split at hs;simp_all;cases hs
  obtain⟨el,n⟩:=n;simp only[execOp,r,m,i];refine p9 ?_;rw[Sem.run_bind,f];simp only[Result.andThen_ok,binOp,Sem.run_bind,run_equal_slice_nil _ t _ _ _ _ n];rfl
 rename_i a l c m i;cases hs:mL P t with
 |false=>rw[hs]at H;exact qn H g
 |true=>
  rw[hs,zF]at H;refine⟨_,H,λp h B d=>?_⟩;have n:∃el,P.underlying t=Tc (.slice el):=by unfold mL at hs;split at hs;simp_all;cases hs
  obtain⟨el,n⟩:=n;simp only[execOp,r,m,i];refine p9 ?_;rw[Sem.run_bind,f];simp only[Result.andThen_ok,binOp,Sem.run_bind,run_equal_slice_nil _ t _ _ _ _ n];rfl
 rename_i a m i;cases hs:lY P t with
 |false=>rw[hs]at H;exact qn H g
 |true=>rw[hs,zF]at H;refine⟨_,H,λp h B d=>?_⟩;have n:=Cb hs;simp only[execOp,r,m,i];refine p9 ?_;rw[Sem.run_bind,e];simp only[Result.andThen_ok,binOp,Sem.run_bind,run_equal_pointer_nil _ t _ n];rfl
 rename_i a m i;cases hs:lY P t with
 |false=>rw[hs]at H;exact qn H g
 |true=>rw[hs,zF]at H;refine⟨_,H,λp h B d=>?_⟩;have n:=Cb hs;simp only[execOp,r,m,i];refine p9 ?_;rw[Sem.run_bind,e];simp only[Result.andThen_ok,binOp,Sem.run_bind,run_equal_pointer_nil _ t _ n];rfl
 rename_i k a C b m i;obtain⟨rfl,h1,s⟩:=H;refine⟨_,s,λp=>?_⟩;have u:=h1.out p;intro h B d;simp only[execOp,r,m,i];rw[Zj _ _ _ _ _ rfl];simp[binOp,Op.intDiv,u];rename_i k a C b m i;obtain⟨rfl,h1,s⟩:=H;refine⟨_,s,λp=>?_⟩;have u:=h1.out p;intro h B d;simp only[execOp,r,m,i];rw[Zj _ _ _ _ _ rfl];simp[binOp,Op.intDiv,u];rename_i a b m i;obtain⟨h1,s⟩:=H;refine⟨_,s,λp=>?_⟩;have u:=h1.out p;intro h B d;simp only[execOp,r,m,i];rw[Zj _ _ _ _ _ rfl];have A:¬((a.size+b.size:Nat):Int)>IntKind.i64.max:=by
  unfold jq at u;have:IntKind.i64.max=9223372036854775807:=by decide
  omega
 simp only[binOp,Op.stringOp,za A];rfl;exact qn H g
theorem Pg{m:BinOp}{x y:Operand}(f:o.op=.binOp m t x y t'){K:Value->Prop}
  (H:tc m (ρ x) (ρ y) g K):∃v,K v/\(eQ g->∀h:zc,QExec P (execOp ρ o) h (.value v)):=by
 unfold tc at H;split at H;rename_i k a p b l i;split at H;obtain⟨h1,c⟩:=H;refine⟨_,c,λe h B d=>?_⟩;have n:=h1.out e;simp only[execOp,f,l,i];rw[Zj _ _ _ _ _ rfl];simp only[binOp,Op.shift,za (show¬b<0 by omega)];rfl;obtain⟨h1,c⟩:=H;refine⟨_,c,λe h B d=>?_⟩;have n:=h1.out e;simp only[execOp,f,l,i];rw[Zj _ _ _ _ _ rfl];simp only[binOp,Op.shift,za (show¬b<0 by omega)];rfl;exact H.elim;exact H.elim
theorem Ol{b:BinOp}{x y:Operand}(k:o.op=.binOp b t x y t'){K:Value->Prop}
  (i:oz P t y=Ta) (H:rB b (ρ x) (ρ y) g K):∃v,K v/\(eQ g->∀h:zc,QExec P (execOp ρ o) h (.value v)):=by
 have f:∃ms,P.underlying t=Tc (.interface ms)/\y=.const .nilIface:=by unfold oz at i;split at i;grind;cases i
 obtain⟨ms,f,rfl⟩:=f;have key:∀{u:Value} (h:zc),kC u=Ta->QExec P (zdl t u .nilIface) h (kF u):=by intro u h hi B d;have n:=QExec.underlying (h:=h) f B d;unfold zdl Op.maxDepth;cases u <;> first|(cases hi;done)|(unfold Op.equalIn;rw[Sem.run_bind,n];rfl)
 have m:∀b u (h:zc),kC u=Ta->QExec P (eqGuard b t x (.const .nilIface) u .nilIface) h ():=by intro b u h hi B d;unfold eqGuard;cases u <;> first|simp|simp
 have c:∀b u,kC u=Ta->(binOp b t u .nilIface=match b with | .eql=>(do pure (.bool (<-zdl t u .nilIface))) | .neq=>(do pure (.bool (!(<-zdl t u .nilIface))))|_=>binOp b t u .nilIface):=by intro b u hi;cases u <;> first|(cases hi;done)|(cases b <;> rfl)
 unfold rB at H;split at H;rename_i l;split at H;refine⟨_,H.2,λe h=>?_⟩;have hi:=H.1.out e;simp only[execOp,k,l];refine QExec.val ((m _ _ h hi).bind ?_);rw[c _ _ hi];exact(key h hi).bind (QExec.pure _);refine⟨_,H.2,λe h=>?_⟩;have hi:=H.1.out e;simp only[execOp,k,l];refine QExec.val ((m _ _ h hi).bind ?_);rw[c _ _ hi];exact(key h hi).bind (QExec.pure _);exact H.elim;exact H.elim
theorem uq{b:BinOp}{x y:Operand}(c:o.op=.binOp b t x y t'){K:Value->Prop}
  (H:bif Al b y then tc b (ρ x) (ρ y) g K else bif oz P t y then rB b (ρ x) (ρ y) g K else sO P t (execOp ρ o) b (ρ x) (ρ y) g K):∃v,K v/\(eQ g->∀h:zc,QExec P (execOp ρ o) h (.value v)):=by
 cases hb:Al b y with
 |true=>rw[hb]at H;exact Pg c H
 |false=>
  rw[hb]at H;cases hn:oz P t y with
  |true=>rw[hn]at H;exact Ol c hn H
  |false=>rw[hn]at H;exact Uk c H
theorem Ug{c:Call}(b:o.op=.call c)(i:c.callee=.builtin .len){K:Value->Prop}
  (H:vY P (execOp ρ o) o.type c.argTypes (c.args.map ρ) g h K):∃v,K v/\(eQ g->QExec P (execOp ρ o) h (.value v)):=by
 unfold vY at H;split at H;obtain⟨v,h1,e⟩:=Gn H;refine⟨v,h1,λf=>?_⟩;have:=e f;intro B d;simp only[execOp,b,resolve,i,Sem.run_bind,Sem.run_pure,Result.andThen_ok,invoke,builtin];rw[this B d];rfl;exact nG h (qn H g)
theorem AE{K:Value->Prop}(H:gi P o ρ g h K):∃v,K v/\(eQ g->QExec P (execOp ρ o) h (.value v)):=by
 unfold gi at H;split at H;rename_i t a b;obtain⟨v,h1,e⟩:=Cc H;refine⟨v,h1,λf=>?_⟩;simp only[execOp,b];exact(e f).val;rename_i t x i b;cases he:iX P t with
 |false=>simp_all
 |true=>rw[he]at H;obtain⟨v,h1,e⟩:=Z6 (Zx he) H;refine⟨v,h1,λf=>?_⟩;simp only[execOp,b];exact(e f h).val
 rename_i t x i b;cases he:pR P t with
 |false=>rw[he]at H;obtain⟨v,h1,e⟩:=HV H;refine⟨v,h1,λf=>?_⟩;simp only[execOp,b];exact(e f h).val
 |true=>rw[he]at H;obtain⟨v,h1,e⟩:=Cu (G5 he) H;refine⟨v,h1,λf=>?_⟩;simp only[execOp,b];exact(e f h).val
 rename_i t x lo hi mx b;cases he:iX P t with
 |false=>simp_all
 |true=>rw[he]at H;obtain⟨v,h1,e⟩:=Yx (Zx he) H;refine⟨v,h1,λf=>?_⟩;simp only[execOp,b];exact(e f h).val
 rename_i q t x y t' b;exact nG h (uq b H);rename_i t m k ok b;obtain⟨v,h1,e⟩:=Gn H;refine⟨v,h1,λf=>?_⟩;simp only[execOp,b];exact(e f).val;rename_i x b;unfold sZ at H;split at H;rename_i p n;obtain⟨a,h1,e⟩:=H;refine⟨_,e,λf=>?_⟩;have l:=h1.out f;subst l;intro B d;simp only[execOp,b,n];rfl;exact nG h (qn H g);rename_i c b;split at H;simp_all[Ug];exact nG h (qn H g);exact nG h (qn H g)
def jB(o:Oper):Bool:=match o.op with
 |.lookup .. => Tb
 |.call c=>match c.callee with
  |.builtin .len=>Tb
  |_=>Ta
 |_=>Ta
theorem VM{p:Addr}(H:ze h p=Tc v):p.block<h.size:=by unfold ze at H;grind
theorem Gy{h h':zc}(k:Keep h.size h h'){p:Addr}(H:ze h p=Tc v):ze h' p=Tc v:=by have:=VM H;unfold ze at H ⊢;rw[k.get _ this];exact H
theorem FK{h h':zc}(k:Keep h.size h h'){p:Addr}:∀{vs:List Value} {i:Nat},zd h p i vs->zd h' p i vs
 |[],_,_=>trivial
 |_::_,_,⟨h1,h2⟩=>⟨Gy k h1,FK k h2⟩
theorem rE{K:Value->Prop}(w:jB o=Ta)(H:gi P o ρ g h K):∃v,K v/\(eQ g->∀h',Keep h.size h h'->QExec P (execOp ρ o) h' (.value v)):=by
 unfold gi at H;split at H;rename_i t a e;unfold kX at H;split at H;rename_i q b r u;obtain⟨x,h1,f⟩:=H;refine⟨_,f,λn h' s=>?_⟩;simp only[execOp,e,r];exact(pC u (Gy s (h1.out n))).val;rename_i q l r u;obtain⟨vs,h0,⟨h1,f⟩,_⟩:=Ji H (xf l);refine⟨_,f,λn h' s=>?_⟩;simp only[execOp,e,r];exact(oW u h0 (FK s (h1.out n))).val;exact H.elim;rename_i t x i e;cases he:iX P t with
 |false=>simp_all
 |true=>rw[he]at H;obtain⟨v,h1,f⟩:=Z6 (Zx he) H;refine⟨v,h1,λn h' _=>?_⟩;simp only[execOp,e];exact(f n h').val
 rename_i t x i e;cases he:pR P t with
 |false=>rw[he]at H;obtain⟨v,h1,f⟩:=HV H;refine⟨v,h1,λn h' _=>?_⟩;simp only[execOp,e];exact(f n h').val
 |true=>rw[he]at H;obtain⟨v,h1,f⟩:=Cu (G5 he) H;refine⟨v,h1,λn h' _=>?_⟩;simp only[execOp,e];exact(f n h').val
 rename_i t x lo hi mx e;cases he:iX P t with
 |false=>simp_all
 |true=>rw[he]at H;obtain⟨v,h1,f⟩:=Yx (Zx he) H;refine⟨v,h1,λn h' _=>?_⟩;simp only[execOp,e];exact(f n h').val
 rename_i C t x y t' e;obtain⟨v,h1,f⟩:=uq e H;grind;rename_i t m k ok e;simp[jB,e]at w;rename_i x e;unfold sZ at H;split at H;rename_i p z;obtain⟨a,h1,f⟩:=H;refine⟨_,f,λn h' _=>?_⟩;have r:=h1.out n;subst r;intro B d;simp only[execOp,e,z];rfl;obtain⟨v,h1,f⟩:=qn H g;grind;rename_i c e;split at H;rename_i A;simp[jB,e,A]at w;obtain⟨v,h1,f⟩:=qn H g;grind;obtain⟨v,h1,f⟩:=qn H g;grind
def lw(P:Program){α:Type}:Sem α->zc->(α->zc->Prop)->Prop
 |.pure a,h,K=>K a h
 |.program k,h,K=>lw P (k P) h K
 |.mark _ k,h,K=>lw P k h K
 |.new o k,h,K=>lw P (k h.size) (h.push o) K
 |_,_,_=>False
theorem Ay{α:Type}{s:Sem α}{K:α->zc->Prop}(H:lw P s h K)(B:World)(d:Nat):∃x h',s.run P (mk B d h)=.ok x (mk B d h')/\K x h':=by
 induction s generalizing h with
 |pure a=>exact⟨a,h,rfl,H⟩
 |program k b=>exact b P H
 |mark m k b=>exact b H
 |new o k b=>obtain⟨x,h',h1,c⟩:=b h.size H;exact⟨x,h',h1,c⟩
 |_=>exact H.elim
def typed(P:Program)(ty:TypeId)(v:Value)(K:Value->Prop):Prop:=match mj P ty with
 |some rt=>jP rt λb=>v=b/\K b
 |none=>False
theorem Zk{K:Value->Prop}(H:typed P ty v K):K v:=by unfold typed at H;split at H;obtain⟨b,h1,c⟩:=nt H;grind;exact H.elim
def zx(P:Program)(f:FuncId):Bool:=match P.funcs[f]? with
 |some fn=>(match fn.body with
  |some _=>Ta
  | none => false) && !(fn.name == "runtime.NumGoroutine")
 |none=>Tb
theorem wY(h:zx P f=Ta)(args:Array Value)(w:World):(callFunc f args).run P w=.ok (.enter f args) w:=by unfold zx at h;split at h;rename_i fn b;simp only[ZE,zcg]at h;obtain⟨h1,c⟩:=h;unfold callFunc;simp only[program,Sem.run_bind,Sem.run,Result.andThen_ok,b];split at h1;simp_all;cases h1;cases h
def mq(P:Program)(v:Value)(args:Array Value)(K:FuncId->Array Value->Prop):Prop:=match v with
 |.func (.func f) first cap=>zx P f=Ta/\K f (first++args++cap)
 |_=>False
theorem HR{c:Call}{x:Operand}(b:o.op=.call c)(i:c.callee=.value x){K:FuncId->Array Value->Prop}(H:mq P (ρ x) (c.args.map ρ) K):
  ∃f args,K f args/\∀w,(execOp ρ o).run P w=.ok (.enter f args) w:=by
 unfold mq at H;split at H;rename_i f first cap e
 obtain⟨h1,h⟩:=H;refine⟨_,_,h,λw=>?_⟩;simp only[execOp,b,resolve,i,e,zcw,Sem.run_bind,Sem.run_pure,Result.andThen_ok,invoke];exact wY h1 _ w;exact H.elim
def oq:Operand->Bool
 |.func _=>Ta
 |_=>Tb
def VN(P:Program)(f:FuncId):Bool:=match P.funcs[f]? with
 |some fn=>(match fn.body with
  |some _=>Tb
  |none=>Ta)
 |none=>Tb
def IF(P:Program)(f:FuncId)(args:Array Value)(h:zc)(K:Value->zc->Prop):Prop:=∀B d,∃v b h',(callFunc f args).run P (mk B d h)=.ok (.value v) (mk B b h')/\K v h'
def Gk(P:Program):Operand->Bool
 |.func f=>VN P f
 |_=>Tb
def ul(P:Program)(v:Value)(args:Array Value)(h:zc)(K:Value->zc->Prop):Prop:=match v with
 |.func (.func f) first cap=>IF P f (first++args++cap) h K
 |_=>False
theorem Ln{c:Call}{x:Operand}(e:o.op=.call c)(l:c.callee=.value x)(H:ul P (ρ x) (c.args.map ρ) h K)(B:World)(d:Nat):
  ∃v b h',(execOp ρ o).run P (mk B d h)=.ok (.value v) (mk B b h')/\K v h':=by
 unfold ul at H;split at H;rename_i f first cap i
 obtain⟨v,b,h',h1,k⟩:=H B d;refine⟨v,b,h',?_,k⟩;simp only[execOp,e,resolve,l,i,zcw,Sem.run_bind,Sem.run_pure,Result.andThen_ok,invoke];exact h1;exact H.elim
def D8(P:Program)(t:TypeId):Bool:=match P.underlying t with
 |some (.map _ _)=>Ta
 |_=>Tb
def sX(P:Program)(o:Oper)(ρ:Operand->Value)(h:zc)(K:Value->zc->Prop):Prop:=
 match o.op with
 |.store t a x=>XRunU P (YN t (ρ a) (ρ x)) h λh'=>K undef h'
 |.mapUpdate t m k x=>XRunU P (zbz t (ρ m) (ρ k) (ρ x)) h λh'=>K undef h'
 |.insert t m k x=>XRunU P (zbz t (ρ m) (ρ k) (ρ x)) h λh'=>K undef h'
 |.entryStore t m s x=>XRunU P (Instr.entryStore t (ρ m) (ρ s) (ρ x)) h λh'=>K undef h'
 |.mapEntry t m k=>xd P (Instr.mapEntry t (ρ m) (ρ k)) h λv h'=>typed P o.type v λe=>K e h'
 |.makeSlice t l c=>xd P (Instr.makeSlice t (ρ l) (ρ c)) h λv h'=>typed P o.type v λe=>K e h'
 |.convert s t x=>xd P (convert s t (ρ x)) h λv h'=>typed P o.type v λe=>K e h'
 |.typeAssert x t t' ok=>xd P (Instr.typeAssert (ρ x) t t' ok) h λv h'=>typed P o.type v λe=>K e h'
 |.range t x=>bif D8 P t then xd P (zdd t (ρ x)) h λv h'=>∃q:Option Addr,v=.pointer q/\K (.pointer q) h' else lw P (execOp ρ o) h λn h'=>match n with
   |.value v=>K v h'
   |.skip=>K undef h'
   |_=>False
 |.next x s=>bif s then xd P (zc9 (ρ x) s o.type) h λv h'=>(v=.tuple #[.bool Tb]/\K (.tuple #[.bool Tb]) h')\/∃k u:Int,v=.tuple #[.bool Ta,.int .i64 k,.int .i32 u]/\K (.tuple #[.bool Ta,.int .i64 k,.int .i32 u]) h'
  else xd P (zc9 (ρ x) s o.type) h λv h'=>(v=.tuple #[.bool Tb]/\K (.tuple #[.bool Tb]) h')\/∃k u:Value,v=.tuple #[.bool Ta,k,u]/\K (.tuple #[.bool Ta,k,u]) h'
 |.entry x=>xd P (zde (ρ x)) h λv h'=>∃k u:Value,v=.tuple #[k,u]/\K (.tuple #[k,u]) h'
 |.call c=>match c.callee with
  |.builtin b=>match DG b c.argTypes o.type (c.args.map ρ)with
   |some s=>xd P s h λv h'=>typed P o.type v λe=>K e h'
   |none=>False
  |.value x=>bif Gk P x then ul P (ρ x) (c.args.map ρ) h (λv h'=>typed P o.type v λe=>K e h')else bif oq x then(lw P (execOp ρ o) h λn h'=>match n with
   |.enter f args=>XC P f args h' λv i=>typed P o.type v λe=>K e i
   |.value v=>K v h'
   |_=>False)else mq P (ρ x) (c.args.map ρ) λf args=>XC P f args h λv i=>typed P o.type v λe=>K e i
  |_=>False
 |_=>lw P (execOp ρ o) h λn h'=>match n with
   |.value v=>K v h'
   |.skip=>K undef h'
   |_=>False
def XH:Builtin->Bool
 |.append | .copy | .clear | .delete=>Ta
 |_=>Tb
def IW(P:Program)(s t:TypeId):Bool:=match P.underlying s,P.underlying t with
 |some (.int _),Tc (.int _)=>Ta
 |some .string,Tc .string=>Ta
 |_,_=>Tb
def iT(P:Program)(o:Oper):Bool:=
 match o.op with
 |.load _ _ | .indexAddr _ _ _ | .index _ _ _ | .slice _ _ _ _ _ | .binOp _ _ _ _ _ | .lookup _ _ _ _ | .nilCheck _=>Ta
 |.move _ | .assign _ | .unOp _ _ _ | .build _ _ | .makeFunc _ _ _ | .makeInterface _ _ | .extract _ _ | .field _ _ _ | .fieldAddr _ _ _=>Ta
 |.convert s t _=>IW P s t
 |.call c=>match c.callee with
  |.builtin b=>!XH b
  |_=>Tb
 |_=>Tb
def Ah(P:Program)(o:Oper)(ρ:Operand->Value)(b:Bool)(h:zc)(K:Value->zc->Prop):Prop:=
 match mj P o.type with
 |some rt=>∃J:Value->zc->Prop,(b=Ta->sX P o ρ h J)/\(b=Tb->jP rt λv=>J v h)/\(b=Ta->∀v h',J v h'->jP rt λc=>v=c)/\Cq rt λv=>∀h',J v h'->K v h'
 |none=>False
def stepW(P:Program)(o:Oper)(ρ:Operand->Value)(g:Option Bool)(h:zc)(K:Value->zc->Prop):Prop:=
 bif iT P o then gi P o ρ g h (λv=>K v h)else match g with
  |none=>sX P o ρ h K
  |some b=>Ah P o ρ b h K
theorem upon_value{next:Act->World->Prop}{Q:Exit->Act->World->Prop}{s:Sem Next}(h:s.run P w=.ok (.value v) w')(b:next (a.put o.dst v) w'): o.upon P a next Q (s.run P w):=by rw[h];exact b
theorem upon_skip{next:Act->World->Prop}{Q:Exit->Act->World->Prop}{s:Sem Next}(h:s.run P w=.ok .skip w')(b:next (a.put o.dst undef) w'): o.upon P a next Q (s.run P w):=by rw[h];exact b
theorem Jj{s:Sem Value}(h:s.run P w=.ok v w'):(s >>= λx=>(zcf (zck x):Sem Next)).run P w=.ok (.value v) w':=by simp_all
theorem mQ{s:Sem Unit}(h:s.run P w=.ok () w'):(s >>= λ_=>(zcf Next.skip:Sem Next)).run P w=.ok .skip w':=by simp_all
theorem BI(H:sX P o ρ h K)(B:World)(d:Nat){next:Act->World->Prop}{Q:Exit->Act->World->Prop}
  (n:∀v i h',K v h'->next (a.put o.dst v) (mk B i h')):o.upon P a next Q ((execOp ρ o).run P (mk B d h)):=by
 unfold sX at H;split at H;case h_1 t x y ho=>obtain⟨i,h',h1,e⟩:=H B d;exact upon_skip (by simp only[execOp,ho];exact mQ h1) (n _ _ _ e)
 case h_2 t m k x ho=>obtain⟨i,h',h1,e⟩:=H B d;exact upon_skip (by simp only[execOp,ho];exact mQ h1) (n _ _ _ e)
 case h_3 t m k x ho=>obtain⟨i,h',h1,e⟩:=H B d;exact upon_skip (by simp only[execOp,ho];exact mQ h1) (n _ _ _ e)
 case h_4 t m s x ho=>obtain⟨i,h',h1,e⟩:=H B d;exact upon_skip (by simp only[execOp,ho];exact mQ h1) (n _ _ _ e)
 case h_5 t m k ho=>obtain⟨v,i,h',h1,e⟩:=H B d;exact upon_value (by simp only[execOp,ho];exact Jj h1) (n _ _ _ (Zk e))
 case h_6 t l c ho=>obtain⟨v,i,h',h1,e⟩:=H B d;exact upon_value (by simp only[execOp,ho];exact Jj h1) (n _ _ _ (Zk e))
 case h_7 s t x ho=>obtain⟨v,i,h',h1,e⟩:=H B d;exact upon_value (by simp only[execOp,ho];exact Jj h1) (n _ _ _ (Zk e))
 case h_8 x t t' ok ho=>obtain⟨v,i,h',h1,e⟩:=H B d;exact upon_value (by simp only[execOp,ho];exact Jj h1) (n _ _ _ (Zk e))
 case h_9 t x ho=>
  cases hm:D8 P t with
  |true=>rw[hm]at H;obtain⟨v,i,h',h1,q,rfl,e⟩:=H B d;exact upon_value (by simp only[execOp,ho];exact Jj h1) (n _ _ _ e)
  |false=>rw[hm]at H;obtain⟨r,h',h1,e⟩:=Ay H B d;grind [upon_value,upon_skip]
 case h_10 x s ho=>
  cases s with
  |true=>simp only[zF]at H;obtain⟨v,i,h',h1,e⟩:=H B d;refine upon_value (v:=v) (w':=mk B i h') (by simp only[execOp,ho];exact Jj h1) (n _ _ _ ?_);grind
  |false=>simp only[zG]at H;obtain⟨v,i,h',h1,e⟩:=H B d;refine upon_value (v:=v) (w':=mk B i h') (by simp only[execOp,ho];exact Jj h1) (n _ _ _ ?_);grind
 case h_11 x ho=>obtain⟨v,i,h',h1,k,u,rfl,e⟩:=H B d;exact upon_value (by simp only[execOp,ho];exact Jj h1) (n _ _ _ e)
 case h_12 c ho=>
  split at H;rename_i b z;split at H;rename_i s p;obtain⟨v,i,h',h1,e⟩:=H B d;refine upon_value (w':=mk B i h') ?_ (n _ _ _ (Zk e));have key:execOp ρ o=s >>= λx=>(zcf (zck x):Sem Next):=by
   simp only[execOp,ho,resolve,z];unfold DG at p;split at p <;> first
    |(simp only[YL]at p;subst p;rfl)
    |cases p
  simp_all;exact H.elim
  ·rename_i x w;cases hex:Gk P x with
   |true=>rw[hex]at H;obtain⟨v,i,h',h1,e⟩:=Ln ho w H B d;exact upon_value h1 (n _ _ _ (Zk e))
   |false=>
   rw[hex]at H;simp only[zG]at H;cases hst:oq x with
   |true=>
    rw[hst]at H;obtain⟨r,h',h1,e⟩:=Ay H B d;cases r with
    |enter f args=>rw[h1];refine(e B d).mono ?_;grind [Zk]
    |value v=>exact upon_value h1 (n _ _ _ e)
    |_=>exact e.elim
   |false=>rw[hst]at H;simp only[zG]at H;obtain⟨f,args,h1,e⟩:=HR ho w H;rw[e];refine(h1 B d).mono ?_;grind [Zk]
  exact H.elim
 case h_13=>obtain⟨r,h',h1,e⟩:=Ay H B d;grind [upon_value,upon_skip]
theorem Su(H:stepW P o ρ g h K)(c:eQ g)(B:World)(d:Nat){next:Act->World->Prop}{Q:Exit->Act->World->Prop}
  (e:∀v i h',K v h'->next (a.put o.dst v) (mk B i h')):o.upon P a next Q ((execOp ρ o).run P (mk B d h)):=by
 unfold stepW at H;cases hq:iT P o with
 |true=>rw[hq]at H;obtain⟨v,h1,f⟩:=AE H;exact upon_value (f c B d) (e _ _ _ h1)
 |false=>
  rw[hq]at H;cases g with
  |none=>exact BI H B d e
  |some b=>have k:b=Ta:=c;subst k;simp only[zG]at H;unfold Ah at H;grind [BI,Du]
theorem MW(H:stepW P o ρ (Tc Tb) h K):∃v,K v h:=by
 unfold stepW at H;cases hq:iT P o with
 |true=>grind [AE]
 |false=>rw[hq]at H;simp only[zG]at H;unfold Ah at H;grind [Du]
end
section
variable {n:Nat} {e:aR} {a b:Act} {c:qc} {g:Option Bool} {P:Program} {o:Oper} {h:zc} {K:Value -> zc -> Prop} {ms:List Nat}
def Q7(e:aR):qc->Option (Option Bool)
 |[]=>Tc Td
 |c=>match oM e c with
  |some b=>Tc (Tc b)
  |none=>Td
theorem Q8(i:Sat n e a)(h:Q7 e c=Tc g)(k:valid (qe a) c):eQ g:=by unfold Q7 at h;split at h;simp only[YL]at h;subst h;trivial;split at h;rename_i b f;simp only[YL]at h;subst h;exact(uU i f).2 k;cases h
theorem Io(k:Sat n e a)(h:Q7 e c=Tc g)(f:¬valid (qe a) c):g=Tc Tb:=by
 unfold Q7 at h;split at h;exact absurd trivial f;split at h;rename_i b i;simp only[YL]at h;subst h;cases b with
 |false=>rfl
 |true=>exact absurd ((uU k i).1 rfl) f
 cases h
def nN(b:Bool):Value->Value->Value
 |.bool x,.bool y=>.bool (bif b then x else y)
 |x,y=>bif b then x else y
theorem GI(b:Bool)(x y:Value):nN b x y=if b=Ta then x else y:=by unfold nN;grind
def tK:Option Value->Option Value->Option Value
 |some v,_=>Tc v
 |none,w=>w
def p7(e:aR)(c:qc)(x a b:Operand)(K:Value->Prop):Prop:=
 match x with
 |.tmp s=>match look e s with
  |some (cs,.bool t)=>bif iH cs c then(match tK (X0 e c a) (X0 e ((s,Ta)::cs) a),tK (X0 e c b) (X0 e ((s,Tb)::cs) b)with
    |some va,some vb=>K (nN t va vb)
    |_,_=>False)else False
  |_=>False
 |_=>False
theorem zZ{f:Act}(i:Sat n e f){x a b:Operand}{K:Value->Prop}(H:p7 e c x a b K):
  ∃v,K v/\(valid (qe f) c->∃t,f.eval x=.bool t/\(if t=Ta then f.eval a else f.eval b)=v):=by
 unfold p7 at H;split at H;rename_i s;split at H;rename_i cs t m;cases hsf:iH cs c with
 |false=>simp_all
 |true=>
  rw[hsf]at H;simp only[zF]at H;split at H;rename_i q r l k;refine⟨_,H,λp=>⟨t,?_,?_⟩⟩;exact(i.all _ (mr m)).1 (Jh hsf p);have h:=Jh hsf p;have o:qe f s=.bool t:=(i.all _ (mr m)).1 h;rw[GI];cases t with
  |true=>simp only[if_true];unfold tK at l;split at l;grind [YL,yc];exact yc i (c:=(s,Ta)::cs) ⟨o,h⟩ l
  |false=>simp only[zaz,if_false];unfold tK at k;split at k;grind [YL,yc];exact yc i (c:=(s,Tb)::cs) ⟨o,h⟩ k
  exact H.elim
 exact H.elim;exact H.elim
def kd(P:Program)(o:Oper)(e:aR)(c:qc)(h:zc)(K:Value->zc->Prop):Prop:=
 match o.op with
 |.pick x a b=>p7 e c x a b λv=>K v h
 |_=>bif Y8 o.op then(bif known e c o.op.operands.toList then(match Q7 e c with
   |some g=>stepW P o (gB e c) g h K
   |none=>False)else False)else False
def wR(P:Program)(n:Nat)(ops:Array Oper)(K:aR->zc->Prop):List Oper->aR->zc->Prop
 |[],e,h=>K (clean e) h
 |o::rest,e,h=>match Zi ops e o.guard with
  |some c=>bif wh n c o.dst then kd P o e c h λv h'=>wR P n ops K rest (putO e o.dst c v) h' else False
  |none=>False
theorem F3(H:kd P o e c h K)(l:Sat n e a)(p:valid (qe a) c)(B:World)(d:Nat)
  {next:Act->World->Prop} {Q:Exit->Act->World->Prop} (m:∀v i h',K v h'->next (a.put o.dst v) (mk B i h')):o.wp P a (mk B d h) next Q:=by
 unfold kd at H;unfold Oper.wp;split at H;rename_i x y z b;obtain⟨v,h1,f⟩:=zZ l H;obtain⟨t,k,q⟩:=f p;refine upon_value (w':=mk B d h) (v:=v) ?_ (m _ _ _ h1);simp only[execOp,b,k,asBool,Sem.run_bind,Sem.run_pure,Result.andThen_ok];rw[q];cases hns:Y8 o.op with
 |false=>simp_all
 |true=>
  rw[hns]at H;cases hk:known e c o.op.operands.toList with
  |false=>simp_all
  |true=>rw[hk]at H;simp only[zF]at H;grind [sw,Su,Q8]
theorem EO(H:kd P o e c h K)(f:Sat n e a)(b:¬valid (qe a) c):∃v,K v h:=by
 unfold kd at H;split at H;grind [zZ];cases hns:Y8 o.op with
 |false=>simp_all
 |true=>
  rw[hns]at H;cases hk:known e c o.op.operands.toList with
  |false=>simp_all
  |true=>rw[hk]at H;simp only[zF]at H;grind [Io,MW]
def j8:List Oper->List Nat
 |[]=>[]
 |o::l=>match o.dst with
  |some d=>d::j8 l
  |none=>j8 l
def Same(ms:List Nat)(a b:Act):Prop:=∀i,i∉ms->qe b i=qe a i
theorem Same.refl(ms:List Nat)(a:Act):Same ms a a:=λ_ _=>rfl
theorem Same.trans{a b c:Act}(h:Same ms a b)(k:Same ms b c):Same ms a c:=λi hi=>(k i hi).trans (h i hi)
theorem Same.mono{ms c:List Nat}(h:Same ms a b)(f:∀x∈ms,x∈c):Same c a b:=λi hi=>h i λe=>hi (f i e)
theorem Same.put(a:Act)(d:Option Nat)(v:Value)(h:∀i,d=Tc i->i∈ms):Same ms a (a.put d v):=by
 intro i hi;cases d with
 |none=>rfl
 |some j=>grind [qt]
theorem oF{P:Program}{n:Nat}{ops:Array Oper}{K:aR->zc->Prop}{Q:Exit->Act->World->Prop}(B:World):
  ∀(l:List Oper) (e:aR) (h:zc) (a:Act) (d:Nat),wR P n ops K l e h->Sat n e a->(∀e' a' k h',Sat n e' a'->Same (j8 l) a a'->K e' h'->Q .normal a' (mk B k h'))->wpList P ops Q l a (mk B d h)
 |[],e,h,a,d,H,hs,hQ=>hQ _ _ _ _ hs.clean (Same.refl _ _) H
 |o::rest,e,h,a,d,H,hs,hQ=>by
  unfold wR at H;split at H;rename_i c C;cases hd:wh n c o.dst with
  |false=>simp_all
  |true=>
   rw[hd]at H;simp only[zF]at H;have q:=Z5 hs C;have f:∀i,o.dst=Tc i->i∈j8 (o::rest):=λi hi=>by simp[j8,hi]
   have b:∀x∈j8 rest,x∈j8 (o::rest):=λx r=>by unfold j8;grind
   have t:∀v u k h',(valid (qe a) c->u=v)->(¬valid (qe a) c->u=undef)->wR P n ops K rest (putO e o.dst c v) h'->wpList P ops Q rest (a.put o.dst u) (mk B k h'):=λv u k h' h1 w A=>
    oF B rest _ _ _ _ A (hs.putO hd h1 w) λe' a' p m y D z=>hQ e' a' p m y ((Same.put a o.dst u f).trans (D.mono b)) z
   unfold wpList;by_cases s:valid (qe a) c;rw[zb (q.2 s)];grind [F3];rw[za (λr=>s (q.1 r))];grind [EO]
  exact H.elim
def uQ(P:Program)(o:Oper)(ρ:Operand->Value)(g:Option Bool)(h:zc)(K:Value->Prop):Prop:=
 match o.op with
 |.call c=>match c.callee with
  |.value x=>bif oq x then(match Yw P (execOp ρ o)with
    |some (.enter f args)=>match mj P o.type with
     |some rt=>jP rt λv=>req g (XC P f args h λb h'=>b=v/\h'=h)/\K v
     |none=>False
    |_=>False)else(match mj P o.type with
     |some rt=>jP rt λv=>req g (mq P (ρ x) (c.args.map ρ) λf args=>XC P f args h λb h'=>b=v/\h'=h)/\K v
     |none=>False)
  |_=>False
 |_=>False
theorem JP{ρ:Operand->Value}{K:Value->Prop}(H:uQ P o ρ g h K):
  ∃v,K v/\(eQ g->∃f args,(∀w,(execOp ρ o).run P w=.ok (.enter f args) w)/\XC P f args h λk h'=>k=v/\h'=h):=by
 unfold uQ at H;split at H;rename_i c i;split at H;rename_i x l;cases hst:oq x with
 |true=>rw[hst]at H;simp only[zF]at H;split at H;rename_i f args m;split at H;obtain⟨v,h1,b⟩:=nt H;exact⟨v,b,λe=>⟨f,args,λw=>qf m w,h1.out e⟩⟩;exact H.elim;exact H.elim
 |false=>rw[hst]at H;simp only[zG]at H;split at H;obtain⟨v,h1,b⟩:=nt H;refine⟨v,b,λe=>?_⟩;obtain⟨f,args,n,p⟩:=HR i l (h1.out e);grind;exact H.elim
 exact H.elim;exact H.elim
def oB(o:Oper):Bool:=match o.op with
 |.call c=>match c.callee with
  |.builtin _=>Tb
  |_=>Ta
 |_=>Tb
def yZ(P:Program)(o:Oper)(e:aR)(c:qc)(h:zc)(f:Bool)(K:Value->Prop):Prop:=
 match o.op with
 |.pick x a b=>p7 e c x a b K
 |_=>bif Y8 o.op then(bif known e c o.op.operands.toList then(match Q7 e c with
   |some g=>bif oB o then(bif f then uQ P o (gB e c) g h K else False)else gi P o (gB e c) g h K
   |none=>False)else False)else False
def wQ(P:Program)(n:Nat)(ops:Array Oper)(h:zc)(b:Bool)(K:aR->Prop):List Oper->aR->Prop
 |[],e=>K e
 |o::rest,e=>match Zi ops e o.guard with
  |some c=>bif wh n c o.dst then yZ P o e c h b λv=>wQ P n ops h b K rest (putO e o.dst c v)else False
  |none=>False
def YQ(P:Program)(o:Oper)(a:Act)(B:World)(h:zc)(b:Bool)(v:Value):Prop:=
 (∀d,(execOp a.eval o).run P (mk B d h)=.ok (.value v) (mk B d h)) \/
 (b=Ta/\∃f args,(∀d,(execOp a.eval o).run P (mk B d h)=.ok (.enter f args) (mk B d h))/\XC P f args h λc h'=>c=v/\h'=h)
theorem Tf{b:Bool}{K:Value->Prop}(H:yZ P o e c h b K)(l:Sat n e a)(B:World):
  ∃v,K v/\(valid (qe a) c->YQ P o a B h b v):=by
 unfold yZ at H;split at H;rename_i x y z r;obtain⟨v,h1,k⟩:=zZ l H;refine⟨v,h1,λi=>?_⟩;obtain⟨t,p,m⟩:=k i;refine .inl λd=>?_;simp only[execOp,r,p,asBool,Sem.run_bind,Sem.run_pure,Result.andThen_ok];rw[m];cases hns:Y8 o.op with
 |false=>simp_all
 |true=>
  rw[hns]at H;cases hk:known e c o.op.operands.toList with
  |false=>simp_all
  |true=>
   rw[hk]at H;simp only[zF]at H;split at H;rename_i g q;cases hc:oB o with
   |false=>rw[hc]at H;obtain⟨v,h1,k⟩:=AE H;refine⟨v,h1,λi=>.inl λd=>?_⟩;rw[sw l i hns hk];exact k (Q8 l q i) B d
   |true=>
    rw[hc]at H;cases b with
    |false=>exact H.elim
    |true=>simp only[zF]at H;obtain⟨v,h1,k⟩:=JP H;refine⟨v,h1,λi=>?_⟩;obtain⟨f,args,p,m⟩:=k (Q8 l q i);refine .inr ⟨rfl,f,args,λd=>?_,m⟩;grind [sw]
   exact H.elim
theorem BZ{P:Program}{n:Nat}{ops:Array Oper}{h:zc}{k:Bool}{K:aR->Prop}{Q:Act->Prop}(B:World):
  ∀(l:List Oper) (e:aR) (a:Act),wQ P n ops h k K l e->Sat n e a->(∀e' a',Sat n e' a'->Same (j8 l) a a'->K e'->Q a')->wpQuiet P ops (λw=>∃d,w=mk B d h) Q l a
 |[],e,a,H,hs,hQ=>hQ _ _ hs (Same.refl _ _) H
 |o::rest,e,a,H,hs,hQ=>by
  unfold wQ at H;split at H;rename_i c D;cases hd:wh n c o.dst with
  |false=>simp_all
  |true=>
   rw[hd]at H;simp only[zF]at H;have A:=Z5 hs D;have m:∀i,o.dst=Tc i->i∈j8 (o::rest):=λi hi=>by simp[j8,hi]
   have b:∀x∈j8 rest,x∈j8 (o::rest):=λx F=>by unfold j8;grind
   obtain⟨v,y,C⟩:=Tf H hs B;have p:∀u,(valid (qe a) c->u=v)->(¬valid (qe a) c->u=undef)->wpQuiet P ops (λw=>∃d,w=mk B d h) Q rest (a.put o.dst u):=λu h1 q=>
    BZ B rest _ _ y (hs.putO hd h1 q) λe' a' t E z=>hQ e' a' t ((Same.put a o.dst u m).trans (E.mono b)) z
   unfold wpQuiet;by_cases s:valid (qe a) c;rw[zb (A.2 s)];refine⟨v,?_,p v (λ_=>rfl) (λr=>absurd s r)⟩;rintro w ⟨d,rfl⟩;unfold Oper.quietAt;rcases C s with h1|⟨_,f,args,h1,q⟩;rw[h1 d];exact⟨rfl,rfl⟩;rw[h1 d];refine⟨rfl,(q B d).mono ?_⟩;simp;simp_all
  exact H.elim
end
section
variable {i:Nat} {a b:Act} {o:Oper} {h h':zc} {ρ:Operand -> Value} {P:Program} {g:Option Bool} {ops:Array Oper} {listed:Array Bool}
def memN:List Nat->Nat->Bool
 |[],_=>Tb
 |j::l,i=>bif Nat.beq i j then Ta else memN l i
theorem Q2{l:List Nat}(h:memN l i=Tb):i∉l:=by
 induction l with
 |nil=>simp
 |cons j l c=>simp only[memN]at h;by_cases b:Nat.beq i j=Ta;grind;simp_all
def tmpsOf:List Operand->List Nat
 |[]=>[]
 |.tmp t::l=>t::tmpsOf l
 |_::l=>tmpsOf l
def Zy(ops:Array Oper)(o:Oper):List Nat:=(match o.guard with
 |some (j,_)=>match yz ops j with
  |some g=>[g]
  |none=>[]
 |none=>[])++tmpsOf o.op.operands.toList
def Q9(ops:Array Oper)(k:Nat)(S:List Nat):Nat->Bool
 |0=>Ta
 |p+1=>bif (match yz ops p with
  |some t=>bif memN S t then Region.waitsFor .any ops k p else Ta
  |none=>Ta)then Q9 ops k S p else Tb
theorem Za{ops:Array Oper}{k:Nat}{S:List Nat}:∀{m:Nat},Q9 ops k S m=Ta->∀p t,p<m->yz ops p=Tc t->t∈S->Region.waitsFor .any ops k p=Ta
 |0,_,p,t,hp,_,_=>by omega
 |m+1,h,p,t,hp,hd,ht=>by
  simp only[Q9]at h;cases hb:(match yz ops m with
   |some t=>bif memN S t then Region.waitsFor .any ops k m else Ta
   |none=>Ta)with
  |false=>simp_all
  |true=>rw[hb]at h;rcases zad p m with h1|h1;exact Za h p t h1 hd ht;grind [Q2]
def y9(ops:Array Oper):Nat->Bool
 |0=>Ta
 |j+1=>bif (match ops[j]? with
  |some o=>o.after.toList.all λe=>!(zdi .any e)||Nat.blt e.on j
  |none=>Ta)then y9 ops j else Tb
theorem qk{ops:Array Oper}:∀{n:Nat},y9 ops n=Ta->∀j o,j<n->ops[j]?=Tc o->∀e∈o.after,zdi .any e=Ta->e.on<j
 |0,_,j,_,hj,_,_,_,_=>by omega
 |n+1,h,j,o,hj,ho,e,he,hb=>by
  simp only[y9]at h;cases hc:(match ops[n]? with
   |some o=>o.after.toList.all λe=>!(zdi .any e)||Nat.blt e.on n
   |none=>Ta)with
  |false=>simp_all
  |true=>
   rw[hc]at h;rcases zad j n with h1|h1;exact qk h j o h1 ho e he hb;have:j=n:=by omega
   subst this;rw[ho]at hc;have:=ZJ.1 hc e (by simpa using he);simp_all
def oT(ops:Array Oper)(d:Nat):Nat->Bool
 |0=>Tb
 |p+1=>bif (match yz ops p with
  |some t=>Nat.beq t d
  |none=>Tb)then Ta else oT ops d p
def Jk(ops:Array Oper):Nat->Bool
 |0=>Ta
 |p+1=>bif (match yz ops p with
  |some t=>!(oT ops t p)
  |none=>Ta)then Jk ops p else Tb
theorem AD{ops:Array Oper}{d:Nat}:∀{m:Nat},oT ops d m=Tb->∀p,p<m->yz ops p≠Tc d
 |0,_,p,hp=>by omega
 |m+1,h,p,hp=>by
  simp only[oT]at h;cases hb:(match yz ops m with
   |some t=>Nat.beq t d
   |none=>Tb)with
  |true=>simp_all
  |false=>
   rw[hb]at h;rcases zad p m with h1|h1;exact AD h p h1;have:p=m:=by omega
   subst this;intro e;simp_all
theorem jw{ops:Array Oper}:∀{m:Nat},Jk ops m=Ta->∀p q t,p<m->q<m->yz ops p=Tc t->yz ops q=Tc t->p=q
 |0,_,p,q,t,hp,_,_,_=>by omega
 |m+1,h,p,q,t,hp,hq,e1,e2=>by
  simp only[Jk]at h;cases hb:(match yz ops m with
   |some t=>!(oT ops t m)
   |none=>Ta)with
  |false=>simp_all
  |true=>rw[hb]at h;rcases zad p m with h1|h1 <;> rcases zad q m with h2|h2;exact jw h p q t h1 h2 e1 e2;grind [zcg,AD];grind [zcg,AD];omega
def lG(o:Oper):Option Bool:=match o.op with
 |.fieldAddr _ _ _=>Tc Ta
 |.indexAddr _ _ _=>Tc Ta
 |.move _=>Tc Ta
 |.assign _=>match o.after.toList with
  |[]=>Tc Ta
  |_=>Td
 |.nilCheck _=>Tc Ta
 |.slice _ _ _ _ _=>Tc Ta
 |.binOp _ _ _ _ _=>Tc Ta
 |.load _ _=>Tc Tb
 |_=>Td
def oa(o:Oper):Bool:=match lG o with
 |some _=>Ta
 |none=>Tb
def jj(o:Oper):Bool:=match lG o with
 |some b=>!b
 |none=>Tb
theorem sK{a b:Act}:∀{l:List Operand},(∀t∈tmpsOf l,qe a t=qe b t)->∀x∈l,a.eval x=b.eval x
 |[],_,x,c=>by cases c
 |y::l,h,x,c=>by
  rcases YS.1 c with rfl|c;cases x with
  |tmp t=>exact h t (by simp[tmpsOf])
  |const v=>rfl
  |global g=>rfl
  |func f=>rfl
  refine sK (l:=l) (λt e=>h t ?_) x c;cases y <;> simp[tmpsOf,e]
theorem vm(c:Y8 o.op=Ta)(h:∀t∈tmpsOf o.op.operands.toList,qe a t=qe b t):execOp a.eval o=execOp b.eval o:= execOp_congr o (λcs b e=>by rw[e]at c;cases c) λx f=>sK h x (by simpa using f)
theorem VO{p:Addr}(e:h'[p.block]?=h[p.block]?)(i:Nat):ze h' (p.add i)=ze h (p.add i):=by
 have b:(p.add i).block=p.block:=by unfold YK;split <;> rfl
 unfold ze;rw[b,e]
theorem E6{h h':zc}{p:Addr}(e:h'[p.block]?=h[p.block]?):∀{vs:List Value} {i:Nat},zd h p i vs->zd h' p i vs
 |[],_,_=>trivial
 |v::vs,i,⟨h1,h2⟩=>⟨(VO e i).trans h1,E6 e h2⟩
def LdOK(o:Oper)(ρ:Operand->Value)(h h':zc):Prop:=jj o=Tb\/Keep h.size h h'\/∀t a p,o.op=.load t a->ρ a=.pointer (Tc p)->h'[p.block]?=h[p.block]?
theorem LdOK.congr{ρ c:Operand->Value}(e:∀x∈o.op.operands.toList,c x=ρ x)(H:LdOK o ρ h h'):LdOK o c h h':=by rcases H with H|H|H;exact .inl H;exact .inr (.inl H);refine .inr (.inr λt a p b f=>H t a p b ?_);rw[<-e a (by rw[b];simp[Op.operands])];exact f
theorem Nc{t:TypeId}{x:Value}{K:Value->Prop}(H:kX P h t x g K):∃v p,x=.pointer (Tc p)/\K v/\(eQ g->QExec P (zcl t x) h v/\∀h',h'[p.block]?=h[p.block]?->QExec P (zcl t x) h' v):=by unfold kX at H;split at H;rename_i q a b;obtain⟨x,h1,f⟩:=H;refine⟨_,q,rfl,f,λc=>?_⟩;have h1:ze h q=Tc _:=h1.out c;refine⟨pC b h1,λh' e=>pC b ?_⟩;unfold ze at h1 ⊢;rw[e];exact h1;rename_i q l b;obtain⟨vs,h0,⟨h1,f⟩,_⟩:=Ji H (xf l);exact⟨_,q,rfl,f,λc=>⟨oW b h0 (h1.out c),λh' e=>oW b h0 (E6 e (h1.out c))⟩⟩;exact H.elim
theorem R8(q:oa o=Ta){K:Value->Prop}(H:gi P o ρ g h K):
  ∃v,K v/\(eQ g->∀h',LdOK o ρ h h'->QExec P (execOp ρ o) h' (.value v)):=by
 cases ho:o.op with
 |load t x=>
  have f:jB o=Ta:=by unfold jB;rw[ho]
  by_cases b:eQ g;obtain⟨k,l,k2⟩:=rE f H;unfold gi at H;rw[ho]at H;simp only at H;obtain⟨v,p,m,h1,c⟩:=Nc H;have s:k=v:=by
   have u:=k2 b h (Keep.refl _ _) default 0;have a2:QExec P (execOp ρ o) h (.value v):=by simp only[execOp,ho];exact(c b).1.val
   have a2:=a2 default 0;rw[u]at a2;injection a2 with a2 _;injection a2
  subst s;refine⟨k,l,λ_ h' e=>?_⟩;rcases e with e|e|e;unfold jj lG at e;rw[ho]at e;cases e;exact k2 b h' e;have:=(c b).2 h' (e t x p ho m);simp only[execOp,ho];exact this.val;obtain⟨k,l,_⟩:=rE f H;exact⟨k,l,λn=>absurd n b⟩
 |indexAddr t x i=>
  unfold gi at H;rw[ho]at H;simp only at H;cases he:iX P t with
  |false=>rw[he]at H;exact H.elim
  |true=>rw[he]at H;obtain⟨v,h1,c⟩:=Z6 (Zx he) H;refine⟨v,h1,λb h' _=>?_⟩;simp only[execOp,ho];exact(c b h').val
 |slice t x lo hi mx=>
  unfold gi at H;rw[ho]at H;simp only at H;cases he:iX P t with
  |false=>rw[he]at H;exact H.elim
  |true=>rw[he]at H;obtain⟨v,h1,c⟩:=Yx (Zx he) H;refine⟨v,h1,λb h' _=>?_⟩;simp only[execOp,ho];exact(c b h').val
 |binOp w t x y t'=>unfold gi at H;rw[ho]at H;obtain⟨v,h1,c⟩:=uq ho H;exact⟨v,h1,λb h' _=>c b h'⟩
 |nilCheck x=>unfold gi at H;rw[ho]at H;simp only at H;unfold sZ at H;split at H;rename_i p m;obtain⟨a,h1,c⟩:=H;refine⟨_,c,λb h' _ B d=>?_⟩;have r:=h1.out b;subst r;simp only[execOp,ho,m];rfl;obtain⟨v,h1,c⟩:=qn H g;exact⟨v,h1,λb h' _=>c b h'⟩
 |_=>first|(unfold oa lG at q;rw[ho]at q;cases q;done)|(unfold gi at H;rw[ho]at H;obtain⟨v,h1,c⟩:=qn H g;exact⟨v,h1,λb h' _=>c b h'⟩)
theorem wl{d:Option Nat}{u:Value}{s:Nat}(h:d≠Tc s):qe (a.put d u) s=qe a s:=by
 cases d with
 |none=>rfl
 |some t=>grind [qt]
theorem OQ{next:Act->World->Prop}{Q:Exit->Act->World->Prop}{r:Result Next}(k:b.defers=[])
  (H:o.upon P b (λc w=>c.defers=[]/\∀v,c=b.put o.dst v->next (a.put o.dst v) w) (λ_ _ _=>False) r):o.upon P a next Q r:=by
 have lo:¬LetsOut (λ(_:Exit) (_:Act) (_:World)=>False):=λh=>by obtain⟨_,_,h⟩:=h;exact h
 cases r with
 |ok x w=>
  cases x with
  |value v=>exact H.2 v rfl
  |skip=>exact H.2 undef rfl
  |defer d=>have:=H.1;rw[x7]at this;cases this
  |enter f args=>refine Calls.mono (show Calls P f args w _ from H) λe w' i=>?_;grind
  |row row args=>exact Rows.mono (show Rows P row args w _ from H) λv w' i=>i.2 v rfl
  |_=>exact H
 |halt x w=>cases x <;> first|exact H.elim|exact H
theorem Jl{i p:Nat}(hi:i∈Region.ready .any ops listed)(f:Region.waitsFor .any ops i p=Ta):listed.getD p Tb=Ta:=by obtain⟨n,h,e,l,m,c⟩:=Region.waitsFor_spec f;obtain⟨_,o,k,b⟩:=mem_ready.1 hi;grind
theorem Zb{n:Nat}(inv:HeadInv .any ops n listed){i p:Nat}(hi:listed.getD i Tb=Ta)(f:Region.waitsFor .any ops i p=Ta):listed.getD p Tb=Ta:=by obtain⟨l,c,e,h,k,b⟩:=Region.waitsFor_spec f;rw[<-b];exact inv.closed i l c hi e h k
theorem GQ{p:Nat->Bool}{N:Nat}(h:∃k,k<N/\p k=Tb):∃k,k<N/\p k=Tb/\∀j,j<k->p j=Ta:=by
 obtain⟨k,h1,c⟩:=h;induction k using Nat.strongRecOn with
 |_ k b=>grind
theorem BL{o:Oper}:∀{l:List Oper},o∈l->∀i,o.dst=Tc i->i∈j8 l
 |[],h,_,_=>by cases h
 |x::l,h,i,hi=>by unfold j8;rcases YS.1 h with rfl|h;simp_all;have:=BL h i hi;grind
theorem yo{k:Nat}(h:ops[k]?=Tc o):yz ops k=o.dst:=by simp[yz,h]
def fV(j:Nat):List Nat->List Nat
 |[]=>[]
 |k::l=>bif Nat.beq k j then fV j l else k::fV j l
theorem pO{j x:Nat}:∀{l:List Nat},x∈fV j l↔x∈l/\x≠j
 |[]=>by simp[fV]
 |k::l=>by
  simp only[fV];cases hb:Nat.beq k j with
  |true=>have:=YT hb;subst this;rw[zF,pO,YS];simp_all
  |false=>
   have b:k≠j:=λe=>by simp_all
   rw[zG,YS,YS,pO];grind
theorem ud{j:Nat}:∀{l:List Nat},l.Nodup->(fV j l).Nodup
 |[],h=>h
 |k::l,h=>by
  simp only[fV];rw[zcp]at h;cases Nat.beq k j with
  |true=>exact ud h.2
  |false=>rw[zG,zcp];exact⟨λb=>h.1 (pO.1 b).1,ud h.2⟩
theorem Dg{j:Nat}:∀{l:List Nat},(fV j l).length<=l.length
 |[]=>YM _
 |k::l=>by simp only[fV];have:=Dg (j:=j) (l:=l);grind
theorem Fj{j:Nat}:∀{l:List Nat},j∈l->(fV j l).length+1<=l.length
 |[],h=>by cases h
 |k::l,h=>by
  simp only[fV];cases hb:Nat.beq k j with
  |true=>simp[Dg,zF,ZV]
  |false=>
   have b:k≠j:=λe=>by simp_all
   have:=Fj (j:=j) (l:=l) (by grind);simp_all
def vI(p:Nat->Prop):List Nat->Prop
 |[]=>True
 |[j]=>p j
 |j::k::l=>p j/\vI p (k::l)
theorem Bn{p:Nat->Prop}:∀{l:List Nat},vI p l->∀j∈l,p j
 |[],_,j,h=>by cases h
 |[k],H,j,h=>by simp at h;subst h;exact H
 |k::k2::l,H,j,h=>by rcases YS.1 h with rfl|h;exact H.1;exact Bn H.2 j h
def ov(p:Nat->Bool):List Nat->List Nat
 |[]=>[]
 |j::l=>bif p j then j::ov p l else ov p l
theorem xN{p:Nat->Bool}{j:Nat}:∀{l:List Nat},j∈l->p j=Ta->j∈ov p l
 |[],h,_=>by cases h
 |k::l,h,hp=>by
  simp only[ov];rcases YS.1 h with rfl|h;simp_all;cases p k with
  |true=>exact YU _ (xN h hp)
  |false=>exact xN h hp
end
section
variable {l done:List Nat} {i m n:Nat} {ops:Array Oper} {P:Program} {o:Oper} {h h0:zc} {e:aR} {a b:Act}
def GM(o:Oper):Bool:=match o.op with
 |.extract _ _=>Ta
 |_=>Tb
variable {gq : Nat}
def mB(o:Oper):Bool:=bif oa o then Ta else GM o
def hY(ops:Array Oper):Nat->List Nat->List Nat
 |0,S=>S
 |k+1,S=>hY ops k (bif S.any λp=>Region.waitsFor .any ops p k then k::S else S)
theorem sW{ops:Array Oper}{listed:Array Bool}(b:∀i p,listed.getD i Tb=Ta->Region.waitsFor .any ops i p=Ta->listed.getD p Tb=Ta):∀{m:Nat} {S:List Nat},(∀j∈S,listed.getD j Tb=Ta)->∀k∈hY ops m S,listed.getD k Tb=Ta
 |0,S,h,k,hk=>h k hk
 |m+1,S,h,k,hk=>by unfold hY at hk;refine sW b (m:=m) (λj c=>?_) k hk;grind
theorem Yy(h:memN l i=Ta):i∈l:=by
 induction l with
 |nil=>cases h
 |cons j l b=>simp only[memN]at h;grind [YT,ZB,YU]
theorem tn(h:i∈l):memN l i=Ta:=by grind [Q2]
def Ig(ops:Array Oper)(k:Nat):Bool:=match ops[k]? with
 |some o=>!(mB o)
 |none=>Tb
def PQ(gq:Nat)(ops:Array Oper)(i:Nat):Bool:=(hY ops ops.size [i]).any λk=>bif Nat.blt k (gq-1)then Tb else Ig ops k
def RS(o:Oper):Bool:=match o.guard with
 |none=>Tb
 |some _=>Ta
def Cl(ops:Array Oper)(t:Nat):Nat->Bool
 |0=>Tb
 |k+1=>bif (match ops[k]? with
  |some o=>memN (tmpsOf o.op.operands.toList) t
  |none=>Tb)then Ta else Cl ops t k
def NT(ops:Array Oper)(i:Nat)(o:Oper):Bool:=match o.op with
 |.assign _=>(match o.dst with
  |some t=>Cl ops t i
  |none=>Tb)
 |_=>Tb
def X1(gq:Nat)(ops:Array Oper)(i:Nat):Bool:=match ops[i]? with
 |some o=>bif Nat.blt i (gq-1)then Tb else bif (bif RS o then Nat.beq gq 0 else Tb)then Ta else bif mB o then(bif jj o then PQ gq ops i else NT ops i o)else Ta
 |none=>Ta
def gC(gq:Nat)(ops:Array Oper):List Nat:=(zak ops.size).filter (X1 gq ops)
theorem mG{j:Nat}:j∈gC gq ops↔j<ops.size/\X1 gq ops j=Ta:=by unfold gC;simp
theorem QT(ops:Array Oper):(gC gq ops).Nodup:=List.nodup_range.filter _
def kH(gq:Nat)(ops:Array Oper)(done S:List Nat)(k:Nat):Nat->Bool
 |0=>Ta
 |p+1=>bif Region.waitsFor .any ops k p then(bif (bif X1 gq ops p then memN done p else memN S p)then kH gq ops done S k p else Tb)else kH gq ops done S k p
theorem rV{ops:Array Oper}{done S:List Nat}{k:Nat}:∀{m:Nat},kH gq ops done S k m=Ta↔∀p,p<m->Region.waitsFor .any ops k p=Ta->(X1 gq ops p=Ta->p∈done)/\(X1 gq ops p=Tb->p∈S)
 |0=>⟨λ_ p c=>by omega,λ_=>rfl⟩
 |m+1=>by
  unfold kH;have e:=rV (ops:=ops) (done:=done) (S:=S) (k:=k) (m:=m);constructor;intro h p c b;rcases zad p m with h1|h1;grind;have:p=m:=by omega
  subst this;rw[b,zF]at h;cases hi:X1 gq ops p with
  |true=>simp_all[zF,Yy]
  |false=>simp_all[zG,Yy]
  intro h;have h1:=e.2 λp c b=>h p (by omega) b;cases b:Region.waitsFor .any ops k m with
  |false=>exact h1
  |true=>simp_all[zF,tn]
def tq(gq:Nat)(ops:Array Oper)(done S:List Nat)(k:Nat):List Nat:=bif X1 gq ops k then S else(bif kH gq ops done S k k then k::S else S)
def We(gq:Nat)(ops:Array Oper)(done:List Nat):Nat->List Nat
 |0=>[]
 |k+1=>tq gq ops done (We gq ops done k) k
theorem wm{ops:Array Oper}{done:List Nat}:∀{m i:Nat},i∈We gq ops done m->i<m/\X1 gq ops i=Tb/\kH gq ops done (We gq ops done i) i i=Ta
 |0,i,h=>by cases h
 |m+1,i,h=>by
  unfold We tq at h;cases hi:X1 gq ops m with
  |true=>rw[hi,zF]at h;have:=wm h;grind
  |false=>
   rw[hi,zG]at h;cases ho:kH gq ops done (We gq ops done m) m m with
   |false=>rw[ho,zG]at h;have:=wm h;grind
   |true=>rw[ho,zF]at h;rcases YS.1 h with rfl|h;simp_all;have:=wm h;grind
theorem vw{ops:Array Oper}{done:List Nat}{m:Nat}:∀{m' i:Nat},m<=m'->i∈We gq ops done m->i∈We gq ops done m'
 |0,i,h,hi=>by simp_all
 |m'+1,i,h,hi=>by rcases Nat.eq_or_lt_of_le h with e|e;simp_all;have:=vw (m':=m') (by omega) hi;unfold We tq;grind
theorem tY(b:i<m)(h1:X1 gq ops i=Tb)(c:kH gq ops done (We gq ops done i) i i=Ta):i∈We gq ops done m:=by refine vw (m:=i+1) b ?_;unfold We tq;simp_all
theorem qB{m i p:Nat}(h:i∈We gq ops done m)(c:p<i)(e:Region.waitsFor .any ops i p=Ta):(X1 gq ops p=Ta->p∈done)/\(X1 gq ops p=Tb->p∈We gq ops done m):=by obtain⟨h1,k,f⟩:=wm h;obtain⟨a,b⟩:=rV.1 f p c e;exact⟨a,λhi=>vw (by omega) (b hi)⟩
def iK(b c:List Nat)(n:Nat):List Nat:=(zak n).filter λi=>bif memN c i then !(memN b i)else Tb
theorem E2{c b:List Nat}:i∈iK c b n↔i<n/\i∈b/\i∉c:=by
 unfold iK;rw[zcq,zbc];constructor;rintro⟨h1,e⟩;cases hn:memN b i with
 |false=>simp_all
 |true=>rw[hn,zF]at e;grind [Yy,tn]
 rintro⟨h1,e,f⟩;refine⟨h1,?_⟩;rw[tn e,zF];grind [Yy]
theorem G1(b c:List Nat)(n:Nat):(iK b c n).Pairwise (· < ·):=List.pairwise_lt_range.filter _
def wI(P:Program)(n:Nat)(h:zc)(ld:Bool)(ops:Array Oper)(K:aR->Prop):List Nat->aR->Prop
 |[],e=>K e
 |i::l,e=>match ops[i]? with
  |some o=>bif mB o then(bif (bif ld then Ta else !(jj o))then(bif Y8 o.op then(match Zi ops e o.guard with
   |some c=>bif wh n c o.dst then(bif known e c o.op.operands.toList then(match Q7 e c with
    |some g=>gi P o (gB e c) g h λv=>wI P n h ld ops K l (putO e o.dst c v)
    |none=>False)else False)else False
   |none=>False)else False)else False)else False
  |none=>False
def yq(ops:Array Oper)(f:Nat->Value):List Nat->Act->Act
 |[],a=>a
 |i::l,a=>yq ops f l (a.put (yz ops i) (f i))
theorem XL(b:mB o=Ta){ρ:Operand->Value}{g:Option Bool}{K:Value->Prop}(H:gi P o ρ g h K):
  ∃v,K v/\(eQ g->∀h',LdOK o ρ h h'->QExec P (execOp ρ o) h' (.value v)):=by
 unfold mB at b;cases hb:oa o with
 |true=>exact R8 hb H
 |false=>rw[hb,zG]at b;unfold GM at b;split at b;rename_i x i c;unfold gi at H;rw[c]at H;obtain⟨v,h1,e⟩:=qn H g;grind;cases b
theorem Cf{ops:Array Oper}{f:Nat->Value}:∀{l:List Nat} {a:Act},(yq ops f l a).tmps.size=a.tmps.size/\(yq ops f l a).defers=a.defers
 |[],_=>⟨rfl,rfl⟩
 |i::l,a=>by unfold yq;have:=Cf (ops:=ops) (f:=f) (l:=l) (a:=a.put (yz ops i) (f i));rw[this.1,this.2];exact⟨size_put _ _ _,x7 _ _ _⟩
theorem jf{ops:Array Oper}{f:Nat->Value}{s:Nat}:∀{l:List Nat} {a:Act},(∀i∈l,yz ops i≠Tc s)->qe (yq ops f l a) s=qe a s
 |[],_,_=>rfl
 |i::l,a,h=>by unfold yq;rw[jf λj b=>h j (YU _ b)];exact wl (h i ZB)
theorem vB{ops:Array Oper}{f:Nat->Value}:∀{l m:List Nat} {a:Act},yq ops f (l++m) a=yq ops f m (yq ops f l a)
 |[],_,_=>rfl
 |i::l,m,a=>by rw[zaq];show yq ops f (l++m) _=yq ops f m (yq ops f l _);exact vB
theorem uM{P:Program}{n:Nat}{h:zc}{ld:Bool}{ops:Array Oper}{K:aR->Prop}(z:Nat->Value):∀{l:List Nat} {e:aR} {a:Act},l.Nodup->wI P n h ld ops K l e->Sat n e a->∃(f:Nat->Value) (e':aR),K e'/\Sat n e' (yq ops f l a)/\(∀i,i∉l->f i=z i) /\
  ∀b i A,l=b++i::A->∃o,ops[i]?=Tc o/\(ld=Tb->jj o=Tb)/\Y8 o.op=Ta/\(∀t,o.dst=Tc t->t<n) /\ (ZT o (yielded ops (yq ops f b a).tmps)=Ta->∀h',LdOK o (yq ops f b a).eval h h'->QExec P (execOp (yq ops f b a).eval o) h' (.value (f i)))/\(ZT o (yielded ops (yq ops f b a).tmps)≠Ta->f i=undef)
 |[],e,a,_,H,hs=>⟨z,e,H,hs,λ_ _=>rfl,λb i A h=>by simp at h⟩
 |i::l,e,a,hnd,H,hs=>by
  unfold wI at H;cases ho:ops[i]? with
  |none=>simp_all
  |some o=>
   rw[ho]at H;simp only at H;cases hq:mB o with
   |false=>simp_all
   |true=>
    rw[hq,zF]at H;cases hld:(bif ld then Ta else !(jj o))with
    |false=>simp_all
    |true=>
     rw[hld,zF]at H;cases hns:Y8 o.op with
     |false=>simp_all
     |true=>
      rw[hns,zF]at H;split at H;rename_i c G;cases hd:wh n c o.dst with
      |false=>simp_all
      |true=>
       rw[hd,zF]at H;cases hk:known e c o.op.operands.toList with
       |false=>simp_all
       |true=>
        rw[hk,zF]at H;split at H;rename_i g I;rw[zcp]at hnd;obtain⟨v,D,F⟩:=XL hq H;have r:yz ops i=o.dst:=yo ho;obtain⟨u,s,p⟩:∃u,(valid (qe a) c->u=v)/\(¬valid (qe a) c->u=undef):=by by_cases k:valid (qe a) c;simp_all;simp_all
        have q:=Z5 hs G;obtain⟨f,e',J,Q,M,N⟩:=uM (λx=>if x=i then u else z x) (a:=a.put o.dst u) hnd.2 D (hs.putO hd s p);have m:f i=u:=by rw[M i hnd.1,zb rfl]
        have B:∀b,yq ops f (i::b) a=yq ops f b (a.put o.dst u):=λb=>by show yq ops f b (a.put (yz ops i) (f i))=_;rw[r,m]
        refine⟨f,e',J,by grind,λj O=>?_,λb j A y=>?_⟩;simp_all;cases b with
        |nil=>simp only[zba,za4]at y;obtain⟨rfl,rfl⟩:=y;refine⟨o,ho,λy=>by simp_all,hns,λt C=>by rw[C]at hd;unfold wh at hd;simp_all,λw h' L=>?_,λw=>?_⟩;show QExec P (execOp a.eval o) h' _;have k:=q.1 w;rw[sw hs k hns hk,m,s k];exact F (Q8 hs I k) h' (LdOK.congr (λx E=>(Wd hs k hk x E).symm) L);rw[m];exact p λk=>w (q.2 k)
        |cons S b=>grind
        exact H.elim
      exact H.elim
def oC(gq:Nat)(ops:Array Oper)(U:List Nat):Nat->Bool
 |0=>Tb
 |k+1=>bif (match ops[k]? with
  |some o=>bif jj o then(bif X1 gq ops k then Tb else !(memN U k))else Tb
  |none=>Tb)then Ta else oC gq ops U k
theorem G6{ops:Array Oper}{U:List Nat}:∀{m:Nat},oC gq ops U m=Tb->∀k o,k<m->ops[k]?=Tc o->jj o=Ta->X1 gq ops k=Tb->k∈U
 |0,_,k,o,hk,_,_,_=>by omega
 |m+1,h,k,o,hk,ho,hl,hi=>by
  unfold oC at h;cases hb:(match ops[m]? with
   |some o=>bif jj o then(bif X1 gq ops m then Tb else !(memN U m))else Tb
   |none=>Tb)with
  |true=>simp_all
  |false=>
   rw[hb,zG]at h;rcases zad k m with h1|h1;exact G6 h k o h1 ho hl hi;have:k=m:=by omega
   simp_all[zF,zG,Yy]
def lN(gq:Nat)(ops:Array Oper)(U:List Nat)(e:aR)(h0 h':zc)(K:Prop):Nat->Prop
 |0=>K
 |k+1=>match ops[k]? with
  |some o=>bif (bif jj o then(bif X1 gq ops k then Tb else !(memN U k))else Tb)then(match o.op,Zi ops e o.guard with
   |.load _ a,some c=>bif known e c [a]then(match gB e c a,Q7 e c with
    |.pointer (Tc p),some g=>req g (h'[p.block]?=h0[p.block]?)/\lN gq ops U e h0 h' K k
    |_,_=>False)else False
   |_,_=>False)else lN gq ops U e h0 h' K k
  |none=>lN gq ops U e h0 h' K k
theorem C5{ops:Array Oper}{U:List Nat}{e:aR}{h0 h':zc}{K:Prop}:∀{m:Nat},lN gq ops U e h0 h' K m->K/\∀k o,k<m->ops[k]?=Tc o->jj o=Ta->X1 gq ops k=Tb->k∉U ->
  ∃t a p c g,o.op=.load t a/\Zi ops e o.guard=Tc c/\Q7 e c=Tc g/\known e c [a]=Ta/\gB e c a=.pointer (Tc p)/\req g (h'[p.block]?=h0[p.block]?)
 |0,H=>⟨H,λk o l=>by omega⟩
 |m+1,H=>by
  unfold lN at H;have step:lN gq ops U e h0 h' K m->(∀o,ops[m]?=Tc o->jj o=Ta->X1 gq ops m=Tb->m∉U->∃t a p c g,o.op=.load t a/\Zi ops e o.guard=Tc c/\Q7 e c=Tc g/\known e c [a]=Ta/\gB e c a=.pointer (Tc p)/\req g (h'[p.block]?=h0[p.block]?)) ->
    K/\∀k o,k<m+1->ops[k]?=Tc o->jj o=Ta->X1 gq ops k=Tb->k∉U->∃t a p c g,o.op=.load t a/\Zi ops e o.guard=Tc c/\Q7 e c=Tc g/\known e c [a]=Ta/\gB e c a=.pointer (Tc p)/\req g (h'[p.block]?=h0[p.block]?):=λh n=>by
   obtain⟨h1,f⟩:=C5 h;grind
  cases ho:ops[m]? with
  |none=>grind
  |some o=>
   rw[ho]at H;simp only at H;have same:∀b,ops[m]?=Tc b->b=o:=λb h1=>ZS (h1.symm.trans ho);cases hc:(bif jj o then(bif X1 gq ops m then Tb else !(memN U m))else Tb)with
   |false=>rw[hc]at H;refine step H λb h1 f i q=>?_;rw[same b h1]at f;rw[f,i,zF,zG]at hc;grind [Yy]
   |true=>grind
def oL(gq:Nat)(ops:Array Oper)(T:List Nat)(e:aR)(h0 h':zc)(K:Prop):Prop:=bif oC gq ops (hY ops ops.size T) ops.size then lN gq ops (hY ops ops.size T) e h0 h' K ops.size else K
def qY(ops:Array Oper)(todo:List Nat)(j:Nat):Bool:=todo.all λk=>bif Nat.beq k j then Ta else !(memN (hY ops ops.size [j]) k)
def kI(gq:Nat)(P:Program)(n:Nat)(ops:Array Oper)(h0:zc)(K:aR->zc->Prop):Nat->List Nat->List Nat->aR->zc->Prop
 |_,_,[],e,h=>K e h
 |0,_,_::_,_,_=>False
 |f+1,T,b::l0,e,h=>vI (λj=>match ops[j]? with
  |some o=>(match Zi ops e o.guard with|some c=>bif wh n c o.dst then kd P o e c h λv h'=>wI P n h' Tb ops (λe'=>oL gq ops (j::T) e' h0 h' (kI gq P n ops h0 K f (j::T) (fV j (b::l0)) e' h')) (iK (We gq ops T ops.size) (We gq ops (j::T) ops.size) ops.size) (putO e o.dst c v)else False|none=>False)
  |none=>False) (ov (qY ops (b::l0)) (b::l0))
theorem SP{K:aR->zc->Prop}{f:Nat}{T todo:List Nat}(H:kI gq P n ops h0 K (f+1) T todo e h){j:Nat}(b:j∈todo)(i:qY ops todo j=Ta):match ops[j]? with
  |some o=>(match Zi ops e o.guard with|some c=>bif wh n c o.dst then kd P o e c h λv h'=>wI P n h' Tb ops (λe'=>oL gq ops (j::T) e' h0 h' (kI gq P n ops h0 K f (j::T) (fV j todo) e' h')) (iK (We gq ops T ops.size) (We gq ops (j::T) ops.size) ops.size) (putO e o.dst c v)else False|none=>False)
  |none=>False:=by
 cases todo with
 |nil=>cases b
 |cons l k=>exact Bn H j (xN b i)
def l4(gq:Nat)(ops:Array Oper)(k:Nat)(S:List Nat):Nat->Bool
 |0=>Ta
 |p+1=>bif (match yz ops p with
  |some t=>bif memN S t then(bif Region.waitsFor .any ops k p then Ta else bif X1 gq ops p then Region.waitsFor .any ops p k else Tb)else Ta
  |none=>Ta)then l4 gq ops k S p else Tb
theorem Wg{ops:Array Oper}{k:Nat}{S:List Nat}:∀{m:Nat},l4 gq ops k S m=Ta->∀p t,p<m->yz ops p=Tc t->t∈S->Region.waitsFor .any ops k p=Ta\/(X1 gq ops p=Ta/\Region.waitsFor .any ops p k=Ta)
 |0,_,p,t,hp,_,_=>by omega
 |m+1,h,p,t,hp,hd,ht=>by
  simp only[l4]at h;cases hb:(match yz ops m with
   |some t=>bif memN S t then(bif Region.waitsFor .any ops k m then Ta else bif X1 gq ops m then Region.waitsFor .any ops m k else Tb)else Ta
   |none=>Ta)with
  |false=>simp_all
  |true=>
   rw[hb]at h;rcases zad p m with h1|h1;exact Wg h p t h1 hd ht;have:p=m:=by omega
   simp_all[tn,zF]
def mK(gq:Nat)(ops:Array Oper):Nat->Bool
 |0=>Ta
 |k+1=>bif (match ops[k]? with
  |some o=>l4 gq ops k (tmpsOf o.op.operands.toList) ops.size
  |none=>Ta)then mK gq ops k else Tb
theorem Wh{ops:Array Oper}:∀{m:Nat},mK gq ops m=Ta->∀k o,k<m->ops[k]?=Tc o->l4 gq ops k (tmpsOf o.op.operands.toList) ops.size=Ta
 |0,_,k,o,hk,_=>by omega
 |m+1,h,k,o,hk,ho=>by
  unfold mK at h;cases hb:(match ops[m]? with
   |some o=>l4 gq ops m (tmpsOf o.op.operands.toList) ops.size
   |none=>Ta)with
  |false=>simp_all
  |true=>rw[hb,zF]at h;rcases zad k m with h1|h1;exact Wh h k o h1 ho;grind
def mD(ops:Array Oper)(o:Oper):List Nat:=match o.guard with
 |none=>[]
 |some (j,_)=>match yz ops j with
  |some t=>[t]
  |none=>[]
def mf(ops:Array Oper):Nat->Bool
 |0=>Ta
 |k+1=>bif (match ops[k]? with
  |some o=>bif Y8 o.op then Q9 ops k (mD ops o) ops.size else Tb
  |none=>Ta)then mf ops k else Tb
theorem vr{ops:Array Oper}:∀{m:Nat},mf ops m=Ta->∀k o,k<m->ops[k]?=Tc o->Y8 o.op=Ta/\Q9 ops k (mD ops o) ops.size=Ta
 |0,_,k,o,hk,_=>by omega
 |m+1,h,k,o,hk,ho=>by
  unfold mf at h;cases hb:(match ops[m]? with
   |some o=>bif Y8 o.op then Q9 ops m (mD ops o) ops.size else Tb
   |none=>Ta)with
  |false=>simp_all
  |true=>rw[hb,zF]at h;rcases zad k m with h1|h1;exact vr h k o h1 ho;grind
theorem vR(h:∀t∈mD ops o,qe a t=qe b t):ZT o (yielded ops a.tmps)=ZT o (yielded ops b.tmps):=by
 unfold ZT;cases hg:o.guard with
 |none=>rfl
 |some f=>
  obtain⟨j,p⟩:=f;have:yielded ops a.tmps j=yielded ops b.tmps j:=by
   unfold yielded;cases hd:(ops[j]?).bind (·.dst)with
   |none=>rfl
   |some t=>
    have e:yz ops j=Tc t:=by
     unfold yz;cases hoj:ops[j]? with
     |none=>simp_all
     |some i=>simp_all
    have c:=h t (by unfold mD;simp_all);unfold qe at c;simp only[zay]at c;simp only[zbl];cases h1:a.tmps[t]? <;> cases h2:b.tmps[t]? <;> rw[h1,h2]at c <;> simp at c <;> first|rfl|(subst c;rfl)|(rw[<-c];rfl)|(rw[c];rfl)
  grind
def oK(gq:Nat)(ops:Array Oper):Bool:=bif mf ops ops.size then(bif y9 ops ops.size then(bif Jk ops ops.size then mK gq ops ops.size else Tb)else Tb)else Tb
theorem G8(h:oK gq ops=Ta):mf ops ops.size=Ta/\y9 ops ops.size=Ta/\Jk ops ops.size=Ta/\mK gq ops ops.size=Ta:=by unfold oK at h;simp_all
structure St7 (gq:Nat) (P:Program) (n:Nat) (ops:Array Oper) (h0:zc) (K:aR->zc->Prop) (f:Nat->Value) (a0:Act) (listed:Array Bool) (a b:Act) (e:aR) (h:zc) (done todo:List Nat):Prop where
 inv:HeadInv .any ops ops.size listed
 ag:∀s,(∀i o,ops[i]?=Tc o->X1 gq ops i=Tb->listed.getD i Tb=Tb->o.dst≠Tc s)->qe a s=qe b s
 sz:a.tmps.size=n
 ad:a.defers=[]
 sb:Sat n e b
 qv:∀i o t,ops[i]?=Tc o->i∈We gq ops done ops.size->o.dst=Tc t->qe b t=f i/\t<n
 qx:∀i o,ops[i]?=Tc o->i∈We gq ops done ops.size->listed.getD i Tb=Tb->(ZT o (yielded ops b.tmps)=Ta->∀h',LdOK o b.eval h0 h'->QExec P (execOp b.eval o) h' (.value (f i)))/\(ZT o (yielded ops b.tmps)≠Ta->f i=undef)
 tt:∀j,j∈gC gq ops->(j∈todo↔listed.getD j Tb=Tb)
 ch:∀j,j∈gC gq ops->(listed.getD j Tb=Ta↔j∈done)
 dn:∀j∈done,j∈gC gq ops
 th:∀j∈todo,j∈gC gq ops
 nd:todo.Nodup
 wt:∃fu,todo.length<=fu/\kI gq P n ops h0 K fu done todo e h
 kp:∀i o,ops[i]?=Tc o->jj o=Ta->X1 gq ops i=Tb->listed.getD i Tb=Tb->ZT o (yielded ops b.tmps)=Ta->LdOK o b.eval h0 h
 sm:Same (j8 ops.toList) a0 a
theorem H5{ld:Bool}(F:mf ops ops.size=Ta)(w:y9 ops ops.size=Ta)(N:Jk ops ops.size=Ta)(L:mK gq ops ops.size=Ta){f:Nat->Value}(E:b.tmps.size=n)(m:∀i∈l,i<ops.size)(aa:∀i∈l,X1 gq ops i=Tb)(u:l.Pairwise (· < ·)) (H:∀c i e,l=c++i::e->∃o,ops[i]?=Tc o/\(ld=Tb->jj o=Tb)/\Y8 o.op=Ta/\(∀t,o.dst=Tc t->t<n) /\ (ZT o (yielded ops (yq ops f c b).tmps)=Ta->∀h',LdOK o (yq ops f c b).eval h h'->QExec P (execOp (yq ops f c b).eval o) h' (.value (f i)))/\(ZT o (yielded ops (yq ops f c b).tmps)≠Ta->f i=undef)):
  ∀i o,ops[i]?=Tc o->i∈l->(∀t,o.dst=Tc t->qe (yq ops f l b) t=f i/\t<n)/\(ld=Tb->jj o=Tb) /\ (ZT o (yielded ops (yq ops f l b).tmps)=Ta->∀h',LdOK o (yq ops f l b).eval h h'->QExec P (execOp (yq ops f l b).eval o) h' (.value (f i)))/\(ZT o (yielded ops (yq ops f l b).tmps)≠Ta->f i=undef):=by
 intro i o D hi;obtain⟨c,e,rfl⟩:=List.append_of_mem hi;obtain⟨y,q1,U,q4,V,Z,Y⟩:=H c i e rfl;have:y=o:=ZS (q1.symm.trans D);subst this;have p:i<ops.size:=m i (by simp);have hs:∀j∈e,i<j:=λj k=>by rw[zch]at u;simp_all
 have q:yq ops f (c++i::e) b=yq ops f e ((yq ops f c b).put (yz ops i) (f i)):=by rw[vB];rfl
 have r:yz ops i=y.dst:=yo D;have B:∀j∈i::e,Region.waitsFor .any ops i j=Ta->False:=λj k G=>by obtain⟨oj,J,x,I,Q,S⟩:=Region.waitsFor_spec G;have h1:=qk w i oj p J x I Q;grind
 have O:yq ops f (c++i::e) b=yq ops f (i::e) (yq ops f c b):=vB;have z:∀t∈tmpsOf y.op.operands.toList,qe (yq ops f (c++i::e) b) t=qe (yq ops f c b) t:=λt s=>by rw[O];refine jf λj k C=>B j k ?_;rcases Wg (Wh L i y p D) j t (m j (by simp[k])) C s with h|h;exact h;simp_all
 have M:ZT y (yielded ops (yq ops f (c++i::e) b).tmps)=ZT y (yielded ops (yq ops f c b).tmps):=vR λt s=>by rw[O];exact jf λj k C=>B j k (Za (vr F i y p D).2 j t (m j (by simp[k])) C s)
 rw[M];refine⟨λt s=>?_,U,λG h' hh=>?_,Y⟩;have A:=V t s;refine⟨?_,A⟩;rw[q,jf λj k C=>?_,r,s,xo (by rw[Cf.1,E];exact A)];have:=jw N i j t p (m j (by simp[k])) (by rw[r,s]) C;grind;rw[vm q4 z];exact Z G h' (LdOK.congr (λx I=>(sK z x I).symm) hh)
theorem Ua{K:aR->zc->Prop}{Q:Exit->Act->World->Prop}(B:World)(hmix:oK gq ops=Ta){a0:Act}
    (hQ:∀e' a' d' h',Sat n e' a'->Same (j8 ops.toList) a0 a'->K e' h'->Q .normal a' (mk B d' h')):
    ∀(N:Nat) (U:List Nat) (listed:Array Bool) (f:Nat->Value) (a b:Act) (e:aR) (h:zc) (d:Nat) (done todo:List Nat),U.length=N->U.Nodup->(∀k,k∈U↔k<ops.size/\listed.getD k Tb=Tb) ->
      St7 gq P n ops h0 K f a0 listed a b e h done todo->wpAny P .any ops Q N listed a (mk B d h):=by
  obtain⟨hng,hback,hnd,hsl⟩:=G8 hmix
  have hgd:∀(i:Nat) (o:Oper),ops[i]?=Tc o->Y8 o.op=Ta/\Q9 ops i (mD ops o) ops.size=Ta:=λi o ho=>vr hng i o (YV.1 ho).1 ho
  have hslot0:∀k o,ops[k]?=Tc o->∀p t,p<ops.size->yz ops p=Tc t->t∈tmpsOf o.op.operands.toList->Region.waitsFor .any ops k p=Ta\/(X1 gq ops p=Ta/\Region.waitsFor .any ops p k=Ta):=λk o ho p t hp hd ht=>
    Wg (Wh hsl k o (YV.1 ho).1 ho) p t hp hd ht
  have hbk:∀k p,Region.waitsFor .any ops k p=Ta->p<k:=λk p hw=>by
    obtain⟨oj,hoj,x,hx,hb,hon⟩:=Region.waitsFor_spec hw
    have:=qk hback k oj (YV.1 hoj).1 hoj x hx hb
    omega
  have fin:∀{listed:Array Bool} {f:Nat->Value} {a b:Act} {e:aR} {h:zc} {d:Nat} {done todo:List Nat},(∀k,k<ops.size->listed.getD k Tb=Ta)->St7 gq P n ops h0 K f a0 listed a b e h done todo->Q .normal a (mk B d h):=by
    intro listed f a b e h d done todo hall S
    have htodo:todo=[]:=by
      cases htd:todo with
      |nil=>rfl
      |cons j l=>
        have hm:j∈todo:=by rw[htd];simp
        have hj:=S.th j hm
        have:=(S.tt j hj).1 hm
        rw[hall j (mG.1 hj).1]at this;cases this
    obtain⟨fu,_,hw⟩:=S.wt
    rw[htodo]at hw
    have hw:K e h:=by cases fu <;> exact hw
    have hv:∀s,qe a s=qe b s:=λs=>S.ag s λi o ho hq hl=>by
      grind
    have hs:Sat n e a:=⟨S.ad,S.sz,λx hx=>by
      have:=S.sb.all x hx
      have e1:qe a=qe b:=funext hv
      grind⟩
    exact hQ _ _ _ _ hs S.sm hw
  intro N
  induction N with
  |zero=>
    intro U listed f a b e h d done todo hU _ hmem S
    have hUn:U=[]:=zau.1 hU
    subst hUn
    have hall:∀k,k<ops.size->listed.getD k Tb=Ta:=λk hk=>by
      simp_all
    refine⟨?_,fin hall S⟩
    rw[List.eq_nil_iff_forall_not_mem]
    intro j hj
    obtain⟨h1,o,ho,_⟩:=mem_ready.1 hj
    grind
  |succ N ih=>
    intro U listed f a b e h d done todo hU hdup hmem S
    have hex:∃k,k<ops.size/\listed.getD k Tb=Tb:=by
      cases U with
      |nil=>cases hU
      |cons k U=>exact⟨k,(hmem k).1 ZB⟩
    refine⟨λhr=>?_,λi hi=>?_⟩
    · exfalso
      obtain⟨k,hk1,hk2,hk3⟩:=GQ hex
      have:k∈Region.ready .any ops listed:=mem_ready.2 ⟨by rw[<-hk2];simp[S.inv.size,hk1],ops[k],zal hk1,λx hx hb=>hk3 _ (qk hback k ops[k] hk1 (zal hk1) x hx hb)⟩
      grind
    · obtain⟨hun1,o,ho,hall⟩:=mem_ready.1 hi
      have hun:listed.getD i Tb=Tb:=getD_both hun1
      have hlt:i<ops.size:=(YV.1 ho).1
      obtain⟨hns,hgs⟩:=hgd i o ho
      have hils:i<listed.size:=by rw[S.inv.size];exact hlt
      have hU':(U.erase i).length=N:=by rw[List.length_erase_of_mem ((hmem i).2 ⟨hlt,hun⟩),hU];rfl
      have hdup':(U.erase i).Nodup:=hdup.erase i
      have hmem':∀k,k∈U.erase i↔k<ops.size/\(listed.setIfInBounds i Ta).getD k Tb=Tb:=λk=>by
        rw[hdup.mem_erase_iff,hmem k]
        by_cases hk:i=k
        · subst hk;simp[hils]
        · rw[getD_set_ne Tb hk];grind
      have inv':=S.inv.set hi hlt
      have hset:∀k,k≠i->(listed.setIfInBounds i Ta).getD k Tb=listed.getD k Tb:=λk hk=>getD_set_ne Tb (Ne.symm hk)
      have hsetI:(listed.setIfInBounds i Ta).getD i Tb=Ta:=by simp[hils]
      have hops:∀t∈tmpsOf o.op.operands.toList,qe a t=qe b t:=λt ht=>S.ag t λk ok hok hq hl hd=>by
        rcases hslot0 i o ho k t (YV.1 hok).1 (by rw[yo hok,hd]) ht with hw|hw
        grind [Jl]
        grind
      have hexec:=vm hns hops
      have hsame:∀v,Same (j8 ops.toList) a0 (a.put o.dst v):=λv=>S.sm.trans (Same.put a o.dst _ λt ht=>BL (by
          grind) t ht)
      unfold wpOp
      rw[ho]
      simp only
      have hwab:ZT o (yielded ops a.tmps)=ZT o (yielded ops b.tmps):=vR λt ht=>S.ag t λk ok hok hq hl hd=>by
        have hw:=Za hgs k t (YV.1 hok).1 (by rw[yo hok,hd]) ht
        grind [Jl]
      cases hq:X1 gq ops i with
      |false=>
        have hrdyG:∀m k ok,k<m->ops[k]?=Tc ok->X1 gq ops k=Tb->(∀p,Region.waitsFor .any ops k p=Ta->listed.getD p Tb=Ta)->k∈We gq ops done ops.size:=by
          intro m
          induction m with
          |zero=>omega
          |succ m ihm=>
            intro k ok hk hok hkh hkw
            refine tY (YV.1 hok).1 hkh (rV.2 λp hp hw=>⟨λhph=>?_,λhph=>?_⟩)
            · have hpl:=hkw p hw
              exact(S.ch p (mG.2 ⟨by grind,hph⟩)).1 hpl
            · have hps:p<ops.size:=by have:=(YV.1 hok).1;omega
              have hin:=ihm p ops[p] (by omega) (zal hps) hph λq hq2=>Zb S.inv (hkw p hw) hq2
              grind [wm,tY]
        have hrdy:=hrdyG (i+1) i o (by omega) ho hq λp hw=>Jl hi hw
        have hqx:=S.qx i o ho hrdy hun
        have hnot:i∉gC gq ops:=λhm=>by rw[(mG.1 hm).2]at hq;cases hq
        have hunset:∀k,(listed.setIfInBounds i Ta).getD k Tb=Tb->listed.getD k Tb=Tb:=λk hu=>by
          grind
        have hfin:wpAny P .any ops Q N (listed.setIfInBounds i Ta) (a.put o.dst (f i)) (mk B d h):=by
         refine ih _ _ f _ b e h d done todo hU' hdup' hmem' { S with inv:=inv',ag:=λs hs=>?_,sz:=by rw[size_put];exact S.sz,ad:=by rw[x7];exact S.ad,tt:=λj hj=>(by have:j≠i:=λe=>hnot (e ▸ hj);rw[hset j this];exact S.tt j hj),ch:=λj hj=>?_,qx:=λk ok hok hk hu=>S.qx k ok hok hk (hunset k hu),kp:=λk ok hok hl hkh hk=>?_,sm:=hsame _ }
         · by_cases hd:o.dst=Tc s
           · obtain⟨hv,hsn⟩:=S.qv i o s ho hrdy hd
             rw[hd,xo (by rw[S.sz];exact hsn),hv]
           · rw[wl hd]
             refine S.ag s λk ok hok hqk hlk=>?_
             grind
         · have:j≠i:=λe=>hnot (e ▸ hj)
           rw[hset j this];exact S.ch j hj
         · by_cases hki:k=i
           grind
           · rw[hset k hki]at hk;exact S.kp k ok hok hl hkh hk
        by_cases hw:ZT o (yielded ops a.tmps)=Ta
        · rw[zb hw]
          left
          unfold Oper.wp
          rw[hexec,hqx.1 (by grind) h (by
            cases hl:jj o with
            |false=>exact .inl hl
            |true=>exact S.kp i o ho hl hq hun (by grind)) B d,Oper.upon_value]
          exact hfin
        grind
      |true=>
        have hin:i∈gC gq ops:=mG.2 ⟨hlt,hq⟩
        have hit:i∈todo:=(S.tt i hin).2 hun
        obtain⟨fu,hfu,hW0⟩:=S.wt
        have hcl:∀p q,(listed.setIfInBounds i Ta).getD p Tb=Ta->Region.waitsFor .any ops p q=Ta->(listed.setIfInBounds i Ta).getD q Tb=Ta:=λp q h1 h2=>Zb inv' h1 h2
        have hcand:qY ops todo i=Ta:=by
          unfold qY
          rw[ZJ]
          intro k hk
          cases hki:Nat.beq k i with
          |true=>rfl
          |false=>
            have hne:k≠i:=λe=>by rw[e]at hki;simp at hki
            cases hr:memN (hY ops ops.size [i]) k with
            |false=>rfl
            |true=>
              exfalso
              have:=sW hcl (m:=ops.size) (S:=[i]) (λj hj=>by grind) k (Yy hr)
              rw[hset k hne]at this
              have h2:=(S.tt k (S.th k hk)).1 hk
              grind
        have hW:match ops[i]? with
            |some o=>(match Zi ops e o.guard with|some c=>bif wh n c o.dst then kd P o e c h λv h'=>wI P n h' Tb ops (λe'=>oL gq ops (i::done) e' h0 h' (kI gq P n ops h0 K (fu-1) (i::done) (fV i todo) e' h')) (iK (We gq ops done ops.size) (We gq ops (i::done) ops.size) ops.size) (putO e o.dst c v)else False|none=>False)
            |none=>False:=by
          cases fu with
          |zero=>grind
          |succ fu=>
            grind [SP]
        rw[ho]at hW
        simp only at hW
        cases hch:Zi ops e o.guard with
        |none=>grind
        |some c=>
        rw[hch]at hW
        simp only at hW
        cases hd:wh n c o.dst with
        |false=>grind
        |true=>
          rw[hd,zF]at hW
          have hwv:=Z5 S.sb hch
          have key:∀(v u:Value) (d':Nat) (h':zc),(valid (qe b) c->u=v)->(¬valid (qe b) c->u=undef)->wI P n h' Tb ops (λe'=>oL gq ops (i::done) e' h0 h' (kI gq P n ops h0 K (fu-1) (i::done) (fV i todo) e' h')) (iK (We gq ops done ops.size) (We gq ops (i::done) ops.size) ops.size) (putO e o.dst c v)->wpAny P .any ops Q N (listed.setIfInBounds i Ta) (a.put o.dst u) (mk B d' h'):=by
           intro v v2 d' h' hv1 hv0 hK
           have sb1:Sat n (putO e o.dst c v) (b.put o.dst v2):=S.sb.putO hd hv1 hv0
           generalize hbl:iK (We gq ops done ops.size) (We gq ops (i::done) ops.size) ops.size=bl at hK
           have hbm:∀k,k∈bl↔k<ops.size/\k∈We gq ops (i::done) ops.size/\k∉We gq ops done ops.size:=λk=>by rw[<-hbl];exact E2
           have hbsort:bl.Pairwise (· < ·):=by rw[<-hbl];exact G1 _ _ _
           have hbnd:bl.Nodup:=hbsort.imp λh=>by omega
           obtain⟨f',e2,HK,sb2,hf0,hfx⟩:=uM f hbnd hK sb1
           have hbf:=H5 hng hback hnd hsl (f:=f') (l:=bl) (b:=b.put o.dst v2) sb1.size (λk hk=>((hbm k).1 hk).1) (λk hk=>(wm ((hbm k).1 hk).2.1).2.1) hbsort hfx
           have hbnh:∀k∈bl,X1 gq ops k=Tb:=λk hk=>(wm ((hbm k).1 hk).2.1).2.1
           have hlist':∀j,j∈gC gq ops->((listed.setIfInBounds i Ta).getD j Tb=Ta↔j∈i::done):=λj hj=>by
             by_cases hji:j=i
             · subst hji;grind
             · rw[hset j hji,S.ch j hj];simp[hji]
           have hjl:∀j∈i::done,(listed.setIfInBounds i Ta).getD j Tb=Ta:=λj hj=>by
             rcases YS.1 hj with rfl|hj
             · exact hsetI
             · exact getD_set_true ((S.ch j (S.dn j hj)).2 hj)
           have hup:∀k,k∈hY ops ops.size (i::done)->(listed.setIfInBounds i Ta).getD k Tb=Ta:=λk hk=>sW hcl hjl k hk
           have hundone:i∉done:=λhm=>by rw[(S.ch i hin).2 hm]at hun;cases hun
           have hslot1:∀k ok,ops[k]?=Tc ok->k∈We gq ops done ops.size->listed.getD k Tb=Tb->∀t∈tmpsOf ok.op.operands.toList,qe (b.put o.dst v2) t=qe b t:=λk ok hok hk hu t ht=>wl λhdo=>by
             rcases hslot0 k ok hok i t hlt (by rw[yo ho,hdo]) ht with hw|hw
             · exact hundone ((qB hk (hbk k i hw) hw).1 hq)
             · rw[Jl hi hw.2]at hu;cases hu
           have hslot2:∀k ok,ops[k]?=Tc ok->k∈We gq ops done ops.size->listed.getD k Tb=Tb->∀t∈tmpsOf ok.op.operands.toList,qe (yq ops f' bl (b.put o.dst v2)) t=qe b t:=λk ok hok hk hu t ht=>by
             rw[jf λp hp hdp=>?_]
             · exact hslot1 k ok hok hk hu t ht
             · rcases hslot0 k ok hok p t ((hbm p).1 hp).1 hdp ht with hw|hw
               · exact((hbm p).1 hp).2.2 ((qB hk (hbk k p hw) hw).2 (hbnh p hp))
               · have:=hbnh p hp
                 grind
           have hslot3:∀k ok,ops[k]?=Tc ok->k∈We gq ops done ops.size->ZT ok (yielded ops (yq ops f' bl (b.put o.dst v2)).tmps)=ZT ok (yielded ops b.tmps):=λk ok hok hk=>vR λt ht=>by
             have hwt:∀p,p<ops.size->yz ops p=Tc t->Region.waitsFor .any ops k p=Ta:=λp hp hd=>Za (hgd k ok hok).2 p t hp hd ht
             rw[jf λp hp hdp=>((hbm p).1 hp).2.2 ((qB hk (hbk k p (hwt p ((hbm p).1 hp).1 hdp)) (hwt p ((hbm p).1 hp).1 hdp)).2 (hbnh p hp))]
             exact wl λhdo=>hundone ((qB hk (hbk k i (hwt i hlt (by rw[yo ho,hdo]))) (hwt i hlt (by rw[yo ho,hdo]))).1 hq)
           have hdist:∀k ok t,ops[k]?=Tc ok->k≠i->ok.dst=Tc t->o.dst≠Tc t:=λk ok t hok hki hdk hdo=>by
             have:=jw hnd k i t (YV.1 hok).1 hlt (by rw[yo hok,hdk]) (by rw[yo ho,hdo])
             exact hki this
           have hne_i:∀k,X1 gq ops k=Tb->k≠i:=λk hk e=>by rw[e,hq]at hk;cases hk
           have hQK:kI gq P n ops h0 K (fu-1) (i::done) (fV i todo) e2 h'/\(∀k ok,ops[k]?=Tc ok->jj ok=Ta->X1 gq ops k=Tb->(listed.setIfInBounds i Ta).getD k Tb=Tb->ZT ok (yielded ops (yq ops f' bl (b.put o.dst v2)).tmps)=Ta->LdOK ok (yq ops f' bl (b.put o.dst v2)).eval h0 h'):=by
             unfold oL at HK
             cases hl:oC gq ops (hY ops ops.size (i::done)) ops.size with
             |false=>
               rw[hl,zG]at HK
               exact⟨HK,λk ok hok hlo hkh hf _=>by rw[hup k (G6 hl k ok (YV.1 hok).1 hok hlo hkh)]at hf;cases hf⟩
             |true=>
               rw[hl,zF]at HK
               obtain⟨g1,g2⟩:=C5 HK
               refine⟨g1,λk ok hok hlo hkh hf hw=>.inr (.inr λt a p hop hp=>?_)⟩
               obtain⟨t',a',p',c',g',e1,ec,eg,e2',e3,e4⟩:=g2 k ok (YV.1 hok).1 hok hlo hkh (λhm=>by rw[hup k hm]at hf;cases hf)
               rw[hop]at e1
               injection e1 with _ e1
               subst e1
               have hvc:=(Z5 sb2 ec).1 hw
               have eb:(yq ops f' bl (b.put o.dst v2)).eval a=gB e2 c' a:=Wd sb2 hvc e2' a (by simp)
               rw[eb,e3]at hp
               injection hp with hp
               injection hp with hp
               rw[<-hp];exact e4.out (Q8 sb2 eg hvc)
           have htt:∀j,j∈gC gq ops->(j∈fV i todo↔(listed.setIfInBounds i Ta).getD j Tb=Tb):=λj hj=>by
             rw[pO]
             by_cases hji:j=i
             · subst hji;rw[hsetI];simp
             · rw[hset j hji,<-S.tt j hj];simp;omega
           refine ih _ _ f' _ (yq ops f' bl (b.put o.dst v2)) e2 h' d' (i::done) (fV i todo) hU' hdup' hmem' ⟨inv',λs hs=>?_,by rw[size_put];exact S.sz,by rw[x7];exact S.ad,sb2,λk ok t hok hk hdk=>?_,λk ok hok hk hu=>?_,htt,hlist',(λj hj=>by
             rcases YS.1 hj with rfl|hj
             · exact hin
             · exact S.dn j hj),(λj hj=>S.th j (pO.1 hj).1),ud S.nd,⟨fu-1,by have:=Fj hit;omega,hQK.1⟩,hQK.2,hsame _⟩
           · -- slots
             have hs':∀k ok,ops[k]?=Tc ok->X1 gq ops k=Tb->listed.getD k Tb=Tb->ok.dst≠Tc s:=λk ok hok hqk hlk=>hs k ok hok hqk (by rw[hset k (hne_i k hqk)];exact hlk)
             have hbl:∀p∈bl,yz ops p≠Tc s:=λp hp hdp=>by
               have hps:=((hbm p).1 hp).1
               have hok:ops[p]?=Tc ops[p]:=zal hps
               have hph:=hbnh p hp
               refine hs p _ hok hph ?_ (by rw[<-yo hok];exact hdp)
               cases hlp:(listed.setIfInBounds i Ta).getD p Tb with
               |false=>rfl
               |true=>
                 exfalso
                 rw[hset p (hne_i p hph)]at hlp
                 have:∀m q,q<m->q<ops.size->X1 gq ops q=Tb->listed.getD q Tb=Ta->q∈We gq ops done ops.size:=by
                   intro m
                   induction m with
                   |zero=>omega
                   |succ m ihm=>
                     intro q hqm hqs hqh hql
                     refine tY hqs hqh (rV.2 λp2 hp2 hw2=>⟨λhph2=>?_,λhph2=>?_⟩)
                     · exact(S.ch p2 (mG.2 ⟨by omega,hph2⟩)).1 (Zb S.inv hql hw2)
                     · have hin2:=ihm p2 (by omega) (by omega) hph2 (Zb S.inv hql hw2)
                       obtain⟨_,g2,g3⟩:=wm hin2
                       exact tY hp2 g2 g3
                 exact((hbm p).1 hp).2.2 (this (p+1) p (by omega) hps hph hlp)
             rw[jf hbl]
             by_cases hds:o.dst=Tc s
             · rw[hds]
               have hsn:s<n:=by
                 rw[hds]at hd
                 unfold wh at hd
                 simp at hd;exact hd.2
               rw[xo (by rw[S.sz];exact hsn),xo (by rw[S.sb.size];exact hsn)]
             · rw[wl hds,wl hds];exact S.ag s hs'
           · by_cases hkb:k∈bl
             · exact(hbf k ok hok hkb).1 t hdk
             · have hk0:k∈We gq ops done ops.size:=zb3 λhc=>hkb ((hbm k).2 ⟨(YV.1 hok).1,hk,hc⟩)
               have hkh:=(wm hk0).2.1
               obtain⟨q1,q2⟩:=S.qv k ok t hok hk0 hdk
               refine⟨?_,q2⟩
               rw[jf λp hp hdp=>?_,wl (hdist k ok t hok (hne_i k hkh) hdk),q1,hf0 k hkb]
               have:=jw hnd p k t ((hbm p).1 hp).1 (YV.1 hok).1 hdp (by rw[yo hok,hdk])
               subst this;exact hkb hp
           · by_cases hkb:k∈bl
             · obtain⟨_,q2,q3,q4⟩:=hbf k ok hok hkb
               exact⟨λhw h'' _=>q3 hw h'' (.inl (q2 rfl)),q4⟩
             · have hk0:k∈We gq ops done ops.size:=zb3 λhc=>hkb ((hbm k).2 ⟨(YV.1 hok).1,hk,hc⟩)
               have hu0:listed.getD k Tb=Tb:=by rw[<-hset k (hne_i k (wm hk0).2.1)];exact hu
               have hx:=S.qx k ok hok hk0 hu0
               rw[hslot3 k ok hok hk0,hf0 k hkb,vm (b:=b) (hgd k ok hok).1 (hslot2 k ok hok hk0 hu0)]
               exact⟨λhw h'' hh=>hx.1 hw h'' (LdOK.congr (λx hx=>(sK (hslot2 k ok hok hk0 hu0) x hx).symm) hh),hx.2⟩
          by_cases hv:valid (qe b) c
          · rw[zb (by grind)]
            left
            unfold Oper.wp
            rw[hexec]
            refine OQ (b:=b) S.sb.defers ?_
            refine F3 hW S.sb hv B d λv d' h' hK=>⟨by rw[x7];exact S.sb.defers,λv2 hv2=>?_⟩
            have hbv:b.put o.dst v2=b.put o.dst v:=hv2.symm
            by_cases hds:∃t,o.dst=Tc t
            · obtain⟨t,ht⟩:=hds
              have htn:t<n:=by
                have hd2:=hd
                rw[ht]at hd2
                unfold wh at hd2
                simp at hd2;exact hd2.2
              have:v2=v:=by
                have e1:qe (b.put o.dst v2) t=qe (b.put o.dst v) t:=by rw[hbv]
                rw[ht,xo (by rw[S.sb.size];exact htn),xo (by rw[S.sb.size];exact htn)]at e1
                exact e1
              grind
            · have hdn:o.dst=Td:=by
                cases hdx:o.dst with
                |none=>rfl
                |some t=>grind
              have e1:a.put o.dst v2=a.put o.dst v:=by rw[hdn];rfl
              grind
          · rw[za (by grind)]
            obtain⟨v,hK⟩:=EO hW S.sb hv
            grind
theorem Nf(hi:i<ops.size)(b:i<gq-1):X1 gq ops i=Tb:=by
 unfold X1;rw[zal hi];simp only;have c:Nat.blt i (gq-1)=Ta:=by rw[zbj];exact b
 rw[c,zF]
def oH(n:Nat)(ops:Array Oper):Nat->Bool
 |0=>Ta
 |c+1=>bif (match yz ops c with
  |some t=>Nat.blt t n
  |none=>Ta)then oH n ops c else Tb
theorem CH{n:Nat}{ops:Array Oper}:∀{c:Nat},oH n ops c=Ta->∀i t,i<c->yz ops i=Tc t->t<n
 |0,_,i,_,hi,_=>by omega
 |c+1,h,i,t,hi,hd=>by
  unfold oH at h;cases hb:(match yz ops c with
   |some t=>Nat.blt t n
   |none=>Ta)with
  |false=>simp_all
  |true=>
   rw[hb,zF]at h;rcases zad i c with h1|h1;exact CH h i t h1 hd;have:i=c:=by omega
   subst this;rw[hd]at hb;rw[zbj]at hb;exact hb
def lF(P:Program)(n gq:Nat)(ops:Array Oper)(h:zc)(K:aR->zc->Prop)(e:aR):Prop:=
 bif (bif oK gq ops then oH n ops (gq-1)else Tb)then wI P n h Ta ops (λe'=>kI gq P n ops h K (gC gq ops).length [] (gC gq ops) e' h) (iK (zak (gq-1)) (We gq ops [] ops.size) ops.size) e else False
theorem Aj{K:aR->zc->Prop}{Q:Exit->Act->World->Prop}(B:World) (H:lF P n gq ops h K e) (hs:Sat n e a) (hQ:∀e' a' d' h',Sat n e' a'->Same (j8 ops.toList) a a'->K e' h'->Q .normal a' (mk B d' h')) (d:Nat) {listed:Array Bool} (aj:listed.size=ops.size) (hl:∀k,k<ops.size->listed.getD k Tb=decide (k<gq-1)):
  wpAny P .any ops Q (ops.size-(gq-1)) listed a (mk B d h):=by
 unfold lF at H;cases hmix:oK gq ops with
 |false=>rw[hmix]at H;exact H.elim
 |true=>
 cases hdl:oH n ops (gq-1)with
 |false=>rw[hmix,hdl]at H;exact H.elim
 |true=>
 rw[hmix,hdl]at H;simp only[zF]at H;obtain⟨ab,w,U,af⟩:=G8 hmix;have q:∀k,k∈iK (zak (gq-1)) (We gq ops [] ops.size) ops.size↔k∈We gq ops [] ops.size/\¬k<gq-1:=λk=>by rw[E2,zbc];exact⟨λh=>⟨h.2.1,h.2.2⟩,λh=>⟨(wm h.1).1,h⟩⟩
 have r:=G1 (zak (gq-1)) (We gq ops [] ops.size) ops.size;generalize iK (zak (gq-1)) (We gq ops [] ops.size) ops.size=bl at H q r;have J:bl.Nodup:=r.imp λh=>by omega
 obtain⟨f,e2,HK,ah,ai,ak⟩:=uM (λi=>match yz ops i with|some t=>qe a t|none=>undef) J H hs;have G:=H5 ab w U af (f:=f) (l:=bl) (b:=a) hs.size (λk A=>(wm ((q k).1 A).1).1) (λk A=>(wm ((q k).1 A).1).2.1) r ak;have V:∀k,k<ops.size->listed.getD k Tb=Tb->¬k<gq-1:=λk A h=>by rw[hl k A]at h;exact zC h
 have z:∀k,k<ops.size->¬k<gq-1->listed.getD k Tb=Tb:=λk A h=>by rw[hl k A];exact zE h
 have L:∀s,(∀i o,ops[i]?=Tc o->X1 gq ops i=Tb->listed.getD i Tb=Tb->o.dst≠Tc s)->qe a s=qe (yq ops f bl a) s:=λs ae=>(jf λp F y=>by have Y:=(wm ((q p).1 F).1).1;have Z:ops[p]?=Tc ops[p]:=zal Y;exact ae p _ Z (wm ((q p).1 F).1).2.1 (z p Y ((q p).1 F).2) (by rw[<-yo Z];exact y)).symm;have aa:∀j,j∈gC gq ops->listed.getD j Tb=Tb:=λj u=>by obtain⟨h1,E⟩:=mG.1 u;refine z j h1 λhc=>?_;rw[Nf h1 hc]at E;cases E
 have N:((zak ops.size).filter λk=>decide (¬k<gq-1)).length=ops.size-(gq-1):=by
  generalize gq-1=c;generalize ops.size=m;induction m with
  |zero=>simp
  |succ m ih=>rw[List.range_succ,List.filter_append,ZC,ih];by_cases hm:m<c;have e:decide (¬m<c)=Tb:=zE λh=>h hm;rw[zb9,e];show m-c+0=m+1-c;omega;have e:decide (¬m<c)=Ta:=zD hm;rw[zb9,e];show m-c+1=m+1-c;omega
 refine Ua B hmix hQ (ops.size-(gq-1)) ((zak ops.size).filter λk=>decide (¬k<gq-1)) _ f a (yq ops f bl a) e2 h d [] (gC gq ops) N (List.nodup_range.filter _) (λk=>by rw[zcq,zbc];constructor;rintro⟨h1,E⟩;exact⟨h1,z k h1 (zB E)⟩;rintro⟨h1,E⟩;exact⟨h1,zD (V k h1 E)⟩) ⟨⟨aj,λj oj u S x hx hb=>?_,λt ht an=>by omega⟩,L,hs.size,hs.defers,ah,λi o t O hi hd=>?_,λi o O hi hu=>(G i o O ((q i).2 ⟨hi,V i (wm hi).1 hu⟩)).2.2,(λj u=>by rw[aa j u];simp[u]),(λj u=>by rw[aa j u];simp),(λj u=>by cases u),(λj u=>u),QT ops,⟨_,YM _,HK⟩,λ_ _ _ _ _ _=>λ_=>.inr (.inl (Keep.refl _ _)),Same.refl _ _⟩;have I:=(YV.1 u).1;rw[hl j I]at S;have ap:=zB S;have am:=qk w j oj I u x hx hb;rw[hl _ (by omega)];exact zD (by omega);by_cases C:i<gq-1;have M:i∉bl:=λhm=>((q i).1 hm).2 C;have D:yz ops i=Tc t:=by rw[yo O,hd]
 refine⟨?_,CH hdl i t C D⟩;rw[ai i M,jf λp F y=>?_];rw[D];have:=jw U p i t (wm ((q p).1 F).1).1 (YV.1 O).1 y D;exact M (this ▸ F);exact(G i o O ((q i).2 ⟨hi,C⟩)).1 t hd
theorem Ej{K:aR->zc->Prop}{Q:Exit->Act->World->Prop}(B:World)(b:gq-1=0) (H:lF P n gq ops h K e) (i:Sat n e a)
  (c:∀e' a' f h',Sat n e' a'->Same (j8 ops.toList) a a'->K e' h'->Q .normal a' (mk B f h')) (d:Nat):wpAny P .any ops Q ops.size (zar ops.size Tb) a (mk B d h):=by
 have:=Aj (gq:=gq) B H i c d (listed:=zar ops.size Tb) (by simp) λk l=>by rw[getD_replicate_false,b];simp
 rw[b]at this;exact this
def wT:List (Nat×Nat)->Nat->Option Nat
 |[],_=>Td
 |(j,m)::l,i=>bif Nat.beq i j then Tc m else wT l i
def regionF(P:Program)(n:Nat)(c:List (Nat×Nat))(id:Nat)(ops:Array Oper)(b:Bool)(K:aR->zc->Prop)(e:aR)(h:zc):Prop:=
 bif b then(match wT c id with
  |none=>bif Region.lexB .any ops then wQ P n ops h Ta (λe'=>K (clean e') h) ops.toList e else False
  |some m=>lF P n (bif Nat.beq m 7000 then 1 else 0) ops h (λe h=>K (clean e) h) e)
 else wR P n ops K ops.toList e h
theorem Zz(l m:List Oper):j8 (l++m)=j8 l++j8 m:=by
 induction l with
 |nil=>rfl
 |cons o l b=>simp only[zaq,j8];split <;> simp[b]
theorem GX(p:P.follows .mixedOrders=Ta){q:List (Nat×Nat)}{id:Nat}{b:Bool}{K:aR->zc->Prop} (H:regionF P n q id ops b K e h) (B:World) (d:Nat) (f:Sat n e a) {Q:Exit->Act->World->Prop}
  (i:∀e' a' c h',Sat n e' a'->Same (j8 ops.toList) a a'->K e' h'->Q .normal a' (mk B c h')):(zc3 id ops b).wp P Q a (mk B d h):=by
 unfold regionF at H;cases b with
 |false=>exact wp_region_list (oF B _ _ _ _ _ H f i)
 |true=>
  simp only[zF]at H;split at H;cases hB:Region.lexB .any ops with
  |false=>rw[hB]at H;exact H.elim
  |true=>rw[hB]at H;refine wp_region_quiet (C:=λw=>∃d,w=mk B d h) p hB ⟨d+1,rfl⟩ ?_;refine BZ B _ _ _ H f λe' a' k o l=>?_;rintro w' ⟨c,rfl⟩;exact i _ _ _ _ k.clean o l
  rename_i m _;exact wp_region_any p (Ej B (by cases Nat.beq m 7000 <;> rfl) H f (λe' a' c h' k o l=>i _ _ _ _ k.clean o l) (d+1))
end
section
variable {P:Program} {ops:Array Oper} {i c c':Nat}
def uO(Q:Exit->Act->World->Prop)(N:Act->World->Prop):Exit->Act->World->Prop
 |.normal,a,w=>N a w
 |.ret,a,w=>Q .ret a w
 |.exit i,a,w=>Q (.exit i) a w
 |.goto l,a,w=>Q (.goto l) a w
 |.panic c,a,w=>Q (.panic c) a w
 |.outgrown,a,w=>Q .outgrown a w
theorem MB{ops c:Array Oper}{Q:Exit->Act->World->Prop}{N:Act->World->Prop}{a:Act}{w:World}{K k:Act->World->Prop}(m:c[i]?=ops[i]?)
  (l:∀o,ops[i]?=Tc o->ZT o (yielded c a.tmps)=ZT o (yielded ops a.tmps)) (h:∀a w,k a w->K a w) (b:wpOp P c (uO Q N) i k a w):wpOp P ops Q i K a w:=by
 replace b:=wpOp_mono h b
 unfold wpOp at b ⊢;rw[m]at b;cases e:ops[i]? with
 |none=>rw[e]at b;exact b
 |some o=>
  rw[e]at b;simp only at b ⊢;rw[l o e]at b;by_cases f:ZT o (yielded ops a.tmps)=Ta;rw[zb f]at b ⊢;refine b.imp (λh1=>?_) λ⟨h1,a',w',p⟩=>⟨h1,a',w',p⟩;unfold Oper.wp at h1 ⊢;generalize (execOp a.eval o).run P w=r at *;cases r with
  |ok n w'=>cases n <;> simp only[Oper.upon]at h1 ⊢ <;> first|exact h1|exact Calls.mono h1 λe q s=>by cases e <;> exact s
  |halt x w'=>cases x <;> simp only[Oper.upon]at h1 ⊢ <;> exact h1
  rw[za f]at b ⊢;exact b
def takeA(ops:Array Oper)(c:Nat):Array Oper:=(ops.toList.take c).toArray
theorem xJ(h:i<c):(takeA ops c)[i]?=ops[i]?:=by unfold takeA;rw[zb4,ZQ,zb h,zav]
theorem TD(h:c<=ops.size):(takeA ops c).size=c:=by unfold takeA;simp;omega
def mu(ops:Array Oper)(c:Nat):Nat->Bool
 |0=>Ta
 |m+1=>bif (match ops[m]? with
  |some o=>(match o.guard with
   |some (j,_)=>Nat.blt j c
   |none=>Ta)
  |none=>Ta)then mu ops c m else Tb
theorem Gw{ops:Array Oper}{c:Nat}:∀{m:Nat},mu ops c m=Ta->∀i o j b,i<m->ops[i]?=Tc o->o.guard=Tc (j,b)->j<c
 |0,_,i,_,_,_,hi,_,_=>by omega
 |m+1,h,i,o,j,b,hi,ho,hg=>by
  unfold mu at h;cases hb:(match ops[m]? with
   |some o=>(match o.guard with
    |some (j,_)=>Nat.blt j c
    |none=>Ta)
   |none=>Ta)with
  |false=>simp_all
  |true=>
   rw[hb,zF]at h;rcases zad i m with h1|h1;exact Gw h i o j b h1 ho hg;have:i=m:=by omega
   subst this;rw[ho]at hb;simp only[hg]at hb;rw[zbj]at hb;exact hb
def mi(ops:Array Oper)(c i:Nat):Nat->Bool
 |0=>Tb
 |m+1=>bif (bif Nat.ble c (m+1)then Region.waitsFor .any ops i m else Tb)then Ta else mi ops c i m
theorem Ci{ops:Array Oper}{c i:Nat}:∀{m:Nat},mi ops c i m=Ta->∃k,k<m/\c<=k+1/\Region.waitsFor .any ops i k=Ta
 |0,h=>by cases h
 |m+1,h=>by
  unfold mi at h;cases hb:(bif Nat.ble c (m+1)then Region.waitsFor .any ops i m else Tb)with
  |true=>
   cases h1:Nat.ble c (m+1)with
   |false=>rw[h1]at hb;cases hb
   |true=>rw[h1,zF]at hb;exact⟨m,by omega,zaw h1,hb⟩
  |false=>rw[hb,zG]at h;obtain⟨k,h1,b⟩:=Ci h;exact⟨k,by omega,b⟩
def mO(ops:Array Oper)(c:Nat):Nat->Bool
 |0=>Ta
 |m+1=>bif (bif Nat.blt m c then Ta else mi ops c m m)then mO ops c m else Tb
theorem D3{ops:Array Oper}{c:Nat}:∀{m:Nat},mO ops c m=Ta->∀i,i<m->c<=i->mi ops c i i=Ta
 |0,_,i,hi,_=>by omega
 |m+1,h,i,hi,hc=>by
  unfold mO at h;cases hb:(bif Nat.blt m c then Ta else mi ops c m m)with
  |false=>rw[hb]at h;cases h
  |true=>
   rw[hb,zF]at h;rcases zad i m with h1|h1;exact D3 h i h1 hc;have:i=m:=by omega
   subst this;cases h2:Nat.blt i c with
   |true=>rw[zbj]at h2;omega
   |false=>rw[h2,zG]at hb;exact hb
def pw(S:List Nat):Nat->Bool
 |0=>Ta
 |m+1=>bif memN S m then pw S m else Tb
theorem Gq{S:List Nat}:∀{m:Nat},pw S m=Ta->∀j,j<m->j∈S
 |0,_,j,hj=>by omega
 |m+1,h,j,hj=>by
  unfold pw at h;cases hb:memN S m with
  |false=>rw[hb]at h;cases h
  |true=>
   rw[hb,zF]at h;rcases zad j m with h1|h1;exact Gq h j h1;have:j=m:=by omega
   exact this ▸ Yy hb
def mJ(ops:Array Oper)(c c':Nat):Bool:=
 bif (bif Nat.blt c c' then Nat.ble c' ops.size else Tb)then(bif y9 ops ops.size then(bif mu ops c' c' then(bif mO ops c' ops.size then pw (hY ops ops.size [c'-1]) c' else Tb)else Tb)else Tb)else Tb
theorem xQ(h:mJ ops c c'=Ta):c<c'/\c'<=ops.size/\y9 ops ops.size=Ta/\mu ops c' c'=Ta/\mO ops c' ops.size=Ta/\pw (hY ops ops.size [c'-1]) c'=Ta:=by
 unfold mJ at h;cases h1:Nat.blt c c' with
 |false=>rw[h1]at h;cases h
 |true=>
 cases h2:Nat.ble c' ops.size with
 |false=>rw[h1,h2]at h;cases h
 |true=>
 cases h3:y9 ops ops.size with
 |false=>rw[h1,h2,h3]at h;cases h
 |true=>
 cases h4:mu ops c' c' with
 |false=>rw[h1,h2,h3,h4]at h;cases h
 |true=>
 cases h5:mO ops c' ops.size with
 |false=>rw[h1,h2,h3,h4,h5]at h;cases h
 |true=>
 rw[h1,h2,h3,h4,h5]at h;rw[zbj]at h1;exact⟨h1,zaw h2,rfl,rfl,rfl,h⟩
theorem QR(x:mJ ops c c'=Ta){listed:Array Bool}(inv:HeadInv .any ops ops.size listed):∀(m i:Nat),i<m->c'<=i->i<ops.size->(∀p,Region.waitsFor .any ops i p=Ta->listed.getD p Tb=Ta)->∀j,j<c'->listed.getD j Tb=Ta:=by
 obtain⟨h1,z,A,B,w,q⟩:=xQ x;have last:listed.getD (c'-1) Tb=Ta->∀j,j<c'->listed.getD j Tb=Ta:=λo j t=>
  sW (λi p a b=>Zb inv a b) (λk e=>by rw[zaf]at e;rw[e];exact o) j (Gq q j t)
 intro m;induction m with
 |zero=>intro i hi;omega
 |succ m u=>intro i hi f h n;obtain⟨k,y,k2,s⟩:=Ci (D3 w i h f);have e:=n k s;by_cases r:k+1=c';exact last (by rw[show c'-1=k by omega];exact e);exact u k (by omega) (by omega) (by omega) λp l=>Zb inv e l
theorem CM(c:Nat):∀m:Nat,((zak m).filter λk=>decide (¬k<c)).length=m-c
 |0=>by simp
 |m+1=>by rw[List.range_succ,List.filter_append,ZC,CM c m];by_cases b:m<c;have e:decide (¬m<c)=Tb:=zE λh=>h b;rw[zb9,e];show m-c+0=m+1-c;omega;have e:decide (¬m<c)=Ta:=zD b;rw[zb9,e];show m-c+1=m+1-c;omega
theorem WT{Q:Exit->Act->World->Prop}{c c' M:Nat}(hc:mJ ops c c'=Ta):
  ∀(N:Nat) (U:List Nat) (listed e:Array Bool) (a:Act) (w:World),U.length=N->U.Nodup->(∀k,k∈U↔k<c'/\listed.getD k Tb=Tb)->e.size=c'->(∀k,k<c'->e.getD k Tb=listed.getD k Tb)->(∀k,c'<=k->k<ops.size->listed.getD k Tb=Tb) -> HeadInv .any ops ops.size listed -> wpAny P .any (takeA ops c') (uO Q λa w=>∀L:Array Bool,L.size=ops.size->(∀k,k<ops.size->L.getD k Tb=decide (k<c'))->wpAny P .any ops Q M L a w) N e a w->wpAny P .any ops Q (N+M) listed a w:=by
 obtain⟨h1,h2,h3,h4,h5,h6⟩:=xQ hc;intro N;induction N with
 |zero=>
  intro U listed e a w J C f l s q inv H;have Y:U=[]:=zau.1 J;rw[ZP];refine H.2 listed inv.size λk h=>?_;by_cases B:k<c';rw[zD B];cases hl:listed.getD k Tb with
  |true=>rfl
  |false=>have:=(f k).2 ⟨B,hl⟩;rw[Y]at this;cases this
  rw[zE B];exact q k (by omega) h
 |succ N ih=>
  intro U listed e a w J C f l s q inv H;obtain⟨u,V,D⟩:∃k,k<c'/\listed.getD k Tb=Tb:=by
   cases U with
   |nil=>cases J
   |cons k U=>exact⟨k,(f k).1 ZB⟩
  rw[show N+1+M=(N+M)+1 by omega];refine⟨λhr=>?_,λi hi=>?_⟩;exfalso;obtain⟨k,r,S,ae⟩:=GQ (p:=λk=>listed.getD k Tb) (N:=ops.size) ⟨u,by omega,D⟩;have:k∈Region.ready .any ops listed:=mem_ready.2 ⟨by rw[<-S];simp[inv.size,r],ops[k],zal r,λx O I=>ae _ (qk h3 k ops[k] r (zal r) x O I)⟩;rw[hr]at this;cases this;obtain⟨E,o,ho,G⟩:=mem_ready.1 hi;have F:listed.getD i Tb=Tb:=getD_both E;have t:i<ops.size:=(YV.1 ho).1;have m:i<c':=by refine zb3 λhn=>?_;have:=QR hc inv (i+1) i (by omega) (by omega) t (λp hp=>Jl hi hp) u V;rw[D]at this;cases this
  have aa:i∈Region.ready .any (takeA ops c') e:=mem_ready.2 ⟨getD_in (by omega) (by rw[s i m];exact F),o,by rw[xJ m];exact ho,λx O I=>by have af:=qk h3 i o t ho x O I;rw[s _ (by omega)];exact G x O I⟩;refine MB (xJ m) (λo' ab=>?_) (λa' w' hK=>?_) (H.2 i aa);unfold ZT;cases hg:o'.guard with
  |none=>rfl
  |some jb=>obtain⟨j,b⟩:=jb;have hj:=Gw h4 i o' j b m ab hg;simp only[yielded,xJ hj]
  have y:i<listed.size:=by rw[inv.size];exact t
  have n:∀k,k≠i->(listed.setIfInBounds i Ta).getD k Tb=listed.getD k Tb:=λk h=>getD_set_ne Tb (Ne.symm h);have A:∀k,k≠i->(e.setIfInBounds i Ta).getD k Tb=e.getD k Tb:=λk h=>getD_set_ne Tb (Ne.symm h);refine ih (U.erase i) _ _ a' w' (by rw[List.length_erase_of_mem ((f i).2 ⟨m,F⟩),J];rfl) (C.erase i) (λk=>?_) (by simpa using l) (λk h=>?_) (λk h Z=>by rw[n k (by omega)];exact q k h Z) (inv.set hi t) hK;rw[C.mem_erase_iff,f k];by_cases h:k=i;subst h;simp[y];rw[n k h];simp[h];by_cases z:k=i;subst z;simp[y,l,h];rw[n k z,A k z];exact s k h
end
section
variable {n:Nat} {e:aR} {a:Act} {ms:List Nat} {ops:Array Oper} {P:Program} {h:zc} {R:Value -> zc -> Prop} {f:FuncId}
@[reducible] def gY:List Atom->Type->Type
 |[],X=>X
 |t::l,X=>t.den->gY l X
def oJ{X:Type}:(l:List Atom)->gY l X->(List Value->X->Prop)->Prop
 |[],f,k=>k [] f
 |t::l,f,k=>∀x:t.den,oJ l (f x) λvs y=>k (t.enc x::vs) y
def fO{X:Type}:(l:List Atom)->List Value->gY l X->Option X
 |[],[],f=>Tc f
 |t::l,v::vs,f=>match t.dec v with
  |some x=>fO l vs (f x)
  |none=>Td
 |_,_,_=>Td
def kU{X:Type}:(l:List Atom)->(List Value->X)->gY l X
 |[],f=>f []
 |t::l,f=>λx=>kU l λvs=>f (t.enc x::vs)
def lq{X Y:Type}:(l:List Atom)->gY l X->gY l Y->gY l (X×Y)
 |[],f,g=>(f,g)
 |_::l,f,g=>λx=>lq l (f x) (g x)
theorem tI{X:Type}:∀{l:List Atom} {vs:List Value} {f:gY l X} {x:X} {k:List Value->X->Prop},fO l vs f=Tc x->oJ l f k->k vs x
 |[],[],f,x,k,h,g=>by simp only[fO,YL]at h;subst h;exact g
 |[],_::_,f,x,k,h,g=>by simp[fO]at h
 |_::_,[],f,x,k,h,g=>by simp[fO]at h
 |t::l,v::vs,f,x,k,h,g=>by simp only[fO]at h;split at h;rename_i y b;have:=tI h (g y);grind [Atom.enc_of_dec];cases h
theorem pU{X:Type}:∀{l:List Atom} {vs:List Value} {f:List Value->X} {x:X},fO l vs (kU l f)=Tc x->x=f vs
 |[],[],f,x,h=>by simp only[fO,kU,YL]at h;exact h.symm
 |[],_::_,f,x,h=>by simp[fO]at h
 |_::_,[],f,x,h=>by simp[fO]at h
 |t::l,v::vs,f,x,h=>by simp only[fO,kU]at h;split at h;rename_i y b;have:=pU h;grind [Atom.enc_of_dec];cases h
theorem qV{X:Type}:∀{l:List Atom} {f:List Value->X} {k:List Value->X->Prop},(∀vs,k vs (f vs))->oJ l (kU l f) k
 |[],_,_,h=>h []
 |_::_,_,_,h=>λ_=>qV λ_=>h _
abbrev fD:=List (Nat×VT)
def jr:fD->List Atom
 |[]=>[]
 |(_,.one t)::J=>t::jr J
 |(_,.agg l)::J=>l++jr J
def X3(σ:Nat->Option Value):fD->Option (List Value)
 |[]=>Tc []
 |(i,.one _)::J=>match σ i,X3 σ J with
  |some v,some vs=>Tc (v::vs)
  |_,_=>Td
 |(i,.agg l)::J=>match σ i,X3 σ J with
  |some (.agg cs),some vs=>bif Nat.beq cs.toList.length l.length then Tc (cs.toList++vs)else Td
  |_,_=>Td
def Z7:fD->List Value->aR
 |[],_=>[]
 |(i,.one _)::J,v::vs=>(i,[],v)::Z7 J vs
 |(_,.one _)::_,[]=>[]
 |(i,.agg l)::J,vs=>(i,[],.agg (vs.take l.length).toArray)::Z7 J (vs.drop l.length)
def jO(e:aR)(i:Nat):Option Value:=match look e i with
 |some ([],v)=>Tc v
 |_=>Td
theorem Ya(h:Sat n e a){i:Nat}{v:Value}(b:jO e i=Tc v):qe a i=v:=by unfold jO at b;split at b;rename_i u c;simp only[YL]at b;subst b;exact(h.all _ (mr c)).1 trivial;cases b
theorem yg{n:Nat}{e:aR}{a:Act}(h:Sat n e a):∀{J:fD} {vs:List Value},X3 (jO e) J=Tc vs->X3 (λi=>Tc (qe a i)) J=Tc vs
 |[],vs,hv=>hv
 |(i,.one t)::J,vs,hv=>by simp only[X3]at hv ⊢;split at hv;rename_i v us h1 b;simp only[yg h b,Ya h h1];exact hv;cases hv
 |(i,.agg l)::J,vs,hv=>by simp only[X3]at hv ⊢;split at hv;rename_i cs us h1 b;simp only[yg h b,Ya h h1];exact hv;cases hv
theorem wB{σ:Nat->Value}:∀{J:fD} {vs:List Value},X3 (λi=>Tc (σ i)) J=Tc vs->∀x∈Z7 J vs,fact σ x
 |[],vs,_,x,b=>by cases b
 |(i,.one t)::J,vs,hv,x,b=>by simp only[X3]at hv;split at hv;rename_i v us h1 e;simp only[YL]at h1 hv;subst hv;simp only[Z7,YS]at b;rcases b with rfl|b;exact⟨λ_=>h1,λf=>absurd trivial f⟩;exact wB e x b;cases hv
 |(i,.agg l)::J,vs,hv,x,b=>by
  simp only[X3]at hv;split at hv;rename_i cs us h1 e;simp only[YL]at h1;cases hb:Nat.beq cs.toList.length l.length with
  |false=>simp_all
  |true=>rw[hb]at hv;simp only[zF,YL]at hv;subst hv;have c:cs.toList.length=l.length:=YT hb;simp only[Z7,YS]at b;rcases b with rfl|b;refine⟨λ_=>?_,λf=>absurd trivial f⟩;simp_all;rw[<-c,List.drop_left]at b;exact wB e x b
  cases hv
def Yt(ms:List Nat):aR->aR
 |[]=>[]
 |(i,[],v)::e=>bif memN ms i then Yt ms e else(i,[],v)::Yt ms e
 |(_,_::_,_)::e=>Yt ms e
theorem Pj{x:Nat×qc×Value}(h:x∈Yt ms e):x∈e/\x.2.1=[]/\x.1∉ms:=by
 induction e with
 |nil=>cases h
 |cons y e b=>
  obtain⟨i,c,v⟩:=y;cases c with
  |nil=>
   simp only[Yt]at h;cases hm:memN ms i with
   |true=>simp_all
   |false=>rw[hm]at h;simp only[zG]at h;rcases YS.1 h with rfl|h;exact⟨ZB,rfl,Q2 hm⟩;simp_all
  |cons g c=>simp only[Yt]at h;simp_all
theorem Jm{a f:Act}(o:Sat n e a)(k:f.defers=[])(r:f.tmps.size=n)(b:Same ms a f){J:fD}{vs:List Value}
  (q:X3 (λi=>Tc (qe f i)) J=Tc vs):Sat n (Z7 J vs++Yt ms e) f:=by
 refine⟨k,r,λx c=>?_⟩;rcases ZG.1 c with c|c;exact wB q x c;obtain⟨h1,h,m⟩:=Pj c;have l:=o.all x h1;refine⟨λ_=>?_,λp=>absurd (by rw[h];trivial) p⟩;rw[b _ m];exact l.1 (by rw[h];trivial)
def jh:Code->Option Nat
 |.region id _ _=>Tc id
 |.seq a b=>match jh a with
  |some i=>Tc i
  |none=>jh b
 |.cond _ a b=>match jh a with
  |some i=>Tc i
  |none=>jh b
 |.block _ b=>jh b
 |.loop b=>jh b
 |.scope b=>jh b
 |_=>Td
def xu:Code->List Nat
 |.region _ ops _=>j8 ops.toList
 |.seq a b=>xu a++xu b
 |.cond _ a b=>xu a++xu b
 |.block _ b=>xu b
 |.loop b=>xu b
 |.scope b=>xu b
 |_=>[]
structure Plan where
 tails:List (Nat×Nat)
 loops:List (Nat×fD)
 joins:List (Nat×fD)
def Gc:List (Nat×fD)->Nat->Option fD
 |[],_=>Td
 |(j,m)::l,i=>bif Nat.beq i j then Tc m else Gc l i
def nX(l:List (Nat×fD)):Option Nat->Option fD
 |some i=>Gc l i
 |none=>Td
abbrev Jn:=Exit->aR->zc->Prop
def jL(K:aR->zc->Prop)(Q:Jn):Jn
 |.normal,e,h=>K e h
 |x,e,h=>Q x e h
def j4(id:Nat)(Q:Jn):Jn
 |.exit i,e,h=>bif Nat.beq i id then Q .normal e h else Q (.exit i) e h
 |x,e,h=>Q x e h
def QO(Q:Jn):Jn
 |.goto _,_,_=>False
 |x,e,h=>Q x e h
def nQ{X:Type}(J:fD)(F:gY (jr J) X)(e:aR)(k:X->Prop):Prop:=
 match X3 (jO e) J with
 |some vs=>match fO (jr J) vs F with
  |some q=>k q
  |none=>False
 |none=>False
def xX(J:fD)(rest:aR->zc->Prop)(F:(aR->zc->Prop)->Prop)(b:aR):Prop:=
 ∀K:gY (jr J) (zc->Prop),oJ (jr J) K (λvs q=>∀h,rest (Z7 J vs++b) h->q h)->F λe h=>nQ J K e λq=>q h
def yE(J:fD)(body:(aR->zc->Prop)->aR->zc->Prop)(b e:aR)(h:zc):Prop:=
 ∃(I:gY (jr J) (zc->Prop)) (μ:gY (jr J) (zc->Nat)),(nQ J (lq (jr J) I μ) e λp=>p.1 h) /\
  oJ (jr J) (lq (jr J) I μ) λvs p=>∀h,p.1 h->body (λe' h'=>nQ J (lq (jr J) I μ) e' λq=>q.1 h'/\q.2 h'<p.2 h) (Z7 J vs++b) h
def xF:List (Nat×fD)->Nat->List (Nat×fD)
 |[],_=>[]
 |(j,m)::l,i=>bif Nat.beq (j / 1000) (100+i)then(j % 1000,m)::xF l i else xF l i
def oQ(P:Program)(n:Nat)(ops:Array Oper)(K:aR->zc->Prop):List (Nat×fD)->Nat->aR->zc->Prop
 |[],c,e,h=>lF P n (c+1) ops h (λe h=>K (clean e) h) e
 |(c',J)::l,c,e,h=>bif mJ ops c c' then xX J (λe h=>oQ P n ops K l c' e h) (λb=>lF P n (c+1) (takeA ops c') h b e) (Yt (j8 (ops.toList.take c')) e)else False
def uh(P:Program)(n:Nat)(pl:Plan)(id:Nat)(ops:Array Oper)(b:Bool)(K:aR->zc->Prop)(e:aR)(h:zc):Prop:=match xF pl.joins id with
 |[]=>regionF P n pl.tails id ops b K e h
 |x::l=>bif b then oQ P n ops K (x::l) 0 e h else False
def W(P:Program)(n:Nat)(pl:Plan):Code->Jn->aR->zc->Prop
 |.skip,Q,e,h=>Q .normal e h
 |.ret,Q,e,h=>Q .ret e h
 |.exit id,Q,e,h=>Q (.exit id) e h
 |.label _,Q,e,h=>Q .normal e h
 |.goto l,Q,e,h=>Q (.goto l) e h
 |.region id ops draw,Q,e,h=>uh P n pl id ops draw (λe h=>Q .normal e h) e h
 |.seq x y,Q,e,h=>match nX pl.joins (jh y)with
  |none=>W P n pl x (jL (λe h=>W P n pl y Q e h) Q) e h
  |some J=>xX J (λe h=>W P n pl y Q e h) (λK=>W P n pl x (jL K Q) e h) (Yt (xu x) e)
 |.cond c x y,Q,e,h=>match X0 e [] c with
  |some (.bool b)=>(b=Ta->W P n pl x Q e h)/\(b=Tb->W P n pl y Q e h)
  |_=>False
 |.block id x,Q,e,h=>W P n pl x (j4 id Q) e h
 |.loop x,Q,e,h=>match nX pl.loops (jh x)with
  |some J=>yE J (λf e h=>W P n pl x (jL f Q) e h) (Yt (xu x) e) e h
  |none=>False
 |.scope x,Q,e,h=>W P n pl x (QO Q) e h
 |_,_,_,_=>False
def Dw(n:Nat)(B:World)(ms:List Nat)(a0:Act)(Q:Jn):Exit->Act->World->Prop:=
 λx a w=>∃e d h,w=mk B d h/\Sat n e a/\Same ms a0 a/\Q x e h
theorem Wi{X:Type}{J:fD}{F:gY (jr J) X}{k:X->Prop}(h:nQ J F e k):∃vs q,X3 (jO e) J=Tc vs/\fO (jr J) vs F=Tc q/\k q:=by unfold nQ at h;grind
theorem Mh{c:Nat}:∀x,x∈j8 (takeA ops c).toList->x∈j8 ops.toList:=λx b=>by rw[<-zax c ops.toList,Zz];exact YZ _ b
theorem Ik{K:aR->zc->Prop}{Q:Exit->Act->World->Prop}(B:World){a0:Act}
  (V:∀e' a' u h',Sat n e' a'->Same (j8 ops.toList) a0 a'->K e' h'->Q .normal a' (mk B u h')):∀(l:List (Nat×fD)) (c:Nat) (e:aR) (h:zc),oQ P n ops K l c e h->∀(a:Act) (d:Nat) (listed:Array Bool),Sat n e a->Same (j8 ops.toList) a0 a->listed.size=ops.size->(∀k,k<ops.size->listed.getD k Tb=decide (k<c)) -> (∀j p,ops[j]?=Tc p->j<c->∀x∈p.after,zdi .any x=Ta->x.on<c)->wpAny P .any ops Q (ops.size-c) listed a (mk B d h):=by
 intro l;induction l with
 |nil=>intro c e h H a d listed y sm m b _;exact Aj (gq:=c+1) B H y (λe' a' u h' i o Y=>V _ _ _ _ i.clean (sm.trans o) Y) d m b
 |cons x l ih=>
  obtain⟨c',J⟩:=x;intro c e h H a d listed y sm m b A;unfold oQ at H;cases hc:mJ ops c c' with
  |false=>rw[hc]at H;exact H.elim
  |true=>
  rw[hc,zF]at H;obtain⟨h1,U,h3,h4,h5,h6⟩:=xQ hc;have H':=H (kU (jr J) λvs=>λh=>oQ P n ops K l c' (Z7 J vs++Yt (j8 (ops.toList.take c')) e) h) (qV λvs h G=>G);rw[show ops.size-c=(c'-c)+(ops.size-c')by omega];have bK:=TD (ops:=ops) U;refine WT (c:=c) (c':=c') hc (c'-c) ((zak c').filter λk=>decide (¬k<c)) listed ((zc4 c').map λk=>decide (k<c)) a _ (CM c c') (List.nodup_range.filter _) (λk=>?_) (by simp) (λk f=>?_) (λk f F=>by rw[b k F];exact zE (by omega)) ⟨m,λj p r s x M D=>?_,λt ht Z=>by omega⟩ ?_;rw[zcq,zbc];constructor;rintro⟨i,o⟩;exact⟨i,by rw[b k (by omega)];exact zE (zB o)⟩;rintro⟨i,o⟩;rw[b k (by omega)]at o;exact⟨i,zD (zC o)⟩;rw[b k (by omega)];simp[f];have E:=(YV.1 r).1;rw[b j E]at s;have:=A j p r (zB s) x M D;rw[b _ (by omega)];exact zD this;have key:=Aj (gq:=c+1) (Q:=uO Q λa w=>∀L:Array Bool,L.size=ops.size->(∀k,k<ops.size->L.getD k Tb=decide (k<c'))->wpAny P .any ops Q (ops.size-c') L a w) B H' y (λe' a' u h' s1 S i=>?_) d (listed:=(zc4 c').map λk=>decide (k<c)) (by rw[bK];simp) (λk f=>by rw[bK]at f;simp[f]);rw[bK]at key;exact key;obtain⟨vs,q,hv,G,f⟩:=Wi i;have N:=pU G;subst N;have C:Same (j8 (ops.toList.take c')) a a':=by rw[show ops.toList.take c'=(takeA ops c').toList by unfold takeA;simp];exact S
  have z:Sat n (Z7 J vs++Yt (j8 (ops.toList.take c')) e) a':=Jm y s1.defers s1.size C (yg s1 hv);exact λL I O=>ih c' _ _ f a' u L z (sm.trans (S.mono Mh)) I O λj p r aa x M D=>by have:=qk h3 j p (YV.1 r).1 r x M D;omega
theorem YE(i:P.follows .mixedOrders=Ta){pl:Plan}{id:Nat}{b:Bool}{K:aR->zc->Prop} (H:uh P n pl id ops b K e h) (B:World) (d:Nat) (c:Sat n e a) {Q:Exit->Act->World->Prop}
  (f:∀e' a' l h',Sat n e' a'->Same (j8 ops.toList) a a'->K e' h'->Q .normal a' (mk B l h')):(zc3 id ops b).wp P Q a (mk B d h):=by
 unfold uh at H;split at H;exact GX i H B d c f;cases b with
 |false=>exact H.elim
 |true=>refine wp_region_any i ?_;have:=Ik B f _ 0 e h H a (d+1) (zar ops.size Tb) c (Same.refl _ _) (by simp) (λk m=>by rw[getD_replicate_false];simp) (λj p _ o=>by omega);exact this
theorem Ke(hm:P.follows .mixedOrders=Ta){pl:Plan}:∀(c:Code) (Q:Jn) (e:aR) (h:zc),W P n pl c Q e h ->
  ∀(B:World) (d:Nat) (a:Act),Sat n e a->c.wp P (Dw n B (xu c) a Q) a (mk B d h):=by
 intro c;induction c with
 |skip=>exact λQ e h H B d a f=>wp_skip ⟨e,d,h,rfl,f,Same.refl _ _,H⟩
 |ret=>exact λQ e h H B d a f=>wp_ret ⟨e,d,h,rfl,f,Same.refl _ _,H⟩
 |exit id=>exact λQ e h H B d a f=>wp_exit ⟨e,d,h,rfl,f,Same.refl _ _,H⟩
 |label l=>exact λQ e h H B d a f=>wp_label ⟨e,d,h,rfl,f,Same.refl _ _,H⟩
 |goto l=>exact λQ e h H B d a f=>wp_goto ⟨e,d,h,rfl,f,Same.refl _ _,H⟩
 |region id ops au=>exact λQ e h H B d a f=>YE hm H B d f λe' a' d' h' m t q3=>⟨e',d',h',rfl,m,t,q3⟩
 |seq x y D E=>
  intro Q e h H B d a f;simp only[W]at H;have N:∀i∈xu x,i∈xu (x.seq y):=λi hi=>YZ _ hi;have Y:∀i∈xu y,i∈xu (x.seq y):=λi hi=>ZL _ hi;split at H;refine wp_seq (wp_mono (D _ _ _ H B d a f) ?_);rintro ex k L ⟨w,r,h1,rfl,s1,s,m⟩;cases ex with
  |normal=>refine wp_mono (E _ _ _ m B r k s1) ?_;rintro ex a2 w2 ⟨u,z,A,rfl,s2,C,t⟩;exact⟨u,z,A,rfl,s2,(s.mono N).trans (C.mono Y),t⟩
  |_=>exact⟨w,r,h1,rfl,s1,s.mono N,m⟩
  rename_i J hJ;have H':=H (kU (jr J) λvs=>λh=>W P n pl y Q (Z7 J vs++Yt (xu x) e) h) (qV λvs h O=>O);refine wp_seq (wp_mono (D _ _ _ H' B d a f) ?_);rintro ex k L ⟨w,r,h1,rfl,s1,s,m⟩;cases ex with
  |normal=>obtain⟨vs,q,V,O,hk⟩:=Wi m;have af:=pU O;subst af;have Z:Sat n (Z7 J vs++Yt (xu x) e) k:=Jm f s1.defers s1.size s (yg s1 V);refine wp_mono (E _ _ _ hk B r k Z) ?_;rintro ex a2 w2 ⟨u,z,A,rfl,s2,C,t⟩;exact⟨u,z,A,rfl,s2,(s.mono N).trans (C.mono Y),t⟩
  |_=>exact⟨w,r,h1,rfl,s1,s.mono N,m⟩
 |cond c x y D E=>intro Q e h H B d a f;simp only[W]at H;have N:∀i∈xu x,i∈xu (zda c x y):=λi hi=>YZ _ hi;have Y:∀i∈xu y,i∈xu (zda c x y):=λi hi=>ZL _ hi;split at H;rename_i b G;refine wp_cond_split (yc f (c:=[]) trivial G) (λaa=>?_) (λaj=>?_);refine wp_mono (D _ _ _ (H.1 aa) B d a f) ?_;rintro ex a2 w2 ⟨u,z,A,rfl,s2,C,t⟩;exact⟨u,z,A,rfl,s2,C.mono N,t⟩;refine wp_mono (E _ _ _ (H.2 aj) B d a f) ?_;rintro ex a2 w2 ⟨u,z,A,rfl,s2,C,t⟩;exact⟨u,z,A,rfl,s2,C.mono Y,t⟩;exact H.elim
 |block id x S=>
  intro Q e h H B d a f;refine wp_block (wp_mono (S _ _ _ H B d a f) ?_);rintro ex k L ⟨w,r,h1,rfl,s1,s,m⟩;cases ex with
  |exit i=>simp only[j4]at m;simp only[Exit.inBlock];by_cases G:Nat.beq i id=Ta;rw[zb (YT G)];simp only[G,zF]at m;exact⟨w,r,h1,rfl,s1,s,m⟩;rw[za (λhe=>G (by rw[he];simp))];simp only[G,zG]at m;exact⟨w,r,h1,rfl,s1,s,m⟩
  |_=>exact⟨w,r,h1,rfl,s1,s,m⟩
 |loop x S=>
  intro Q e h H B d a f;simp only[W]at H;split at H;rename_i J hJ;obtain⟨I,μ,h0,M⟩:=H;obtain⟨ai,p0,ap,ar,an⟩:=Wi h0;let F:=lq (jr J) I μ;let at_:Act->Option ((zc->Prop)×(zc->Nat)):=λk=>(X3 (λi=>Tc (qe k i)) J).bind λvs=>fO (jr J) vs F;refine wp_loop (λk L=>∃r h1 vs p,L=mk B r h1/\k.defers=[]/\k.tmps.size=n/\Same (xu x) a k/\X3 (λi=>Tc (qe k i)) J=Tc vs/\fO (jr J) vs F=Tc p/\p.1 h1) (λk L=>match at_ k with|some p=>p.2 L.heap|none=>0) ⟨d,h,ai,p0,rfl,f.defers,f.size,Same.refl _ _,yg f ap,ar,an⟩ ?_;rintro k L ⟨r,h1,vs,p,rfl,ab,am,o,V,hp,hI⟩;have s1:Sat n (Z7 J vs++Yt (xu x) e) k:=Jm f ab am o V;have G:=tI hp M h1 hI;refine wp_mono (S _ _ _ G B r k s1) ?_;rintro ex a2 w2 ⟨u,z,A,rfl,s2,C,t⟩;cases ex with
  |normal=>
   obtain⟨ah,q,U,O,ae,ak⟩:=Wi t;refine⟨⟨z,A,ah,q,rfl,s2.defers,s2.size,o.trans C,yg s2 U,O,ae⟩,?_⟩;have w:at_ k=Tc p:=by simp only[at_,V,zbl];exact hp
   have u:at_ a2=Tc q:=by simp only[at_,yg s2 U,zbl];exact O
   rw[w,u];exact ak
  |_=>exact⟨u,z,A,rfl,s2,o.trans C,t⟩
  exact H.elim
 |scope x S=>
  intro Q e h H B d a f;refine wp_scope_straight (wp_mono (S _ _ _ H B d a f) ?_);rintro ex k L ⟨w,r,h1,rfl,s1,s,m⟩;cases ex with
  |goto l=>exact m
  |_=>exact⟨w,r,h1,rfl,s1,s,m⟩
 |_=>exact λQ e h H=>H.elim
def iM:Nat->List Value->aR
 |_,[]=>[]
 |i,v::vs=>(i,[],v)::iM (i+1) vs
def iR(P:Program)(h:zc)(e:aR):List ResultVar->(List Value->Prop)->Prop
 |[],K=>K []
 |.tmp t::l,K=>match jO e t with
  |some v=>iR P h e l λvs=>K (v::vs)
  |none=>False
 |.cell a t::l,K=>match jO e a with
  |some p=>kX P h t p Td λv=>iR P h e l λvs=>K (v::vs)
  |none=>False
def iQ:List Value->Value
 |[v]=>v
 |vs=>.tuple vs.toArray
def rv(P:Program)(rs:List ResultVar)(R:Value->zc->Prop):Jn
 |.normal,e,h=>iR P h e rs λvs=>R (iQ vs) h
 |.ret,e,h=>iR P h e rs λvs=>R (iQ vs) h
 |_,_,_=>False
def lm(tmps:Array Value):ResultVar->Sem Value
 |.tmp t=>pure (tmps.getD t undef)
 |.cell a t=>do loadVar t (<-asAddr (tmps.getD a undef))
theorem xL{P:Program}{n:Nat}{h:zc}{e:aR}{a:Act}(c:Sat n e a):∀{l:List ResultVar} {K:List Value->Prop},iR P h e l K->∃vs,K vs/\vs.length=l.length/\QExec P (l.mapM (lm a.tmps)) h vs
 |[],K,H=>⟨[],H,rfl,λ_ _=>by simp⟩
 |.tmp t::l,K,H=>by simp only[iR]at H;split at H;rename_i v q;obtain⟨vs,h1,f,i⟩:=xL c H;refine⟨v::vs,h1,by simp[f],?_⟩;rw[zc5];refine QExec.bind (x:=v) ?_ (i.bind (QExec.pure _));rw[<-Ya c q];exact QExec.pure _;exact H.elim
 |.cell x t::l,K,H=>by simp only[iR]at H;split at H;rename_i p k;obtain⟨v,r,o⟩:=Cc H;obtain⟨vs,h1,f,i⟩:=xL c r;refine⟨v::vs,h1,by simp[f],?_⟩;rw[zc5];refine QExec.bind (x:=v) ?_ (i.bind (QExec.pure _));have m:a.tmps.getD x undef=p:=Ya c k;simp only[lm,m];have b:=o trivial;unfold zcl at b;unfold kX at H;split at H;exact b;exact b;exact H.elim;exact H.elim
theorem Yb{fn:Func}(k:Sat n e a){rs:List ResultVar}(f:fn.results.toList=rs)(H:iR P h e rs λvs=>R (iQ vs) h):
  ∃v,R v h/\QExec P (results fn a.tmps) h v:=by
 obtain⟨vs,h1,c,i⟩:=xL k H;refine⟨_,h1,?_⟩;intro B d;have b:results fn a.tmps=(fn.results.mapM (lm a.tmps) >>= λvs=>zcf (if h:vs.size=1 then vs[0]else .tuple vs)):=by unfold results;congr 1
 rw[b,Array.mapM_eq_mapM_toList,f,Sem.run_bind,Sem.run_map,i B d];simp only[Result.andThen_ok,Sem.run_pure]
 match vs,c with
 |[],_=>rfl
 |[v],_=>rfl
 |v::u::vs,_=>simp[iQ]
theorem sh(args:Array Value)(k:Nat):∀(vs:List Value) (i:Nat),(∀j v,vs[j]?=Tc v->(args++zar k undef).getD (i+j) undef=v) ->
  ∀x∈iM i vs,fact (λi=>(args++zar k undef).getD i undef) x
 |[],_,_,x,b=>by cases b
 |v::vs,i,h,x,b=>by simp only[iM,YS]at b;rcases b with rfl|b;exact⟨λ_=>h 0 v rfl,λe=>absurd trivial e⟩;exact sh args k vs (i+1) (λj u c=>by have:=h (j+1) u (by simpa using c);grind) x b
theorem UJ(t:P.follows .mixedOrders=Ta){fn:Func}{c:Code}(pl:Plan)(vs:List Value){rs:List ResultVar}(q:P.funcs[f]?=Tc fn)(o:fn.body=Tc c)(m:fn.results.toList=rs)(s:fn.ntmps=n)
  (p:Nat.ble vs.length n=Ta) (H:W P n pl c (rv P rs R) (iM 0 vs) h):XC P f vs.toArray h R:=by
 intro B d;subst s;refine calls_of_wp q o ?_;have x:vs.length<=fn.ntmps:=zaw p;have r:Sat fn.ntmps (iM 0 vs) { tmps:=vs.toArray++zar (fn.ntmps-vs.toArray.size) undef,defers:=[] }:=by
  refine⟨rfl,by simp;omega,?_⟩;refine sh vs.toArray _ vs 0 λj v u=>?_;have k:j<vs.length:=by rcases zad j vs.length with h|h;exact h;simp_all
  simp only[ZP,zay];rw[zbs (by simpa using k)];simp[u]
 refine wp_mono (Ke t c _ _ _ H B d _ r) ?_;rintro ex a w ⟨z,b,h1,rfl,s1,y,i⟩;cases ex with
 |normal=>obtain⟨v,l,e⟩:=Yb s1 m i;exact⟨s1.defers,v,e B b,v,b,h1,rfl,rfl,l⟩
 |ret=>obtain⟨v,l,e⟩:=Yb s1 m i;exact⟨s1.defers,v,e B b,v,b,h1,rfl,rfl,l⟩
 |_=>exact i.elim
def codeOf(fn:Func):Code:=match fn.body with
 |some c=>c
 |none=>.skip
def Yc(fn:Func):Bool:=match fn.body with
 |some _=>Ta
 |none=>Tb
theorem LR(e:P.follows .mixedOrders=Ta)(pl:Plan)(vs:List Value){fn:Func}{rs:List ResultVar}(i:P.funcs[f]?=Tc fn)(b:Yc fn=Ta)(k:fn.results.toList=rs)(l:fn.ntmps=n)
  (m:Nat.ble vs.length n=Ta) (H:W P n pl (codeOf fn) (rv P rs R) (iM 0 vs) h):XC P f vs.toArray h R:=by
 have c:fn.body=Tc (codeOf fn):=by unfold Yc at b;unfold codeOf;split at b;omega;cases b
 grind [UJ]
end
section
variable {n m:Nat} {h h':zc} {a:Addr} {cs xs news:List Value} {e t ty:TypeId} {s:Sl} {P:Program} {z:Value}
theorem xq(h:zc)(o:Obj):(h.push o)[h.size]?=Tc o:=by simp
theorem Va(k:Keep n h h')(b:a.block<n):ze h' a=ze h a:=by unfold ze;rw[k.get _ b]
def Arr(n:Nat)(h:zc)(a:Option Addr)(cs:List Value):Prop:=
 cs=[]\/∃b o,a=Tc ⟨b,o,Td⟩/\b<n/\∀i v,cs[i]?=Tc v->ze h ⟨b,o+i,Td⟩=Tc v
theorem Arr.mono{a:Option Addr}(H:Arr n h a cs)(f:n<=m):Arr m h a cs:=by rcases H with e|⟨b,o,e,i,c⟩;exact .inl e;exact .inr ⟨b,o,e,by omega,c⟩
theorem Arr.keep{a:Option Addr}(H:Arr n h a cs)(k:Keep n h h'):Arr n h' a cs:=by rcases H with e|⟨b,o,e,c,f⟩;exact .inl e;exact .inr ⟨b,o,e,c,λi v hi=>(Va k (a:=⟨b,o+i,Td⟩) c).trans (f i v hi)⟩
theorem zw(b o i:Nat):(⟨b,o,Td⟩:Addr).add i=⟨b,o+i,Td⟩:=by unfold YK;simp
theorem Fu(a:Option Addr)(sz m:Nat):fF a sz 0 m=a:=by
 unfold fF;split;rfl;cases a with
 |none=>rfl
 |some p=>simp[YK]
theorem wrap64{n:Int}(h1:-9223372036854775808<=n)(c:n<=9223372036854775807):YJ .i64 n=n:=by
 unfold YJ;have e:(2:Int) ^ zc6 .i64=18446744073709551616:=by decide
 have e':(2:Int) ^ (zc6 .i64-1)=9223372036854775808:=by decide
 simp only[e,e'];have b:zdm .i64=Ta:=rfl;grind
theorem Lr{k:Nat}(h:k<9223372036854775807):YJ .i64 ((k:Int)+1)=((k+1:Nat):Int):=by grind [wrap64]
def Owns(h:zc)(base:Nat)(e:TypeId)(sz:Nat)(s:Sl)(xs:List Value):Prop:=
 (mk default 0 h).ownsRow base e sz (.slice s.a s.len s.cap) s.len xs
theorem Owns.nil(h:zc)(base:Nat)(e:TypeId)(sz:Nat):Owns h base e sz ⟨Td,0,0⟩ []:=World.ownsRow_nil _ _ _ _
theorem Owns.length{base:Nat}{sz:Nat}(H:Owns h base e sz s xs):xs.length=s.len*sz:=H.1
theorem Owns.arr{base:Nat}{sz:Nat}(H:Owns h base e sz s xs):Arr h.size h s.a xs:=by rcases H.2 with⟨f,h0⟩|⟨g,cap,b,f,q,l,n,r,o,p⟩;have k:=H.1;rw[h0]at k;exact .inl (by simpa using k);simp only[ZU]at f;have c:g<h.size:=(YV.1 l).1;refine .inr ⟨g,0,f.1,c,λi v hi=>?_⟩;have m:h[g]?=Tc (.cells b e (0,0)):=l;unfold ze;grind
theorem Owns.base_le{base:Nat}{sz:Nat}(H:Owns h base e sz s xs):∀p,s.a=Tc p->base<=p.block/\p.block<h.size:=by intro p b;exact World.ownsRow.lt H p.block (by simp[Value.ownBlock,b])
theorem Owns.keep{base:Nat}{sz:Nat}(H:Owns h base e sz s xs)(k:∀p,s.a=Tc p->h'[p.block]?=h[p.block]?):Owns h' base e sz s xs:=by refine⟨H.1,?_⟩;rcases H.2 with l|⟨g,cap,b,c,f,i,rest⟩;grind;simp only[ZU]at c;refine .inr ⟨g,cap,b,by simp[c],f,?_,rest⟩;have:=k _ c.1;exact this.trans i
theorem Owns.keepN{base:Nat}{sz:Nat}(H:Owns h base e sz s xs)(k:Keep h.size h h'):Owns h' base e sz s xs:= H.keep λp b=>k.get _ (H.base_le p b).2
structure ElemT (P:Program) (t e:TypeId) (z:Value) (sz bytes:Nat):Prop where
 slice:P.underlying t=Tc (.slice e)
 info:∃i,P.info? e=Tc i/\i.zero=Tc z/\i.size=sz/\i.bytes=bytes
 zero:z.cells.size=sz
 pos:0<sz
theorem ET{w:World}{i:TypeInfo}{sz bytes base:Nat}(x:P.underlying t=Tc (.slice e))(hi:P.info? e=Tc i)(G:i.zero=Tc z)(A:i.size=sz)(B:i.bytes=bytes) {v:Value} (f:w.ownsRow base e sz v n xs) {m c:Nat} (s:news.length=m*sz) (b:∀j u,news[j]?=Tc u->w.cell? (a.add j)=Tc u) (h1:∀u∈news,u.oneCell'=Ta) (L:n+m<=4611686018427387904) (k:(n+m)*bytes<=140737488355328) {F:Value} {w':World} (V:(YY #[t,t] ty #[v,.slice (Tc a) m c]).run P w=.ok F w'):
  ∀y l c',F=.slice (Tc y) l c'->(∃p M U,v=.slice (Tc p) M U/\y.block=p.block)\/y.block=w.heap.size:=by
 subst A B;intro y l c' J;rcases f.2 with⟨rfl,rfl⟩|⟨g,cap,q,rfl,N,I,O,H,E,C⟩;by_cases S:m=0;subst S;have Q:news=[]:=zaa (by simpa using s);subst Q;have D:(YY #[t,t] ty #[.slice Td 0 0,.slice (Tc a) 0 c]).run P w=.ok (.slice Td 0 0) w:=by simp[YY,run_underlying x,sizeOf,typeInfo,hi,Builtin.lenOf,zbk,loadCells,loadCellsFrom]
 simp_all;have D:=run_append_nil (P:=P) (ty:=ty) w t e i z x hi G a m c news s b (by omega) (by omega) (by grind);grind;by_cases h:n+m<=cap;have r:n*i.size+news.length<=q.size:=by rw[s,E,<-zb0];exact ZF _ h
 have D:=run_append_room (P:=P) (ty:=ty) w t e i x hi g n cap q I a m c news s b h1 h r;simp_all;have o:∀j u,xs[j]?=Tc u->w.cell? ((⟨g,0,Td⟩:Addr).add j)=Tc u:=f.cells (g:=g) rfl;have D:=run_append_grow (P:=P) (ty:=ty) w t e i z x hi G ⟨g,0,Td⟩ n cap xs f.1 o a m c news s b (by omega) (by omega) (growslice_fits (by omega) k);grind
theorem Jo{sz bytes:Nat}(T:ElemT P t e z sz bytes){base:Nat}(H:Owns h base e sz s xs) {src:Sl} (hs:Arr n h src.a news) (hl:news.length=src.len*sz) (h1:∀u∈news,u.oneCell'=Ta) (k:(s.len+src.len)*bytes<=140737488355328) (I:s.len+src.len<=4611686018427387904) (m:base<=h.size) {K:Value->zc->Prop} (hK:∀(s':Sl) (h':zc),s'.len=s.len+src.len->Owns h' base e sz s' (xs++news)->(∀i,i<h.size->(∀p,s.a=Tc p->i≠p.block)->h'[i]?=h[i]?)->h.size<=h'.size->(∀f,s'.a=Tc f->(∃p,s.a=Tc p/\f.block=p.block)\/f.block=h.size)->K (.slice s'.a s'.len s'.cap) h'):
  xd P (YY #[t,t] ty #[.slice s.a s.len s.cap,.slice src.a src.len src.cap]) h K:=by
 intro B d;obtain⟨i,hi,M,A,C⟩:=T.info;have key:∃x w',(YY #[t,t] ty #[.slice s.a s.len s.cap,.slice src.a src.len src.cap]).run P (mk B d h)=.ok x w'/\w'.ownsRow base e sz x (s.len+src.len) (xs++news)/\(mk B d h).grownBy w' (Value.ownBlock (.slice s.a s.len s.cap)) /\
   ∀f l c',x=.slice (Tc f) l c'->(∃p,s.a=Tc p/\f.block=p.block)\/f.block=h.size:=by
  have c:(mk B d h).ownsRow base e sz (.slice s.a s.len s.cap) s.len xs:=H;rcases hs with Q|⟨b,o,Q,S,hc⟩;subst Q;have h0:src.len=0:=by rcases zcd src.len with h0|h0;exact h0;have:=Nat.mul_pos h0 T.pos;grind
  rw[h0];have O:∃q,q=src.a:=⟨_,rfl⟩;obtain⟨q,V⟩:=O;rw[<-V];cases q with
  |none=>
   refine⟨_,mk B d h,?_,by simpa using c,⟨rfl,rfl,rfl,YM _,λ_ _ _=>rfl⟩,λf l c' y=>.inl ⟨f,by simp_all,rfl⟩⟩;have hT:=T.slice;have aa:s.len<=s.cap:=by rcases c.2 with⟨G,L⟩|⟨g,cap,Y,G,_,_,ae,_⟩;omega;simp_all
   generalize s.a=sa at *;cases sa <;> simp[YY,run_underlying hT,sizeOf,typeInfo,hi,Builtin.lenOf,zbk,aa,storeCells]
  |some p=>obtain⟨x,w',D,F,r,_⟩:=run_append_own (P:=P) (w:=mk B d h) base t ty e i z sz bytes T.slice hi M A C T.zero T.pos (.slice s.a s.len s.cap) s.len xs c p 0 src.cap [] (by simp) (by simp) (by simp) (by unfold maxLen;omega) (by simp_all) m;refine⟨x,w',D,F,r,λf l c' y=>?_⟩;rcases ET T.slice hi M A C c (news:=[]) (by simp) (by simp) (by simp) (by omega) (by simp_all) D f l c' y with⟨q,l0,c0,V,S⟩|S;simp_all;exact .inr S
  rw[Q];obtain⟨x,w',D,F,r,_⟩:=run_append_own (P:=P) (w:=mk B d h) base t ty e i z sz bytes T.slice hi M A C T.zero T.pos (.slice s.a s.len s.cap) s.len xs c ⟨b,o,Td⟩ src.len src.cap news hl (λj u Z=>by rw[zw];exact hc j u Z) h1 (by unfold maxLen;omega) k m;refine⟨x,w',D,F,r,λf l c' y=>?_⟩;rcases ET T.slice hi M A C c hl (λj u Z=>by rw[zw];exact hc j u Z) h1 I k D f l c' y with⟨q,l0,c0,V,J⟩|J;simp_all;exact .inr J
 obtain⟨x,w',D,F,r,r4⟩:=key;have hw:w'=mk B w'.drawn w'.heap:=by have G:=r.os;have L:=r.tape;have e3:=r.output;cases w';simp only[mk]at *;subst G;subst L;subst e3;rfl
 rw[hw]at D;have hv:∃s':Sl,x=.slice s'.a s'.len s'.cap/\s'.len=s.len+src.len:=by rcases F.2 with⟨G,L⟩|⟨g,cap,Y,G,_⟩;exact⟨⟨Td,0,0⟩,G,L.symm⟩;exact⟨⟨Tc ⟨g,0,Td⟩,s.len+src.len,cap⟩,G,rfl⟩
 obtain⟨s',rfl,E⟩:=hv;refine⟨_,_,_,D,hK s' w'.heap E ?_ ?_ r.size λf U=>r4 f s'.len s'.cap (by rw[U])⟩;rw[<-E]at F;exact F;intro j hj ab;refine r.block j hj λN=>?_;cases O:s.a with
 |none=>rw[O]at N;cases N
 |some p=>rw[O]at N;simp only[Value.ownBlock,YL]at N;grind
end
section
variable {h:zc} {m:Nat} {P:Program} {kt t et:TypeId} {z:Value}
def fh(l:List (Bt×Value))(k:Bt):Option Value:=match l with
 |[]=>Td
 |p::l=>if p.1=k then Tc p.2 else fh l k
def iw(l:List (Bt×Value))(k:Bt)(v:Value):List (Bt×Value):=match l with
 |[]=>[(k,v)]
 |p::l=>if p.1=k then(k,v)::l else p::iw l k v
theorem Hm(l:List (Bt×Value))(k b:Bt)(v:Value):fh (iw l k v) b=if k=b then Tc v else fh l b:=by
 induction l with
 |nil=>simp[iw,fh]
 |cons p l c=>simp only[iw];split;rename_i h;simp only[fh];simp_all;rename_i h;simp only[fh,c];grind
def MapAt(h:zc)(m:Nat)(l:List (Bt×Value)):Prop:=∃c b,h[m]?=Tc (.map c b)/\c.toList.map (λe=>(e.key,e.val))=l.map λp=>(ZD p.1,p.2)
theorem MapAt.keep{h h':zc}{l:List (Bt×Value)}(H:MapAt h m l)(k:h'[m]?=h[m]?):MapAt h' m l:=by obtain⟨e,c,h1,b⟩:=H;exact⟨e,c,k.trans h1,b⟩
theorem MapAt.lt{l:List (Bt×Value)}(H:MapAt h m l):m<h.size:=by obtain⟨b,c,h1,e⟩:=H;grind
theorem MapAt.new(h:zc):MapAt (h.push (.map #[] 0)) h.size []:=⟨#[],0,xq _ _,rfl⟩
structure MapT (P:Program) (t kt et:TypeId) (z:Value):Prop where
 map:P.underlying t=Tc (.map kt et)
 key:P.underlying kt=Tc .string
 zero:∃i,P.info? et=Tc i/\i.zero=Tc z
theorem tG(a b:Bt):(a==b)=decide (a=b):=by show ByteArray.beq a b=_;cases a;cases b;rw[ZR];simp[ByteArray.beq]
instance lawfulBA:LawfulBEq Bt where
 eq_of_beq:=λ {a b} h=>by rw[tG]at h;simpa using h
 rfl:=λ {a}=>by rw[tG];simp
theorem Wj(k:Bt):∀(f:List MapEntry) (l:List (Bt×Value)) (i:Nat),f.map (λe=>(e.key,e.val))=l.map (λp=>(ZD p.1,p.2)) ->
  (fh l k=Td/\zcy .string (.string k) f i=Tc Td)\/(∃j v e,fh l k=Tc v/\f[j]?=Tc e/\e.key=.string k/\e.val=v/\zcy .string (.string k) f i=Tc (Tc (i+j,v)) /\ ∀w,(f.modify j λe=>{ e with key:=.string k,val:=w }).map (λe=>(e.key,e.val))=(iw l k w).map λp=>(ZD p.1,p.2))
 |[],l,i,h=>by
  have:l=[]:=by cases l <;> simp_all
  subst this;exact .inl ⟨rfl,rfl⟩
 |e::f,l,i,h=>by
  cases l with
  |nil=>simp at h
  |cons p l=>
   simp only[zae,za4,za1]at h;obtain⟨⟨h1,n⟩,q⟩:=h;by_cases c:p.1=k;refine .inr ⟨0,p.2,e,by simp[fh,c],rfl,by rw[h1,c],n,?_,λw=>?_⟩;have b:(k==p.1)=Ta:=by rw[tG];simpa using c.symm
   simp[zcy,Instr.sameNow,h1,n,b];simp[iw,c,q];have b:(k==p.1)=Tb:=by rw[tG];simpa using λe=>c e.symm
   rcases Wj k f l (i+1) q with⟨m,o⟩|⟨j,v,e',m,o,u,r,t,s⟩;refine .inl ⟨by simp[fh,c,m],?_⟩;simp[zcy,Instr.sameNow,h1,b,o];refine .inr ⟨j+1,v,e',by simp[fh,c,m],by simpa using o,u,r,?_,λw=>?_⟩;simp[zcy,Instr.sameNow,h1,b,t];omega;simp[iw,c,h1,n,s w]
theorem zU(c:P.underlying kt=Tc .string)(b:Bool)(k:Bt)(h:zc):QExec P (Instr.checkKey b 10000 kt (.string k)) h ():=by intro B d;have e:=QExec.underlying (h:=h) c B d;unfold Instr.checkKey;simp_all
theorem Z0(c:P.underlying kt=Tc .string)(k:Bt)(b:List MapEntry)(r:Option (Nat×Value))(h:zc)(e:zcy .string (.string k) b 0=Tc r):
  QExec P (Instr.findKey kt (.string k) b) h r:=by
 intro B d;have f:=QExec.underlying (h:=h) c B d;unfold Instr.findKey;simp_all
theorem Jp{b:Array MapEntry}{c:Nat}(e:h[m]?=Tc (.map b c)):QExec P (getObj m) h (.map b c):=by intro B d;have:(mk B d h).heap[m]?=Tc (.map b c):=e;simp[getObj,Sem.run,this]
theorem Iw(c:∃i,P.info? t=Tc i/\i.zero=Tc z):QExec P (zeroValue t) h z:=by obtain⟨i,h1,b⟩:=c;intro B d;simp[zeroValue,typeInfo,program,h1,b,Sem.run]
def gQ(l:List (Bt×Value))(k:Bt)(z:Value):Value:=(fh l k).getD z
theorem Wk(T:MapT P t kt et z){l:List (Bt×Value)}(H:MapAt h m l)(k:Bt)(ok:Bool):
  QExec P (zcm t (.map (Tc m)) (.string k) ok) h (if ok then .tuple #[gQ l k z,.bool (fh l k).isSome]else gQ l k z):=by
 obtain⟨b,c,h1,n⟩:=H;intro B d;have o:=QExec.underlying (h:=h) T.map B d;have p:=Jp (P:=P) h1 B d;have r:=zU T.key b.isEmpty k h B d;unfold zcm;rw[Sem.run_bind,o];simp only[Result.andThen_ok,Sem.run_bind,p,Sem.run_pure,r];rcases Wj k b.toList l 0 n with⟨f,i⟩|⟨j,v,e,f,i,w,u,q,_⟩;rw[Z0 T.key k b.toList Td h i B d];have s:=Iw (h:=h) T.zero B d;simp only[Result.andThen_ok,Sem.run_bind,s,Sem.run_pure,gQ,f];simp;rw[Z0 T.key k b.toList _ h q B d];simp only[Result.andThen_ok,gQ,f];simp
theorem wN{l:List (Bt×Value)}{k:Bt}{v:Value}(g:fh l k=Td):iw l k v=l++[(k,v)]:=by
 induction l with
 |nil=>rfl
 |cons p l c=>simp only[fh]at g;split at g;cases g;rename_i b;simp[iw,b,c g]
theorem Gm(T:MapT P t kt et z){l:List (Bt×Value)}(H:MapAt h m l)(k:Bt)(v:Value){K:zc->Prop}
  (y:∀h':zc,MapAt h' m (iw l k v)->h'.size=h.size->(∀i,i≠m->h'[i]?=h[i]?)->K h'):XRunU P (zbz t (.map (Tc m)) (.string k) v) h K:=by
 have f:=H.lt;obtain⟨b,c,h1,s⟩:=H;intro B d;have u:=QExec.underlying (h:=h) T.map B d;have x:=Jp (P:=P) h1 B d;have A:=zU T.key Tb k h B d;have n:∀o:Obj,(setObj m o).run P (mk B d h)=.ok () (mk B d (h.setIfInBounds m o)):=by intro o;have:(mk B d h).heap[m]?=Tc (.map b c):=h1;simp[setObj,Sem.run,this];rfl
 unfold zbz;rcases Wj k b.toList l 0 s with⟨r,q⟩|⟨j,I,e,r,q,D,E,C,F⟩;refine⟨d,h.setIfInBounds m (.map (b.push { key:=.string k,val:=v,born:=c }) (c+1)),?_,y _ ⟨b.push { key:=.string k,val:=v,born:=c },c+1,by simp[f],?_⟩ (by simp) (λi hi=>by grind)⟩;rw[Sem.run_bind,u];simp only[Result.andThen_ok,Sem.run_bind,x,A];rw[Z0 T.key k b.toList Td h q B d];simp_all;rw[wN r];simp[s];have w:j<b.size:=by have:=(ZH.1 q).1;simpa using this
 refine⟨d,_,?_,y (h.setIfInBounds m (.map (b.modify j λe=>{ e with key:=.string k,val:=v }) c)) ⟨b.modify j λe=>{ e with key:=.string k,val:=v },c,by simp[f],?_⟩ (by simp) (λi hi=>by grind)⟩;rw[Sem.run_bind,u];simp only[Result.andThen_ok,Sem.run_bind,x,A];rw[Z0 T.key k b.toList _ h C B d];simp only[Result.andThen_ok,ZP];have p:((b[j]?).map (·.key)).getD (.string k)=.string k:=by
  have:b[j]?=Tc e:=by simpa using q
  rw[this];exact D
 rw[p];have G:zc2 (.string k) (.string k)=pure (.string k):=by unfold zc2;rw[zb (by show(k==k)=Ta;simp)]
 simp_all;simp_all
end
section
variable {h h':zc} {b n o:Nat} {cs:Array Value} {v:Value} {P:Program}
def Blk(h:zc)(b:Nat)(cs:Array Value):Prop:=∃T,h[b]?=Tc (.cells cs T (0,0))
theorem Blk.keep(H:Blk h b cs)(k:h'[b]?=h[b]?):Blk h' b cs:=by obtain⟨T,e⟩:=H;exact⟨T,k.trans e⟩
theorem Blk.keepN(H:Blk h b cs)(k:Keep n h h')(c:b<n):Blk h' b cs:=H.keep (k.get b c)
theorem Blk.new(h:zc)(cs:Array Value)(T:TypeId):Blk (h.push (.cells cs T)) h.size cs:=⟨T,xq _ _⟩
theorem jo{h g:zc}{T:TypeId}(e:g=h.push (.cells cs T)):Keep h.size h g/\g.size=h.size+1/\Blk g h.size cs:=by subst e;exact⟨Keep.push _ _ (YM _),ZI _,Blk.new _ _ _⟩
theorem Blk.lt(H:Blk h b cs):b<h.size:=by obtain⟨T,e⟩:=H;grind
theorem Blk.cell(H:Blk h b cs)(c:cs[o]?=Tc v):ze h ⟨b,o,Td⟩=Tc v:=by obtain⟨T,e⟩:=H;unfold ze;simp[e,c]
theorem Blk.cellAdd{b o k:Nat}(H:Blk h b cs)(c:cs[o+k]?=Tc v):ze h ((⟨b,o,Td⟩:Addr).add k)=Tc v:=by rw[zw];exact H.cell c
theorem Blk.ld{cs:List Value}(H:Blk h b cs.toArray):zd h ⟨b,0,Td⟩ 0 cs:=by
 have key:∀(l:List Value) (i:Nat),(∀j v,l[j]?=Tc v->cs[i+j]?=Tc v)->zd h ⟨b,0,Td⟩ i l:=by
  intro l;induction l with
  |nil=>intro i _;trivial
  |cons v l c=>intro i hi;refine⟨?_,c (i+1) λj u e=>?_⟩;rw[zw,ZP];exact H.cell (by have:=hi 0 v rfl;grind);have:=hi (j+1) u (by simpa using e);grind
 simp_all
theorem Keep.setBlk(o:Obj)(c:n<=b):Keep n h (h.setIfInBounds b o):= ⟨by simp,λi hi=>by grind⟩
theorem HP(H:Blk h b cs)(B:World)(d:Nat):(mk B d h).frozen? ⟨b,o,Td⟩=Tb:=by obtain⟨T,e⟩:=H;have:(mk B d h).heap[b]?=Tc (.cells cs T (0,0)):=e;simp[World.frozen?,this]
theorem EL{T:TypeId}(e:h[b]?=Tc (.cells cs T (0,0)))(l:o<cs.size)(f:v.oneCell'=Ta)(B:World)(d:Nat):
  (store ⟨b,o,Td⟩ v).run P (mk B d h)=.ok () (mk B d (h.setIfInBounds b (.cells (cs.setIfInBounds o v) T (0,0)))):=by
 have m:(mk B d h).cell? ⟨b,o,Td⟩=Tc cs[o]:=Blk.cell (h:=h) ⟨T,e⟩ (by simp[l]);have k:=HP (o:=o) (⟨T,e⟩:Blk h b cs) B d;have c:(mk B d h).setCell ⟨b,o,Td⟩ v=mk B d (h.setIfInBounds b (.cells (cs.setIfInBounds o v) T (0,0))):=by unfold World.setCell mk;simp only;congr 1;have n:b<h.size:=(YV.1 e).1;apply Array.ext_getElem?;intro i;rw[Array.getElem?_modify];by_cases hi:i=b;simp_all;grind
 cases v with
 |agg x=>simp[Value.oneCell']at f
 |tuple x=>simp[Value.oneCell']at f
 |_=>simp only[store,Sem.run,m,k,zaz,if_false,c]
theorem cells_one(b:v.oneCell'=Ta):v.cells=#[v]:=by cases v <;> first|rfl|simp[Value.oneCell']at b
theorem yr{t:TypeId}(hi:qj P t=Ta)(l:yb P t=1)(H:Blk h b cs)(f:o<cs.size)(c:v.oneCell'=Ta){K:zc->Prop}
  (n:∀h':zc,Blk h' b (cs.setIfInBounds o v)->h'.size=h.size->(∀i,i≠b->h'[i]?=h[i]?)->K h'):XRunU P (YN t (.pointer (Tc ⟨b,o,Td⟩)) v) h K:=by
 obtain⟨T,e⟩:=H;have k:b<h.size:=(YV.1 e).1;intro B d;refine⟨d,_,?_,n (h.setIfInBounds b (.cells (cs.setIfInBounds o v) T (0,0))) ⟨T,by simp[k]⟩ (by simp) λi hi=>by grind⟩;have p:=QExec.sizeOf (P:=P) (h:=h) (ju hi).choose_spec B d;unfold YN zcu;simp only[Sem.run_bind,Sem.run_pure,Result.andThen_ok];unfold storeVar;rw[Sem.run_bind,p];simp only[Result.andThen_ok];rw[l,cells_one c];simp only[List.size_toArray,ZV,zb7,ZP,ne_eq,not_true_eq_false,if_false];show Sem.run P (storeCells ⟨b,o,Td⟩ [v]) _=_;unfold storeCells;rw[Sem.run_bind];have m:(⟨b,o,Td⟩:Addr).add 0=⟨b,o,Td⟩:=by rw[zw];rfl
 rw[m,EL e f c B d];rfl
theorem Y9{P:Program}{b:Nat}{T:TypeId}(B:World)(d:Nat):∀(vs:List Value) (i:Nat) (h:zc) (cs:Array Value),h[b]?=Tc (.cells cs T (0,0))->i+vs.length<=cs.size->(∀v∈vs,v.oneCell'=Ta) ->
  ∃h',(storeCells ⟨b,0,Td⟩ vs i).run P (mk B d h)=.ok () (mk B d h')/\h'[b]?=Tc (.cells (cs.toList.take i++vs++cs.toList.drop (i+vs.length)).toArray T (0,0))/\h'.size=h.size/\∀j,j≠b->h'[j]?=h[j]?
 |[],i,h,cs,e,_,_=>⟨h,rfl,by simpa using e,rfl,λ_ _=>rfl⟩
 |v::vs,i,h,cs,e,hl,hv=>by
  have l:b<h.size:=(YV.1 e).1;simp only[ZV]at hl;have h1:=EL (P:=P) e (o:=i) (by omega) (hv v ZB) B d;have e':(h.setIfInBounds b (.cells (cs.setIfInBounds i v) T (0,0)))[b]?=Tc (.cells (cs.setIfInBounds i v) T (0,0)):=by simp[l]
  have c:i+1+vs.length<=(cs.setIfInBounds i v).size:=by rw[zah];omega
  obtain⟨h',n,m,f,p⟩:=Y9 (P:=P) B d vs (i+1) (h.setIfInBounds b (.cells (cs.setIfInBounds i v) T (0,0))) (cs.setIfInBounds i v) e' c λu k=>hv u (YU _ k);refine⟨h',?_,?_,by rw[f];simp,λj q=>by grind⟩;unfold storeCells;rw[Sem.run_bind,zw,ZP,h1];simp_all;rw[m];congr 3;have hi:i<cs.toList.length:=by simp;omega
  simp only[Array.toList_setIfInBounds,ZV];rw[List.take_set,List.drop_set_of_lt (by omega)];have r:(cs.toList.take (i+1)).set i v=cs.toList.take i++[v]:=by
   rw[YP hi,List.set_append_right _ _ (by simp;omega)];have:i-(cs.toList.take i).length=0:=by simp;omega
   rw[this];rfl
  grind
theorem Owns.base{h:zc}{base b:Nat}{e:TypeId}{sz:Nat}{s:Sl}{xs:List Value}(H:Owns h base e sz s xs)(k:b<=base):Owns h b e sz s xs:=by refine⟨H.1,?_⟩;rcases H.2 with l|⟨g,cap,c,f,i,rest⟩;grind;exact .inr ⟨g,cap,c,f,by omega,rest⟩
end
end Go.X
end
section
namespace Go.X
variable {cs:List Value}
inductive Tr where
 |mk (kind:Int) (text:Bt) (keys:List Bt) (items:List Tr)
namespace Tr
@[reducible] def kind:Tr->Int|mk k _ _ _=>k
@[reducible] def text:Tr->Bt|mk _ s _ _=>s
@[reducible] def keys:Tr->List Bt|mk _ _ ks _=>ks
@[reducible] def items:Tr->List Tr|mk _ _ _ xs=>xs
@[simp] theorem YI(t:Tr):mk t.kind t.text t.keys t.items=t:=by cases t;rfl
instance:Inhabited Tr:=⟨mk 0 ⟨#[]⟩ [] []⟩
end Tr
inductive Ty where
 |int (k:IntKind)|bool|str|row (t:Ty)|tree|unit|pair (a b:Ty)|ptr (t:Ty)|iter|err
 deriving DecidableEq
@[reducible] def El:Ty->Type
 |.int _=>Int
 |.bool=>Bool
 |.str=>Bt
 |.row t=>List (El t)
 |.tree=>Tr
 |.unit=>Unit
 |.pair a b=>El a×El b
 |.ptr t=>El t
 |.iter=>Bt×Nat
 |.err=>Bool
def oY:(t:Ty)->El t
 |.int _=>(0:Int)
 |.bool=>Tb
 |.str=>(⟨#[]⟩:Bt)
 |.row _=>[]
 |.tree=>default
 |.unit=>()
 |.pair a b=>(oY a,oY b)
 |.ptr t=>oY t
 |.iter=>(⟨#[]⟩,0)
 |.err=>Ta
def sz:Ty->Nat
 |.tree=>4
 |.unit=>0
 |.pair a b=>sz a+sz b
 |_=>1
abbrev Fr:=Nat->Option (Array Value)
def Fr.le(M M':Fr):Prop:=∀b cs,M b=Tc cs->M' b=Tc cs
theorem Fr.le.refl(M:Fr):Fr.le M M:=λ_ _ h=>h
theorem Fr.le.trans{a b c:Fr}(h:Fr.le a b)(k:Fr.le b c):Fr.le a c:=λ_ _ e=>k _ _ (h _ _ e)
def cut(cs:Array Value)(o n:Nat):List Value:=(cs.toList.drop o).take n
def RowAt(M:Fr){α:Type}(R:α->List Value->Prop)(z:Nat)(xs:List α)(v:Value):Prop:=
 ∃a c,v=.slice a xs.length c/\(xs.length<=140737488355328/\xs.length<=c)/\(xs=[]\/∃b o cs,a=Tc ⟨b,o,Td⟩/\M b=Tc cs/\∀i (h:i<xs.length),R xs[i] (cut cs (o+i*z) z))
inductive TrRd (M:Fr):Tr->List Value->Prop where
 |mk {k:Int} {s:Bt} {ks:List Bt} {xs:List Tr} {vk:Value} {a:Option Addr} {c b o:Nat} {cs:Array Value}
  (hk:RowAt M (λs cs=>cs=[.string s]) 1 ks vk) (hn:xs.length<=140737488355328/\xs.length<=c) (hz:xs=[]\/(a=Tc ⟨b,o,Td⟩/\M b=Tc cs))
  (hi:∀i (h:i<xs.length),TrRd M xs[i] (cut cs (o+i*4) 4)):TrRd M (.mk k s ks xs) [.int .i64 k,.string s,vk,.slice a xs.length c]
def Z1(s:Bt)(p:Nat):Value:=.iface 0 (.agg #[.string s,.int .i64 p])
def Rd(M:Fr):(t:Ty)->El t->List Value->Prop
 |.int k,i,cs=>cs=[.int k i]
 |.bool,b,cs=>cs=[.bool b]
 |.str,s,cs=>cs=[.string s]
 |.row t,xs,cs=>∃v,cs=[v]/\RowAt M (Rd M t) (sz t) xs v
 |.tree,t,cs=>TrRd M t cs
 |.unit,_,cs=>cs=[]
 |.pair a b,x,cs=>∃c1 c2,cs=c1++c2/\Rd M a x.1 c1/\Rd M b x.2 c2
 |.ptr t,x,cs=>∃b o c,cs=[.pointer (Tc ⟨b,o,Td⟩)]/\M b=Tc c/\Rd M t x (cut c o (sz t))
 |.iter,x,cs=>cs=[Z1 x.1 x.2]
 |.err,b,cs=>∃v,cs=[v]/\((b=Ta/\v=.nilIface)\/(b=Tb/\∃t u,v=.iface t u))
theorem RowAt.mono{M M':Fr}(k:Fr.le M M'){α:Type}{R f:α->List Value->Prop}{z:Nat}{xs:List α}{v:Value}(H:RowAt M R z xs v)(p:∀x∈xs,∀cs,R x cs->f x cs):RowAt M' f z xs v:=by obtain⟨a,c,e,m,h⟩:=H;refine⟨a,c,e,m,h.imp id ?_⟩;rintro⟨b,o,cs,n,q,l⟩;exact⟨b,o,cs,n,k _ _ q,λi h=>p _ (YW _) _ (l i h)⟩
theorem TrRd.mono{M M':Fr}(b:Fr.le M M'){t:Tr}(H:TrRd M t cs):TrRd M' t cs:=by
 induction H with
 |mk c f i _ e=>exact .mk (c.mono b λ_ _ _ h=>h) f (i.imp id λh=>⟨h.1,b _ _ h.2⟩) e
theorem Rd.mono{M M':Fr}(c:Fr.le M M'):∀{t:Ty} {x:El t} {cs:List Value},Rd M t x cs->Rd M' t x cs
 |.int _,_,_,h=>h
 |.bool,_,_,h=>h
 |.str,_,_,h=>h
 |.row _,_,_,⟨v,e,h⟩=>⟨v,e,h.mono c λ_ _ _ h=>Rd.mono c h⟩
 |.tree,_,_,h=>TrRd.mono c h
 |.unit,_,_,h=>h
 |.pair _ _,_,_,⟨c1,c2,e,h1,h2⟩=>⟨c1,c2,e,Rd.mono c h1,Rd.mono c h2⟩
 |.ptr _,_,_,⟨b,o,cc,e,h1,h2⟩=>⟨b,o,cc,e,c _ _ h1,Rd.mono c h2⟩
 |.iter,_,_,h=>h
 |.err,_,_,h=>h
theorem Rd.len{M:Fr}:∀{t:Ty} {x:El t} {cs:List Value},Rd M t x cs->cs.length=sz t
 |.int _,_,_,h=>by rw[h];rfl
 |.bool,_,_,h=>by rw[h];rfl
 |.str,_,_,h=>by rw[h];rfl
 |.row t,_,_,⟨v,e,_⟩=>by rw[e];rfl
 |.tree,_,_,h=>by cases h;rfl
 |.unit,_,_,h=>by rw[h];rfl
 |.pair _ _,_,_,⟨c1,c2,e,h1,h2⟩=>by rw[e,ZC,Rd.len h1,Rd.len h2];rfl
 |.ptr _,_,_,⟨b,o,cc,e,_⟩=>by rw[e];rfl
 |.iter,_,_,h=>by rw[h];rfl
 |.err,_,_,⟨v,e,_⟩=>by rw[e];rfl
theorem Rd.one{M:Fr}:∀{t:Ty} {x:El t} {cs:List Value},Rd M t x cs->∀v∈cs,v.oneCell'=Ta
 |.int _,_,_,h=>by rw[h];simp[Value.oneCell']
 |.bool,_,_,h=>by rw[h];simp[Value.oneCell']
 |.str,_,_,h=>by rw[h];simp[Value.oneCell']
 |.row t,_,_,⟨v,e,a,c,e2,_⟩=>by rw[e,e2];simp[Value.oneCell']
 |.tree,_,_,h=>by
  cases h with
  |mk i _ _ _=>obtain⟨a,c,e,_⟩:=i;rw[e];simp[Value.oneCell']
 |.unit,_,_,h=>by rw[h];simp
 |.pair _ _,_,_,⟨c1,c2,e,h1,h2⟩=>by intro v f;rw[e]at f;rcases ZG.1 f with f|f;exact Rd.one h1 v f;exact Rd.one h2 v f
 |.ptr _,_,_,⟨b,o,cc,e,_⟩=>by rw[e];simp[Value.oneCell']
 |.iter,_,_,h=>by rw[h];simp[Value.oneCell',Z1]
 |.err,_,_,⟨v,e,h⟩=>by rw[e];rcases h with⟨_,rfl⟩|⟨_,t,u,rfl⟩ <;> simp[Value.oneCell']
theorem TrRd.keys{M:Fr}{t:Tr}(H:TrRd M t cs):∃vk vi,cs=[.int .i64 t.kind,.string t.text,vk,vi]/\Rd M (.row .str) t.keys [vk]/\Rd M (.row .tree) t.items [vi]:=by
 cases H with
 | @mk k s ks xs vk a c b o cs hk hn hz hi=>exact⟨vk,_,rfl,⟨vk,rfl,hk⟩,⟨_,rfl,a,c,rfl,hn,hz.imp id λh=>⟨b,o,cs,h.1,h.2,hi⟩⟩⟩
theorem TrRd.of{M:Fr}{k:Int}{s:Bt}{ks:List Bt}{xs:List Tr}{vk vi:Value}(h1:Rd M (.row .str) ks [vk])(f:Rd M (.row .tree) xs [vi]):TrRd M (.mk k s ks xs) [.int .i64 k,.string s,vk,vi]:=by
 obtain⟨v,e,h1⟩:=h1;obtain⟨q,e',a,c,l,m,f⟩:=f;cases e;cases e';subst l;rcases f with rfl|⟨b,o,cs,p,l,n⟩;exact .mk (b:=0) (o:=0) (cs:=#[]) h1 m (.inl rfl) λi h=>absurd h (by simp)
 exact .mk h1 m (.inr ⟨p,l⟩) n
def Bd:(t:Ty)->El t->Prop
 |.row _,xs=>xs.length<=140737488355328
 |.tree,t=>t.keys.length<=140737488355328/\t.items.length<=140737488355328
 |.pair a b,x=>Bd a x.1/\Bd b x.2
 |_,_=>True
theorem Rd.bd{M:Fr}:∀{t:Ty} {x:El t} {cs:List Value},Rd M t x cs->Bd t x
 |.int _,_,_,_=>trivial
 |.bool,_,_,_=>trivial
 |.str,_,_,_=>trivial
 |.row t,_,_,⟨v,_,a,c,_,h,_⟩=>h.1
 |.tree,_,_,h=>by
  cases h with
  |mk b f _ _=>obtain⟨a,c,e,h,_⟩:=b;exact⟨h.1,f.1⟩
 |.unit,_,_,_=>trivial
 |.pair _ _,_,_,⟨_,_,_,h1,h2⟩=>⟨Rd.bd h1,Rd.bd h2⟩
 |.ptr _,_,_,_=>trivial
 |.iter,_,_,_=>trivial
 |.err,_,_,_=>trivial
inductive AA where
 |v (x:Value)
 |d (t:Ty) (x:El t)
 |box (c o:Nat)
 |own (c:Nat)
 |oelt (c z:Nat) (i:Nat) (o:Nat)
 |elt (t:Ty) (x:El t) (o:Nat)
 |dc (t:Ty) (xs:List (El t))
inductive AG where
 |a (x:AA)
 |agg (l:List AA)
inductive AV where
 |g (x:AG)
 |tup (l:List AG)
 |nx (b:Bool) (p:Int) (c:Int)
structure Gh where
 M:Fr
 β:Nat->Nat
 σ:Nat->Sl
def All2{α β:Type}(R:α->β->Prop):List α->List β->Prop
 |[],[]=>True
 |x::xs,y::ys=>R x y/\All2 R xs ys
 |_,_=>False
def aK(s:Sl):Value:=.slice s.a s.len s.cap
abbrev iV(x : Int): Value := .int .i64 x
abbrev tA(a : Int)(b : Bt)(c d : Sl): Value := .agg #[.int .i64 a, .string b, aK c, aK d]
abbrev tL(a : Int)(b : Bt)(c d : Sl): List Value := [.int .i64 a, .string b, aK c, aK d]
abbrev tC: Array Value := #[.int .i64 0, .string ⟨#[]⟩, .slice Td 0 0, .slice Td 0 0]
abbrev tZ: Value := .agg tC
def DenA(γ:Gh):AA->Value->Prop
 |.v x,u=>u=x
 |.d t x,u=>Rd γ.M t x [u]
 |.box c o,u=>u=.pointer (Tc ⟨γ.β c,o,Td⟩)
 |.own c,u=>u=aK (γ.σ c)
 |.oelt c z i o,u=>∃g,(γ.σ c).a=Tc ⟨g,0,Td⟩/\u=.pointer (Tc ⟨g,i*z+o,Td⟩)
 |.elt t x o,u=>∃b f cs,u=.pointer (Tc ⟨b,f+o,Td⟩)/\γ.M b=Tc cs/\Rd γ.M t x (cut cs f (sz t))
 |.dc t xs,u=>∃s:Sl,u=aK s/\s.cap=s.len/\Rd γ.M (.row t) xs [u]
def DenG(γ:Gh):AG->Value->Prop
 |.a x,u=>DenA γ x u
 |.agg l,u=>∃us,u=.agg us.toArray/\All2 (DenA γ) l us
def DenV(γ:Gh):AV->Value->Prop
 |.g x,u=>DenG γ x u
 |.tup l,u=>∃us,u=.tuple us.toArray/\All2 (DenG γ) l us
 |.nx b p c,u=>(b=Ta->u=.tuple #[.bool Ta,.int .i64 p,.int .i32 c])/\(b=Tb->u=.tuple #[.bool Tb])
theorem All2.length{α β:Type}{R:α->β->Prop}:∀{l:List α} {m:List β},All2 R l m->l.length=m.length
 |[],[],_=>rfl
 |[],_::_,h=>h.elim
 |_::_,[],h=>h.elim
 |_::_,_::_,h=>by simp[All2.length h.2]
theorem All2.imp{α β:Type}{R b:α->β->Prop}:∀{l:List α} {m:List β},All2 R l m->(∀x∈l,∀y,R x y->b x y)->All2 b l m
 |[],[],_,_=>trivial
 |[],_::_,h,_=>h.elim
 |_::_,[],h,_=>h.elim
 |_::_,_::_,h,k=>⟨k _ ZB _ h.1,All2.imp h.2 λx e y c=>k x (YU _ e) y c⟩
theorem All2.append{α β:Type}{R:α->β->Prop}:∀{l b:List α} {m m':List β},All2 R l m->All2 R b m'->All2 R (l++b) (m++m')
 |[],_,[],_,_,h=>h
 |[],_,_::_,_,h,_=>h.elim
 |_::_,_,[],_,h,_=>h.elim
 |_::_,_,_::_,_,h,k=>⟨h.1,All2.append h.2 k⟩
theorem All2.take{α β:Type}{R:α->β->Prop}:∀(n:Nat) {l:List α} {m:List β},All2 R l m->All2 R (l.take n) (m.take n)
 |0,_,_,_=>by simp[All2]
 |_+1,[],[],_=>trivial
 |_+1,[],_::_,h=>h.elim
 |_+1,_::_,[],h=>h.elim
 |n+1,_::_,_::_,h=>⟨h.1,All2.take n h.2⟩
theorem All2.drop{α β:Type}{R:α->β->Prop}:∀(n:Nat) {l:List α} {m:List β},All2 R l m->All2 R (l.drop n) (m.drop n)
 |0,_,_,h=>by simpa using h
 |_+1,[],[],_=>trivial
 |_+1,[],_::_,h=>h.elim
 |_+1,_::_,[],h=>h.elim
 |n+1,_::_,_::_,h=>by simpa using All2.drop n h.2
theorem All2.get{α β:Type}{R:α->β->Prop}:∀{l:List α} {m:List β} {i:Nat} {x:α},All2 R l m->l[i]?=Tc x->∃y,m[i]?=Tc y/\R x y
 |[],[],_,_,_,h=>by simp at h
 |[],_::_,_,_,h,_=>h.elim
 |_::_,[],_,_,h,_=>h.elim
 |_::_,y::_,0,_,h,e=>by simp at e;subst e;exact⟨y,rfl,h.1⟩
 |_::_,_::_,i+1,_,h,e=>by simpa using All2.get h.2 (by simpa using e)
def Jq:(t:Ty)->El t->List AA
 |.int k,i=>[.v (.int k i)]
 |.bool,b=>[.v (.bool b)]
 |.str,s=>[.v (.string s)]
 |.row t,xs=>[.d (.row t) xs]
 |.tree,t=>[.v (.int .i64 t.kind),.v (.string t.text),.d (.row .str) t.keys,.d (.row .tree) t.items]
 |.unit,_=>[]
 |.pair a b,x=>Jq a x.1++Jq b x.2
 |.ptr t,x=>[.elt t x 0]
 |.iter,x=>[.d .iter x]
 |.err,x=>[.d .err x]
theorem Zc{γ:Gh}:∀{t:Ty} {x:El t} {cs:List Value},Rd γ.M t x cs->All2 (DenA γ) (Jq t x) cs
 |.int _,_,_,h=>by rw[h];exact⟨rfl,trivial⟩
 |.bool,_,_,h=>by rw[h];exact⟨rfl,trivial⟩
 |.str,_,_,h=>by rw[h];exact⟨rfl,trivial⟩
 |.row t,_,_,⟨v,e,h⟩=>by rw[e];exact⟨⟨v,rfl,h⟩,trivial⟩
 |.tree,_,_,h=>by obtain⟨vk,vi,e,h1,c⟩:=TrRd.keys h;rw[e];exact⟨rfl,rfl,h1,c,trivial⟩
 |.unit,_,_,h=>by rw[h];trivial
 |.pair _ _,_,_,⟨c1,c2,e,h1,c⟩=>by rw[e];exact(Zc h1).append (Zc c)
 |.ptr t,x,_,⟨b,o,cc,e,h1,c⟩=>by rw[e];exact⟨⟨b,o,cc,rfl,h1,c⟩,trivial⟩
 |.iter,x,_,h=>by rw[h];exact⟨rfl,trivial⟩
 |.err,x,_,⟨v,e,h⟩=>by rw[e];exact⟨⟨v,rfl,h⟩,trivial⟩
def lp:Ty->Bool
 |.iter=>Ta
 |.err=>Ta
 |.pair a b=>bif lp a then Ta else lp b
 |_=>Tb
theorem Rd.noIt{M:Fr}:∀{t:Ty} {x:El t} {cs:List Value},lp t=Tb->Rd M t x cs->∀s p,Z1 s p∉cs
 |.int _,_,_,_,h,s,p=>by rw[h];simp[Z1]
 |.bool,_,_,_,h,s,p=>by rw[h];simp[Z1]
 |.str,_,_,_,h,s,p=>by rw[h];simp[Z1]
 |.row t,_,_,_,⟨v,e,a,c,e2,_⟩,s,p=>by rw[e,e2];simp[Z1]
 |.tree,_,_,_,h,s,p=>by
  cases h with
  |mk i _ _ _=>obtain⟨a,c,e,_⟩:=i;rw[e];simp[Z1]
 |.unit,_,_,_,h,s,p=>by rw[h];simp
 |.pair a b,_,_,hi,⟨c1,c2,e,h1,h2⟩,s,p=>by
  simp only[lp]at hi;cases ha:lp a with
  |true=>simp_all
  |false=>rw[ha]at hi;rw[e];intro f;rcases ZG.1 f with f|f;exact Rd.noIt ha h1 s p f;exact Rd.noIt hi h2 s p f
 |.ptr _,_,_,_,⟨b,o,cc,e,_⟩,s,p=>by rw[e];simp[Z1]
 |.iter,_,_,hi,_,_,_=>by cases hi
 |.err,_,_,hi,_,_,_=>by cases hi
def fR:List AA->Bool
 |[.d t _]=>lp t
 |[.v (.iface _ _)]=>Ta
 |_=>Tb
theorem pV{γ:Gh}{l:List AA}{us:List Value}(h:fR l=Tb)(k:All2 (DenA γ) l us)(s:Bt)(p:Nat):us≠[Z1 s p]:=by
 intro e;subst e
 match l,k with
 |[x],k=>
  cases x with
  |v y=>rw[<-show Z1 s p=y from k.1]at h;simp[fR,Z1]at h
  |d t y=>exact Rd.noIt (show lp t=Tb from h) (show Rd γ.M t y [Z1 s p]from k.1) s p (by simp)
  |box c o=>have:Z1 s p=_:=k.1;simp[Z1]at this
  |own c=>have:Z1 s p=_:=k.1;simp[Z1,aK]at this
  |oelt c z i o=>obtain⟨g,_,e⟩:=k.1;simp[Z1]at e
  |elt t y o=>obtain⟨b,f,cs,e,_⟩:=k.1;simp[Z1]at e
  |dc t xs=>obtain⟨s',e,_⟩:=k.1;simp[Z1,aK]at e
 |[],k=>exact k.elim
 |_::_::_,k=>exact k.2.elim
inductive Ch where
 |box (l:List AA)
 |row (e:TypeId) (t:Ty) (xs:List (El t))
 |fz (t:Ty) (xs:List (El t))
abbrev CS:=List (Nat×Ch)
def Yd:CS->Nat->Option Ch
 |[],_=>Td
 |(j,k)::l,i=>bif Nat.beq i j then Tc k else Yd l i
theorem qh{l:CS}{i:Nat}{k:Ch}(h:Yd l i=Tc k):(i,k)∈l:=by
 induction l with
 |nil=>cases h
 |cons x l b=>obtain⟨j,e⟩:=x;simp only[Yd]at h;by_cases c:Nat.beq i j=Ta;simp_all;simp_all
def Qj(t t':Ty)(x:El t):Option (El t'):=if h:t=t' then Tc (h ▸ x)else Td
theorem Wl{M:Fr}{t t':Ty}{x:El t}{y:El t'}(h:Qj t t' x=Tc y)(r:Rd M t x cs):Rd M t' y cs:=by unfold Qj at h;grind
def iZ(cs:CS):(t:Ty)->AA->Option (El t)
 |.int k,.v (.int k' i)=>if k=k' then Tc i else Td
 |.bool,.v (.bool b)=>Tc b
 |.str,.v (.string s)=>Tc s
 |.row t,.v (.slice Td 0 0)=>Tc ([]:List (El t))
 |.row t,.d t' x=>Qj t' (.row t) x
 |.row t,.dc t' x=>Qj (.row t') (.row t) x
 |.row t,.own c=>match Yd cs c with
  |some (.fz t' xs)=>Qj (.row t') (.row t) xs
  |_=>Td
 |.ptr t,.elt t' x 0=>Qj t' t x
 |.ptr t,.d t' x=>Qj t' (.ptr t) x
 |.iter,.d t' x=>Qj t' .iter x
 |.err,.d t' x=>Qj t' .err x
 |.err,.v .nilIface=>Tc Ta
 |.err,.v (.iface _ _)=>Tc Tb
 |_,_=>Td
def collect(cs:CS):(t:Ty)->List AA->Option (El t×List AA)
 |.unit,l=>Tc ((),l)
 |.pair a b,l=>match collect cs a l with
  |some (x,l')=>match collect cs b l' with
   |some (y,l'')=>Tc ((x,y),l'')
   |none=>Td
  |none=>Td
 |.tree,k::s::ks::xs::l=>match iZ cs (.int .i64) k,iZ cs .str s,iZ cs (.row .str) ks,iZ cs (.row .tree) xs with
  |some k,Tc s,Tc ks,some xs=>Tc (Tr.mk k s ks xs,l)
  |_,_,_,_=>Td
 |.tree,_=>Td
 |t,x::l=>match iZ cs t x with
  |some y=>Tc (y,l)
  |none=>Td
 |_,[]=>Td
def i8(γ:Gh)(cs:CS):Prop:=∀c t xs,(c,Ch.fz t xs)∈cs->Rd γ.M (.row t) xs [aK (γ.σ c)]
theorem we{γ:Gh}{cs:CS}(k:i8 γ cs){t:Ty}{x:AA}{y:El t}(h:iZ cs t x=Tc y){u:Value}(c:DenA γ x u):Rd γ.M t y [u]:=by unfold iZ at h;split at h;split at h;rename_i l;simp only[YL]at h;subst h;subst l;exact congrArg (λu=>[u]) c;cases h;simp only[YL]at h;subst h;exact congrArg (λu=>[u]) c;simp only[YL]at h;subst h;exact congrArg (λu=>[u]) c;simp only[YL]at h;subst h;exact⟨u,rfl,Td,0,c,by simp,.inl rfl⟩;exact Wl h c;obtain⟨s,_,_,c⟩:=c;exact Wl h c;split at h;rename_i t' xs i;rw[show u=_ from c];exact Wl h (k _ _ _ (qh i));cases h;rename_i t t' x;obtain⟨b,f,cs',e,h1,m⟩:=c;exact⟨b,f,cs',by rw[e];rfl,h1,by unfold Qj at h;grind⟩;exact Wl h c;exact Wl h c;exact Wl h c;simp only[YL]at h;subst h;exact⟨u,rfl,.inl ⟨rfl,c⟩⟩;rename_i t' n;simp only[YL]at h;subst h;exact⟨u,rfl,.inr ⟨rfl,_,_,c⟩⟩;cases h
theorem Jr{γ:Gh}{cs:CS}(e:i8 γ cs):∀{t:Ty} {l f:List AA} {y:El t},collect cs t l=Tc (y,f)->∀{us:List Value},All2 (DenA γ) l us->∃c1 c2,us=c1++c2/\Rd γ.M t y c1/\All2 (DenA γ) f c2
 |.unit,l,f,y,h,us,hu=>by simp only[collect,YL,za1]at h;obtain⟨_,rfl⟩:=h;exact⟨[],us,rfl,rfl,hu⟩
 |.pair a b,l,f,y,h,us,hu=>by simp only[collect]at h;split at h;rename_i x N h1;split at h;rename_i z O m;simp only[YL,za1]at h;obtain⟨rfl,rfl⟩:=h;obtain⟨c1,c2,rfl,n,p⟩:=Jr e h1 hu;obtain⟨q,L,rfl,i,o⟩:=Jr e m p;exact⟨c1++q,L,by simp,⟨c1,q,rfl,n,i⟩,o⟩;cases h;cases h
 |.tree,l,f,y,h,us,hu=>by
  match l,us,hu,h with
  |k::s::ks::xs::l,u1::u2::u3::u4::us,hu,h=>simp only[collect]at h;split at h;rename_i E s' B A h1 m H C;simp only[YL,za1]at h;obtain⟨rfl,rfl⟩:=h;obtain⟨D,r,w,I,G⟩:=hu;have n:=we e h1 D;have p:=we e m r;have i:=we e H w;have o:=we e C I;refine⟨[u1,u2,u3,u4],us,rfl,?_,G⟩;have J:[u1]=[zdk .i64 E]:=n;have F:[u2]=[ZD s']:=p;cases J;cases F;exact TrRd.of i o;cases h
  |[],_,_,h=>simp[collect]at h
  |[_],_,_,h=>simp[collect]at h
  |[_,_],_,_,h=>simp[collect]at h
  |[_,_,_],_,_,h=>simp[collect]at h
  |_::_::_::_::_,[],hu,_=>exact hu.elim
  |_::_::_::_::_,[_],hu,_=>exact hu.2.elim
  |_::_::_::_::_,[_,_],hu,_=>exact hu.2.2.elim
  |_::_::_::_::_,[_,_,_],hu,_=>exact hu.2.2.2.elim
 |.int k,x::l,f,y,h,u::us,hu=>by simp only[collect]at h;split at h;rename_i z c;simp only[YL,za1]at h;obtain⟨rfl,rfl⟩:=h;exact⟨[u],us,rfl,we e c hu.1,hu.2⟩;cases h
 |.bool,x::l,f,y,h,u::us,hu=>by simp only[collect]at h;split at h;rename_i z c;simp only[YL,za1]at h;obtain⟨rfl,rfl⟩:=h;exact⟨[u],us,rfl,we e c hu.1,hu.2⟩;cases h
 |.str,x::l,f,y,h,u::us,hu=>by simp only[collect]at h;split at h;rename_i z c;simp only[YL,za1]at h;obtain⟨rfl,rfl⟩:=h;exact⟨[u],us,rfl,we e c hu.1,hu.2⟩;cases h
 |.row _,x::l,f,y,h,u::us,hu=>by simp only[collect]at h;split at h;rename_i z c;simp only[YL,za1]at h;obtain⟨rfl,rfl⟩:=h;exact⟨[u],us,rfl,we e c hu.1,hu.2⟩;cases h
 |.ptr _,x::l,f,y,h,u::us,hu=>by simp only[collect]at h;split at h;rename_i z c;simp only[YL,za1]at h;obtain⟨rfl,rfl⟩:=h;exact⟨[u],us,rfl,we e c hu.1,hu.2⟩;cases h
 |.iter,x::l,f,y,h,u::us,hu=>by simp only[collect]at h;split at h;rename_i z c;simp only[YL,za1]at h;obtain⟨rfl,rfl⟩:=h;exact⟨[u],us,rfl,we e c hu.1,hu.2⟩;cases h
 |.iter,_::_,_,_,_,[],hu=>hu.elim
 |.iter,[],_,_,h,_,_=>by simp[collect]at h
 |.err,x::l,f,y,h,u::us,hu=>by simp only[collect]at h;split at h;rename_i z c;simp only[YL,za1]at h;obtain⟨rfl,rfl⟩:=h;exact⟨[u],us,rfl,we e c hu.1,hu.2⟩;cases h
 |.err,_::_,_,_,_,[],hu=>hu.elim
 |.err,[],_,_,h,_,_=>by simp[collect]at h
 |.int _,_::_,_,_,_,[],hu=>hu.elim
 |.bool,_::_,_,_,_,[],hu=>hu.elim
 |.str,_::_,_,_,_,[],hu=>hu.elim
 |.row _,_::_,_,_,_,[],hu=>hu.elim
 |.ptr _,_::_,_,_,_,[],hu=>hu.elim
 |.int _,[],_,_,h,_,_=>by simp[collect]at h
 |.bool,[],_,_,h,_,_=>by simp[collect]at h
 |.str,[],_,_,h,_,_=>by simp[collect]at h
 |.row _,[],_,_,h,_,_=>by simp[collect]at h
 |.ptr _,[],_,_,h,_,_=>by simp[collect]at h
end Go.X
end
section
namespace Go.X
section
variable {M M':Fr} {h h':zc} {b c o n0:Nat} {γ γ':Gh} {us:List Value} {u:Value} {t:Ty} {cs C R:CS} {e:TypeId}
def AgM(M:Fr)(h:zc):Prop:=∀b c,M b=Tc c->∃T m,h[b]?=Tc (.cells c T m)
theorem AgM.lt(H:AgM M h){c:Array Value}(e:M b=Tc c):b<h.size:=by obtain⟨T,m,e'⟩:=H b c e;grind
theorem AgM.none{M:Fr}{h:zc}(H:AgM M h){b:Nat}(f:h.size<=b):M b=Td:=by
 cases e:M b with
 |none=>rfl
 |some c=>have:=H.lt e;omega
theorem AgM.cell(H:AgM M h){c:Array Value}{v:Value}(e:M b=Tc c)(f:c[o]?=Tc v):ze h ⟨b,o,Option.none⟩=Tc v:=by obtain⟨T,m,e'⟩:=H b c e;unfold ze;simp[e',f]
def Gx(c:Option Nat)(γ γ':Gh):Prop:=Fr.le γ.M γ'.M/\∀i,c≠Tc i->γ'.β i=γ.β i/\γ'.σ i=γ.σ i
theorem Gx.refl(c:Option Nat)(γ:Gh):Gx c γ γ:=⟨Fr.le.refl _,λ_ _=>⟨rfl,rfl⟩⟩
def im(c:Nat):AA->Bool
 |.box j _=>Nat.beq j c
 |.own j=>Nat.beq j c
 |.oelt j _ _ _=>Nat.beq j c
 |_=>Tb
def fU(c:Nat):List AA->Bool
 |[]=>Tb
 |x::l=>bif im c x then Ta else fU c l
def hC(c:Nat):Ch->Bool
 |.box l=>fU c l
 |_=>Tb
def pX(c:Nat):AG->Bool
 |.a x=>im c x
 |.agg l=>fU c l
def rA(c:Nat):List AG->Bool
 |[]=>Tb
 |x::l=>bif pX c x then Ta else rA c l
def iY(c:Nat):AV->Bool
 |.g x=>pX c x
 |.tup l=>rA c l
 |.nx _ _ _=>Tb
def iy{α:Type}(f:Nat->α->Bool):Option Nat->α->Bool
 |none,_=>Tb
 |some c,x=>f c x
theorem pg{j c:Nat}(h:Nat.beq j c=Tb):Tc c≠Tc j:=by intro e;simp_all
theorem DenA.gx{c:Option Nat}(g:Gx c γ γ'):∀{x:AA} {u:Value},iy im c x=Tb->DenA γ x u->DenA γ' x u
 |.v _,_,_,h=>h
 |.d _ _,_,_,h=>Rd.mono g.1 h
 |.box j o,u,hm,h=>by
  have:c≠Tc j:=by cases c with|none=>simp|some c=>exact pg hm
  rw[show u=_ from h];simp only[DenA,(g.2 j this).1]
 |.own j,u,hm,h=>by
  have:c≠Tc j:=by cases c with|none=>simp|some c=>exact pg hm
  rw[show u=_ from h];simp only[DenA,(g.2 j this).2]
 |.oelt j z i o,u,hm,h=>by
  have:c≠Tc j:=by cases c with|none=>simp|some c=>exact pg hm
  obtain⟨b,k,l⟩:=h;exact⟨b,by rw[(g.2 j this).2];exact k,l⟩
 |.elt _ _ _,_,_,⟨b,f,cs,e,h1,h2⟩=>⟨b,f,cs,e,g.1 _ _ h1,Rd.mono g.1 h2⟩
 |.dc _ _,_,_,⟨s,k,l,h⟩=>⟨s,k,l,Rd.mono g.1 h⟩
theorem Ry{l:List AA}(h:fU c l=Tb):∀x∈l,im c x=Tb:=by
 induction l with
 |nil=>simp
 |cons y l b=>intro x e;simp only[fU]at h;grind
theorem DenL.gx{c:Option Nat}(g:Gx c γ γ'){l:List AA}(b:iy fU c l=Tb)(h:All2 (DenA γ) l us):All2 (DenA γ') l us:= h.imp λx f u e=>DenA.gx g (by cases c with|none=>rfl|some c=>exact Ry b x f) e
theorem DenG.gx{c:Option Nat}(g:Gx c γ γ'){x:AG}(b:iy pX c x=Tb)(h:DenG γ x u):DenG γ' x u:=by
 cases x with
 |a x=>exact DenA.gx g (by cases c <;> exact b) h
 |agg l=>obtain⟨us,e,h⟩:=h;exact⟨us,e,DenL.gx g (by cases c <;> exact b) h⟩
theorem NQ{l:List AG}(h:rA c l=Tb):∀x∈l,pX c x=Tb:=by
 induction l with
 |nil=>simp
 |cons y l b=>intro x e;simp only[rA]at h;grind
theorem DenV.gx{c:Option Nat}(g:Gx c γ γ'){x:AV}(f:iy iY c x=Tb)(h:DenV γ x u):DenV γ' x u:=by
 cases x with
 |g x=>exact DenG.gx g (by cases c <;> exact f) h
 |tup l=>obtain⟨us,e,h⟩:=h;exact⟨us,e,h.imp λx k u i=>DenG.gx g (by cases c with|none=>rfl|some c=>exact NQ f x k) i⟩
 |nx b p c=>exact h
def RowC(M:Fr)(t:Ty)(xs:List (El t))(cells:List Value):Prop:=
 cells.length=xs.length*sz t/\∀i (h:i<xs.length),Rd M t xs[i] ((cells.drop (i*sz t)).take (sz t))
theorem RowC.mono(b:Fr.le M M'){xs:List (El t)}{cells:List Value}(H:RowC M t xs cells):RowC M' t xs cells:=⟨H.1,λi h=>Rd.mono b (H.2 i h)⟩
theorem RowC.nil(M:Fr)(t:Ty):RowC M t [] []:=⟨by simp,λi h=>absurd h (by simp)⟩
theorem RowC.single{x:El t}{cs:List Value}(h:Rd M t x cs):RowC M t [x] cs:=by
 have b:=h.len;refine⟨by simp[b],λi hi=>?_⟩;have:i=0:=by simpa using hi
 subst this;grind
theorem RowC.append{xs ys:List (El t)}{c1 c2:List Value}(h1:RowC M t xs c1)(k:RowC M t ys c2):RowC M t (xs++ys) (c1++c2):=by
 refine⟨by rw[ZC,ZC,h1.1,k.1,zb0],λi hi=>?_⟩;by_cases b:i<xs.length;rw[List.getElem_append_left b];have h:(i+1)*sz t<=c1.length:=by rw[h1.1];exact ZF _ b
 rw[zb0,zdf]at h;rw[List.drop_append_of_le_length (by omega),List.take_append_of_le_length (by grind)];exact h1.2 i b;have c:xs.length<=i:=by omega
 rw[List.getElem_append_right c];have f:i-xs.length<ys.length:=by rw[ZC]at hi;omega
 have:=k.2 (i-xs.length) f;have e:(c1++c2).drop (i*sz t)=c2.drop ((i-xs.length)*sz t):=by
  rw[List.drop_append];have:c1.length<=i*sz t:=by rw[h1.1];exact ZF _ c
  rw[zac this,zba,h1.1,<-Nat.sub_mul]
 grind
theorem RowC.one{xs:List (El t)}{cells:List Value}(H:RowC M t xs cells):∀v∈cells,v.oneCell'=Ta:=by
 intro v c;obtain⟨j,b,rfl⟩:=zbx c;have e:0<sz t:=by rcases zcd (sz t)with h|h;rw[H.1,h,Nat.mul_zero]at b;omega;exact h
 have hi:j / sz t<xs.length:=by rw[H.1]at b;exact Nat.div_lt_of_lt_mul (by grind)
 refine Rd.one (H.2 _ hi) _ ?_;rw[zce];refine⟨j % sz t,?_⟩;rw[ZQ,zb (Nat.mod_lt _ e),zan,Nat.mul_comm,Nat.div_add_mod,YR b]
theorem RowC.rd{xs:List (El t)}{cells:List Value}(H:RowC M t xs cells){cs:Array Value}(h:M b=Tc cs)(k:(cs.toList.drop o).take (xs.length*sz t)=cells)(l:xs.length<=140737488355328/\xs.length<=c):
  Rd M (.row t) xs [.slice (Tc ⟨b,o,Td⟩) xs.length c]:=by
 refine⟨_,rfl,_,_,rfl,l,.inr ⟨b,o,cs,rfl,h,λi hi=>?_⟩⟩;have:=H.2 i hi;rw[<-k]at this;have f:(i+1)*sz t<=xs.length*sz t:=ZF _ hi;rw[zb0,zdf]at f;have e:(((cs.toList.drop o).take (xs.length*sz t)).drop (i*sz t)).take (sz t)=cut cs (o+i*sz t) (sz t):=by unfold cut;rw[List.drop_take,List.take_take,zbt,zcz (by omega)]
 simp_all
theorem Rd.rowC(ag:AgM M h){xs:List (El t)}(H:Rd M (.row t) xs [u]):∃s:Sl,u=aK s/\s.len=xs.length/\(xs.length<=140737488355328/\xs.length<=s.cap)/\∃cells,RowC M t xs cells/\Arr h.size h s.a cells:=by
 obtain⟨v,e,a,c,rfl,n,H⟩:=H;cases e;refine⟨⟨a,xs.length,c⟩,rfl,rfl,n,?_⟩;rcases H with rfl|⟨b,o,cs,rfl,m,hi⟩;exact⟨[],RowC.nil _ _,.inl rfl⟩;have f:xs=[]\/xs.length*sz t<=(cs.toList.drop o).length:=by
  rcases zcd xs.length with h0|h0;simp_all;right;have:=(hi (xs.length-1) (by omega)).len;unfold cut at this;rw[za0,zab]at this;rw[zab];rcases zcd (sz t)with p|p;grind;have e:xs.length*sz t=(xs.length-1)*sz t+sz t:=by rw[<-zcn];congr 1;omega
  rw[e];omega
 rcases f with rfl|f;exact⟨[],RowC.nil _ _,.inl rfl⟩;refine⟨(cs.toList.drop o).take (xs.length*sz t),⟨by simp_all,λi k=>?_⟩,.inr ⟨b,o,rfl,ag.lt m,λi v q=>?_⟩⟩;have:=hi i k;have l:(i+1)*sz t<=xs.length*sz t:=ZF _ k;rw[zb0,zdf]at l;unfold cut at this;rw[List.drop_take,List.take_take,zbt,zcz (by omega)];exact this;refine ag.cell m ?_;grind
def v7(o:Option Obj)(us:List Value):Prop:=((∃T,o=Tc (.cells us.toArray T (0,0)))/\∀s p,us≠[Z1 s p])\/(∃s p,us=[Z1 s p]/\o=Tc (.stringIter s p))
def DenC(n0:Nat)(γ:Gh)(h:zc)(c:Nat):Ch->Prop
 |.box l=>∃us,v7 h[γ.β c]? us/\All2 (DenA γ) l us
 |.row e t xs=>∃cells,Owns h n0 e (sz t) (γ.σ c) cells/\RowC γ.M t xs cells/\xs.length<=140737488355328/\(γ.σ c).len=xs.length
 |.fz t xs=>Rd γ.M (.row t) xs [aK (γ.σ c)]
def blk(γ:Gh)(c:Nat):Ch->Option Nat
 |.box _=>Tc (γ.β c)
 |.row _ _ _=>(γ.σ c).a.map (·.block)
 |.fz _ _=>Td
structure Inv (h0:zc) (W:Nat->Prop) (M0:Fr) (cs:CS) (γ:Gh) (h:zc):Prop where
 ag:AgM γ.M h
 frame:∀i,i<h0.size->¬W i->h[i]?=h0[i]?
 size:h0.size<=h.size
 old:∀b,b<h0.size->γ.M b=M0 b
 le:Fr.le M0 γ.M
 den:∀x∈cs,DenC h0.size γ h x.1 x.2
 sep:∀x∈cs,∀b,blk γ x.1 x.2=Tc b->(h0.size<=b\/W b)/\γ.M b=Td
 apart:cs.Pairwise λx y=>∀b,blk γ x.1 x.2=Tc b->blk γ y.1 y.2≠Tc b
variable {h0 : zc} {W : Nat -> Prop} {M0 : Fr}
theorem DenC.lt{k:Ch}(H:DenC n0 γ h c k):∀b,blk γ c k=Tc b->b<h.size:=by
 intro b f;cases k with
 |box l=>obtain⟨us,e,_⟩:=H;simp only[blk,YL]at f;subst f;rcases e with⟨⟨T,e⟩,_⟩|⟨s,p,_,e⟩;grind;grind
 |row e t xs=>obtain⟨cells,h1,_⟩:=H;simp only[blk,zbu]at f;obtain⟨p,i,rfl⟩:=f;exact(h1.base_le p i).2
 |fz t xs=>cases f
theorem DenC.gx{c:Option Nat}(g:Gx c γ γ'){j:Nat}{k:Ch}(s:c≠Tc j)(q:iy hC c k=Tb)(H:DenC n0 γ h j k)(f:∀b,blk γ j k=Tc b->h'[b]?=h[b]?):DenC n0 γ' h' j k:=by
 obtain⟨r,i⟩:=g.2 j s;cases k with
 |box l=>obtain⟨us,e,h1⟩:=H;exact⟨us,by rw[r,f _ rfl];exact e,DenL.gx g (by cases c <;> exact q) h1⟩
 |row e t xs=>obtain⟨cells,h1,n,o,u⟩:=H;refine⟨cells,?_,n.mono g.1,o,by grind⟩;rw[i];exact h1.keep λp m=>f _ (by simp[blk,m])
 |fz t xs=>simp only[DenC,i];exact Rd.mono g.1 H
theorem lZ{c:Option Nat}(g:Gx c γ γ'){j:Nat}(k:Ch)(e:c≠Tc j):blk γ' j k=blk γ j k:=by obtain⟨b,f⟩:=g.2 j e;cases k <;> simp[blk,b,f]
theorem Inv.rest{cs rest:CS}{γ γ':Gh}{h h':zc}(I:Inv h0 W M0 cs γ h)(hsub:rest.Sublist cs){c:Option Nat}(g:Gx c γ γ') (hmen:∀x∈rest,c≠Tc x.1/\iy hC c x.2=Tb) (hk:∀x∈rest,∀b,blk γ x.1 x.2=Tc b->h'[b]?=h[b]?/\γ'.M b=Td)
  (ag:AgM γ'.M h') (hframe:∀i,i<h0.size->¬W i->h'[i]?=h[i]?) (hsize:h.size<=h'.size) (hold:∀b,b<h0.size->γ'.M b=γ.M b):Inv h0 W M0 rest γ' h' where
 ag:=ag
 frame:=λi hi hw=>(hframe i hi hw).trans (I.frame i hi hw)
 size:=zaj I.size hsize
 old:=λb hb=>(hold b hb).trans (I.old b hb)
 le:=I.le.trans g.1
 den:=λx hx=>(I.den x (hsub.subset hx)).gx g (hmen x hx).1 (hmen x hx).2 λb hb=>(hk x hx b hb).1
 sep:=λx hx b hb=>by rw[lZ g _ (hmen x hx).1]at hb;exact⟨(I.sep x (hsub.subset hx) b hb).1,(hk x hx b hb).2⟩
 apart:=by refine(I.apart.sublist hsub).imp_of_mem λ {x y} hx hy h=>?_;intro b hb;rw[lZ g _ (hmen x hx).1]at hb;rw[lZ g _ (hmen y hy).1];exact h b hb
theorem Inv.cons{rest:CS}(I:Inv h0 W M0 rest γ h){k:Ch}(hd:DenC h0.size γ h c k)(hs:∀b,blk γ c k=Tc b->(h0.size<=b\/W b)/\γ.M b=Td)
  (ha:∀b,blk γ c k=Tc b->∀x∈rest,blk γ x.1 x.2≠Tc b):Inv h0 W M0 ((c,k)::rest) γ h where
 ag:=I.ag
 frame:=I.frame
 size:=I.size
 old:=I.old
 le:=I.le
 den:=λx hx=>by rcases YS.1 hx with rfl|hx;exact hd;exact I.den x hx
 sep:=λx hx=>by rcases YS.1 hx with rfl|hx;exact hs;exact I.sep x hx
 apart:=za2.2 ⟨λy hy b hb=>ha b hb y hy,I.apart⟩
theorem Inv.sub{cs rest:CS}(I:Inv h0 W M0 cs γ h)(hsub:rest.Sublist cs):Inv h0 W M0 rest γ h where
 ag:=I.ag
 frame:=I.frame
 size:=I.size
 old:=I.old
 le:=I.le
 den:=λx hx=>I.den x (hsub.subset hx)
 sep:=λx hx=>I.sep x (hsub.subset hx)
 apart:=I.apart.sublist hsub
theorem Inv.fz(I:Inv h0 W M0 cs γ h):i8 γ cs:=λc t xs b=>I.den _ b
theorem Inv.call(I:Inv h0 W M0 cs γ h)(k:Keep h.size h h')(n:Fr.le γ.M M')(e:∀b,b<h.size->M' b=γ.M b)(ag:AgM M' h'):Inv h0 W M0 cs { γ with M:=M' } h':= I.rest (List.Sublist.refl _) (c:=Td) ⟨n,λ_ _=>⟨rfl,rfl⟩⟩ (λx _=>⟨by simp,rfl⟩) (λx m b l=>by have f:=(I.den x m).lt b l;exact⟨k.get b f,(e b f).trans (I.sep x m b l).2⟩) ag (λi hi _=>k.get i (zcc hi I.size)) k.size (λb l=>e b (zcc l I.size))
def yf(c:Nat):CS->CS
 |[]=>[]
 |(j,k)::l=>bif (bif Nat.beq j c then Ta else hC c k)then yf c l else(j,k)::yf c l
def ya(c:Nat):CS->Bool
 |[]=>Ta
 |(j,k)::l=>bif (bif Nat.beq j c then Ta else hC c k)then Tb else ya c l
def Wm(c:Nat):CS->CS
 |[]=>[]
 |(j,k)::l=>bif Nat.beq j c then Wm c l else(j,k)::Wm c l
theorem wz(c:Nat):∀l:CS,(yf c l).Sublist l
 |[]=>.slnil
 |(j,k)::l=>by
  simp only[yf];cases(bif Nat.beq j c then Ta else hC c k)with
  |true=>exact(wz c l).cons _
  |false=>exact(wz c l).cons_cons _
theorem xr(c:Nat):∀l:CS,(Wm c l).Sublist l
 |[]=>.slnil
 |(j,k)::l=>by
  simp only[Wm];cases Nat.beq j c with
  |true=>exact(xr c l).cons _
  |false=>exact(xr c l).cons_cons _
theorem xO{c:Nat}:∀{l:CS} {x:Nat×Ch},x∈yf c l->Tc c≠Tc x.1/\hC c x.2=Tb
 |(j,k)::l,x,h=>by
  simp only[yf]at h;cases hb:(bif Nat.beq j c then Ta else hC c k)with
  |true=>rw[hb]at h;exact xO h
  |false=>
   rw[hb]at h;rcases YS.1 h with rfl|h;cases hj:Nat.beq j c with
   |true=>simp[hj]at hb
   |false=>simp only[hj,zG]at hb;exact⟨pg hj,hb⟩
   exact xO h
theorem Ye{c:Nat}:∀{l:CS},ya c l=Ta->∀x∈l,Tc c≠Tc x.1/\hC c x.2=Tb
 |[],_,x,h=>by cases h
 |(j,k)::l,hn,x,h=>by
  simp only[ya]at hn;cases hb:(bif Nat.beq j c then Ta else hC c k)with
  |true=>simp_all
  |false=>
   rw[hb]at hn;rcases YS.1 h with rfl|h;cases hj:Nat.beq j c with
   |true=>simp[hj]at hb
   |false=>simp only[hj,zG]at hb;exact⟨pg hj,hb⟩
   exact Ye hn x h
theorem Yz{c:Nat}:∀{l:CS} {x:Nat×Ch},x∈Wm c l->x∈l/\x.1≠c
 |(j,k)::l,x,h=>by
  simp only[Wm]at h;cases hb:Nat.beq j c with
  |true=>rw[hb]at h;exact⟨YU _ (Yz h).1,(Yz h).2⟩
  |false=>rw[hb]at h;rcases YS.1 h with rfl|h;refine⟨ZB,λe=>?_⟩;simp_all;exact⟨YU _ (Yz h).1,(Yz h).2⟩
def hP(γ:Gh)(c b:Nat):Gh:={ γ with β:=λi=>bif Nat.beq i c then b else γ.β i }
def gI(γ:Gh)(c:Nat)(s:Sl):Gh:={ γ with σ:=λi=>bif Nat.beq i c then s else γ.σ i }
theorem ki(γ:Gh)(c b:Nat):Gx (Tc c) γ (hP γ c b):=⟨Fr.le.refl _,λi hi=>by
 have:Nat.beq i c=Tb:=by
  cases h:Nat.beq i c with
  |false=>rfl
  |true=>simp_all
 simp[hP,this]⟩
theorem Qk(γ:Gh)(c:Nat)(s:Sl):Gx (Tc c) γ (gI γ c s):=⟨Fr.le.refl _,λi hi=>by
 have:Nat.beq i c=Tb:=by
  cases h:Nat.beq i c with
  |false=>rfl
  |true=>simp_all
 simp[gI,this]⟩
theorem Z8(γ:Gh)(c b:Nat):(hP γ c b).β c=b:=by simp[hP]
theorem yh(γ:Gh)(c:Nat)(s:Sl):(gI γ c s).σ c=s:=by simp[gI]
theorem lV(e:ya c R=Ta):∀x∈yf c C++R,Tc c≠Tc x.1/\iy hC (Tc c) x.2=Tb:=by intro x b;rcases ZG.1 b with b|b;exact xO b;exact Ye e x b
theorem Inv.newBoxO(I:Inv h0 W M0 (C++R) γ h)(q:ya c R=Ta){l:List AA}(r:All2 (DenA γ) l us)(t:fU c l=Tb){p:Obj}(o:v7 (Tc p) us):
  Inv h0 W M0 ((c,.box l)::yf c C++R) (hP γ c h.size) (h.push p):=by
 have n:∀x∈yf c C++R,∀b,blk γ x.1 x.2=Tc b->b<h.size:=λx k b f=>(I.den x (((wz c C).append_right R).subset k)).lt b f;have s:Inv h0 W M0 (yf c C++R) (hP γ c h.size) (h.push p):=by refine I.rest ((wz c C).append_right R) (ki γ c h.size) (lV q) (λx k b f=>?_) (λb u e=>?_) (λi hi _=>?_) (by simp) (λb f=>rfl);have:=n x k b f;exact⟨by grind,(I.sep x (((wz c C).append_right R).subset k) b f).2⟩;have:=I.ag.lt e;obtain⟨w,m,e'⟩:=I.ag b u e;grind;have:=I.size;grind
 refine s.cons ⟨us,by rw[Z8,xq];exact o,DenL.gx (ki γ c h.size) t r⟩ (λb f=>?_) (λb f x k e=>?_);simp only[blk,Z8,YL]at f;subst f;exact⟨.inl I.size,I.ag.none (YM _)⟩;simp only[blk,Z8,YL]at f;subst f;rw[lZ (ki γ c h.size) _ (lV q x k).1]at e;grind
theorem Inv.newBox(I:Inv h0 W M0 (C++R) γ h)(i:ya c R=Ta){l:List AA}(e:All2 (DenA γ) l us)(f:fU c l=Tb)(b:fR l=Tb)(T:TypeId):
  Inv h0 W M0 ((c,.box l)::yf c C++R) (hP γ c h.size) (h.push (.cells us.toArray T)):=
 Inv.newBoxO I i e f (.inl ⟨⟨T,rfl⟩,λs p=>pV b e s p⟩)
theorem ou{α:Type}{R:α->α->Prop}(c:∀x y,R x y->R y x):∀{l:List α},l.Pairwise R->∀{x y:α},x∈l->y∈l->x≠y->R x y
 |[],_,_,_,hx,_,_=>by cases hx
 |z::l,h,x,y,hx,hy,hne=>by rw[za2]at h;rcases YS.1 hx with e|h1;grind;rcases YS.1 hy with f|b;simp_all;exact ou c h.2 h1 b hne
theorem Inv.setBox(I:Inv h0 W M0 (C++R) γ h){l s:List AA}(t:(c,Ch.box l)∈C)(e:v7 h'[γ.β c]? us)
  (A:∀i,i≠γ.β c->h'[i]?=h[i]?) (F:h'.size=h.size) (w:All2 (DenA γ) s us) (H:∀x∈R,x.1≠c):Inv h0 W M0 ((c,.box s)::Wm c C++R) γ h':=by
 have r:=I.sep _ (YZ R t) _ rfl;have q:∀x∈Wm c C++R,blk γ x.1 x.2≠Tc (γ.β c):=by
  intro x k;have o:x≠(c,Ch.box l):=by rintro rfl;rcases ZG.1 k with k|k;exact(Yz k).2 rfl;grind
  have n:x∈C++R:=((xr c C).append_right R).subset k;have u:=@ou _ (λ(x y:Nat×Ch)=>∀b,blk γ x.1 x.2=Tc b->blk γ y.1 y.2≠Tc b) (λx y h b f p=>h b p f) _ I.apart;intro f;exact u (YZ R t) n (λe=>o e.symm) _ rfl f
 have z:Inv h0 W M0 (Wm c C++R) γ h':=by refine I.rest ((xr c C).append_right R) (c:=Td) (Gx.refl _ _) (λx _=>⟨by simp,rfl⟩) (λx k b f=>?_) (λb B D=>?_) (λi hi E=>?_) (by omega) (λb f=>rfl);exact⟨A b λe'=>q x k (e' ▸ f),(I.sep x (((xr c C).append_right R).subset k) b f).2⟩;obtain⟨G,m,e'⟩:=I.ag b B D;grind;grind
 refine z.cons ⟨us,e,w⟩ (λb f=>?_) (λb f x k=>?_);simp only[blk,YL]at f;grind;simp only[blk,YL]at f;simp_all
theorem Inv.newRow(I:Inv h0 W M0 (C++R) γ h)(D:ya c R=Ta)(G:h.size<=h'.size){p:Option Nat}(z:∀i,i<h.size->p≠Tc i->h'[i]?=h[i]?) (u:∀b,p=Tc b->h0.size<=b/\γ.M b=Td/\∀x∈C++R,blk γ x.1 x.2≠Tc b) {s:Sl} {xs:List (El t)} {cells:List Value} (o:Owns h' h0.size e (sz t) s cells) (l:∀q,s.a=Tc q->p=Tc q.block\/q.block=h.size) (r:RowC γ.M t xs cells) (H:xs.length<=140737488355328) (F:s.len=xs.length):
  Inv h0 W M0 ((c,.row e t xs)::yf c C++R) (gI γ c s) h':=by
 have f:=(wz c C).append_right R;have w:∀x∈yf c C++R,∀b,blk γ x.1 x.2=Tc b->b<h.size:=λx n b l=>(I.den x (f.subset n)).lt b l;have E:Inv h0 W M0 (yf c C++R) (gI γ c s) h':=by refine I.rest f (Qk γ c s) (lV D) (λx n b l=>?_) (λb A y=>?_) (λi hi N=>?_) G (λb l=>rfl);exact⟨z b (w x n b l) λe'=>(u b e').2.2 x (f.subset n) l,(I.sep x (f.subset n) b l).2⟩;obtain⟨J,m,e'⟩:=I.ag b A y;exact⟨J,m,by rw[z b (I.ag.lt y) λL=>by have:=(u b L).2.1;rw[show γ.M b=Tc A from y]at this;cases this];exact e'⟩;have:=I.size;grind
 refine E.cons ⟨cells,by rw[yh];exact o,r,H,by rw[yh];exact F⟩ (λb k=>?_) (λb k x n e'=>?_);simp only[blk,yh,zbu]at k;obtain⟨q,B,rfl⟩:=k;rcases l q B with h1|h1;exact⟨.inl (u _ h1).1,(u _ h1).2.1⟩;rw[h1];exact⟨.inl I.size,I.ag.none (YM _)⟩;simp only[blk,yh,zbu]at k;obtain⟨q,B,rfl⟩:=k;rw[lZ (Qk γ c s) _ (lV D x n).1]at e';grind
def lJ(c:Nat):CS->CS
 |[]=>[]
 |(j,k)::l=>bif Nat.beq j c then(match k with
  |.row _ t xs=>(j,.fz t xs)::lJ c l
  |k=>(j,k)::lJ c l)else(j,k)::lJ c l
def fy(γ:Gh)(b:Nat)(cs:Array Value):Gh:={ γ with M:=λi=>bif Nat.beq i b then Tc cs else γ.M i }
theorem Inv.freeze1{A C:CS}{xs:List (El t)}(I:Inv h0 W M0 (A++(c,.row e t xs)::C) γ h):∃γ',Inv h0 W M0 (A++(c,.fz t xs)::C) γ' h/\Gx Td γ γ':=by
 obtain⟨cells,w,p,Z,S⟩:=I.den (c,.row e t xs) (by simp);have N:=p.1;rcases w.2 with⟨n,h1⟩|⟨g,cap,k,n,l,O,U,L,Y,G⟩;refine⟨γ,?_,Gx.refl _ _⟩;have H:xs=[]:=zaa (by omega);have V:DenC h0.size γ h c (.fz t xs):=by subst H;simp only[ZU]at n;exact⟨_,rfl,Td,0,by simp[aK,n],⟨by simp,by simp⟩,.inl rfl⟩
 have m:∀x,x∈A++(c,Ch.fz t xs)::C->x∈A++(c,Ch.row e t xs)::C\/x=(c,Ch.fz t xs):=by intro x f;simp only[ZG,YS]at f ⊢;rcases f with h|h|h;grind;exact .inr h;simp_all
 refine⟨I.ag,I.frame,I.size,I.old,I.le,λx f=>?_,λx f b i=>?_,?_⟩;grind [den];rcases m x f with h|rfl;exact I.sep x h b i;cases i;have:=I.apart;simp only[zch,za2]at this ⊢;obtain⟨D,⟨a2,B⟩,F⟩:=this;refine⟨D,⟨λy s b i=>(by simp[blk]at i),B⟩,λx f y s b i=>?_⟩;rcases YS.1 s with rfl|s;simp[blk];grind;simp only[ZU]at n;have Q:γ.M g=Td:=(I.sep (c,.row e t xs) (by simp) g (by simp[blk,n.1])).2;have z:Fr.le γ.M (fy γ g k).M:=by
  intro b J u;have:Nat.beq b g=Tb:=by
   cases i:Nat.beq b g with
   |false=>rfl
   |true=>simp_all
  simp[fy,this,u]
 have gx:Gx Td γ (fy γ g k):=⟨z,λ_ _=>⟨rfl,rfl⟩⟩;have P:g<h.size:=(YV.1 O).1;have E:∀x,x∈A++C->blk γ x.1 x.2≠Tc g:=by intro x f;have:=I.apart;simp only[zch,za2]at this;obtain⟨D,⟨a2,B⟩,F⟩:=this;rcases ZG.1 f with f|f;intro i;exact F x f (c,.row e t xs) ZB g i (by simp[blk,n.1]);exact a2 x f g (by simp[blk,n.1])
 have q:∀b,b≠g->(fy γ g k).M b=γ.M b:=by
  intro b i;have:Nat.beq b g=Tb:=by
   cases h:Nat.beq b g with
   |false=>rfl
   |true=>simp_all
  simp[fy,this]
 have r:Inv h0 W M0 (A++C) (fy γ g k) h:=by
  refine I.rest (by simp) gx (λx _=>⟨by simp,rfl⟩) (λx f b i=>?_) (λb J u=>?_) (λ_ _ _=>rfl) (YM _) (λb i=>q b (by omega));have l:b≠g:=λe'=>E x f (e' ▸ i);refine⟨rfl,(q b l).trans (I.sep x ?_ b i).2⟩;grind;by_cases l:b=g;subst l;have:J=k:=by simp[fy]at u;exact u.symm
  subst this;exact⟨_,_,O⟩;rw[q b l]at u;exact I.ag b J u
 refine⟨fy γ g k,?_,gx⟩;have V:DenC h0.size (fy γ g k) h c (.fz t xs):=by
  have:=(p.mono z).rd (b:=g) (o:=0) (c:=cap) (cs:=k) (by simp[fy]) (by simp_all) ⟨Z,by omega⟩;show Rd _ _ _ [aK (γ.σ c)];have e3:aK (γ.σ c)=.slice (Tc ⟨g,0,Td⟩) xs.length cap:=by unfold aK;rw[n.1,S,n.2.2]
  rw[e3];exact this
 have m:∀x,x∈A++(c,Ch.fz t xs)::C->x∈A++C\/x=(c,Ch.fz t xs):=by intro x f;simp only[ZG,YS]at f ⊢;rcases f with h|h|h;grind;exact .inr h;grind
 refine⟨r.ag,r.frame,r.size,r.old,r.le,λx f=>?_,λx f b i=>?_,?_⟩;grind [den];rcases m x f with h|rfl;exact r.sep x h b i;cases i;have:=r.apart;simp only[zch,za2]at this ⊢;obtain⟨D,B,F⟩:=this;refine⟨D,⟨λy s b i=>(by simp[blk]at i),B⟩,λx f y s b i=>?_⟩;rcases YS.1 s with rfl|s;simp[blk];grind
theorem Inv.freeze{R:CS}{h:zc}(c:Nat):∀(C A:CS) {γ:Gh},Inv h0 W M0 (A++C++R) γ h->∃γ',Inv h0 W M0 (A++lJ c C++R) γ' h/\Gx Td γ γ'
 |[],A,γ,I=>⟨γ,I,Gx.refl _ _⟩
 |(j,k)::l,A,γ,I=>by
  have go:∀(k:Ch) {γ:Gh},Inv h0 W M0 (A++(j,k)::l++R) γ h->∃γ',Inv h0 W M0 (A++(j,k)::lJ c l++R) γ' h/\Gx Td γ γ':=by intro k γ I;have:=Inv.freeze c l (A++[(j,k)]) (R:=R) (γ:=γ) (by simpa using I);simpa using this
  simp only[lJ];cases Nat.beq j c with
  |true=>
   cases k with
   |row e t xs=>obtain⟨o,p,b⟩:=Inv.freeze1 (A:=A) (C:=l++R) (γ:=γ) (by simpa using I);obtain⟨m,n,f⟩:=go (.fz t xs) (γ:=o) (by simpa using p);exact⟨m,n,b.1.trans f.1,λi hi=>⟨(f.2 i hi).1.trans (b.2 i hi).1,(f.2 i hi).2.trans (b.2 i hi).2⟩⟩
   |box q=>exact go _ I
   |fz t xs=>exact go _ I
  |false=>exact go _ I
end
section
variable {i n:Nat} {c:qc} {v:AV} {γ γ':Gh} {a:Act} {u:Value} {o:Oper} {g:Option Bool} {σ:Operand -> Value}
abbrev qz:=List (Nat×qc×AV)
def j3:qz->Nat->Option (qc×AV)
 |[],_=>Td
 |(j,c,v)::e,i=>bif Nat.beq i j then Tc (c,v)else j3 e i
def jH(γ:Gh)(σ:Nat->Value)(x:Nat×qc×AV):Prop:=(valid σ x.2.1->DenV γ x.2.2 (σ x.1))/\(¬valid σ x.2.1->σ x.1=undef)
structure SatA (n:Nat) (e:qz) (γ:Gh) (a:Act):Prop where
 defers:a.defers=[]
 size:a.tmps.size=n
 all:∀x∈e,jH γ (qe a) x
def oV:qz->Nat->qz
 |[],_=>[]
 |(j,c,v)::e,i=>bif (bif Nat.beq i j then Ta else mentions c i)then oV e i else(j,c,v)::oV e i
def HD(e:qz)(i:Nat)(c:qc)(v:AV):qz:=(i,c,v)::oV e i
def sI(e:qz):Option Nat->qc->AV->qz
 |none,_,_=>e
 |some d,c,v=>HD e d c v
def kG:qz->qz
 |[]=>[]
 |(j,[],v)::e=>(j,[],v)::kG e
 |(_,_::_,_)::e=>kG e
def pP(c:Nat):qz->qz
 |[]=>[]
 |(j,ch,v)::e=>bif iY c v then pP c e else(j,ch,v)::pP c e
def sE:Option Nat->qz->qz
 |none,e=>e
 |some c,e=>pP c e
theorem Z9{e:qz}(h:j3 e i=Tc (c,v)):(i,c,v)∈e:=by
 induction e with
 |nil=>cases h
 |cons x e f=>obtain⟨j,b,l⟩:=x;simp only[j3]at h;by_cases k:Nat.beq i j=Ta;simp_all;simp_all
theorem U4{e:qz}{x:Nat×qc×AV}(h:x∈oV e i):x∈e/\x.1≠i/\mentions x.2.1 i=Tb:=by
 induction e with
 |nil=>cases h
 |cons y e o=>
  obtain⟨j,f,n⟩:=y;simp only[oV]at h;by_cases k:Nat.beq i j=Ta;simp_all;have c:Nat.beq i j=Tb:=Bool.eq_false_iff.2 k;simp only[c,zG]at h;by_cases l:mentions f i=Ta;simp_all;have b:mentions f i=Tb:=by simpa using l
  simp only[b,zG]at h;rcases YS.1 h with rfl|h;refine⟨ZB,λm=>?_,b⟩;simp_all;simp_all
theorem Ms{e:qz}{x:Nat×qc×AV}(h:x∈kG e):x∈e/\x.2.1=[]:=by
 induction e with
 |nil=>cases h
 |cons y e i=>
  obtain⟨j,b,f⟩:=y;cases b with
  |nil=>simp only[kG]at h;grind
  |cons c cs=>simp only[kG]at h;simp_all
theorem Ps{c:Option Nat}{e:qz}{x:Nat×qc×AV}(h:x∈sE c e):x∈e/\iy iY c x.2.2=Tb:=by
 cases c with
 |none=>exact⟨h,rfl⟩
 |some c=>
  have key:∀e:qz,x∈pP c e->x∈e/\iY c x.2.2=Tb:=by
   intro e;induction e with
   |nil=>intro h;cases h
   |cons y e b=>obtain⟨j,f,i⟩:=y;intro h;simp only[pP]at h;grind
  exact key e h
theorem SatA.sub{e e':qz}(h:SatA n e γ a)(b:∀x∈e',x∈e):SatA n e' γ a:=⟨h.defers,h.size,λx c=>h.all x (b x c)⟩
theorem SatA.clean{e:qz}(h:SatA n e γ a):SatA n (kG e) γ a:=h.sub λ_ b=>(Ms b).1
theorem SatA.gx{e:qz}{c:Option Nat}(h:SatA n e γ a)(g:Gx c γ γ'):SatA n (sE c e) γ' a:= ⟨h.defers,h.size,λx i=>by obtain⟨h1,f⟩:=Ps i;exact⟨λb=>((h.all x h1).1 b).gx g f,(h.all x h1).2⟩⟩
theorem SatA.gx0{e:qz}(h:SatA n e γ a)(g:Gx Td γ γ'):SatA n e γ' a:=h.gx g
theorem SatA.put{e:qz}(h:SatA n e γ a)(hi:i<n)(t:mentions c i=Tb)
  (w:valid (qe a) c->DenV γ v u) (s:¬valid (qe a) c->u=undef):SatA n (HD e i c v) γ (a.put (Tc i) u):=by
 refine⟨by rw[x7];exact h.defers,by rw[size_put];exact h.size,λx m=>?_⟩;have k:i<a.tmps.size:=by rw[h.size];exact hi
 rcases YS.1 m with rfl|m;have l:=Zv (σ:=qe (a.put (Tc i) u)) (τ:=qe a) t (λj o=>qt o);refine⟨λf=>?_,λf=>?_⟩;simp only;rw[xo k];grind;exact(xo k).trans (s (λb=>f (l.2 b)));obtain⟨h1,q,r⟩:=U4 m;have l:=Zv (σ:=qe (a.put (Tc i) u)) (τ:=qe a) r (λj o=>qt o);have p:=h.all x h1;refine⟨λf=>?_,λf=>?_⟩;rw[qt q];exact p.1 (l.1 f);exact(qt q).trans (p.2 (λb=>f (l.2 b)))
theorem SatA.putO{e:qz}(h:SatA n e γ a){d:Option Nat}(f:wh n c d=Ta)
  (l:valid (qe a) c->DenV γ v u) (m:¬valid (qe a) c->u=undef):SatA n (sI e d c v) γ (a.put d u):=by
 cases d with
 |none=>exact h
 |some i=>
  simp only[wh]at f;by_cases k:mentions c i=Ta;grind;have b:mentions c i=Tb:=by simpa using k
  simp only[b,zG]at f;exact h.put (by simp_all) b l m
def uG:Value->AG
 |.agg cs=>.agg (cs.toList.map .v)
 |v=>.a (.v v)
def l6:Value->AV
 |.tuple vs=>.tup (vs.toList.map uG)
 |v=>.g (uG v)
theorem Cz(γ:Gh)(v:Value):DenG γ (uG v) v:=by
 cases v with
 |agg cs=>
  refine⟨cs.toList,by simp,?_⟩;generalize cs.toList=l;induction l with
  |nil=>trivial
  |cons x l b=>exact⟨rfl,b⟩
 |_=>exact rfl
theorem Js(γ:Gh)(v:Value):DenV γ (l6 v) v:=by
 cases v with
 |tuple vs=>
  refine⟨vs.toList,by simp,?_⟩;generalize vs.toList=l;induction l with
  |nil=>trivial
  |cons x l b=>exact⟨Cz γ x,b⟩
 |agg cs=>exact Cz γ (.agg cs)
 |_=>exact rfl
def iD:List AA->Option (List Value)
 |[]=>Tc []
 |.v x::l=>match iD l with
  |some vs=>Tc (x::vs)
  |none=>Td
 |_::_=>Td
def m9:AV->Option Value
 |.g (.a (.v x))=>Tc x
 |.g (.agg l)=>match iD l with
  |some vs=>Tc (.agg vs.toArray)
  |none=>Td
 |_=>Td
theorem GB{γ:Gh}:∀{l:List AA} {vs us:List Value},iD l=Tc vs->All2 (DenA γ) l us->us=vs
 |[],vs,[],h,_=>by simp only[iD,YL]at h;exact h
 |[],_,_::_,_,h=>h.elim
 |.v x::l,vs,u::us,h,hd=>by simp only[iD]at h;split at h;rename_i c b;simp only[YL]at h;subst h;rw[show u=x from hd.1,GB b hd.2];cases h
 |.v _::_,_,[],_,h=>h.elim
 |.d _ _::_,_,_,h,_=>by simp[iD]at h
 |.box _ _::_,_,_,h,_=>by simp[iD]at h
 |.own _::_,_,_,h,_=>by simp[iD]at h
 |.oelt _ _ _ _::_,_,_,h,_=>by simp[iD]at h
 |.elt _ _ _::_,_,_,h,_=>by simp[iD]at h
 |.dc _ _::_,_,_,h,_=>by simp[iD]at h
theorem uJ{x:AV}{v u:Value}(h:m9 x=Tc v)(b:DenV γ x u):u=v:=by unfold m9 at h;split at h;simp only[YL]at h;subst h;exact b;rename_i l;split at h;rename_i vs c;simp only[YL]at h;subst h;obtain⟨us,rfl,e⟩:=b;rw[GB c e];cases h;cases h
def fB(e:qz)(c:qc):Operand->Option AV
 |.tmp t=>match j3 e t with
  |some (cs,v)=>bif iH cs c then Tc v else Td
  |none=>Td
 |.const v=>Tc (l6 v)
 |.global g=>Tc (.g (.a (.v (.pointer (Tc ⟨g,0,Td⟩)))))
 |.func f=>Tc (.g (.a (.v (.func (.func f) #[] #[]))))
theorem qa{e:qz}(h:SatA n e γ a)(l:valid (qe a) c){x:Operand}(b:fB e c x=Tc v):DenV γ v (a.eval x):=by
 cases x with
 |tmp t=>simp only[fB]at b;split at b;rename_i cs u k;by_cases i:iH cs c=Ta;simp only[i,zF,YL]at b;subst b;exact(h.all _ (Z9 k)).1 (Jh i l);grind;cases b
 |const u=>simp only[fB,YL]at b;subst b;exact Js γ u
 |global g=>simp only[fB,YL]at b;subst b;exact rfl
 |func f=>simp only[fB,YL]at b;subst b;exact rfl
def m3:AV->Option Bool
 |.g (.a (.v (.bool b)))=>Tc b
 |_=>Td
theorem wG{b:Bool}(h:m3 v=Tc b)(c:DenV γ v u):u=.bool b:=by unfold m3 at h;split at h;simp only[YL]at h;subst h;exact c;cases h
def Y0(ops:Array Oper)(e:qz):Option (Nat×Bool)->Option qc
 |none=>Tc []
 |some (j,p)=>match yz ops j with
  |some g=>match j3 e g with
   |some (cg,v)=>match m3 v with
    |some _=>Tc ((g,p)::cg)
    |none=>Td
   |none=>Td
  |none=>Td
def oh(e:qz):qc->Option Bool
 |[]=>Tc Ta
 |(g,p)::c=>match j3 e g with
  |some (cg,v)=>match m3 v with
   |some b=>bif Zw cg c then(match oh e c with
    |some f=>Tc (f&&(bif p then b else !b))
    |none=>Td)else Td
   |none=>Td
  |none=>Td
theorem An{n:Nat}{e:qz}{γ:Gh}{a:Act}(h:SatA n e γ a):∀{c:qc} {b:Bool},oh e c=Tc b->(b=Ta↔valid (qe a) c)
 |[],b,hb=>by simp only[oh,YL]at hb;simp[<-hb,valid]
 |(g,p)::c,b,hb=>by
  simp only[oh]at hb;split at hb;rename_i u v r;split at hb;rename_i q k;by_cases o:Zw u c=Ta;simp only[o,zF]at hb;split at hb;rename_i l i;simp only[YL]at hb;have t:=An h i;have m:=h.all _ (Z9 r);rw[Jg o]at m;by_cases f:valid (qe a) c;have h1:qe a g=.bool q:=wG k (m.1 f);have s:=t.2 f;subst hb;simp only[valid,h1,f,s,zao,and_true,Value.bool.injEq];grind;have h1:l=Tb:=by cases l with|false=>rfl|true=>simp_all
  subst hb;simp[valid,f,h1];cases hb;grind;cases hb;cases hb
theorem Zl{ops:Array Oper}{e:qz}(h:SatA n e γ a)(f:Y0 ops e o.guard=Tc c):
  ZT o (yielded ops a.tmps)=Ta↔valid (qe a) c:=by
 unfold ZT;cases hg:o.guard with
 |none=>rw[hg]at f;simp only[Y0,YL]at f;simp[<-f,valid]
 |some s=>
  obtain⟨j,p⟩:=s;rw[hg]at f;simp only[Y0]at f;split at f;rename_i g i;split at f;rename_i t v q;split at f;rename_i b u;simp only[YL]at f;subst f;have k:((ops[j]?).bind (·.dst))=Tc g:=by simp only[yz]at i;split at i;simp_all;cases i
  have m:=h.all _ (Z9 q);have r:yielded ops a.tmps j=Tc p↔qe a g=.bool p:=by
   unfold yielded qe;rw[k];simp only[zbl];cases ht:a.tmps[g]? with
   |none=>simp[zay,ht,undef]
   |some v=>cases v <;> simp[zay,ht]
  simp only[beq_iff_eq,r,valid];constructor;intro h1;refine⟨h1,?_⟩;by_cases l:valid (qe a) t;exact l;have:=m.2 l;simp only at this;rw[h1]at this;exact absurd this.symm Gs;simp_all;cases f;cases f;cases f
def Wn(e:qz):qc->Option (Option Bool)
 |[]=>Tc Td
 |c=>match oh e c with
  |some b=>Tc (Tc b)
  |none=>Td
theorem Zd{e:qz}(i:SatA n e γ a)(h:Wn e c=Tc g)(k:valid (qe a) c):eQ g:=by unfold Wn at h;split at h;simp only[YL]at h;subst h;trivial;split at h;rename_i b f;simp only[YL]at h;subst h;exact(An i f).2 k;cases h
theorem vJ{e:qz}(k:SatA n e γ a)(h:Wn e c=Tc g)(f:¬valid (qe a) c):g=Tc Tb:=by
 unfold Wn at h;split at h;exact absurd trivial f;split at h;rename_i b i;simp only[YL]at h;subst h;cases b with
 |false=>rfl
 |true=>exact absurd ((An k i).1 rfl) f
 cases h
def sH(ρ:Operand->Option AV)(x:Operand):Value:=match ρ x with
 |some av=>match m9 av with
  |some v=>v
  |none=>undef
 |none=>undef
def lR(ρ:Operand->Option AV):List Operand->Bool
 |[]=>Ta
 |x::l=>match ρ x with
  |some av=>match m9 av with
   |some _=>lR ρ l
   |none=>Tb
  |none=>Tb
theorem Iz{ρ:Operand->Option AV}(h:∀x av,ρ x=Tc av->DenV γ av (σ x)){l:List Operand}(c:lR ρ l=Ta):∀x∈l,σ x=sH ρ x:=by
 induction l with
 |nil=>simp
 |cons y l i=>intro x f;simp only[lR]at c;split at c;rename_i av e;split at c;rename_i v b;rcases YS.1 f with rfl|f;rw[uJ b (h _ _ e)];simp[sH,e,b];grind;cases c;cases c
theorem Dx{ρ:Operand->Option AV}(f:∀x av,ρ x=Tc av->DenV γ av (σ x))(c:Y8 o.op=Ta)(e:lR ρ o.op.operands.toList=Ta):
  execOp σ o=execOp (sH ρ) o:=
 execOp_congr o (λcs b h=>by rw[h]at c;cases c) λx i=>Iz f e x (by simpa using i)
end
section
variable {o n f k:Nat} {h:zc} {u:Value} {us:List Value} {cs:CS} {γ:Gh} {t ty:TypeId} {P:Program} {s:Option Nat}
variable {h0 : zc} {W : Nat -> Prop} {M0 : Fr}
def takeN(l:List AA)(o n:Nat):Option (List AA):=bif Nat.beq ((l.drop o).take n).length n then Tc ((l.drop o).take n)else Td
theorem tS{l r:List AA}(h:takeN l o n=Tc r):r=(l.drop o).take n/\r.length=n:=by
 unfold takeN at h;cases hb:Nat.beq ((l.drop o).take n).length n with
 |false=>simp_all
 |true=>rw[hb]at h;simp_all
theorem DV{h:zc}{p:Addr}:∀{us:List Value} {i:Nat},(∀j v,us[j]?=Tc v->ze h (p.add (i+j))=Tc v)->zd h p i us
 |[],_,_=>trivial
 |v::us,i,H=>⟨by have:=H 0 v rfl;omega,DV λj u b=>by have:=H (j+1) u (by simpa using b);grind⟩
def Behind(h:zc)(u:Value)(us:List Value):Prop:=∃b o,u=.pointer (Tc ⟨b,o,Td⟩)/\∀j v,us[j]?=Tc v->ze h ⟨b,o+j,Td⟩=Tc v
theorem Behind.ld(H:Behind h u us):∃p:Addr,u=.pointer (Tc p)/\zd h p 0 us/\∀v,us=[v]->ze h p=Tc v:=by obtain⟨b,o,e,f⟩:=H;refine⟨_,e,DV λj v c=>?_,λv c=>?_⟩;rw[zw,ZP];exact f j v c;have:=f 0 v (by rw[c];rfl);omega
theorem Ks{cs:Array Value}{f n j:Nat}{v:Value}(h:(cut cs f n)[j]?=Tc v):cs[f+j]?=Tc v:=by unfold cut at h;grind
def rN(cs:CS)(n:Nat):AA->Option (List AA)
 |.box c o=>match Yd cs c with
  |some (.box l)=>bif fR l then Td else takeN l o n
  |_=>Td
 |.elt t x o=>takeN (Jq t x) o n
 |_=>Td
theorem NC(I:Inv h0 W M0 cs γ h){y:AA}{r:List AA}(k:rN cs n y=Tc r)(w:DenA γ y u):
  ∃us,Behind h u us/\us.length=n/\All2 (DenA γ) r us:=by
 unfold rN at k;split at k
 ·rename_i c o;split at k
  ·rename_i l z;cases hit:fR l with
   |true=>simp_all
   |false=>
   rw[hit]at k;obtain⟨rfl,q⟩:=tS k;obtain⟨us,e,A⟩:=I.den _ (qh z);rcases e with⟨⟨T,e⟩,_⟩|⟨s,p,e,_⟩;case inr=>grind [pV]
   have m:=(A.drop o).take n;refine⟨(us.drop o).take n,⟨_,_,w,λj v i=>?_⟩,by rw[<-m.length];exact q,m⟩;rw[ZQ]at i;split at i;rw[zan]at i;unfold ze;simp_all;cases i
  cases k
 rename_i t x o;obtain⟨rfl,q⟩:=tS k;obtain⟨b,f,D,e,C,B⟩:=w;have m:=((Zc (γ:=γ) B).drop o).take n;refine⟨_,⟨_,_,e,λj v i=>?_⟩,by rw[<-m.length];exact q,m⟩;rw[ZQ]at i;split at i;rw[zan]at i;have:=Ks i;exact I.ag.cell C (by grind);cases i;cases k
theorem LJ(I:Inv h0 W M0 cs γ h){c:Nat}{e:TypeId}{t:Ty}{xs:List (El t)}(G:Yd cs c=Tc (.row e t xs)){i:Nat}{y:El t}(z:xs[i]?=Tc y){r:List AA}(E:takeN (Jq t y) o n=Tc r)(B:DenA γ (.oelt c (sz t) i o) u):∃us,Behind h u us/\us.length=n/\All2 (DenA γ) r us:=by
 obtain⟨rfl,F⟩:=tS E;obtain⟨g,C,rfl⟩:=B;obtain⟨cells,f,l,_,D⟩:=I.den _ (qh G);simp only at D f;rcases f.2 with⟨m,h1⟩|⟨g',cap,s,m,_,p,_,_,_,k⟩;simp_all;simp only[ZU]at m;rw[C]at m;have w:g=g':=by have:=m.1;simp only[YL,Addr.mk.injEq]at this;exact this.1
 subst w;have hi:i<xs.length:=(ZH.1 z).1;have q:xs[i]=y:=(ZH.1 z).2;have x:=l.2 i hi;rw[q]at x;have A:=((Zc (γ:=γ) x).drop o).take n;refine⟨_,⟨_,_,rfl,λj v b=>?_⟩,by rw[<-A.length];exact F,A⟩;rw[ZQ]at b;split at b;rw[zan,ZQ]at b;split at b;rw[zan,<-k,ZQ]at b;split at b;have H:h[g]?=Tc (.cells s e (0,0)):=p;unfold ze;grind;cases b;cases b;cases b
def jV:Option Nat->List AA->Option AG
 |none,[x]=>Tc (.a x)
 |some _,l=>Tc (.agg l)
 |_,_=>Td
def iI(P:Program)(t:TypeId):Option (Option Nat):=match ik P t with
 |some (.one _)=>Tc Td
 |some (.agg l)=>Tc (Tc l.length)
 |none=>Td
def iU:Option Nat->Nat
 |none=>1
 |some n=>n
theorem yV(c:iI P t=Tc s)(o:Behind h u us)(m:us.length=iU s){r:List AA}(b:All2 (DenA γ) r us){ag:AG}(i:jV s r=Tc ag):
  ∃v,DenG γ ag v/\QExec P (zcl t u) h v:=by
 obtain⟨p,e,n,h1⟩:=o.ld;subst e;have f:∀v,QExec P (loadVar t p) h v->QExec P (zcl t (.pointer (Tc p))) h v:=λv q B d=>by unfold zcl zcu;simp only[Sem.run_bind,Sem.run_pure,Result.andThen_ok];exact q B d
 unfold iI at c;split at c;rename_i a k;simp only[YL]at c;subst c
 match us,m,r,b with
 |[v],_,[x],b=>simp only[jV,YL]at i;subst i;exact⟨v,b.1,f v (pC k (h1 v rfl))⟩
 |[v],_,[],b=>exact b.elim
 |[v],_,_::_::_,b=>exact b.2.elim
 rename_i l k;simp only[YL]at c;subst c;simp only[jV,YL]at i;subst i;exact⟨.agg us.toArray,⟨us,rfl,b⟩,f _ (oW k m n)⟩;cases c
def l8(P:Program)(cs:CS)(t:TypeId)(b:AA)(g:Option Bool)(K:AV->Prop):Prop:=
 match iI P t with
 |some s=>match b with
  |.oelt c z i o=>match Yd cs c with
   |some (.row e ty xs)=>bif Nat.beq z (sz ty)then(∃y:El ty,req g (xs[i]?=Tc y)/\match takeN (Jq ty y) o (iU s)with
    |some r=>match jV s r with
     |some ag=>K (.g ag)
     |none=>False
    |none=>False)else False
   |_=>False
  |b=>match rN cs (iU s) b with
   |some r=>match jV s r with
    |some ag=>K (.g ag)
    |none=>False
   |none=>False
 |none=>False
theorem HE{q:AA}{g:Option Bool}{K:AV->Prop}(H:l8 P cs t q g K):
  ∃av,K av/\(eQ g->∀γ h u,Inv h0 W M0 cs γ h->DenA γ q u->∃v,DenV γ av v/\QExec P (zcl t u) h v):=by
 unfold l8 at H;split at H;rename_i s n;split at H;rename_i c z i o;split at H;rename_i e ty xs x;cases hz:Nat.beq z (sz ty)with
 |false=>simp_all
 |true=>rw[hz]at H;obtain⟨y,w,H⟩:=H;split at H;rename_i r l;split at H;rename_i ag f;refine⟨_,H,λp γ h u I b=>?_⟩;rw[YT hz]at b;obtain⟨us,h1,k,m⟩:=LJ I x (w.out p) l b;exact yV n h1 k m f;exact H.elim;exact H.elim
 exact H.elim;split at H;rename_i r l;split at H;rename_i ag f;refine⟨_,H,λp γ h u I b=>?_⟩;obtain⟨us,h1,k,m⟩:=NC I l b;exact yV n h1 k m f;exact H.elim;exact H.elim;exact H.elim
def oD(P:Program)(t:TypeId)(f:Nat):Option (Nat×TypeId):=match P.underlying t with
 |some (.struct fs)=>match fs[f]? with
  |some fl=>match P.info? fl.type with
   |some i=>bif Nat.beq i.size 0 then Td else Tc (fl.offset,fl.type)
   |none=>Td
  |none=>Td
 |_=>Td
def qD(k:Nat):AA->Option AA
 |.box c o=>Tc (.box c (o+k))
 |.elt t x o=>Tc (.elt t x (o+k))
 |.oelt c z i o=>Tc (.oelt c z i (o+k))
 |_=>Td
theorem Me(c:oD P t f=Tc (k,ty))(b o:Nat):QExec P (Instr.fieldAt t (.pointer (Tc ⟨b,o,Td⟩)) f) h (.pointer (Tc ⟨b,o+k,Td⟩)):=by
 unfold oD at c;split at c;rename_i r p;split at c;rename_i fl m;split at c;rename_i i hi;cases hz:Nat.beq i.size 0 with
 |true=>simp_all
 |false=>
  rw[hz]at c;simp only[zG,YL,za1]at c;obtain⟨rfl,rfl⟩:=c;intro B d;have n:=QExec.underlying (h:=h) p B d;have q:=QExec.sizeOf (h:=h) hi B d;have l:¬(yb P fl.type=0):=by unfold yb;rw[hi];intro e;simp only at e;rw[e]at hz;simp at hz
  unfold Instr.fieldAt zcu fieldPlace;simp only[Sem.run_bind,n,Result.andThen_ok,m,Sem.run_pure,q,l,if_false,zw]
 cases c;cases c;cases c
theorem HN{l c:AA}(h:qD k l=Tc c)(i:DenA γ l u):∃b o,u=.pointer (Tc ⟨b,o,Td⟩)/\DenA γ c (.pointer (Tc ⟨b,o+k,Td⟩)):=by unfold qD at h;split at h;simp only[YL]at h;subst h;exact⟨_,_,i,rfl⟩;simp only[YL]at h;subst h;obtain⟨b,f,cs,e,h1,n⟩:=i;exact⟨_,_,e,b,f,cs,by grind,h1,n⟩;simp only[YL]at h;subst h;obtain⟨g,m,p⟩:=i;exact⟨_,_,p,g,m,by grind⟩;cases h
def pj(P:Program)(ty:TypeId)(l:List AA)(k:Nat):Option AG:=match iI P ty with
 |some s=>match takeN l k (iU s)with
  |some r=>jV s r
  |none=>Td
 |none=>Td
theorem Ho(c:iI P t=Tc s)(h:zc):QExec P (isAgg t) h s.isSome:=by
 unfold iI at c;split at c;rename_i a b;simp only[YL]at c;subst c;unfold ik at b;split at b;grind;grind;rename_i d i p f;intro B e;have k:=QExec.underlying (h:=h) f B e;unfold isAgg;simp_all;cases b;rename_i l b;simp only[YL]at c;subst c;unfold ik at b;have f:(∃o,P.underlying t=Tc (.struct o))\/∃n e,P.underlying t=Tc (.array n e):=by split at b;simp_all;simp_all;simp at b;cases b
 intro B e;rcases f with⟨o,f⟩|⟨m,e',f⟩;have k:=QExec.underlying (h:=h) f B e;unfold isAgg;simp_all;have k:=QExec.underlying (h:=h) f B e;unfold isAgg;simp_all;cases c
theorem Ir(b:iI P t=Tc (Tc n)):yb P t=n/\∃i,P.info? t=Tc i:=by
 unfold iI at b;split at b;cases b
 ·rename_i l c;simp only[YL]at b;subst b;unfold ik at c;have key:∀x:Option (List Atom),(match x with
    |some l=>bif Nat.beq l.length (yb P t)then Tc (VT.agg l)else Td
    |none=>Td)=Tc (.agg l)->yb P t=l.length:=by
   intro x e;split at e;rename_i f;cases hb:Nat.beq f.length (yb P t)with
   |false=>simp_all
   |true=>simp_all
   cases e
  split at c;exact⟨key _ c,info_of_underlying (by assumption)⟩;exact⟨key _ c,info_of_underlying (by assumption)⟩;simp at c;cases c
 cases b
theorem vq{l:List AA}{ag:AG}(b:pj P ty l k=Tc ag)(o:All2 (DenA γ) l us)(h:zc):∃v,DenG γ ag v/\QExec P (part ty us.toArray k) h v:=by
 unfold pj at b;split at b;rename_i s m;split at b;rename_i r t;obtain⟨rfl,u⟩:=tS t;have c:=(o.drop k).take (iU s);have e:((us.drop k).take (iU s)).length=iU s:=by rw[<-c.length];exact u
 cases s with
 |none=>
  generalize f:(us.drop k).take (iU Td)=q at *
  match q,e,f with
  |[v],_,f=>
   generalize p:(l.drop k).take (iU Td)=r' at *
   match r',c with
   |[x],c=>
    simp only[jV,YL]at b;subst b;refine⟨v,c.1,λB d=>?_⟩;have w:=Ho m h B d;have z:us[k]?=Tc v:=by
     have:((us.drop k).take 1)[0]?=Tc v:=by rw[show(us.drop k).take 1=[v]from f];rfl
     rw[ZQ,zb (by omega),zan]at this;simpa using this
    unfold part;simp_all
   |[],c=>exact c.elim
   |_::_::_,c=>exact c.2.elim
 |some n=>simp only[jV,YL]at b;subst b;refine⟨.agg ((us.drop k).take n).toArray,⟨_,rfl,c⟩,λB d=>?_⟩;have w:=Ho m h B d;obtain⟨y,i,hi⟩:=Ir m;have A:=QExec.sizeOf (h:=h) hi B d;unfold part;simp_all
 cases b;cases b
end
end Go.X
end
