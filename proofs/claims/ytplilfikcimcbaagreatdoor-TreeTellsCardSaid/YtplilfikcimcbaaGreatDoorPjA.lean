/- A part of the proof: nothing is stated here for its own sake. -/
import Derived.Deep.Quiet
import Derived.StillTail
import Derived.Laws.Cover3
import Derived.Laws.Pointers
import Derived.Scope
import Derived.Laws.StructEq
import Derived.Deep.AppendSrc
import Derived.Laws.BytesString
open _root_.Go.Addr renaming add->YH
open _root_.Array renaming getD_eq_getD_getElem?->za3,getElem?_eq_getElem->zbc,getElem?_eq_some_iff->YZ,replicate->zbu
open _root_.Bool renaming false_eq_true->zaq,not_eq_true'->zcs,true_and->zbb
open _root_.Go.Builtin renaming append_->YN,firstCells->zb7,len_->zch
open _root_.Classical renaming byContradiction->zce
open _root_.Go.Code renaming cond->zdr,region->zdx
open _root_.Go.Deferred renaming ofValue->zde
open _root_.Go.Instr renaming entry->zdc,findNow->zb5,indexAt->zdt,keyThatStays->zcn,loadAt->zcz,lookup->zc0,mapUpdate->zbk,next->zcm,range->zdm,sameNow->zdj,sliceAt->zdi,storeAt->YI,sureAddr->zdb
open _root_.Go.IntKind renaming bits->zan,signed->zdd,wrap->YG
open _root_.List renaming all_eq_true->ZB,append_nil->ZY,cons_append->ZT,drop_drop->zap,eq_nil_of_length_eq_zero->ZU,ext_getElem?->zar,getElem?_drop->zau,getElem?_eq_some_iff->ZN,getElem?_take->zae,length_append->YM,length_cons->YU,length_drop->ZE,length_eq_zero_iff->za2,length_nil->ZW,length_set->zcq,length_take->ZV,mapM_cons->zdo,map_cons->ZC,mem_append->ZF,mem_append_left->YV,mem_append_right->ZH,mem_cons->YT,mem_cons_of_mem->ZA,mem_cons_self->ZD,mem_range->zaz,nil_append->zal,nodup_cons->zbh,pairwise_append->zct,pairwise_cons->za4,pairwise_lt_range->zc1,range->zac,take_succ_eq_append_getElem->YP
open _root_.List.cons renaming injEq->za7
open _root_.Nat renaming add_mul->zb8,blt_eq->zds,eq_of_beq_eq_true->ZJ,eq_zero_or_pos->zcg,le_of_ble_eq_true->zbn,le_refl->YJ,le_trans->zbd,lt_of_lt_of_le->zcl,lt_or_ge->zam,min_eq_left->zci,mul_le_mul_right->ZP,one_mul->zdv,zero_add->ZO
open _root_.Go.Next renaming value->zda
open _root_.Go.Op renaming equal->zdw
open _root_.Option renaming bind_some->zbw,map_eq_some_iff->zbx
open _root_.Option.some renaming inj->ZZ,injEq->YK
open _root_.Prod.mk renaming injEq->za5
open _root_.Pure renaming pure->zc6
open _root_.Go.Region renaming wanted->zah
open _root_.Go.Utf8 renaming decode->zdy,encode->zcy
open _root_.Go.Value renaming int->zad,string->ZS
open _root_.Go.Value.slice renaming injEq->zai
open _root_.Go.Sem renaming run_bind->DM,run_pure->DQ
open _root_.Go.Result renaming andThen_ok->D0
open _root_.Go renaming Program->EM,World->MN,TypeId->N4,FuncId->n5,Operand->n7,Addr->n8,Oper->n9,execOp->fd
open _root_.Nat renaming beq->gc
open _root_.Go.Value renaming oneCell'->i2
open _root_.Go.Region renaming waitsFor->mv
open _root_.List renaming length->DB
set_option linter.all false
set_option maxRecDepth 1000000
set_option maxHeartbeats 20000000
namespace Go.X
end Go.X
namespace Go.Proofs
end Go.Proofs
open Go Go.X Go.Proofs
open _root_.Bool renaming true->Ta,false->Tc
open _root_.Option renaming some->Td,none->Te
namespace Go.X
section
section
theorem za{c:Prop}{h:Decidable c}(n:¬c){α:Sort _}{t e:α}:@ite α c h t e=e:=if_neg n
theorem zi{c:Prop}{h:Decidable c}(n:c){α:Sort _}{t e:α}:@ite α c h t e=t:=if_pos n
theorem zA{p:Prop}[Decidable p]:(decide p=true)=p:=decide_eq_true_eq
theorem zB{p:Prop}[Decidable p](h:decide p=true):p:=of_decide_eq_true h
theorem zC{p:Prop}[Decidable p](h:decide p=false):¬p:=of_decide_eq_false h
theorem zD{p:Prop}[Decidable p](h:p):decide p=true:=decide_eq_true h
theorem zE{p:Prop}[Decidable p](h:¬p):decide p=false:=decide_eq_false h
theorem zF{α:Sort _}(a b:α):cond true a b=a:=rfl
theorem zG{α:Sort _}(a b:α):cond false a b=b:=rfl
abbrev Bt:= ByteArray
variable {i n m:Nat} {v u:Value} {a:Act} {o:n9}
abbrev zb:=Array Obj
abbrev vvv:=Value->zb->Prop
abbrev ab1:=List Nat
abbrev ab2:=List Value
abbrev ab3:=Array Value
abbrev ab4:=Value -> zb -> Prop
abbrev ab5:=Value->zb->Prop
abbrev ab6:=Nat->List Nat
abbrev ab7:=Int->zb->Prop
abbrev ab8:=Option Value
abbrev ab9:=Int->zb->Nat
abbrev ac0:=Option Bool
abbrev ac1:=Value->Prop
abbrev ac2:=UInt8->Bool
abbrev ac3:=Option Nat
abbrev ac4:=Bool->Prop
abbrev ac5:=Nat->Prop
abbrev ac6:=Int->Prop
abbrev ac7:=List Int
theorem ω{p:Prop}(h:p:=by omega):p:=h
theorem ξ{p:Prop}(h:p:=by simp):p:=h
theorem κ{p:Prop}(h:p:=by kernel_rfl):p:=h
theorem ζ{p:Prop}(h:p:=by decide):p:=h
theorem η{p:Prop}(h:p:=by grind):p:=h
theorem θ{p:Prop}(h:p:=by simp_all):p:=h
theorem φ{p:Prop}(h:p:=by simp;omega):p:=h
theorem ψ{p q:Prop}(h:q)(k:q->p:=by intro h;simpa using h):p:=k h
theorem χ{p q:Prop}(h:q)(k:q->p:=by intro h;omega):p:=k h
theorem ε{p q:Prop}(h:q)(k:q->p:=by intro h;cases h):p:=k h
theorem ν{p q:Prop}(h:q)(k:q->p:=by intro h;simp at h;omega):p:=k h
theorem ι{p q:Prop}(h:q)(k:q->p:=by intro h;simp at h):p:=k h
theorem ο{p q:Prop}(h:q)(k:q->p:=by intro h;rw[h];omega):p:=k h
theorem π{p q:Prop}(h:q)(k:q->p:=by intro h;rw[h];rfl):p:=k h
theorem υ{p q:Prop}(h:q)(k:q->p:=by intro h;rw[h];simp):p:=k h
theorem ϑ{p q:Prop}(h:q)(k:q->p:=by intro h;simp[h]):p:=k h
theorem ϕ{p q:Prop}(h:q)(k:q->p:=by intro h;rw[h]):p:=k h
theorem ϖ{p q r:Prop}(h:q)(g:r)(k:q->r->p:=by intro e h;rw[e];exact h):p:=k h g
theorem ς{p q r:Prop}(h:q)(g:r)(k:q->r->p:=by intro e h;rw[e]at h;cases h):p:=k h g
abbrev p3(n:Int):Int:=IntKind.wrap .i64 n
abbrev g6(g h:Array Obj)(a:n8):Prop:=g[a.block]?=h[a.block]?
abbrev hZ:Array Value:=(List.replicate 65 (.int .u8 0)).toArray
abbrev hZ1:Array Value:=(List.replicate 24 (.int .u8 0)).toArray
abbrev yb:=List (Nat×Bool)
abbrev bK:=List (Nat×yb×Value)
def mk(B:MN)(d:Nat)(h:zb):MN:={ B with heap:=h,drawn:=d }
def look:bK->Nat->Option (yb×Value)
 |[],_=>Te
 |(j,c,v)::e,i=>bif gc i j then Td (c,v)else look e i
def valid(σ:Nat->Value):yb->Prop
 |[]=>True
 |(g,p)::c=>σ g=.bool p/\valid σ c
def qp(a:Act)(i:Nat):Value:=a.tmps.getD i undef
def fact(σ:Nat->Value)(x:Nat×yb×Value):Prop:=(valid σ x.2.1->σ x.1=x.2.2)/\(¬valid σ x.2.1->σ x.1=undef)
structure Sat (n:Nat) (e:bK) (a:Act):Prop where
 defers:a.defers=[]
 size:a.tmps.size=n
 all:∀x∈e,fact (qp a) x
def mentions:yb->Nat->Bool
 |[],_=>Tc
 |(g,_)::c,i=>bif gc i g then Ta else mentions c i
def pj:bK->Nat->bK
 |[],_=>[]
 |(j,c,v)::e,i=>bif (bif gc i j then Ta else mentions c i)then pj e i else(j,c,v)::pj e i
def put(e:bK)(i:Nat)(c:yb)(v:Value):bK:=(i,c,v)::pj e i
def putO(e:bK):Option Nat->yb->Value->bK
 |none,_,_=>e
 |some d,c,v=>put e d c v
def clean:bK->bK
 |[]=>[]
 |(j,[],v)::e=>(j,[],v)::clean e
 |(_,_::_,_)::e=>clean e
def mB{e:bK}{c:yb}(h:look e i=Td (c,v)):(i,c,v)∈e:=by
 induction e with
 |nil=>cases h
 |cons x e f=>have⟨j,k,b⟩:=x;simp only[look]at h;by_cases l:gc i j=Ta;simp_all;simp_all
def Md{e:bK}{x:Nat×yb×Value}(h:x∈pj e i):x∈e/\x.1≠i/\mentions x.2.1 i=Tc:=by
 induction e with
 |nil=>cases h
 |cons y e o=>
  have⟨j,f,n⟩:=y;simp only[pj]at h;by_cases k:gc i j=Ta;simp_all;have c:gc i j=Tc:=Bool.eq_false_iff.2 k;simp only[c,zG]at h;by_cases l:mentions f i=Ta;simp_all;have b:mentions f i=Tc:=ψ l
  simp only[b,zG]at h;obtain rfl|h:=YT.1 h;refine⟨ZD,λm=>?_,b⟩;simp_all;simp_all
def P5{e:bK}{x:Nat×yb×Value}(h:x∈clean e):x∈e/\x.2.1=[]:=by
 induction e with
 |nil=>cases h
 |cons y e i=>
  have⟨j,b,f⟩:=y;cases b with
  |nil=>simp only[clean]at h;grind
  |cons c cs=>simp only[clean]at h;simp_all
theorem Sat.sub{e e':bK}(h:Sat n e a)(b:∀x∈e',x∈e):Sat n e' a:=⟨h.defers,h.size,λx c=>h.all x (b x c)⟩
theorem Sat.clean{n:Nat}{e:bK}{a:Act}(h:Sat n e a):Sat n (clean e) a:=h.sub λ_ b=>(P5 b).1
def W0{σ τ:Nat->Value}{c:yb}(b:mentions c i=Tc)(h:∀j,j≠i->σ j=τ j):valid σ c↔valid τ c:=by
 induction c with
 |nil=>exact Iff.rfl
 |cons x c k=>have⟨g,p⟩:=x;simp only[mentions]at b;by_cases f:gc i g=Ta;grind;simp only[f,zG]at b;have l:g≠i:=λe=>f (by rw[e];simp);simp only[valid,h g l,k b]
theorem Qh(hi:i<a.tmps.size):qp (a.put (Td i) u) i=u:=by simp[qp,Act.put,hi]
theorem jf{i j:Nat}(h:j≠i):qp (a.put (Td i) u) j=qp a j:=by simp[qp,Act.put,Array.getElem?_setIfInBounds_ne (Ne.symm h)]
theorem PJ(a:Act)(d:ac3)(u:Value):(a.put d u).tmps.size=a.tmps.size:=by cases d <;> simp[Act.put]
theorem Z5(a:Act)(d:ac3)(u:Value):(a.put d u).defers=a.defers:=by cases d <;> simp[Act.put]
theorem Sat.put{n:Nat}{e:bK}{a:Act}(h:Sat n e a){i:Nat}{c:yb}{v u:Value}(hi:i<n)(t:mentions c i=Tc)(q:valid (qp a) c->u=v) (s:¬valid (qp a) c->u=undef):Sat n (put e i c v) (a.put (Td i) u):=by
 refine⟨by rw[Z5];exact h.defers,by rw[PJ];exact h.size,λx m=>?_⟩;have k:i<a.tmps.size:=by rw[h.size];exact hi
 obtain rfl|m:=YT.1 m;have l:=W0 (σ:=qp (a.put (Td i) u)) (τ:=qp a) t (λj o=>jf o);refine⟨λf=>?_,λf=>?_⟩;exact(Qh k).trans (q (l.1 f));exact(Qh k).trans (s (λb=>f (l.2 b)));have⟨h1,h2,r⟩:=Md m;have l:=W0 (σ:=qp (a.put (Td i) u)) (τ:=qp a) r (λj o=>jf o);have p:=h.all x h1;refine⟨λf=>?_,λf=>?_⟩;exact(jf h2).trans (p.1 (l.1 f));exact(jf h2).trans (p.2 (λb=>f (l.2 b)))
def xr(n:Nat)(c:yb):Option Nat->Bool
 |none=>Ta
 |some d=>bif mentions c d then Tc else Nat.blt d n
theorem Sat.putO{n:Nat}{e:bK}{a:Act}(h:Sat n e a){d:ac3}{c:yb}{v u:Value}(f:xr n c d=Ta)(l:valid (qp a) c->u=v) (m:¬valid (qp a) c->u=undef):Sat n (putO e d c v) (a.put d u):=by
 cases d with
 |none=>exact h
 |some i=>
  simp only[xr]at f;by_cases k:mentions c i=Ta;grind;have b:mentions c i=Tc:=ψ k
  simp only[b,zG]at f;exact h.put θ b l m
def Z6:yb->yb->Bool
 |[],[]=>Ta
 |(g,p)::c,(g',p')::c'=>bif gc g g' then(bif p then(bif p' then Z6 c c' else Tc)else(bif p' then Tc else Z6 c c'))else Tc
 |_,_=>Tc
theorem J9:∀{c b:yb},Z6 c b=Ta->c=b
 |[],[],_=>rfl
 |[],_::_,h=>by simp[Z6]at h
 |_::_,[],h=>by simp[Z6]at h
 |(g,p)::c,(g',p')::b,h=>by simp only[Z6]at h;by_cases e:gc g g'=Ta;simp only[e,zF]at h;have f:=ZJ e;cases p <;> cases p' <;> simp at h <;> rw[f,J9 h];grind
def iG(cs:yb):yb->Bool
 |[]=>Z6 cs []
 |x::c=>bif Z6 cs (x::c)then Ta else iG cs c
def Wa{σ:Nat->Value}{cs:yb}:∀{c:yb},iG cs c=Ta->valid σ c->valid σ cs
 |[],h,_=>by rw[J9 h];trivial
 |x::c,h,hv=>by simp only[iG]at h;by_cases b:Z6 cs (x::c)=Ta;rw[J9 b];exact hv;simp only[b,zG]at h;exact Wa h hv.2
def fQ(e:bK)(c:yb):n7->Option Value
 |.tmp t=>match look e t with
  |some (cs,v)=>bif iG cs c then Td v else Te
  |none=>Te
 |.const v=>Td v
 |.global g=>Td (.pointer (Td ⟨g,0,Te⟩))
 |.func f=>Td (.func (.func f) #[] #[])
theorem yd{e:bK}(h:Sat n e a){c:yb}(l:valid (qp a) c){x:n7}(b:fQ e c x=Td v):a.eval x=v:=by
 cases x with
 |tmp t=>simp only[fQ]at b;split at b;rename_i cs u k;by_cases i:iG cs c=Ta;simp only[i,zF,YK]at b;subst b;exact(h.all _ (mB k)).1 (Wa i l);grind;cases b
 |const u=>simp only[fQ,YK]at b;exact b
 |global g=>simp only[fQ,YK]at b;exact b
 |func f=>simp only[fQ,YK]at b;exact b
def gk(e:bK)(c:yb)(x:n7):Value:=match fQ e c x with
 |some v=>v
 |none=>undef
def known(e:bK)(c:yb):List n7->Bool
 |[]=>Ta
 |x::l=>match fQ e c x with
  |some _=>known e c l
  |none=>Tc
def W6{e:bK}(h:Sat n e a){c:yb}(k:valid (qp a) c){l:List n7}(b:known e c l=Ta):∀x∈l,a.eval x=gk e c x:=by
 induction l with
 |nil=>simp
 |cons y l m=>intro x i;simp only[known]at b;split at b;rename_i v f;obtain rfl|i:=YT.1 i;rw[yd h k f];simp[gk,f];grind;cases b
def W8:Op->Bool
 |.select _ _=>Tc
 |_=>Ta
theorem qO{e:bK}(h:Sat n e a){c:yb}(l:valid (qp a) c)(f:W8 o.op=Ta)(i:known e c o.op.operands.toList=Ta):fd a.eval o=fd (gk e c) o:=
 execOp_congr o (λcs b k=>ς k f) λx m=>W6 h l i x (ψ m)
def xj(ops:Array n9)(j:Nat):Option Nat:=match ops[j]? with
 |some o=>o.dst
 |none=>Te
def Zf(ops:Array n9)(e:bK):Option (Nat×Bool)->Option yb
 |none=>Td []
 |some (j,p)=>match xj ops j with
  |some g=>match look e g with
   |some (cg,.bool _)=>Td ((g,p)::cg)
   |_=>Te
  |none=>Te
def nZ(e:bK):yb->Option Bool
 |[]=>Td Ta
 |(g,p)::c=>match look e g with
  |some (cg,.bool b)=>bif Z6 cg c then(match nZ e c with
    |some f=>Td (f&&(bif p then b else !b))
    |none=>Te)else Te
  |_=>Te
def H6{b:Bool}:undef≠.bool b:=by simp[undef]
def uV{n:Nat}{e:bK}{a:Act}(h:Sat n e a):∀{c:yb} {b:Bool},nZ e c=Td b->(b=Ta↔valid (qp a) c)
 |[],b,hb=>by simp only[nZ,YK]at hb;simp[<-hb,valid]
 |(g,p)::c,b,hb=>by
  simp only[nZ]at hb;split at hb;rename_i s o q;by_cases m:Z6 s c=Ta;simp only[m,zF]at hb;split at hb;rename_i k i;simp only[YK]at hb;have r:=uV h i;have l:=h.all _ (mB q);rw[J9 m]at l;by_cases f:valid (qp a) c;have h1:qp a g=.bool o:=l.1 f;have h2:=r.2 f;subst hb;simp only[valid,h1,f,h2,zbb,and_true,Value.bool.injEq];grind;have h1:k=Tc:=by cases k with|false=>rfl|true=>simp_all
  subst hb;simp[valid,f,h1];cases hb;grind;cases hb
def Qk{ops:Array n9}{e:bK}(h:Sat n e a){c:yb}(f:Zf ops e o.guard=Td c):zah o (yielded ops a.tmps)=Ta↔valid (qp a) c:=by
 unfold zah;cases hg:o.guard with
 |none=>rw[hg]at f;simp only[Zf,YK]at f;simp[<-f,valid]
 |some s=>
  have⟨j,p⟩:=s;rw[hg]at f;simp only[Zf]at f;split at f;rename_i g i;split at f;rename_i t b q;simp only[YK]at f;subst f;have k:((ops[j]?).bind (·.dst))=Td g:=by simp only[xj]at i;split at i;simp_all;cases i
  have m:=h.all _ (mB q);have r:yielded ops a.tmps j=Td p↔qp a g=.bool p:=by
   unfold yielded qp;rw[k];simp only[zbw];cases ht:a.tmps[g]? with
   |none=>simp[za3,ht,undef]
   |some v=>cases v <;> simp[za3,ht]
  simp only[beq_iff_eq,r,valid];constructor;intro h1;refine⟨h1,?_⟩;by_cases l:valid (qp a) t;exact l;have:=m.2 l;simp only at this;rw[h1]at this;exact absurd this.symm H6;simp_all;cases f;cases f
structure Bk (n:Nat) (h h':zb):Prop where
 size:h.size<=h'.size
 get:∀i,i<n->h'[i]?=h[i]?
theorem Bk.refl(n:Nat)(h:zb):Bk n h h:=⟨YJ _,λ_ _=>rfl⟩
theorem Bk.trans{a b c:zb}(h:Bk n a b)(k:Bk m b c)(e:n<=m):Bk n a c:= ⟨zbd h.size k.size,λi hi=>(k.get i (zcl hi e)).trans (h.get i hi)⟩
theorem Bk.mono{a b:zb}(h:Bk n a b)(c:m<=n):Bk m a b:=⟨h.size,λi hi=>h.get i (zcl hi c)⟩
theorem Bk.push(h:zb)(o:Obj)(b:n<=h.size):Bk n h (h.push o):= ⟨ξ,λi hi=>η⟩
end
section
variable {P:EM} {α:Type} {h:zb} {v x i:Value} {t:N4} {g:Option Bool} {n l r:Int}
def zd(h:zb)(a:n8):Option Value:=
 match h[a.block]? with
 |some (.cells c _ _)=>if a.spot.isSome then Te else c[a.off]?
 |_=>Te
theorem tE(B:MN)(d:Nat)(h:zb)(a:n8):(mk B d h).cell? a=zd h a:=rfl
def Jh(P:EM){α:Type}:Sem α->Option α
 |.pure a=>Td a
 |.program k=>Jh P (k P)
 |.mark _ k=>Jh P k
 |_=>Te
def At(P:EM){α:Type}(s:Sem α)(h:zb)(x:α):Prop:=∀B d,s.run P (mk B d h)=.ok x (mk B d h)
def If{s:Sem α}{x:α}(h:Jh P s=Td x)(w:MN):s.run P w=.ok x w:=by
 induction s with
 |pure a=>simp only[Jh,YK]at h;subst h;rfl
 |program k b=>exact b P h
 |mark m k b=>exact b h
 |_=>simp[Jh]at h
theorem XB{s:Sem α}{x:α}(h:Jh P s=Td x)(b:zb):At P s b x:=λ_ _=>If h _
theorem At.bind{α β:Type}{s:Sem α}{f:α->Sem β}{x:α}{y:β}(h1:At P s h x)(h2:At P (f x) h y):At P (s >>= f) h y:=by intro B d;rw[DM,h1 B d];exact h2 B d
theorem At.pure(x:α):At P (zc6 x) h x:=λ_ _=>rfl
theorem At.val{s:Sem Value}(h1:At P s h v):At P (s >>= λx=>zc6 (zda x)) h (zda v):=h1.bind (At.pure _)
theorem At.underlying{d:TypeDesc}(b:P.underlying t=Td d):At P (Go.underlying t) h d:=by intro B e;simp[Go.underlying,program,b,Sem.run]
def jk(P:EM)(t:N4):Nat:=match P.info? t with
 |some i=>i.size
 |none=>0
theorem At.sizeOf{i:TypeInfo}(hi:P.info? t=Td i):At P (Go.sizeOf t) h (jk P t):=by intro B d;simp[Go.sizeOf,typeInfo,program,hi,Sem.run,jk]
def JF{d:TypeDesc}(b:P.underlying t=Td d):∃i,P.info? t=Td i:=by unfold Program.underlying at b;grind
inductive GT where
 |int (k:IntKind)|bool|str|sl|mp|ptr|raw|ad
structure Sl where
 a:Option n8
 len:Nat
 cap:Nat
@[reducible] def GT.den:GT->Type
 |.int _=>Int | .bool=>Bool | .str=>Bt | .sl=>Sl | .mp=>Option Nat | .ptr=>Option n8 | .raw=>Value | .ad=>n8
def GT.enc:(t:GT)->t.den->Value
 |.int k,n=>.int k n
 |.bool,b=>.bool b
 |.str,s=>.string s
 |.sl,s=>.slice s.a s.len s.cap
 |.mp,m=>.map m
 |.ptr,p=>.pointer p
 |.raw,v=>v
 |.ad,p=>.pointer (Td p)
def GT.dec:(t:GT)->Value->Option t.den
 |.int k,.int k' n=>if k=k' then Td n else Te
 |.bool,.bool b=>Td b
 |.str,.string s=>Td s
 |.sl,.slice a l c=>Td ⟨a,l,c⟩
 |.mp,.map m=>Td m
 |.ptr,.pointer p=>Td p
 |.raw,v=>Td v
 |.ad,.pointer (Td p)=>Td p
 |_,_=>Te
theorem GT.enc_of_dec{t:GT}{x:t.den}(h:t.dec v=Td x):t.enc x=v:=by
 cases t with
 |ad=>
  cases v with
  |pointer p=>
   cases p with
   |none=>simp[GT.dec]at h
   |some a=>simp[GT.dec]at h;rw[h];rfl
  |_=>simp[GT.dec]at h
 |_=>cases v <;> simp_all[GT.dec,GT.enc] <;> (grind)
inductive VT where
 |one (t:GT)
 |agg (l:List GT)
inductive RT where
 |one (v:VT)
 |tup (l:List VT)
def tj:List GT->(List Value->Prop)->Prop
 |[],F=>F []
 |t::l,F=>∃x:t.den,tj l λvs=>F (t.enc x::vs)
def yY:VT->(Value->Prop)->Prop
 |.one t,F=>∃x:t.den,F (t.enc x)
 |.agg l,F=>tj l λvs=>F (.agg vs.toArray)
def wE:List VT->(List Value->Prop)->Prop
 |[],F=>F []
 |t::l,F=>yY t λv=>wE l λvs=>F (v::vs)
def jY:RT->(Value->Prop)->Prop
 |.one v,F=>yY v F
 |.tup l,F=>wE l λvs=>F (.tuple vs.toArray)
def pa:List GT->(List Value->Prop)->Prop
 |[],F=>F []
 |t::l,F=>∀x:t.den,pa l λvs=>F (t.enc x::vs)
def nl:VT->(Value->Prop)->Prop
 |.one t,F=>∀x:t.den,F (t.enc x)
 |.agg l,F=>pa l λvs=>F (.agg vs.toArray)
def mr:List VT->(List Value->Prop)->Prop
 |[],F=>F []
 |t::l,F=>nl t λv=>mr l λvs=>F (v::vs)
def H9:RT->(Value->Prop)->Prop
 |.one v,F=>nl v F
 |.tup l,F=>mr l λvs=>F (.tuple vs.toArray)
def Wb:∀{l:List GT} {F G:List Value->Prop},tj l F->pa l G->∃vs,DB vs=DB l/\F vs/\G vs
 |[],_,_,h,g=>⟨[],rfl,h,g⟩
 |_::_,_,_,⟨x,h⟩,g=>let ⟨vs,h0,h1,h2⟩:=Wb h (g x);⟨_,by simp[h0],h1,h2⟩
def xm:∀(l:List GT),pa l λ_=>True
 |[]=>trivial
 |_::l=>λ_=>xm l
def tV{v:VT}{F G:ac1}(h:yY v F)(g:nl v G):∃u,F u/\G u:=by
 cases v with
 |one t=>have⟨x,h⟩:=h;exact⟨_,h,g x⟩
 |agg l=>have⟨vs,_,h1,h2⟩:=Wb h g;grind
def PL(v:VT):nl v λ_=>True:=by
 cases v with
 |one t=>exact λ_=>trivial
 |agg l=>exact xm l
def ui:∀{l:List VT} {F G:List Value->Prop},wE l F->mr l G->∃vs,F vs/\G vs
 |[],_,_,h,g=>⟨[],h,g⟩
 |_::_,_,_,h,g=>let ⟨_,h1,h2⟩:=tV h g;let ⟨_,h3,h4⟩:=ui h1 h2;⟨_,h3,h4⟩
def BJ:∀(l:List VT),mr l λ_=>True
 |[]=>trivial
 |v::l=>by
  have h:=BJ l;simp only[mr];cases v with
  |one t=>exact λ_=>h
  |agg b=>
   simp only[nl];have key:∀(b:List GT) (f:List Value->List Value),pa b λ_=>mr l λ_=>True:=λb _=>by
    induction b with
    |nil=>exact h
    |cons t b c=>exact λ_=>c
   exact key b id
theorem CI{r:RT}{F G:ac1}(h:jY r F)(g:H9 r G):∃v,F v/\G v:=by
 cases r with
 |one v=>exact tV h g
 |tup l=>have⟨vs,h1,h2⟩:=ui h g;grind
def pX{r:RT}{F:ac1}(h:jY r F):∃v,F v:=by
 cases r with
 |one v=>have⟨u,h1,_⟩:=tV h (PL v);grind
 |tup l=>have⟨vs,h1,_⟩:=ui h (BJ l);grind
def Hq:TypeDesc->GT
 |.int k=>.int k
 |.bool=>.bool
 |.string=>.str
 |.slice _=>.sl
 |.map _ _=>.mp
 |.pointer _=>.ptr
 |_=>.raw
def rC(P:EM):Nat->N4->Option (List GT)
 |0,_=>Te
 |n+1,t=>match P.underlying t with
  |some (.struct fs)=>fs.toList.foldr (λf l=>match rC P n f.type,l with
    |some x,some y=>Td (x++y)
    |_,_=>Te) (Td [])
  |some (.array m e)=>match rC P n e with
    |some x=>Td (List.replicate m x).flatten
    |none=>Te
  |some d=>Td [Hq d]
  |none=>Te
def ia(P:EM)(t:N4):Option VT:=match P.underlying t with
 |some (.struct _)|some (.array _ _)=>match rC P 8 t with
  |some l=>bif gc l.length (jk P t)then Td (.agg l)else Te
  |none=>Te
 |some d=>Td (.one (Hq d))
 |none=>Te
def Cj(P:EM):List N4->Option (List VT)
 |[]=>Td []
 |t::l=>match ia P t,Cj P l with
  |some x,some y=>Td (x::y)
  |_,_=>Te
def ou(P:EM)(t:N4):Option RT:=match P.underlying t with
 |some (.tuple ts)=>match Cj P ts.toList with
  |some l=>Td (.tup l)
  |none=>Te
 |_=>match ia P t with
  |some v=>Td (.one v)
  |none=>Te
def req:Option Bool->Prop->Prop
 |none,p=>p
 |some b,p=>b=Ta->p
def eJ:Option Bool->Prop
 |none=>True
 |some b=>b=Ta
theorem req.out{p:Prop}(h:req g p)(c:eJ g):p:=by
 cases g with
 |none=>exact h
 |some b=>exact h c
def zc(h:zb)(p:n8):Nat->List Value->Prop
 |_,[]=>True
 |i,v::vs=>zd h (p.add i)=Td v/\zc h p (i+1) vs
def kM(P:EM)(h:zb)(t:N4)(p:Value)(g:Option Bool)(K:Value->Prop):Prop:=
 match p,ia P t with
 |.pointer (Td p),Td (.one a)=>∃x:a.den,req g (zd h p=Td (a.enc x))/\K (a.enc x)
 |.pointer (Td p),Td (.agg l)=>tj l λvs=>req g (zc h p 0 vs)/\K (.agg vs.toArray)
 |_,_=>False
def HX{P:EM}{h:zb}{p:n8}:∀(vs:ab2) (i:Nat) (b:ab3),zc h p i vs->At P (loadCellsFrom p i (DB vs) b) h (b++vs.toArray)
 |[],i,b,_=>by intro B d;simp[loadCellsFrom]
 |v::vs,i,b,⟨h1,h2⟩=>by have c:=HX (P:=P) vs (i+1) (b.push v) h2;intro B d;simp only[YU,loadCellsFrom,DM,run_load];rw[tE,h1];simp only[D0];rw[c B d];simp
def o7{a:GT}{p:n8}(c:ia P t=Td (.one a))(i:zd h p=Td v):At P (loadVar t p) h v:=by
 unfold ia at c;cases hu:P.underlying t with
 |none=>simp_all
 |some d=>
  rw[hu]at c;intro B e;have f:=At.underlying (h:=h) hu B e;have b:(isAgg t).run P (mk B e h)=.ok Tc (mk B e h):=by unfold isAgg;rw[DM,f];cases d <;> first|rfl|grind
  unfold loadVar;rw[DM,b];simp only[D0,zaq,if_false,run_load];rw[tE,i]
def oX{l:List GT}{p:n8}{vs:ab2}(c:ia P t=Td (.agg l))(u:vs.length=DB l)(r:zc h p 0 vs):At P (loadVar t p) h (.agg vs.toArray):=by
 unfold ia at c;cases hu:P.underlying t with
 |none=>simp_all
 |some d=>
  rw[hu]at c;have⟨i,hi⟩:=JF hu;have b:(∃f,d=.struct f)\/(∃n e,d=.array n e):=by cases d <;> first|exact Or.inl ⟨_,rfl⟩|exact Or.inr ⟨_,_,rfl⟩|(simp at c)
  have s:jk P t=DB l:=by
   have k:(match rC P 8 t with
    |some l=>cond (gc (DB l) (jk P t)) (Td (VT.agg l)) Te
    |none=>Te)=Td (.agg l):=by
    obtain⟨f,rfl⟩|⟨n,e,rfl⟩:=b <;> exact c
   split at k;rename_i q _;cases hb:gc (DB q) (jk P t)with
   |false=>simp_all
   |true=>simp_all
   cases k
  intro B e;have m:=At.underlying (h:=h) hu B e;have hA:(isAgg t).run P (mk B e h)=.ok Ta (mk B e h):=by unfold isAgg;rw[DM,m];obtain⟨f,rfl⟩|⟨n,e',rfl⟩:=b <;> rfl
  have o:=At.sizeOf (h:=h) hi B e;unfold loadVar;rw[DM,hA];simp only[D0,if_true];rw[DM,o];simp only[D0];have w:=HX (P:=P) vs 0 #[] r B e;unfold loadCells;simp_all
def GP{p:Value}{K:ac1}(H:kM P h t p g K):∃v,K v/\(eJ g->At P (zcz t p) h v):=by unfold kM at H;split at H;rename_i q a b;have⟨x,h1,h2⟩:=H;exact⟨_,h2,λc=>o7 b (h1.out c)⟩;rename_i q l b;have⟨vs,h0,⟨h1,h2⟩,_⟩:=Wb H (xm l);exact⟨_,h2,λc=>oX b h0 (h1.out c)⟩;cases H
def pd(P:EM)(t:N4)(x i:Value)(g:Option Bool)(K:Value->Prop):Prop:=
 match P.underlying t with
 |some (.slice el)=>match x,i with
  |.slice base len _,.int _ n=>∃a:n8,req g (base=Td a/\0<=n/\n<(len:Int))/\K (.pointer (Td (a.add (n.toNat*jk P el))))
  |_,_=>False
 |some (.array len el)=>match x,i with
  |.pointer base,.int _ n=>∃a:n8,req g (base=Td a/\0<=n/\n<(len:Int))/\K (.pointer (Td (a.add (n.toNat*jk P el))))
  |_,_=>False
 |_=>False
def qq(P:EM)(t:N4):Bool:=match P.info? t with
 |some _=>Ta
 |none=>Tc
theorem wu(h:qq P t=Ta):∃i,P.info? t=Td i:=by unfold qq at h;grind
def xp(t:N4)(B:MN)(d:Nat):(∃i,P.info? t=Td i)->(Go.sizeOf t).run P (mk B d h)=.ok (jk P t) (mk B d h):=λ⟨_,hi⟩=>At.sizeOf hi B d
def Ql{K:ac1} (c:∀el,(P.underlying t=Td (.slice el)\/∃n,P.underlying t=Td (.array n el))->∃i,P.info? el=Td i) (H:pd P t x i g K):∃v,K v/\(eJ g->∀h:zb,At P (zdt t x i) h v):=by unfold pd at H;split at H;rename_i el b;split at H;rename_i base len cap k n;have⟨a,h1,h2⟩:=H;refine⟨_,h2,λl=>?_⟩;obtain⟨rfl,e,o⟩:=h1.out l;intro h B d;have m:=At.underlying (h:=h) b B d;have f:=xp (h:=h) el B d (c el (Or.inl b));unfold zdt;simp[asIntOf,DM,m,f,e,o];cases H;rename_i len el b;split at H;rename_i base k n;have⟨a,h1,h2⟩:=H;refine⟨_,h2,λl=>?_⟩;obtain⟨rfl,e,o⟩:=h1.out l;intro h B d;have m:=At.underlying (h:=h) b B d;have f:=xp (h:=h) el B d (c el (Or.inr ⟨_,b⟩));unfold zdt;simp[asIntOf,DM,m,f,e,o,zdb];cases H;cases H
def ze(s:Bt)(i:Nat):Int:=((s.data[i]?.getD 0).toNat:Int)
def yR(x i:Value)(g:Option Bool)(K:Value->Prop):Prop:=
 match x,i with
 |.string s,.int _ n=>req g (0<=n/\n<(s.size:Int))/\K (.int .u8 (ze s n.toNat))
 |_,_=>False
def Up(s:Bt)(i:Nat)(h:i<s.size):s[i]?=Td (s.data[i]?.getD 0):=by have h':i<s.data.size:=h;rw[getElem?_pos s i h];simp[zbc h'];rfl
def CW{K:ac1}(c:P.underlying t=Td .string)(H:yR x i g K):∃v,K v/\(eJ g->∀h:zb,At P (Instr.index t x i) h v):=by unfold yR at H;split at H;rename_i s k n;have⟨h1,h2⟩:=H;refine⟨_,h2,λl=>?_⟩;have⟨e,m⟩:=h1.out l;intro h B d;have b:=At.underlying (h:=h) c B d;unfold Instr.index;have f:=Up s n.toNat ω;simp only[asIntOf,DM,b,DQ,D0,e,if_true,f,ze];cases H
def eL(a:Option n8)(sz l m:Nat):Option n8:=if m=l then a else a.map (·.add (l*sz))
def jg:Option Value->Int->Option Int
 |none,d=>Td d
 |some (.int _ n),_=>Td n
 |some _,_=>Te
def tg(P:EM)(t:N4)(x:Value)(lo hi mx:Option Value)(g:Option Bool)(K:Value->Prop):Prop:=
 match P.underlying t with
 |some .string=>match x,mx with
  |.string s,none=>match jg lo 0,jg hi (s.size:Int)with
   |some l,some r=>req g (0<=l/\l<=r/\r<=(s.size:Int))/\K (.string (s.extract l.toNat r.toNat))
   |_,_=>False
  |_,_=>False
 |some (.slice el)=>match x with
  |.slice a len cap=>match jg lo 0,jg hi (len:Int),jg mx (cap:Int)with
   |some l,Td r,some m=>(mx=Te\/∃v,hi=Td v)/\req g (0<=l/\l<=r/\r<=m/\m<=(cap:Int))/\K (.slice (eL a (jk P el) l.toNat m.toNat) (r.toNat-l.toNat) (m.toNat-l.toNat))
   |_,_,_=>False
  |_=>False
 |some (.array n el)=>match x,mx with
  |.pointer (Td a),none=>match jg lo 0,jg hi (n:Int)with
   |some l,some r=>req g (0<=l/\l<=r/\r<=(n:Int))/\K (.slice (eL (Td a) (jk P el) l.toNat n) (r.toNat-l.toNat) (n-l.toNat))
   |_,_=>False
  |_,_=>False
 |_=>False
def j5{v:ab8}{d n:Int}(h:jg v d=Td n):(v=Te/\n=d)\/∃k,v=Td (.int k n):=by unfold jg at h;grind
def jq{k:IntKind}{y:Nat}{c:BoundsCode}(h0:0<=n)(h1:n<=(y:Int)):At P (Instr.sliceBound (.int k n) y c) h n.toNat:=by intro B d;simp[Instr.sliceBound,asIntOf,h0,h1]
def Cc{n:Nat}{lo hi:ab8}(f:jg lo 0=Td l)(m:jg hi (n:Int)=Td r)(c:0<=l)(i:l<=r)(b:r<=(n:Int)):At P (Instr.sliceBounds Tc n n lo hi Te) h (l.toNat,r.toNat,n):=by have e:(r.toNat:Int)=r:=Int.toNat_of_nonneg ω;obtain⟨rfl,rfl⟩|⟨k,rfl⟩:=j5 f <;> obtain⟨rfl,rfl⟩|⟨k',rfl⟩:=j5 m;exact At.pure _;exact At.bind (At.pure n) (At.bind (jq ω b) (At.pure _));exact At.bind (At.pure n) (At.bind (At.pure n) (At.bind (jq c i) (At.pure _)));exact At.bind (At.pure n) (At.bind (jq ω b) (At.bind (jq c ω) (At.pure _)))
def Ku{len cap:Nat}{lo hi mx:ab8}{l r m:Int}(f:jg lo 0=Td l)(i:jg hi (len:Int)=Td r)(p:jg mx (cap:Int)=Td m) (h0:mx=Te\/∃v,hi=Td v) (b:0<=l) (q:l<=r) (o:r<=m) (n:m<=(cap:Int)):At P (Instr.sliceBounds Ta len cap lo hi mx) h (l.toNat,r.toNat,m.toNat):=by have e:(r.toNat:Int)=r:=Int.toNat_of_nonneg ω;have u:(m.toNat:Int)=m:=Int.toNat_of_nonneg ω;obtain⟨rfl,rfl⟩|⟨t,rfl⟩:=j5 p;obtain⟨rfl,rfl⟩|⟨k,rfl⟩:=j5 f <;> obtain⟨rfl,rfl⟩|⟨s,rfl⟩:=j5 i;exact At.pure _;exact At.bind (At.pure cap) (At.bind (jq ω o) (At.pure _));exact At.bind (At.pure cap) (At.bind (At.pure len) (At.bind (jq b q) (At.pure _)));exact At.bind (At.pure cap) (At.bind (jq ω o) (At.bind (jq b ω) (At.pure _)));obtain h0|⟨v,rfl⟩:=h0;cases h0;obtain⟨c,_⟩|⟨s,c⟩:=j5 i;cases c;cases c;obtain⟨rfl,rfl⟩|⟨k,rfl⟩:=j5 f;exact At.bind (x:=m.toNat) (jq ω n) (At.bind (jq ω ω) (At.pure _));exact At.bind (x:=m.toNat) (jq ω n) (At.bind (jq ω ω) (At.bind (jq b ω) (At.pure _)))
def Ji{lo hi mx:ab8}{K:ac1} (p:∀el,(P.underlying t=Td (.slice el)\/∃n,P.underlying t=Td (.array n el))->∃i,P.info? el=Td i) (H:tg P t x lo hi mx g K):∃v,K v/\(eJ g->∀h:zb,At P (zdi t x lo hi mx) h v):=by unfold tg at H;split at H;rename_i b;split at H;rename_i s;split at H;rename_i l r e f;have⟨h1,h2⟩:=H;refine⟨_,h2,λo=>?_⟩;have⟨k,q,u⟩:=h1.out o;intro h B d;have c:=At.underlying (h:=h) b B d;have bb:=Cc (P:=P) (h:=h) e f k q u B d;unfold zdi;rw[DM,c];simp only[D0];unfold Instr.slice;simp_all;cases H;cases H;rename_i el b;split at H;rename_i a len cap;split at H;rename_i l r m e f y;have⟨h0,h1,h2⟩:=H;refine⟨_,h2,λo=>?_⟩;have⟨k,q,u,z⟩:=h1.out o;intro h B d;have c:=At.underlying (h:=h) b B d;have w:=xp (h:=h) el B d (p el (.inl b));have bb:=Ku (P:=P) (h:=h) e f y h0 k q u z B d;unfold zdi;rw[DM,c];simp only[D0];unfold Instr.slice;rw[DM,c];simp[bb,w,eL];cases H;cases H;rename_i n el b;split at H;rename_i a;split at H;rename_i l r e f;have⟨h1,h2⟩:=H;refine⟨_,h2,λo=>?_⟩;have⟨k,q,u⟩:=h1.out o;intro h B d;have c:=At.underlying (h:=h) b B d;have w:=xp (h:=h) el B d (p el (.inr ⟨n,b⟩));have bb:=Cc (P:=P) (h:=h) e f k q u B d;unfold zdi;rw[DM,c];simp only[D0,zdb,DM,DQ,bb,w];unfold eL;split <;> rfl;cases H;cases H;cases H
end
section
variable {P:EM} {f:n5} {h:zb} {K:Value -> zb -> Prop} {t ty t':N4} {g:Option Bool} {w w':MN} {v:Value} {o:n9} {ρ:n7 -> Value} {a:Act}
def XC(P:EM)(f:n5)(args:Array Value)(h:zb)(R:Value->zb->Prop):Prop:=
 ∀B d,Calls P f args (mk B d h) λe w'=>∃v b h',e=.returned v/\w'=mk B b h'/\R v h'
theorem XC.mono{args:ab3}{R b:vvv}(H:XC P f args h R)(e:∀v h',R v h'->b v h'):XC P f args h b:= λB d=>(H B d).mono λ_ _ ⟨v,i,h',c,k,r⟩=>⟨v,i,h',c,k,e _ _ r⟩
def CA(P:EM)(s:Sem Value)(h:zb)(K:Value->zb->Prop):Prop:=∀B d,∃v b h',s.run P (mk B d h)=.ok v (mk B b h')/\K v h'
def wf(P:EM)(s:Sem Unit)(h:zb)(K:zb->Prop):Prop:=∀B d,∃b h',s.run P (mk B d h)=.ok () (mk B b h')/\K h'
theorem CA.mono{s:Sem Value}{K b:vvv}(H:CA P s h K)(c:∀v h',K v h'->b v h'):CA P s h b:= λB d=>let ⟨v,d',h',e,k⟩:=H B d;⟨v,d',h',e,c _ _ k⟩
theorem wf.mono{s:Sem Unit}{K b:zb->Prop}(H:wf P s h K)(c:∀h',K h'->b h'):wf P s h b:= λB d=>let ⟨d',h',e,k⟩:=H B d;⟨d',h',e,c _ k⟩
def qb(n:Nat):Prop:=n<=9223372036854775807
def ij(P:EM)(s:Sem Next)(K:Value->Prop):Prop:=match Jh P s with
 |some (.value v)=>K v
 |_=>False
def ru(P:EM)(ty:N4)(s:Sem Value)(g:Option Bool)(h:zb)(K:Value->Prop):Prop:=match ou P ty with
 |some rt=>jY rt λv=>req g (At P s h v)/\K v
 |none=>False
def my(P:EM)(t:N4):Bool:=match P.underlying t with
 |some (.slice _)=>Ta
 |_=>Tc
def mE(P:EM)(t:N4):Bool:=match P.underlying t with
 |some (.pointer e)=>gc e (P.pointee t)
 |_=>Tc
def A7(h:mE P t=Ta):P.underlying t=Td (.pointer (P.pointee t)):=by unfold mE at h;grind [ZJ]
def rM(P:EM)(t:N4)(s:Sem Next)(c:BinOp)(x y:Value)(g:Option Bool)(K:Value->Prop):Prop:=
 match c,x,y with
 |.eql,.slice a _ _,.slice Te 0 0=>bif my P t then K (.bool a.isNone)else ij P s K
 |.neq,.slice a _ _,.slice Te 0 0=>bif my P t then K (.bool (!a.isNone))else ij P s K
 |.eql,.pointer a,.pointer none=>bif mE P t then K (.bool a.isNone)else ij P s K
 |.neq,.pointer a,.pointer none=>bif mE P t then K (.bool (!a.isNone))else ij P s K
 |.quo,.int k a,.int k' b=>k=k'/\req g (b≠0)/\K (.int k (k.wrap (a.tdiv b)))
 |.rem,.int k a,.int k' b=>k=k'/\req g (b≠0)/\K (.int k (a.tmod b))
 |.add,.string a,.string b=>req g (qb (a.size+b.size))/\K (.string (a++b))
 |_,_,_=>ij P s K
def yT(b:BinOp)(y:n7):Bool:=match y with
 |.const _=>Tc
 |_=>match b with
  |.shl | .shr=>Ta
  |_=>Tc
def sB(c:BinOp)(x y:Value)(g:Option Bool)(K:Value->Prop):Prop:=
 match x,y with
 |.int k a,.int _ b=>match c with
  |.shl=>req g (0<=b)/\K (.int k (k.wrap (a*2 ^ (min b.toNat k.bits))))
  |.shr=>req g (0<=b)/\K (.int k (a.fdiv (2 ^ (min b.toNat k.bits))))
  |_=>False
 |_,_=>False
def nN(P:EM)(t:N4)(y:n7):Bool:=match y with
 |.const .nilIface=>match P.underlying t with
  |some (.interface _)=>Ta
  |_=>Tc
 |_=>Tc
def kf:Value->Bool
 |.nilIface=>Ta
 |.iface _ _=>Ta
 |_=>Tc
def kC:Value->Bool
 |.nilIface=>Ta
 |_=>Tc
def qW(b:BinOp)(x y:Value)(g:Option Bool)(K:Value->Prop):Prop:=match y with
 |.nilIface=>match b with
  |.eql=>req g (kf x=Ta)/\K (.bool (kC x))
  |.neq=>req g (kf x=Ta)/\K (.bool (!kC x))
  |_=>False
 |_=>False
def Hr(b:Builtin)(c:Array N4)(e:N4)(args:Array Value):Option (Sem Value):=
 match b with
 |.append=>Td (YN c e args)
 |.copy=>Td (Builtin.copy_ c e args)
 |.clear=>Td (Builtin.clear_ c e args)
 |.delete=>Td (Builtin.delete_ c e args)
 |.len=>Td (zch c e args)
 |_=>Te
def zK(P:EM)(s:Sem Next)(ty:N4)(b:Array N4)(args:Array Value)(g:Option Bool)(h:zb)(K:Value->Prop):Prop:=
 match (args[0]?:Option Value)with
 |some (Value.map _)=>ru P ty (zch b ty args) g h K
 |_=>ij P s K
def iX(P:EM)(t:N4):Bool:=match P.underlying t with
 |some (.slice el)=>qq P el
 |some (.array _ el)=>qq P el
 |_=>Ta
def Z7(h:iX P t=Ta):∀el,(P.underlying t=Td (.slice el)\/∃n,P.underlying t=Td (.array n el))->∃i,P.info? el=Td i:=by intro el b;unfold iX at h;grind [wu]
def oc(P:EM)(t:N4):Bool:=match P.underlying t with
 |some .string=>Ta
 |_=>Tc
def C8(h:oc P t=Ta):P.underlying t=Td .string:=by unfold oc at h;grind
def pE(P:EM)(s:Sem Next)(x:Value)(g:Option Bool)(K:Value->Prop):Prop:=match x with
 |.pointer p=>∃a:n8,req g (p=Td a)/\K (.pointer (Td a))
 |_=>ij P s K
def gb(P:EM)(o:n9)(ρ:n7->Value)(g:Option Bool)(h:zb)(K:Value->Prop):Prop:=
 match o.op with
 |.load t a=>kM P h t (ρ a) g K
 |.indexAddr t x i=>bif iX P t then pd P t (ρ x) (ρ i) g K else False
 |.index t x i=>bif oc P t then yR (ρ x) (ρ i) g K else ij P (fd ρ o) K
 |.slice t x lo hi mx=>bif iX P t then tg P t (ρ x) (lo.map ρ) (hi.map ρ) (mx.map ρ) g K else False
 |.binOp b t x y _=>bif yT b y then sB b (ρ x) (ρ y) g K else bif nN P t y then qW b (ρ x) (ρ y) g K else rM P t (fd ρ o) b (ρ x) (ρ y) g K
 |.lookup t m k ok=>ru P o.type (zc0 t (ρ m) (ρ k) ok) g h K
 |.nilCheck x=>pE P (fd ρ o) (ρ x) g K
 |.call c=>match c.callee with
  |.builtin .len=>zK P (fd ρ o) o.type c.argTypes (c.args.map ρ) g h K
  |_=>ij P (fd ρ o) K
 |_=>ij P (fd ρ o) K
def ql{s:Sem Next}{K:ac1}(H:ij P s K)(g:ac0):∃v,K v/\(eJ g->∀h:zb,At P s h (.value v)):=by unfold ij at H;grind [XB]
def Gc{s:Sem Value}{K:ac1}(H:ru P ty s g h K):∃v,K v/\(eJ g->At P s h v):=by unfold ru at H;split at H;have⟨v,h1,h2⟩:=pX H;exact⟨v,h2,λb=>h1.out b⟩;cases H
theorem Zg{c:BinOp}(t:N4)(x y:n7)(a b:Value)(h1:(c matches .eql | .neq)=Tc):eqGuard c t x y a b=pure ():=by unfold eqGuard;grind
def p6{s:Sem Value}(h:s.run P w=.ok v w'):(s >>= λx=>(zc6 (zda x):Sem Next)).run P w=.ok (.value v) w':=θ
def lY{s:Sem Next}{K:ac1}(h:zb)(H:∃v,K v/\(eJ g->∀h:zb,At P s h (.value v))):∃v,K v/\(eJ g->At P s h (.value v)):=
 let ⟨v,h1,h2⟩:=H;⟨v,h1,λb=>h2 b h⟩
def TF{q:BinOp}{x y:n7}(r:o.op=.binOp q t x y t'){K:ac1}(H:rM P t (fd ρ o) q (ρ x) (ρ y) g K):∃v,K v/\(eJ g->∀h:zb,At P (fd ρ o) h (.value v)):=by
 have f:∀(q:BinOp) (x y:n7) (a b:Option n8) (l c z u:Nat) (w:MN),(eqGuard q t x y (.slice a l c) (.slice b z u)).run P w=.ok () w:=λq x y a b l c z u w=>by unfold eqGuard;simp
 have e:∀(q:BinOp) (x y:n7) (a b:Option n8) (w:MN),(eqGuard q t x y (.pointer a) (.pointer b)).run P w=.ok () w:=λq x y a b w=>by unfold eqGuard;simp
 unfold rM at H;split at H;rename_i a l c m i;cases hs:my P t with
 |false=>rw[hs]at H;exact ql H g
 |true=>
  rw[hs,zF]at H;refine⟨_,H,λp h B d=>?_⟩;have n:∃el,P.underlying t=Td (.slice el):=by unfold my at hs;split at hs;simp_all;cases hs
  have⟨el,n⟩:=n;simp only[fd,r,m,i];refine p6 ?_;rw[DM,f];simp only[D0,binOp,DM,run_equal_slice_nil _ t _ _ _ _ n];rfl
 rename_i a l c m i;cases hs:my P t with
 |false=>rw[hs]at H;exact ql H g
 |true=>
  rw[hs,zF]at H;refine⟨_,H,λp h B d=>?_⟩;have n:∃el,P.underlying t=Td (.slice el):=by unfold my at hs;split at hs;simp_all;cases hs
  have⟨el,n⟩:=n;simp only[fd,r,m,i];refine p6 ?_;rw[DM,f];simp only[D0,binOp,DM,run_equal_slice_nil _ t _ _ _ _ n];rfl
 rename_i a m i;cases hs:mE P t with
 |false=>rw[hs]at H;exact ql H g
 |true=>rw[hs,zF]at H;refine⟨_,H,λp h B d=>?_⟩;have n:=A7 hs;simp only[fd,r,m,i];refine p6 ?_;rw[DM,e];simp only[D0,binOp,DM,run_equal_pointer_nil _ t _ n];rfl
 rename_i a m i;cases hs:mE P t with
 |false=>rw[hs]at H;exact ql H g
 |true=>rw[hs,zF]at H;refine⟨_,H,λp h B d=>?_⟩;have n:=A7 hs;simp only[fd,r,m,i];refine p6 ?_;rw[DM,e];simp only[D0,binOp,DM,run_equal_pointer_nil _ t _ n];rfl
 rename_i k a C b m i;obtain⟨rfl,h1,h2⟩:=H;refine⟨_,h2,λp=>?_⟩;have s:=h1.out p;intro h B d;simp only[fd,r,m,i];rw[Zg _ _ _ _ _ rfl];simp[binOp,Op.intDiv,s];rename_i k a C b m i;obtain⟨rfl,h1,h2⟩:=H;refine⟨_,h2,λp=>?_⟩;have s:=h1.out p;intro h B d;simp only[fd,r,m,i];rw[Zg _ _ _ _ _ rfl];simp[binOp,Op.intDiv,s];rename_i a b m i;have⟨h1,h2⟩:=H;refine⟨_,h2,λp=>?_⟩;have s:=h1.out p;intro h B d;simp only[fd,r,m,i];rw[Zg _ _ _ _ _ rfl];have A:¬((a.size+b.size:Nat):Int)>IntKind.i64.max:=by
  unfold qb at s;have:IntKind.i64.max=9223372036854775807:=ζ
  omega
 simp only[binOp,Op.stringOp,za A];rfl;exact ql H g
def Of{l:BinOp}{x y:n7}(e:o.op=.binOp l t x y t'){K:ac1}(H:sB l (ρ x) (ρ y) g K):∃v,K v/\(eJ g->∀h:zb,At P (fd ρ o) h (.value v)):=by unfold sB at H;split at H;rename_i k a n b i f;split at H;have⟨h1,h2⟩:=H;refine⟨_,h2,λc h B d=>?_⟩;have m:=h1.out c;simp only[fd,e,i,f];rw[Zg _ _ _ _ _ rfl];simp only[binOp,Op.shift,za (show¬b<0 by omega)];rfl;have⟨h1,h2⟩:=H;refine⟨_,h2,λc h B d=>?_⟩;have m:=h1.out c;simp only[fd,e,i,f];rw[Zg _ _ _ _ _ rfl];simp only[binOp,Op.shift,za (show¬b<0 by omega)];rfl;cases H;cases H
def JR{b:BinOp}{x y:n7}(k:o.op=.binOp b t x y t'){K:ac1}(i:nN P t y=Ta) (H:qW b (ρ x) (ρ y) g K):∃v,K v/\(eJ g->∀h:zb,At P (fd ρ o) h (.value v)):=by
 have f:∃ms,P.underlying t=Td (.interface ms)/\y=.const .nilIface:=by unfold nN at i;split at i;grind;cases i
 obtain⟨ms,f,rfl⟩:=f;have key:∀{u:Value} (h:zb),kf u=Ta->At P (zdw t u .nilIface) h (kC u):=by intro u h hi B d;have n:=At.underlying (h:=h) f B d;unfold zdw Op.maxDepth;cases u <;> first|(cases hi;done)|(unfold Op.equalIn;rw[DM,n];rfl)
 have m:∀b u (h:zb),kf u=Ta->At P (eqGuard b t x (.const .nilIface) u .nilIface) h ():=by intro b u h hi B d;unfold eqGuard;cases u <;> first|simp|simp
 have c:∀b u,kf u=Ta->(binOp b t u .nilIface=match b with | .eql=>(do pure (.bool (<-zdw t u .nilIface))) | .neq=>(do pure (.bool (!(<-zdw t u .nilIface))))|_=>binOp b t u .nilIface):=by intro b u hi;cases u <;> first|(cases hi;done)|(cases b <;> rfl)
 unfold qW at H;split at H;rename_i l;split at H;refine⟨_,H.2,λe h=>?_⟩;have hi:=H.1.out e;simp only[fd,k,l];refine At.val ((m _ _ h hi).bind ?_);rw[c _ _ hi];exact(key h hi).bind (At.pure _);refine⟨_,H.2,λe h=>?_⟩;have hi:=H.1.out e;simp only[fd,k,l];refine At.val ((m _ _ h hi).bind ?_);rw[c _ _ hi];exact(key h hi).bind (At.pure _);cases H;cases H
def ug{b:BinOp}{x y:n7}(c:o.op=.binOp b t x y t'){K:ac1}(H:cond (yT b y) (sB b (ρ x) (ρ y) g K) (cond (nN P t y) (qW b (ρ x) (ρ y) g K) (rM P t (fd ρ o) b (ρ x) (ρ y) g K))):∃v,K v/\(eJ g->∀h:zb,At P (fd ρ o) h (.value v)):=by
 cases hb:yT b y with
 |true=>rw[hb]at H;exact Of c H
 |false=>
  rw[hb]at H;cases hn:nN P t y with
  |true=>rw[hn]at H;exact JR c hn H
  |false=>rw[hn]at H;exact TF c H
theorem Ma{c:Call}(b:o.op=.call c)(f:c.callee=.builtin .len){K:ac1}(H:zK P (fd ρ o) o.type c.argTypes (c.args.map ρ) g h K):∃v,K v/\(eJ g->At P (fd ρ o) h (.value v)):=by unfold zK at H;split at H;have⟨v,h1,h2⟩:=Gc H;refine⟨v,h1,λe=>?_⟩;have:=h2 e;intro B d;simp only[fd,b,resolve,f,DM,DQ,D0,invoke,builtin];rw[this B d];rfl;exact lY h (ql H g)
theorem vB{K:ac1}(H:gb P o ρ g h K):∃v,K v/\(eJ g->At P (fd ρ o) h (.value v)):=by
 unfold gb at H;split at H;rename_i t a b;have⟨v,h1,h2⟩:=GP H;refine⟨v,h1,λe=>?_⟩;simp only[fd,b];exact(h2 e).val;rename_i t x i b;cases he:iX P t with
 |false=>simp_all
 |true=>rw[he]at H;have⟨v,h1,h2⟩:=Ql (Z7 he) H;refine⟨v,h1,λe=>?_⟩;simp only[fd,b];exact(h2 e h).val
 rename_i t x i b;cases he:oc P t with
 |false=>rw[he]at H;exact lY h (ql H g)
 |true=>rw[he]at H;have⟨v,h1,h2⟩:=CW (C8 he) H;refine⟨v,h1,λe=>?_⟩;simp only[fd,b];exact(h2 e h).val
 rename_i t x lo hi mx b;cases he:iX P t with
 |false=>simp_all
 |true=>rw[he]at H;have⟨v,h1,h2⟩:=Ji (Z7 he) H;refine⟨v,h1,λe=>?_⟩;simp only[fd,b];exact(h2 e h).val
 rename_i n t x y t' b;exact lY h (ug b H);rename_i t m k ok b;have⟨v,h1,h2⟩:=Gc H;refine⟨v,h1,λe=>?_⟩;simp only[fd,b];exact(h2 e).val;rename_i x b;unfold pE at H;split at H;rename_i p l;have⟨a,h1,h2⟩:=H;refine⟨_,h2,λe=>?_⟩;have f:=h1.out e;subst f;intro B d;simp only[fd,b,l];rfl;exact lY h (ql H g);rename_i c b;split at H;simp_all[Ma];exact lY h (ql H g);exact lY h (ql H g)
def ko(o:n9):Bool:=match o.op with
 |.lookup .. => Tc
 |.call c=>match c.callee with
  |.builtin .len=>Tc
  |_=>Ta
 |_=>Ta
def RE{p:n8}(H:zd h p=Td v):p.block<h.size:=by unfold zd at H;grind
def HM{h h':zb}(k:Bk h.size h h'){p:n8}(H:zd h p=Td v):zd h' p=Td v:=by have:=RE H;unfold zd at H ⊢;rw[k.get _ this];exact H
def D6{h h':zb}(k:Bk h.size h h'){p:n8}:∀{vs:ab2} {i:Nat},zc h p i vs->zc h' p i vs
 |[],_,_=>trivial
 |_::_,_,⟨h1,h2⟩=>⟨HM k h1,D6 k h2⟩
def vy{K:ac1}(u:ko o=Ta)(H:gb P o ρ g h K):∃v,K v/\(eJ g->∀h',Bk h.size h h'->At P (fd ρ o) h' (.value v)):=by
 unfold gb at H;split at H;rename_i t a e;unfold kM at H;split at H;rename_i q b n s;have⟨x,h1,h2⟩:=H;refine⟨_,h2,λf h' r=>?_⟩;simp only[fd,e,n];exact(o7 s (HM r (h1.out f))).val;rename_i q l n s;have⟨vs,h0,⟨h1,h2⟩,_⟩:=Wb H (xm l);refine⟨_,h2,λf h' r=>?_⟩;simp only[fd,e,n];exact(oX s h0 (D6 r (h1.out f))).val;cases H;rename_i t x i e;cases he:iX P t with
 |false=>simp_all
 |true=>rw[he]at H;have⟨v,h1,h2⟩:=Ql (Z7 he) H;refine⟨v,h1,λf h' _=>?_⟩;simp only[fd,e];exact(h2 f h').val
 rename_i t x i e;cases he:oc P t with
 |false=>rw[he]at H;have⟨v,h1,h2⟩:=ql H g;grind
 |true=>rw[he]at H;have⟨v,h1,h2⟩:=CW (C8 he) H;refine⟨v,h1,λf h' _=>?_⟩;simp only[fd,e];exact(h2 f h').val
 rename_i t x lo hi mx e;cases he:iX P t with
 |false=>simp_all
 |true=>rw[he]at H;have⟨v,h1,h2⟩:=Ji (Z7 he) H;refine⟨v,h1,λf h' _=>?_⟩;simp only[fd,e];exact(h2 f h').val
 rename_i A t x y t' e;have⟨v,h1,h2⟩:=ug e H;grind;rename_i t m k ok e;simp[ko,e]at u;rename_i x e;unfold pE at H;split at H;rename_i p w;have⟨a,h1,h2⟩:=H;refine⟨_,h2,λf h' _=>?_⟩;have n:=h1.out f;subst n;intro B d;simp only[fd,e,w];rfl;have⟨v,h1,h2⟩:=ql H g;grind;rename_i c e;split at H;rename_i z;simp[ko,e,z]at u;have⟨v,h1,h2⟩:=ql H g;grind;have⟨v,h1,h2⟩:=ql H g;grind
def jX(P:EM){α:Type}:Sem α->zb->(α->zb->Prop)->Prop
 |.pure a,h,K=>K a h
 |.program k,h,K=>jX P (k P) h K
 |.mark _ k,h,K=>jX P k h K
 |.new o k,h,K=>jX P (k h.size) (h.push o) K
 |_,_,_=>False
def zJ{α:Type}{s:Sem α}{K:α->zb->Prop}(H:jX P s h K)(B:MN)(d:Nat):∃x h',s.run P (mk B d h)=.ok x (mk B d h')/\K x h':=by
 induction s generalizing h with
 |pure a=>exact⟨a,h,rfl,H⟩
 |program k b=>exact b P H
 |mark m k b=>exact b H
 |new o k b=>have⟨x,h',h1,h2⟩:=b h.size H;exact⟨x,h',h1,h2⟩
 |_=>cases H
def typed(P:EM)(ty:N4)(v:Value)(K:Value->Prop):Prop:=match ou P ty with
 |some rt=>jY rt λb=>v=b/\K b
 |none=>False
theorem Zh{K:ac1}(H:typed P ty v K):K v:=by unfold typed at H;split at H;have⟨b,h1,h2⟩:=pX H;grind;cases H
def zr(P:EM)(f:n5):Bool:=match P.funcs[f]? with
 |some fn=>(match fn.body with
  |some _=>Ta
  | none => false) && !(fn.name == "runtime.NumGoroutine")
 |none=>Tc
theorem vn(h:zr P f=Ta)(args:ab3)(w:MN):(callFunc f args).run P w=.ok (.enter f args) w:=by unfold zr at h;split at h;rename_i fn b;simp only[Bool.and_eq_true,zcs]at h;have⟨h1,h2⟩:=h;unfold callFunc;simp only[program,DM,Sem.run,D0,b];split at h1;simp_all;cases h1;cases h
def oF(P:EM)(v:Value)(args:Array Value)(K:n5->Array Value->Prop):Prop:=match v with
 |.func (.func f) first cap=>zr P f=Ta/\K f (first++args++cap)
 |_=>False
def Hu{c:Call}{x:n7}(b:o.op=.call c)(h:c.callee=.value x){K:n5->Array Value->Prop}(H:oF P (ρ x) (c.args.map ρ) K):∃f args,K f args/\∀w,(fd ρ o).run P w=.ok (.enter f args) w:=by
 unfold oF at H;split at H;rename_i f first cap e
 have⟨h1,h2⟩:=H;refine⟨_,_,h2,λw=>?_⟩;simp only[fd,b,resolve,h,e,zde,DM,DQ,D0,invoke];exact vn h1 _ w;cases H
def o5:n7->Bool
 |.func _=>Ta
 |_=>Tc
def Iq(P:EM)(f:n5):Bool:=match P.funcs[f]? with
 |some fn=>(match fn.body with
  |some _=>Tc
  |none=>Ta)
 |none=>Tc
def KV(P:EM)(f:n5)(args:Array Value)(h:zb)(K:Value->zb->Prop):Prop:=∀B d,∃v b h',(callFunc f args).run P (mk B d h)=.ok (.value v) (mk B b h')/\K v h'
def HY(P:EM):n7->Bool
 |.func f=>Iq P f
 |_=>Tc
def xY(P:EM)(v:Value)(args:Array Value)(h:zb)(K:Value->zb->Prop):Prop:=match v with
 |.func (.func f) first cap=>KV P f (first++args++cap) h K
 |_=>False
def Ve{c:Call}{x:n7}(e:o.op=.call c)(k:c.callee=.value x)(H:xY P (ρ x) (c.args.map ρ) h K)(B:MN)(d:Nat):∃v b h',(fd ρ o).run P (mk B d h)=.ok (.value v) (mk B b h')/\K v h':=by
 unfold xY at H;split at H;rename_i f first cap i
 have⟨v,b,h',h1,h2⟩:=H B d;refine⟨v,b,h',?_,h2⟩;simp only[fd,e,resolve,k,i,zde,DM,DQ,D0,invoke];exact h1;cases H
def Fy(P:EM)(t:N4):Bool:=match P.underlying t with
 |some (.map _ _)=>Ta
 |_=>Tc
def s7(P:EM)(o:n9)(ρ:n7->Value)(h:zb)(K:Value->zb->Prop):Prop:=
 match o.op with
 |.store t a x=>wf P (YI t (ρ a) (ρ x)) h λh'=>K undef h'
 |.mapUpdate t m k x=>wf P (zbk t (ρ m) (ρ k) (ρ x)) h λh'=>K undef h'
 |.insert t m k x=>wf P (zbk t (ρ m) (ρ k) (ρ x)) h λh'=>K undef h'
 |.entryStore t m s x=>wf P (Instr.entryStore t (ρ m) (ρ s) (ρ x)) h λh'=>K undef h'
 |.mapEntry t m k=>CA P (Instr.mapEntry t (ρ m) (ρ k)) h λv h'=>typed P o.type v λe=>K e h'
 |.makeSlice t l c=>CA P (Instr.makeSlice t (ρ l) (ρ c)) h λv h'=>typed P o.type v λe=>K e h'
 |.convert s t x=>CA P (convert s t (ρ x)) h λv h'=>typed P o.type v λe=>K e h'
 |.typeAssert x t t' ok=>CA P (Instr.typeAssert (ρ x) t t' ok) h λv h'=>typed P o.type v λe=>K e h'
 |.range t x=>bif Fy P t then CA P (zdm t (ρ x)) h λv h'=>∃q:Option n8,v=.pointer q/\K (.pointer q) h' else jX P (fd ρ o) h λnx h'=>match nx with
   |.value v=>K v h'
   |.skip=>K undef h'
   |_=>False
 |.next x s=>bif s then CA P (zcm (ρ x) s o.type) h λv h'=>(v=.tuple #[.bool Tc]/\K (.tuple #[.bool Tc]) h')\/∃k u:Int,v=.tuple #[.bool Ta,.int .i64 k,.int .i32 u]/\K (.tuple #[.bool Ta,.int .i64 k,.int .i32 u]) h'
  else CA P (zcm (ρ x) s o.type) h λv h'=>(v=.tuple #[.bool Tc]/\K (.tuple #[.bool Tc]) h')\/∃k u:Value,v=.tuple #[.bool Ta,k,u]/\K (.tuple #[.bool Ta,k,u]) h'
 |.entry x=>CA P (zdc (ρ x)) h λv h'=>∃k u:Value,v=.tuple #[k,u]/\K (.tuple #[k,u]) h'
 |.call c=>match c.callee with
  |.builtin b=>match Hr b c.argTypes o.type (c.args.map ρ)with
   |some s=>CA P s h λv h'=>typed P o.type v λe=>K e h'
   |none=>False
  |.value x=>bif HY P x then xY P (ρ x) (c.args.map ρ) h (λv h'=>typed P o.type v λe=>K e h')else bif o5 x then(jX P (fd ρ o) h λnx h'=>match nx with
   |.enter f args=>XC P f args h' λv h''=>typed P o.type v λe=>K e h''
   |.value v=>K v h'
   |_=>False)else oF P (ρ x) (c.args.map ρ) λf args=>XC P f args h λv h''=>typed P o.type v λe=>K e h''
  |_=>False
 |_=>jX P (fd ρ o) h λnx h'=>match nx with
   |.value v=>K v h'
   |.skip=>K undef h'
   |_=>False
def Pv:Builtin->Bool
 |.append | .copy | .clear | .delete=>Ta
 |_=>Tc
def TO(P:EM)(s t:N4):Bool:=match P.underlying s,P.underlying t with
 |some (.int _),Td (.int _)=>Ta
 |some .string,Td .string=>Ta
 |_,_=>Tc
def jQ(P:EM)(o:n9):Bool:=
 match o.op with
 |.load _ _ | .indexAddr _ _ _ | .index _ _ _ | .slice _ _ _ _ _ | .binOp _ _ _ _ _ | .lookup _ _ _ _ | .nilCheck _=>Ta
 |.move _ | .assign _ | .unOp _ _ _ | .build _ _ | .makeFunc _ _ _ | .makeInterface _ _ | .extract _ _ | .field _ _ _ | .fieldAddr _ _ _=>Ta
 |.convert s t _=>TO P s t
 |.call c=>match c.callee with
  |.builtin b=>!Pv b
  |_=>Tc
 |_=>Tc
def An(P:EM)(o:n9)(ρ:n7->Value)(b:Bool)(h:zb)(K:Value->zb->Prop):Prop:=
 match ou P o.type with
 |some rt=>∃J:Value->zb->Prop,(b=Ta->s7 P o ρ h J)/\(b=Tc->jY rt λv=>J v h)/\(b=Ta->∀v h',J v h'->jY rt λc=>v=c)/\H9 rt λv=>∀h',J v h'->K v h'
 |none=>False
def stepW(P:EM)(o:n9)(ρ:n7->Value)(g:Option Bool)(h:zb)(K:Value->zb->Prop):Prop:=
 bif jQ P o then gb P o ρ g h (λv=>K v h)else match g with
  |none=>s7 P o ρ h K
  |some b=>An P o ρ b h K
theorem upon_value{next:Act->MN->Prop}{Q:Exit->Act->MN->Prop}{s:Sem Next}(h:s.run P w=.ok (.value v) w')(b:next (a.put o.dst v) w'):o.upon P a next Q (s.run P w):=ϖ h b
theorem LT{next:Act->MN->Prop}{Q:Exit->Act->MN->Prop}{s:Sem Next}(h:s.run P w=.ok .skip w')(b:next (a.put o.dst undef) w'):o.upon P a next Q (s.run P w):=ϖ h b
def gm{s:Sem Value}(h:s.run P w=.ok v w'):(s >>= λx=>(zc6 (zda x):Sem Next)).run P w=.ok (.value v) w':=θ
def l6{s:Sem Unit}(h:s.run P w=.ok () w'):(s >>= λ_=>(zc6 Next.skip:Sem Next)).run P w=.ok .skip w':=θ
theorem E8(H:s7 P o ρ h K)(B:MN)(d:Nat){next:Act->MN->Prop}{Q:Exit->Act->MN->Prop}(i:∀v e h',K v h'->next (a.put o.dst v) (mk B e h')):o.upon P a next Q ((fd ρ o).run P (mk B d h)):=by
 unfold s7 at H;split at H;case h_1 t x y ho=>have⟨e,h',h1,h2⟩:=H B d;exact LT (by simp only[fd,ho];exact l6 h1) (i _ _ _ h2)
 case h_2 t m k x ho=>have⟨e,h',h1,h2⟩:=H B d;exact LT (by simp only[fd,ho];exact l6 h1) (i _ _ _ h2)
 case h_3 t m k x ho=>have⟨e,h',h1,h2⟩:=H B d;exact LT (by simp only[fd,ho];exact l6 h1) (i _ _ _ h2)
 case h_4 t m s x ho=>have⟨e,h',h1,h2⟩:=H B d;exact LT (by simp only[fd,ho];exact l6 h1) (i _ _ _ h2)
 case h_5 t m k ho=>have⟨v,e,h',h1,h2⟩:=H B d;exact upon_value (by simp only[fd,ho];exact gm h1) (i _ _ _ (Zh h2))
 case h_6 t l c ho=>have⟨v,e,h',h1,h2⟩:=H B d;exact upon_value (by simp only[fd,ho];exact gm h1) (i _ _ _ (Zh h2))
 case h_7 s t x ho=>have⟨v,e,h',h1,h2⟩:=H B d;exact upon_value (by simp only[fd,ho];exact gm h1) (i _ _ _ (Zh h2))
 case h_8 x t t' ok ho=>have⟨v,e,h',h1,h2⟩:=H B d;exact upon_value (by simp only[fd,ho];exact gm h1) (i _ _ _ (Zh h2))
 case h_9 t x ho=>
  cases hm:Fy P t with
  |true=>rw[hm]at H;obtain⟨v,e,h',h1,q,rfl,h2⟩:=H B d;exact upon_value (by simp only[fd,ho];exact gm h1) (i _ _ _ h2)
  |false=>rw[hm]at H;have⟨nx,h',h1,h2⟩:=zJ H B d;grind [upon_value,LT]
 case h_10 x s ho=>
  cases s with
  |true=>simp only[zF]at H;have⟨v,e,h',h1,h2⟩:=H B d;refine upon_value (v:=v) (w':=mk B e h') (by simp only[fd,ho];exact gm h1) (i _ _ _ ?_);grind
  |false=>simp only[zG]at H;have⟨v,e,h',h1,h2⟩:=H B d;refine upon_value (v:=v) (w':=mk B e h') (by simp only[fd,ho];exact gm h1) (i _ _ _ ?_);grind
 case h_11 x ho=>obtain⟨v,e,h',h1,k,u,rfl,h2⟩:=H B d;exact upon_value (by simp only[fd,ho];exact gm h1) (i _ _ _ h2)
 case h_12 c ho=>
  split at H;rename_i b r;split at H;rename_i s n;have⟨v,e,h',h1,h2⟩:=H B d;refine upon_value (w':=mk B e h') ?_ (i _ _ _ (Zh h2));have key:fd ρ o=s >>= λx=>(zc6 (zda x):Sem Next):=by
   simp only[fd,ho,resolve,r];unfold Hr at n;split at n <;> first
    |(simp only[YK]at n;subst n;rfl)
    |cases n
  simp_all;cases H
  ·rename_i x p;cases hex:HY P x with
   |true=>rw[hex]at H;have⟨v,e,h',h1,h2⟩:=Ve ho p H B d;exact upon_value h1 (i _ _ _ (Zh h2))
   |false=>
   rw[hex]at H;simp only[zG]at H;cases hst:o5 x with
   |true=>
    rw[hst]at H;have⟨nx,h',h1,h2⟩:=zJ H B d;cases nx with
    |enter f args=>rw[h1];refine(h2 B d).mono ?_;grind [Zh]
    |value v=>exact upon_value h1 (i _ _ _ h2)
    |_=>cases h2
   |false=>rw[hst]at H;simp only[zG]at H;have⟨f,args,h1,h2⟩:=Hu ho p H;rw[h2];refine(h1 B d).mono ?_;grind [Zh]
  cases H
 case h_13=>have⟨nx,h',h1,h2⟩:=zJ H B d;grind [upon_value,LT]
theorem Nw(H:stepW P o ρ g h K)(c:eJ g)(B:MN)(d:Nat){next:Act->MN->Prop}{Q:Exit->Act->MN->Prop}(e:∀v f h',K v h'->next (a.put o.dst v) (mk B f h')):o.upon P a next Q ((fd ρ o).run P (mk B d h)):=by
 unfold stepW at H;cases hq:jQ P o with
 |true=>rw[hq]at H;have⟨v,h1,h2⟩:=vB H;exact upon_value (h2 c B d) (e _ _ _ h1)
 |false=>
  rw[hq]at H;cases g with
  |none=>exact E8 H B d e
  |some b=>have i:b=Ta:=c;subst i;simp only[zG]at H;unfold An at H;grind [E8,CI]
theorem Tw(H:stepW P o ρ (Td Tc) h K):∃v,K v h:=by
 unfold stepW at H;cases hq:jQ P o with
 |true=>grind [vB]
 |false=>rw[hq]at H;simp only[zG]at H;unfold An at H;grind [CI]
end
section
variable {n:Nat} {e:bK} {a b:Act} {c:yb} {g:Option Bool} {P:EM} {o:n9} {h:zb} {K:Value -> zb -> Prop} {ms:List Nat}
def Yn(e:bK):yb->Option (Option Bool)
 |[]=>Td Te
 |c=>match nZ e c with
  |some b=>Td (Td b)
  |none=>Te
theorem Yo(i:Sat n e a)(h:Yn e c=Td g)(k:valid (qp a) c):eJ g:=by unfold Yn at h;split at h;simp only[YK]at h;subst h;trivial;split at h;rename_i b f;simp only[YK]at h;subst h;exact(uV i f).2 k;cases h
theorem Pi(k:Sat n e a)(h:Yn e c=Td g)(f:¬valid (qp a) c):g=Td Tc:=by
 unfold Yn at h;split at h;exact absurd trivial f;split at h;rename_i b i;simp only[YK]at h;subst h;cases b with
 |false=>rfl
 |true=>exact absurd ((uV k i).1 rfl) f
 cases h
def np(b:Bool):Value->Value->Value
 |.bool x,.bool y=>.bool (bif b then x else y)
 |x,y=>bif b then x else y
theorem D3(b:Bool)(x y:Value):np b x y=ite (b=Ta) x y:=by unfold np;grind
def sW:Option Value->Option Value->Option Value
 |some v,_=>Td v
 |none,w=>w
def sI(e:bK)(c:yb)(x a b:n7)(K:Value->Prop):Prop:=
 match x with
 |.tmp s=>match look e s with
  |some (cs,.bool t)=>bif iG cs c then(match sW (fQ e c a) (fQ e ((s,Ta)::cs) a),sW (fQ e c b) (fQ e ((s,Tc)::cs) b)with
    |some va,some vb=>K (np t va vb)
    |_,_=>False)else False
  |_=>False
 |_=>False
theorem wX{f:Act}(i:Sat n e f){x a b:n7}{K:ac1}(H:sI e c x a b K):∃v,K v/\(valid (qp f) c->∃t,f.eval x=.bool t/\(ite (t=Ta) (f.eval a) (f.eval b))=v):=by
 unfold sI at H;split at H;rename_i s;split at H;rename_i cs t m;cases hsf:iG cs c with
 |false=>simp_all
 |true=>
  rw[hsf]at H;simp only[zF]at H;split at H;rename_i q r l k;refine⟨_,H,λp=>⟨t,?_,?_⟩⟩;exact(i.all _ (mB m)).1 (Wa hsf p);have h:=Wa hsf p;have o:qp f s=.bool t:=(i.all _ (mB m)).1 h;rw[D3];cases t with
  |true=>simp only[if_true];unfold sW at l;split at l;grind [YK,yd];exact yd i (c:=(s,Ta)::cs) ⟨o,h⟩ l
  |false=>simp only[zaq,if_false];unfold sW at k;split at k;grind [YK,yd];exact yd i (c:=(s,Tc)::cs) ⟨o,h⟩ k
  cases H
 cases H;cases H
def jP(P:EM)(o:n9)(e:bK)(c:yb)(h:zb)(K:Value->zb->Prop):Prop:=
 match o.op with
 |.pick x a b=>sI e c x a b λv=>K v h
 |_=>bif W8 o.op then(bif known e c o.op.operands.toList then(match Yn e c with
   |some g=>stepW P o (gk e c) g h K
   |none=>False)else False)else False
def wR(P:EM)(n:Nat)(ops:Array n9)(K:bK->zb->Prop):List n9->bK->zb->Prop
 |[],e,h=>K (clean e) h
 |o::rest,e,h=>match Zf ops e o.guard with
  |some c=>bif xr n c o.dst then jP P o e c h λv h'=>wR P n ops K rest (putO e o.dst c v) h' else False
  |none=>False
theorem AC(H:jP P o e c h K)(k:Sat n e a)(m:valid (qp a) c)(B:MN)(d:Nat){next:Act->MN->Prop} {Q:Exit->Act->MN->Prop} (l:∀v f h',K v h'->next (a.put o.dst v) (mk B f h')):o.wp P a (mk B d h) next Q:=by
 unfold jP at H;unfold Oper.wp;split at H;rename_i x y z b;have⟨v,h1,h2⟩:=wX k H;have⟨t,i,p⟩:=h2 m;refine upon_value (w':=mk B d h) (v:=v) ?_ (l _ _ _ h1);simp only[fd,b,i,asBool,DM,DQ,D0];rw[p];cases hns:W8 o.op with
 |false=>simp_all
 |true=>
  rw[hns]at H;cases hk:known e c o.op.operands.toList with
  |false=>simp_all
  |true=>rw[hk]at H;simp only[zF]at H;grind [qO,Nw,Yo]
theorem Ap(H:jP P o e c h K)(f:Sat n e a)(b:¬valid (qp a) c):∃v,K v h:=by
 unfold jP at H;split at H;grind [wX];cases hns:W8 o.op with
 |false=>simp_all
 |true=>
  rw[hns]at H;cases hk:known e c o.op.operands.toList with
  |false=>simp_all
  |true=>rw[hk]at H;simp only[zF]at H;grind [Pi,Tw]
def Zc:List n9->List Nat
 |[]=>[]
 |o::l=>match o.dst with
  |some d=>d::Zc l
  |none=>Zc l
def Same(ms:List Nat)(a b:Act):Prop:=∀i,i∉ms->qp b i=qp a i
theorem Same.refl(ms:ab1)(a:Act):Same ms a a:=λ_ _=>rfl
theorem Same.trans{a b c:Act}(h:Same ms a b)(k:Same ms b c):Same ms a c:=λi hi=>(k i hi).trans (h i hi)
theorem Same.mono{ms c:ab1}(h:Same ms a b)(f:∀x∈ms,x∈c):Same c a b:=λi hi=>h i λe=>hi (f i e)
theorem Same.put(a:Act)(d:ac3)(v:Value)(h:∀i,d=Td i->i∈ms):Same ms a (a.put d v):=by
 intro i hi;cases d with
 |none=>rfl
 |some j=>grind [jf]
def pw{P:EM}{n:Nat}{ops:Array n9}{K:bK->zb->Prop}{Q:Exit->Act->MN->Prop}(B:MN):∀(l:List n9) (e:bK) (h:zb) (a:Act) (d:Nat),wR P n ops K l e h->Sat n e a->(∀e' a' k h',Sat n e' a'->Same (Zc l) a a'->K e' h'->Q .normal a' (mk B k h'))->wpList P ops Q l a (mk B d h)
 |[],e,h,a,d,H,hs,hQ=>hQ _ _ _ _ hs.clean (Same.refl _ _) H
 |o::rest,e,h,a,d,H,hs,hQ=>by
  unfold wR at H;split at H;rename_i c z;cases hd:xr n c o.dst with
  |false=>simp_all
  |true=>
   rw[hd]at H;simp only[zF]at H;have p:=Qk hs z;have f:∀i,o.dst=Td i->i∈Zc (o::rest):=λi hi=>by simp[Zc,hi]
   have b:∀x∈Zc rest,x∈Zc (o::rest):=λx q=>by unfold Zc;grind
   have s:∀v u k h',(valid (qp a) c->u=v)->(¬valid (qp a) c->u=undef)->wR P n ops K rest (putO e o.dst c v) h'->wpList P ops Q rest (a.put o.dst u) (mk B k h'):=λv u k h' h1 h2 y=>
    pw B rest _ _ _ _ y (hs.putO hd h1 h2) λe' a' m g t A w=>hQ e' a' m g t ((Same.put a o.dst u f).trans (A.mono b)) w
   unfold wpList;by_cases r:valid (qp a) c;rw[zi (p.2 r)];grind [AC];rw[za (λq=>r (p.1 q))];grind [Ap]
  cases H
def ue(P:EM)(o:n9)(ρ:n7->Value)(g:Option Bool)(h:zb)(K:Value->Prop):Prop:=
 match o.op with
 |.call c=>match c.callee with
  |.value x=>bif o5 x then(match Jh P (fd ρ o)with
    |some (.enter f args)=>match ou P o.type with
     |some rt=>jY rt λv=>req g (XC P f args h λb h'=>b=v/\h'=h)/\K v
     |none=>False
    |_=>False)else(match ou P o.type with
     |some rt=>jY rt λv=>req g (oF P (ρ x) (c.args.map ρ) λf args=>XC P f args h λb h'=>b=v/\h'=h)/\K v
     |none=>False)
  |_=>False
 |_=>False
def Tt{ρ:n7->Value}{K:ac1}(H:ue P o ρ g h K):∃v,K v/\(eJ g->∃f args,(∀w,(fd ρ o).run P w=.ok (.enter f args) w)/\XC P f args h λi h'=>i=v/\h'=h):=by
 unfold ue at H;split at H;rename_i c e;split at H;rename_i x k;cases hst:o5 x with
 |true=>rw[hst]at H;simp only[zF]at H;split at H;rename_i f args l;split at H;have⟨v,h1,h2⟩:=pX H;exact⟨v,h2,λb=>⟨f,args,λw=>If l w,h1.out b⟩⟩;cases H;cases H
 |false=>rw[hst]at H;simp only[zG]at H;split at H;have⟨v,h1,h2⟩:=pX H;refine⟨v,h2,λb=>?_⟩;have⟨f,args,m,n⟩:=Hu e k (h1.out b);grind;cases H
 cases H;cases H
def oq(o:n9):Bool:=match o.op with
 |.call c=>match c.callee with
  |.builtin _=>Tc
  |_=>Ta
 |_=>Tc
def yI(P:EM)(o:n9)(e:bK)(c:yb)(h:zb)(f:Bool)(K:Value->Prop):Prop:=
 match o.op with
 |.pick x a b=>sI e c x a b K
 |_=>bif W8 o.op then(bif known e c o.op.operands.toList then(match Yn e c with
   |some g=>bif oq o then(bif f then ue P o (gk e c) g h K else False)else gb P o (gk e c) g h K
   |none=>False)else False)else False
def wQ(P:EM)(n:Nat)(ops:Array n9)(h:zb)(b:Bool)(K:bK->Prop):List n9->bK->Prop
 |[],e=>K e
 |o::rest,e=>match Zf ops e o.guard with
  |some c=>bif xr n c o.dst then yI P o e c h b λv=>wQ P n ops h b K rest (putO e o.dst c v)else False
  |none=>False
def YQ(P:EM)(o:n9)(a:Act)(B:MN)(h:zb)(b:Bool)(v:Value):Prop:=
 (∀d,(fd a.eval o).run P (mk B d h)=.ok (.value v) (mk B d h)) \/
 (b=Ta/\∃f args,(∀d,(fd a.eval o).run P (mk B d h)=.ok (.enter f args) (mk B d h))/\XC P f args h λc h'=>c=v/\h'=h)
def JI{b:Bool}{K:ac1}(H:yI P o e c h b K)(k:Sat n e a)(B:MN):∃v,K v/\(valid (qp a) c->YQ P o a B h b v):=by
 unfold yI at H;split at H;rename_i x y z q;have⟨v,h1,h2⟩:=wX k H;refine⟨v,h1,λi=>?_⟩;have⟨t,m,l⟩:=h2 i;refine .inl λd=>?_;simp only[fd,q,m,asBool,DM,DQ,D0];rw[l];cases hns:W8 o.op with
 |false=>simp_all
 |true=>
  rw[hns]at H;cases hk:known e c o.op.operands.toList with
  |false=>simp_all
  |true=>
   rw[hk]at H;simp only[zF]at H;split at H;rename_i g p;cases hc:oq o with
   |false=>rw[hc]at H;have⟨v,h1,h2⟩:=vB H;refine⟨v,h1,λi=>.inl λd=>?_⟩;rw[qO k i hns hk];exact h2 (Yo k p i) B d
   |true=>
    rw[hc]at H;cases b with
    |false=>cases H
    |true=>simp only[zF]at H;have⟨v,h1,h2⟩:=Tt H;refine⟨v,h1,λi=>?_⟩;have⟨f,args,m,l⟩:=h2 (Yo k p i);refine .inr ⟨rfl,f,args,λd=>?_,l⟩;grind [qO]
   cases H
def As{P:EM}{n:Nat}{ops:Array n9}{h:zb}{k:Bool}{K:bK->Prop}{Q:Act->Prop}(B:MN):∀(l:List n9) (e:bK) (a:Act),wQ P n ops h k K l e->Sat n e a->(∀e' a',Sat n e' a'->Same (Zc l) a a'->K e'->Q a')->wpQuiet P ops (λw=>∃d,w=mk B d h) Q l a
 |[],e,a,H,hs,hQ=>hQ _ _ hs (Same.refl _ _) H
 |o::rest,e,a,H,hs,hQ=>by
  unfold wQ at H;split at H;rename_i c C;cases hd:xr n c o.dst with
  |false=>simp_all
  |true=>
   rw[hd]at H;simp only[zF]at H;have z:=Qk hs C;have m:∀i,o.dst=Td i->i∈Zc (o::rest):=λi hi=>by simp[Zc,hi]
   have b:∀x∈Zc rest,x∈Zc (o::rest):=λx E=>by unfold Zc;grind
   have⟨v,t,A⟩:=JI H hs B;have p:∀u,(valid (qp a) c->u=v)->(¬valid (qp a) c->u=undef)->wpQuiet P ops (λw=>∃d,w=mk B d h) Q rest (a.put o.dst u):=λu h1 h2=>
    As B rest _ _ t (hs.putO hd h1 h2) λe' a' s D y=>hQ e' a' s ((Same.put a o.dst u m).trans (D.mono b)) y
   unfold wpQuiet;by_cases r:valid (qp a) c;rw[zi (z.2 r)];refine⟨v,?_,p v (λ_=>rfl) (λq=>absurd r q)⟩;rintro w ⟨d,rfl⟩;unfold Oper.quietAt;obtain h1|⟨_,f,args,h1,h2⟩:=A r;rw[h1 d];exact⟨rfl,rfl⟩;rw[h1 d];refine⟨rfl,(h2 B d).mono ?_⟩;simp;simp_all
  cases H
end
section
variable {i:Nat} {a b:Act} {o:n9} {h h':zb} {ρ:n7 -> Value} {P:EM} {g:Option Bool} {ops:Array n9} {listed:Array Bool}
def eq:List Nat->Nat->Bool
 |[],_=>Tc
 |j::l,i=>bif gc i j then Ta else eq l i
theorem Wc{l:ab1}(h:eq l i=Tc):i∉l:=by
 induction l with
 |nil=>simp
 |cons j l c=>simp only[eq]at h;by_cases b:gc i j=Ta;grind;simp_all
def II:List n7->List Nat
 |[]=>[]
 |.tmp t::l=>t::II l
 |_::l=>II l
def lw(ops:Array n9)(k:Nat)(S:List Nat):Nat->Bool
 |0=>Ta
 |p+1=>bif (match xj ops p with
  |some t=>bif eq S t then mv .any ops k p else Ta
  |none=>Ta)then lw ops k S p else Tc
def Jj{ops:Array n9}{k:Nat}{S:ab1}:∀{m:Nat},lw ops k S m=Ta->∀p t,p<m->xj ops p=Td t->t∈S->mv .any ops k p=Ta
 |0,_,p,t,hp,_,_=>ω
 |m+1,h,p,t,hp,hd,ht=>by
  simp only[lw]at h;cases hb:(match xj ops m with
   |some t=>cond (eq S t) (mv .any ops k m) Ta
   |none=>Ta)with
  |false=>simp_all
  |true=>rw[hb]at h;obtain h1|h1:=zam p m;exact Jj h p t h1 hd ht;grind [Wc]
def Wd(ops:Array n9):Nat->Bool
 |0=>Ta
 |j+1=>bif (match ops[j]? with
  |some o=>o.after.toList.all λe=>!(Region.binds .any e)||Nat.blt e.on j
  |none=>Ta)then Wd ops j else Tc
def Qi{ops:Array n9}:∀{n:Nat},Wd ops n=Ta->∀j o,j<n->ops[j]?=Td o->∀e∈o.after,Region.binds .any e=Ta->e.on<j
 |0,_,j,_,hj,_,_,_,_=>ω
 |n+1,h,j,o,hj,ho,e,he,hb=>by
  simp only[Wd]at h;cases hc:(match ops[n]? with
   |some o=>o.after.toList.all λe=>!(Region.binds .any e)||Nat.blt e.on n
   |none=>Ta)with
  |false=>simp_all
  |true=>
   rw[hc]at h;obtain h1|h1:=zam j n;exact Qi h j o h1 ho e he hb;have:j=n:=ω
   subst this;rw[ho]at hc;have:=ZB.1 hc e (ψ he);simp_all
def nL(ops:Array n9)(d:Nat):Nat->Bool
 |0=>Tc
 |p+1=>bif (match xj ops p with
  |some t=>gc t d
  |none=>Tc)then Ta else nL ops d p
def mf(ops:Array n9):Nat->Bool
 |0=>Ta
 |p+1=>bif (match xj ops p with
  |some t=>!(nL ops t p)
  |none=>Ta)then mf ops p else Tc
theorem yL{ops:Array n9}{d:Nat}:∀{m:Nat},nL ops d m=Tc->∀p,p<m->xj ops p≠Td d
 |0,_,p,hp=>ω
 |m+1,h,p,hp=>by
  simp only[nL]at h;cases hb:(match xj ops m with
   |some t=>gc t d
   |none=>Tc)with
  |true=>simp_all
  |false=>
   rw[hb]at h;obtain h1|h1:=zam p m;exact yL h p h1;have:p=m:=ω
   subst this;intro e;simp_all
def W9{ops:Array n9}:∀{m:Nat},mf ops m=Ta->∀p q t,p<m->q<m->xj ops p=Td t->xj ops q=Td t->p=q
 |0,_,p,q,t,hp,_,_,_=>ω
 |m+1,h,p,q,t,hp,hq,e1,e2=>by
  simp only[mf]at h;cases hb:(match xj ops m with
   |some t=>!(nL ops t m)
   |none=>Ta)with
  |false=>simp_all
  |true=>rw[hb]at h;obtain h1|h1:=zam p m <;> obtain h2|h2:=zam q m;exact W9 h p q t h1 h2 e1 e2;grind [zcs,yL];grind [zcs,yL];omega
def lp(o:n9):Option Bool:=match o.op with
 |.fieldAddr _ _ _=>Td Ta
 |.indexAddr _ _ _=>Td Ta
 |.move _=>Td Ta
 |.assign _=>match o.after.toList with
  |[]=>Td Ta
  |_=>Te
 |.nilCheck _=>Td Ta
 |.slice _ _ _ _ _=>Td Ta
 |.binOp _ _ _ _ _=>Td Ta
 |.load _ _=>Td Tc
 |_=>Te
def oy(o:n9):Bool:=match lp o with
 |some _=>Ta
 |none=>Tc
def jr(o:n9):Bool:=match lp o with
 |some b=>!b
 |none=>Tc
def rq{a b:Act}:∀{l:List n7},(∀t∈II l,qp a t=qp b t)->∀x∈l,a.eval x=b.eval x
 |[],_,x,c=>ε c
 |y::l,h,x,c=>by
  obtain rfl|c:=YT.1 c;cases x with
  |tmp t=>exact h t (by simp[II])
  |const v=>rfl
  |global g=>rfl
  |func f=>rfl
  refine rq (l:=l) (λt e=>h t ?_) x c;cases y <;> simp[II,e]
theorem xD(c:W8 o.op=Ta)(h:∀t∈II o.op.operands.toList,qp a t=qp b t):fd a.eval o=fd b.eval o:= execOp_congr o (λcs b e=>ς e c) λx f=>rq h x (ψ f)
def QY{p:n8}(e:h'[p.block]?=h[p.block]?)(i:Nat):zd h' (p.add i)=zd h (p.add i):=by
 have b:(p.add i).block=p.block:=by unfold YH;split <;> rfl
 unfold zd;rw[b,e]
def DL{h h':zb}{p:n8}(e:h'[p.block]?=h[p.block]?):∀{vs:ab2} {i:Nat},zc h p i vs->zc h' p i vs
 |[],_,_=>trivial
 |v::vs,i,⟨h1,h2⟩=>⟨(QY e i).trans h1,DL e h2⟩
def Sh(o:n9)(ρ:n7->Value)(h h':zb):Prop:=jr o=Tc\/Bk h.size h h'\/∀t a p,o.op=.load t a->ρ a=.pointer (Td p)->h'[p.block]?=h[p.block]?
theorem Sh.congr{ρ c:n7->Value}(e:∀x∈o.op.operands.toList,c x=ρ x)(H:Sh o ρ h h'):Sh o c h h':=by obtain H|H|H:=H;exact .inl H;exact .inr (.inl H);refine .inr (.inr λt a p b f=>H t a p b ?_);rw[<-e a (by rw[b];simp[Op.operands])];exact f
def LB{t:N4}{x:Value}{K:ac1}(H:kM P h t x g K):∃v p,x=.pointer (Td p)/\K v/\(eJ g->At P (zcz t x) h v/\∀h',h'[p.block]?=h[p.block]?->At P (zcz t x) h' v):=by unfold kM at H;split at H;rename_i q a b;have⟨x,h1,h2⟩:=H;refine⟨_,q,rfl,h2,λc=>?_⟩;have h1:zd h q=Td _:=h1.out c;refine⟨o7 b h1,λh' e=>o7 b ?_⟩;unfold zd at h1 ⊢;rw[e];exact h1;rename_i q l b;have⟨vs,h0,⟨h1,h2⟩,_⟩:=Wb H (xm l);exact⟨_,q,rfl,h2,λc=>⟨oX b h0 (h1.out c),λh' e=>oX b h0 (DL e (h1.out c))⟩⟩;cases H
def Kq(n:oy o=Ta){K:ac1}(H:gb P o ρ g h K):∃v,K v/\(eJ g->∀h',Sh o ρ h h'->At P (fd ρ o) h' (.value v)):=by
 cases ho:o.op with
 |load t x=>
  have e:ko o=Ta:=by unfold ko;rw[ho]
  by_cases b:eJ g;have⟨f,k,k2⟩:=vy e H;unfold gb at H;rw[ho]at H;simp only at H;have⟨v,p,l,h1,h2⟩:=LB H;have r:f=v:=by
   have s:=k2 b h (Bk.refl _ _) default 0;have a2:At P (fd ρ o) h (.value v):=by simp only[fd,ho];exact(h2 b).1.val
   have a2:=a2 default 0;rw[s]at a2;injection a2 with a2 _;injection a2
  subst r;refine⟨f,k,λ_ h' c=>?_⟩;obtain c|c|c:=c;unfold jr lp at c;rw[ho]at c;cases c;exact k2 b h' c;have:=(h2 b).2 h' (c t x p ho l);simp only[fd,ho];exact this.val;have⟨f,k,_⟩:=vy e H;exact⟨f,k,λm=>absurd m b⟩
 |indexAddr t x i=>
  unfold gb at H;rw[ho]at H;simp only at H;cases he:iX P t with
  |false=>rw[he]at H;cases H
  |true=>rw[he]at H;have⟨v,h1,h2⟩:=Ql (Z7 he) H;refine⟨v,h1,λb h' _=>?_⟩;simp only[fd,ho];exact(h2 b h').val
 |slice t x lo hi mx=>
  unfold gb at H;rw[ho]at H;simp only at H;cases he:iX P t with
  |false=>rw[he]at H;cases H
  |true=>rw[he]at H;have⟨v,h1,h2⟩:=Ji (Z7 he) H;refine⟨v,h1,λb h' _=>?_⟩;simp only[fd,ho];exact(h2 b h').val
 |binOp u t x y t'=>unfold gb at H;rw[ho]at H;have⟨v,h1,h2⟩:=ug ho H;exact⟨v,h1,λb h' _=>h2 b h'⟩
 |nilCheck x=>unfold gb at H;rw[ho]at H;simp only at H;unfold pE at H;split at H;rename_i p l;have⟨a,h1,h2⟩:=H;refine⟨_,h2,λb h' _ B d=>?_⟩;have q:=h1.out b;subst q;simp only[fd,ho,l];rfl;have⟨v,h1,h2⟩:=ql H g;exact⟨v,h1,λb h' _=>h2 b h'⟩
 |_=>first|(unfold oy lp at n;rw[ho]at n;cases n;done)|(unfold gb at H;rw[ho]at H;have⟨v,h1,h2⟩:=ql H g;exact⟨v,h1,λb h' _=>h2 b h'⟩)
theorem wv{d:ac3}{u:Value}{s:Nat}(h:d≠Td s):qp (a.put d u) s=qp a s:=by
 cases d with
 |none=>rfl
 |some t=>grind [jf]
def Vu{next:Act->MN->Prop}{Q:Exit->Act->MN->Prop}{r:Result Next}(k:b.defers=[])(H:o.upon P b (λc w=>c.defers=[]/\∀v,c=b.put o.dst v->next (a.put o.dst v) w) (λ_ _ _=>False) r):o.upon P a next Q r:=by
 have lo:¬LetsOut (λ(_:Exit) (_:Act) (_:MN)=>False):=λh=>by have⟨_,_,h⟩:=h;exact h
 cases r with
 |ok x w=>
  cases x with
  |value v=>exact H.2 v rfl
  |skip=>exact H.2 undef rfl
  |defer d=>have:=H.1;rw[Z5]at this;cases this
  |enter f args=>refine Calls.mono (show Calls P f args w _ from H) λe w' i=>?_;grind
  |row row args=>exact Rows.mono (show Rows P row args w _ from H) λv w' i=>i.2 v rfl
  |_=>exact H
 |halt x w=>cases x <;> first|exact H.elim|exact H
theorem r8{i p:Nat}(hi:i∈Region.ready .any ops listed)(f:mv .any ops i p=Ta):listed.getD p Tc=Ta:=by have⟨n,h,e,l,m,c⟩:=Region.waitsFor_spec f;have⟨_,o,k,b⟩:=mem_ready.1 hi;grind
def Jk{n:Nat}(inv:HeadInv .any ops n listed){i p:Nat}(hi:listed.getD i Tc=Ta)(f:mv .any ops i p=Ta):listed.getD p Tc=Ta:=by have⟨l,c,e,h,k,b⟩:=Region.waitsFor_spec f;rw[<-b];exact inv.closed i l c hi e h k
def Mi{p:Nat->Bool}{N:Nat}(h:∃k,k<N/\p k=Tc):∃k,k<N/\p k=Tc/\∀j,j<k->p j=Ta:=by
 have⟨k,h1,h2⟩:=h;induction k using Nat.strongRecOn with
 |_ k b=>grind
def Dx{o:n9}:∀{l:List n9},o∈l->∀i,o.dst=Td i->i∈Zc l
 |[],h,_,_=>ε h
 |x::l,h,i,hi=>by unfold Zc;obtain rfl|h:=YT.1 h;simp_all;have:=Dx h i hi;grind
theorem ja{k:Nat}(h:ops[k]?=Td o):xj ops k=o.dst:=by simp[xj,h]
def fY(j:Nat):List Nat->List Nat
 |[]=>[]
 |k::l=>bif gc k j then fY j l else k::fY j l
theorem oC{j x:Nat}:∀{l:ab1},x∈fY j l↔x∈l/\x≠j
 |[]=>by simp[fY]
 |k::l=>by
  simp only[fY];cases hb:gc k j with
  |true=>have:=ZJ hb;subst this;rw[zF,oC,YT];simp_all
  |false=>
   have b:k≠j:=λe=>θ
   rw[zG,YT,YT,oC];grind
def yD{j:Nat}:∀{l:ab1},l.Nodup->(fY j l).Nodup
 |[],h=>h
 |k::l,h=>by
  simp only[fY];rw[zbh]at h;cases gc k j with
  |true=>exact yD h.2
  |false=>rw[zG,zbh];exact⟨λb=>h.1 (oC.1 b).1,yD h.2⟩
theorem G5{j:Nat}:∀{l:ab1},(fY j l).length<=DB l
 |[]=>YJ _
 |k::l=>by simp only[fY];have:=G5 (j:=j) (l:=l);grind
def Im{j:Nat}:∀{l:ab1},j∈l->(fY j l).length+1<=DB l
 |[],h=>by cases h
 |k::l,h=>by
  simp only[fY];cases hb:gc k j with
  |true=>simp[G5,zF,YU]
  |false=>
   have b:k≠j:=λe=>θ
   have:=Im (j:=j) (l:=l) η;simp_all
def xX(p:Nat->Prop):List Nat->Prop
 |[]=>True
 |[j]=>p j
 |j::k::l=>p j/\xX p (k::l)
def EF{p:ac5}:∀{l:ab1},xX p l->∀j∈l,p j
 |[],_,j,h=>ε h
 |[k],H,j,h=>by simp at h;subst h;exact H
 |k::k2::l,H,j,h=>by obtain rfl|h:=YT.1 h;exact H.1;exact EF H.2 j h
def oe(p:Nat->Bool):List Nat->List Nat
 |[]=>[]
 |j::l=>bif p j then j::oe p l else oe p l
def u0{p:Nat->Bool}{j:Nat}:∀{l:ab1},j∈l->p j=Ta->j∈oe p l
 |[],h,_=>ε h
 |k::l,h,hp=>by
  simp only[oe];obtain rfl|h:=YT.1 h;simp_all;cases p k with
  |true=>exact ZA _ (u0 h hp)
  |false=>exact u0 h hp
end
section
variable {l:List Nat} {i m n:Nat} {ops:Array n9} {P:EM} {o:n9} {h h0:zb} {e:bK} {a b:Act}
def HD(o:n9):Bool:=match o.op with
 |.extract _ _=>Ta
 |_=>Tc
variable {gq : Bool}
def lO(o:n9):Bool:=bif oy o then Ta else HD o
def iT(ops:Array n9):Nat->List Nat->List Nat
 |0,S=>S
 |k+1,S=>iT ops k (bif S.any λp=>mv .any ops p k then k::S else S)
def vt{ops:Array n9}{listed:Array Bool}(b:∀i p,listed.getD i Tc=Ta->mv .any ops i p=Ta->listed.getD p Tc=Ta):∀{m:Nat} {S:ab1},(∀j∈S,listed.getD j Tc=Ta)->∀k∈iT ops m S,listed.getD k Tc=Ta
 |0,S,h,k,hk=>h k hk
 |m+1,S,h,k,hk=>by unfold iT at hk;refine vt b (m:=m) (λj c=>?_) k hk;grind
theorem Xa(h:eq l i=Ta):i∈l:=by
 induction l with
 |nil=>cases h
 |cons j l b=>simp only[eq]at h;grind [ZJ,ZD,ZA]
theorem pG(h:i∈l):eq l i=Ta:=by grind [Wc]
def TW(ops:Array n9)(k:Nat):Bool:=match ops[k]? with
 |some o=>!(lO o)
 |none=>Tc
def OL(ops:Array n9)(i:Nat):Bool:=(iT ops ops.size [i]).any (TW ops)
def Rp(o:n9):Bool:=match o.guard with
 |none=>Tc
 |some _=>Ta
def DN(ops:Array n9)(t:Nat):Nat->Bool
 |0=>Tc
 |k+1=>bif (match ops[k]? with
  |some o=>eq (II o.op.operands.toList) t
  |none=>Tc)then Ta else DN ops t k
def UV(ops:Array n9)(i:Nat)(o:n9):Bool:=match o.op with
 |.assign _=>(match o.dst with
  |some t=>DN ops t i
  |none=>Tc)
 |_=>Tc
def eB(gq:Bool)(ops:Array n9)(i:Nat):Bool:=match ops[i]? with
 |some o=>bif (bif Rp o then !gq else Tc)then Ta else bif lO o then(bif jr o then OL ops i else UV ops i o)else Ta
 |none=>Ta
def fP(gq:Bool)(ops:Array n9):List Nat:=(zac ops.size).filter (eB gq ops)
def oB{j:Nat}:j∈fP gq ops↔j<ops.size/\eB gq ops j=Ta:=by unfold fP;simp
def Mp(ops:Array n9):(fP gq ops).Nodup:=List.nodup_range.filter _
def kn(gq:Bool)(ops:Array n9)(done S:List Nat)(k:Nat):Nat->Bool
 |0=>Ta
 |p+1=>bif mv .any ops k p then(bif (bif eB gq ops p then eq done p else eq S p)then kn gq ops done S k p else Tc)else kn gq ops done S k p
def rZ{ops:Array n9}{done S:ab1}{k:Nat}:∀{m:Nat},kn gq ops done S k m=Ta↔∀p,p<m->mv .any ops k p=Ta->(eB gq ops p=Ta->p∈done)/\(eB gq ops p=Tc->p∈S)
 |0=>⟨λ_ p c=>ω,λ_=>rfl⟩
 |m+1=>by
  unfold kn;have e:=rZ (ops:=ops) (done:=done) (S:=S) (k:=k) (m:=m);constructor;intro h p c b;obtain h1|h1:=zam p m;grind;have:p=m:=ω
  subst this;rw[b,zF]at h;cases hi:eB gq ops p with
  |true=>simp_all[zF,Xa]
  |false=>simp_all[zG,Xa]
  intro h;have h1:=e.2 λp c b=>h p ω b;cases b:mv .any ops k m with
  |false=>exact h1
  |true=>simp_all[zF,pG]
def q8(gq:Bool)(ops:Array n9)(done S:List Nat)(k:Nat):List Nat:=bif eB gq ops k then S else(bif kn gq ops done S k k then k::S else S)
def We(gq:Bool)(ops:Array n9)(done:List Nat):Nat->List Nat
 |0=>[]
 |k+1=>q8 gq ops done (We gq ops done k) k
theorem xt{ops:Array n9}{done:ab1}:∀{m i:Nat},i∈We gq ops done m->i<m/\eB gq ops i=Tc/\kn gq ops done (We gq ops done i) i i=Ta
 |0,i,h=>ε h
 |m+1,i,h=>by
  unfold We q8 at h;cases hi:eB gq ops m with
  |true=>rw[hi,zF]at h;have:=xt h;grind
  |false=>
   rw[hi,zG]at h;cases ho:kn gq ops done (We gq ops done m) m m with
   |false=>rw[ho,zG]at h;have:=xt h;grind
   |true=>rw[ho,zF]at h;obtain rfl|h:=YT.1 h;simp_all;have:=xt h;grind
def u7{ops:Array n9}{done:ab1}{m:Nat}:∀{m' i:Nat},m<=m'->i∈We gq ops done m->i∈We gq ops done m'
 |0,i,h,hi=>θ
 |m'+1,i,h,hi=>by obtain e|e:=Nat.eq_or_lt_of_le h;simp_all;have:=u7 (m':=m') ω hi;unfold We q8;grind
theorem tn{done:ab1}(b:i<m)(h1:eB gq ops i=Tc)(h2:kn gq ops done (We gq ops done i) i i=Ta):i∈We gq ops done m:=by refine u7 (m:=i+1) b ?_;unfold We q8;simp_all
theorem qV{done:ab1}{m i p:Nat}(h:i∈We gq ops done m)(c:p<i)(e:mv .any ops i p=Ta):(eB gq ops p=Ta->p∈done)/\(eB gq ops p=Tc->p∈We gq ops done m):=by have⟨h1,h2,f⟩:=xt h;have⟨a,b⟩:=rZ.1 f p c e;exact⟨a,λhi=>u7 ω (b hi)⟩
def Wg(b c:List Nat)(n:Nat):List Nat:=(zac n).filter λi=>bif eq c i then !(eq b i)else Tc
theorem H7{c b:ab1}:i∈Wg c b n↔i<n/\i∈b/\i∉c:=by
 unfold Wg;rw[List.mem_filter,zaz];constructor;rintro⟨h1,h2⟩;cases hn:eq b i with
 |false=>simp_all
 |true=>rw[hn,zF]at h2;grind [Xa,pG]
 rintro⟨h1,h2,e⟩;refine⟨h1,?_⟩;rw[pG h2,zF];grind [Xa]
def Ho(b c:ab1)(n:Nat):(Wg b c n).Pairwise (· < ·):=zc1.filter _
def wI(P:EM)(n:Nat)(h:zb)(ld:Bool)(ops:Array n9)(K:bK->Prop):List Nat->bK->Prop
 |[],e=>K e
 |i::l,e=>match ops[i]? with
  |some o=>bif lO o then(bif (bif ld then Ta else !(jr o))then(bif W8 o.op then(match Zf ops e o.guard with
   |some c=>bif xr n c o.dst then(bif known e c o.op.operands.toList then(match Yn e c with
    |some g=>gb P o (gk e c) g h λv=>wI P n h ld ops K l (putO e o.dst c v)
    |none=>False)else False)else False
   |none=>False)else False)else False)else False
  |none=>False
def yx(ops:Array n9)(f:Nat->Value):List Nat->Act->Act
 |[],a=>a
 |i::l,a=>yx ops f l (a.put (xj ops i) (f i))
def T6(b:lO o=Ta){ρ:n7->Value}{g:ac0}{K:ac1}(H:gb P o ρ g h K):∃v,K v/\(eJ g->∀h',Sh o ρ h h'->At P (fd ρ o) h' (.value v)):=by
 unfold lO at b;cases hb:oy o with
 |true=>exact Kq hb H
 |false=>rw[hb,zG]at b;unfold HD at b;split at b;rename_i x i c;unfold gb at H;rw[c]at H;have⟨v,h1,h2⟩:=ql H g;grind;cases b
def Bo{ops:Array n9}{f:Nat->Value}:∀{l:ab1} {a:Act},(yx ops f l a).tmps.size=a.tmps.size/\(yx ops f l a).defers=a.defers
 |[],_=>⟨rfl,rfl⟩
 |i::l,a=>by unfold yx;have:=Bo (ops:=ops) (f:=f) (l:=l) (a:=a.put (xj ops i) (f i));rw[this.1,this.2];exact⟨PJ _ _ _,Z5 _ _ _⟩
theorem j6{ops:Array n9}{f:Nat->Value}{s:Nat}:∀{l:ab1} {a:Act},(∀i∈l,xj ops i≠Td s)->qp (yx ops f l a) s=qp a s
 |[],_,_=>rfl
 |i::l,a,h=>by unfold yx;rw[j6 λj b=>h j (ZA _ b)];exact wv (h i ZD)
theorem xC{ops:Array n9}{f:Nat->Value}:∀{l m:ab1} {a:Act},yx ops f (l++m) a=yx ops f m (yx ops f l a)
 |[],_,_=>rfl
 |i::l,m,a=>by rw[ZT];show yx ops f (l++m) _=yx ops f m (yx ops f l _);exact xC
def Ab{P:EM}{n:Nat}{h:zb}{ld:Bool}{ops:Array n9}{K:bK->Prop}(z:Nat->Value):∀{l:ab1} {e:bK} {a:Act},l.Nodup->wI P n h ld ops K l e->Sat n e a->∃(f:Nat->Value) (e':bK),K e'/\Sat n e' (yx ops f l a)/\(∀i,i∉l->f i=z i) /\ ∀b i A,l=b++i::A->∃o,ops[i]?=Td o/\(ld=Tc->jr o=Tc)/\W8 o.op=Ta/\(∀t,o.dst=Td t->t<n)/\(zah o (yielded ops (yx ops f b a).tmps)=Ta->∀h',Sh o (yx ops f b a).eval h h'->At P (fd (yx ops f b a).eval o) h' (.value (f i)))/\(zah o (yielded ops (yx ops f b a).tmps)≠Ta->f i=undef)
 |[],e,a,_,H,hs=>⟨z,e,H,hs,λ_ _=>rfl,λb i A h=>ι h⟩
 |i::l,e,a,hnd,H,hs=>by
  unfold wI at H;cases ho:ops[i]? with
  |none=>simp_all
  |some o=>
   rw[ho]at H;simp only at H;cases hq:lO o with
   |false=>simp_all
   |true=>
    rw[hq,zF]at H;cases hld:(cond ld Ta (!(jr o)))with
    |false=>simp_all
    |true=>
     rw[hld,zF]at H;cases hns:W8 o.op with
     |false=>simp_all
     |true=>
      rw[hns,zF]at H;split at H;rename_i c G;cases hd:xr n c o.dst with
      |false=>simp_all
      |true=>
       rw[hd,zF]at H;cases hk:known e c o.op.operands.toList with
       |false=>simp_all
       |true=>
        rw[hk,zF]at H;split at H;rename_i g I;rw[zbh]at hnd;have⟨v,D,F⟩:=T6 hq H;have r:xj ops i=o.dst:=ja ho;obtain⟨u,s,p⟩:∃u,(valid (qp a) c->u=v)/\(¬valid (qp a) c->u=undef):=by by_cases k:valid (qp a) c;simp_all;simp_all
        have q:=Qk hs G;have⟨f,e',J,Q,M,N⟩:=Ab (λx=>ite (x=i) u (z x)) (a:=a.put o.dst u) hnd.2 D (hs.putO hd s p);have m:f i=u:=by rw[M i hnd.1,zi rfl]
        have B:∀b,yx ops f (i::b) a=yx ops f b (a.put o.dst u):=λb=>by show yx ops f b (a.put (xj ops i) (f i))=_;rw[r,m]
        refine⟨f,e',J,η,λj O=>?_,λb j A y=>?_⟩;simp_all;cases b with
        |nil=>simp only[zal,za7]at y;obtain⟨rfl,rfl⟩:=y;refine⟨o,ho,λy=>θ,hns,λt C=>by rw[C]at hd;unfold xr at hd;simp_all,λw h' L=>?_,λw=>?_⟩;show At P (fd a.eval o) h' _;have k:=q.1 w;rw[qO hs k hns hk,m,s k];exact F (Yo hs I k) h' (Sh.congr (λx E=>(W6 hs k hk x E).symm) L);rw[m];exact p λk=>w (q.2 k)
        |cons S b=>grind
        cases H
      cases H
def nz(gq:Bool)(ops:Array n9)(U:List Nat):Nat->Bool
 |0=>Tc
 |k+1=>bif (match ops[k]? with
  |some o=>bif jr o then(bif eB gq ops k then Tc else !(eq U k))else Tc
  |none=>Tc)then Ta else nz gq ops U k
theorem GF{ops:Array n9}{U:ab1}:∀{m:Nat},nz gq ops U m=Tc->∀k o,k<m->ops[k]?=Td o->jr o=Ta->eB gq ops k=Tc->k∈U
 |0,_,k,o,hk,_,_,_=>ω
 |m+1,h,k,o,hk,ho,hl,hi=>by
  unfold nz at h;cases hb:(match ops[m]? with
   |some o=>cond (jr o) (cond (eB gq ops m) Tc (!(eq U m))) Tc
   |none=>Tc)with
  |true=>simp_all
  |false=>
   rw[hb,zG]at h;obtain h1|h1:=zam k m;exact GF h k o h1 ho hl hi;have:k=m:=ω
   simp_all[zF,zG,Xa]
def lI(gq:Bool)(ops:Array n9)(U:List Nat)(e:bK)(h0 h':zb)(K:Prop):Nat->Prop
 |0=>K
 |k+1=>match ops[k]? with
  |some o=>bif (bif jr o then(bif eB gq ops k then Tc else !(eq U k))else Tc)then(match o.op,Zf ops e o.guard with
   |.load _ a,some c=>bif known e c [a]then(match gk e c a,Yn e c with
    |.pointer (Td p),some g=>req g (h'[p.block]?=h0[p.block]?)/\lI gq ops U e h0 h' K k
    |_,_=>False)else False
   |_,_=>False)else lI gq ops U e h0 h' K k
  |none=>lI gq ops U e h0 h' K k
def CC{ops:Array n9}{U:ab1}{e:bK}{h0 h':zb}{K:Prop}:∀{m:Nat},lI gq ops U e h0 h' K m->K/\∀k o,k<m->ops[k]?=Td o->jr o=Ta->eB gq ops k=Tc->k∉U ->∃t a p c g,o.op=.load t a/\Zf ops e o.guard=Td c/\Yn e c=Td g/\known e c [a]=Ta/\gk e c a=.pointer (Td p)/\req g (h'[p.block]?=h0[p.block]?)
 |0,H=>⟨H,λk o i=>ω⟩
 |m+1,H=>by
  unfold lI at H;have step:lI gq ops U e h0 h' K m->(∀o,ops[m]?=Td o->jr o=Ta->eB gq ops m=Tc->m∉U->∃t a p c g,o.op=.load t a/\Zf ops e o.guard=Td c/\Yn e c=Td g/\known e c [a]=Ta/\gk e c a=.pointer (Td p)/\req g (h'[p.block]?=h0[p.block]?)) ->
   K/\∀k o,k<m+1->ops[k]?=Td o->jr o=Ta->eB gq ops k=Tc->k∉U->∃t a p c g,o.op=.load t a/\Zf ops e o.guard=Td c/\Yn e c=Td g/\known e c [a]=Ta/\gk e c a=.pointer (Td p)/\req g (h'[p.block]?=h0[p.block]?):=λf l=>by
   have⟨h1,h2⟩:=CC f;grind
  cases ho:ops[m]? with
  |none=>grind
  |some o=>
   rw[ho]at H;simp only at H;have same:∀b,ops[m]?=Td b->b=o:=λb h1=>ZZ (h1.symm.trans ho);cases hc:(cond (jr o) (cond (eB gq ops m) Tc (!(eq U m))) Tc)with
   |false=>rw[hc]at H;refine step H λb h1 h2 h n=>?_;rw[same b h1]at h2;rw[h2,h,zF,zG]at hc;grind [Xa]
   |true=>grind
def nW(gq:Bool)(ops:Array n9)(T:List Nat)(e:bK)(h0 h':zb)(K:Prop):Prop:=bif nz gq ops (iT ops ops.size T) ops.size then lI gq ops (iT ops ops.size T) e h0 h' K ops.size else K
def sU(ops:Array n9)(todo:List Nat)(j:Nat):Bool:=todo.all λk=>bif gc k j then Ta else !(eq (iT ops ops.size [j]) k)
def iZ(gq:Bool)(P:EM)(n:Nat)(ops:Array n9)(h0:zb)(K:bK->zb->Prop):Nat->List Nat->List Nat->bK->zb->Prop
 |_,_,[],e,h=>K (clean e) h
 |0,_,_::_,_,_=>False
 |f+1,T,b::l0,e,h=>xX (λj=>match ops[j]? with
  |some o=>(match Zf ops e o.guard with|some c=>bif xr n c o.dst then jP P o e c h λv h'=>wI P n h' Tc ops (λe'=>nW gq ops (j::T) e' h0 h' (iZ gq P n ops h0 K f (j::T) (fY j (b::l0)) e' h')) (Wg (We gq ops T ops.size) (We gq ops (j::T) ops.size) ops.size) (putO e o.dst c v)else False|none=>False)
  |none=>False) (oe (sU ops (b::l0)) (b::l0))
theorem U4{K:bK->zb->Prop}{f:Nat}{T todo:ab1}(H:iZ gq P n ops h0 K (f+1) T todo e h){j:Nat}(b:j∈todo)(i:sU ops todo j=Ta):match ops[j]? with
 |some o=>(match Zf ops e o.guard with|some c=>bif xr n c o.dst then jP P o e c h λv h'=>wI P n h' Tc ops (λe'=>nW gq ops (j::T) e' h0 h' (iZ gq P n ops h0 K f (j::T) (fY j todo) e' h')) (Wg (We gq ops T ops.size) (We gq ops (j::T) ops.size) ops.size) (putO e o.dst c v)else False|none=>False)
 |none=>False:=by
 cases todo with
 |nil=>cases b
 |cons l k=>exact EF H j (u0 b i)
def mW(gq:Bool)(ops:Array n9)(k:Nat)(S:List Nat):Nat->Bool
 |0=>Ta
 |p+1=>bif (match xj ops p with
  |some t=>bif eq S t then(bif mv .any ops k p then Ta else bif eB gq ops p then mv .any ops p k else Tc)else Ta
  |none=>Ta)then mW gq ops k S p else Tc
def Xb{ops:Array n9}{k:Nat}{S:ab1}:∀{m:Nat},mW gq ops k S m=Ta->∀p t,p<m->xj ops p=Td t->t∈S->mv .any ops k p=Ta\/(eB gq ops p=Ta/\mv .any ops p k=Ta)
 |0,_,p,t,hp,_,_=>ω
 |m+1,h,p,t,hp,hd,ht=>by
  simp only[mW]at h;cases hb:(match xj ops m with
   |some t=>cond (eq S t) (cond (mv .any ops k m) Ta (cond (eB gq ops m) (mv .any ops m k) Tc)) Ta
   |none=>Ta)with
  |false=>simp_all
  |true=>
   rw[hb]at h;obtain h1|h1:=zam p m;exact Xb h p t h1 hd ht;have:p=m:=ω
   simp_all[pG,zF]
def mu(gq:Bool)(ops:Array n9):Nat->Bool
 |0=>Ta
 |k+1=>bif (match ops[k]? with
  |some o=>mW gq ops k (II o.op.operands.toList) ops.size
  |none=>Ta)then mu gq ops k else Tc
def Xc{ops:Array n9}:∀{m:Nat},mu gq ops m=Ta->∀k o,k<m->ops[k]?=Td o->mW gq ops k (II o.op.operands.toList) ops.size=Ta
 |0,_,k,o,hk,_=>ω
 |m+1,h,k,o,hk,ho=>by
  unfold mu at h;cases hb:(match ops[m]? with
   |some o=>mW gq ops m (II o.op.operands.toList) ops.size
   |none=>Ta)with
  |false=>simp_all
  |true=>rw[hb,zF]at h;obtain h1|h1:=zam k m;exact Xc h k o h1 ho;grind
def mq(ops:Array n9)(o:n9):List Nat:=match o.guard with
 |none=>[]
 |some (j,_)=>match xj ops j with
  |some t=>[t]
  |none=>[]
def lW(ops:Array n9):Nat->Bool
 |0=>Ta
 |k+1=>bif (match ops[k]? with
  |some o=>bif W8 o.op then lw ops k (mq ops o) ops.size else Tc
  |none=>Ta)then lW ops k else Tc
def wB{ops:Array n9}:∀{m:Nat},lW ops m=Ta->∀k o,k<m->ops[k]?=Td o->W8 o.op=Ta/\lw ops k (mq ops o) ops.size=Ta
 |0,_,k,o,hk,_=>ω
 |m+1,h,k,o,hk,ho=>by
  unfold lW at h;cases hb:(match ops[m]? with
   |some o=>cond (W8 o.op) (lw ops m (mq ops o) ops.size) Tc
   |none=>Ta)with
  |false=>simp_all
  |true=>rw[hb,zF]at h;obtain h1|h1:=zam k m;exact wB h k o h1 ho;grind
def yZ(h:∀t∈mq ops o,qp a t=qp b t):zah o (yielded ops a.tmps)=zah o (yielded ops b.tmps):=by
 unfold zah;cases hg:o.guard with
 |none=>rfl
 |some f=>
  have⟨j,p⟩:=f;have:yielded ops a.tmps j=yielded ops b.tmps j:=by
   unfold yielded;cases hd:(ops[j]?).bind (·.dst)with
   |none=>rfl
   |some t=>
    have e:xj ops j=Td t:=by
     unfold xj;cases hoj:ops[j]? with
     |none=>simp_all
     |some i=>simp_all
    have c:=h t (by unfold mq;simp_all);unfold qp at c;simp only[za3]at c;simp only[zbw];cases h1:a.tmps[t]? <;> cases h2:b.tmps[t]? <;> rw[h1,h2]at c <;> simp at c <;> first|rfl|(subst c;rfl)|(rw[<-c];rfl)|(rw[c];rfl)
  grind
def kD(gq:Bool)(ops:Array n9):Bool:=bif lW ops ops.size then(bif Wd ops ops.size then(bif mf ops ops.size then mu gq ops ops.size else Tc)else Tc)else Tc
def Ex(h:kD gq ops=Ta):lW ops ops.size=Ta/\Wd ops ops.size=Ta/\mf ops ops.size=Ta/\mu gq ops ops.size=Ta:=by unfold kD at h;simp_all
structure St7 (gq:Bool) (P:EM) (n:Nat) (ops:Array n9) (h0:zb) (K:bK->zb->Prop) (f:Nat->Value) (a0:Act) (listed:Array Bool) (a b:Act) (e:bK) (h:zb) (done todo:List Nat):Prop where
 inv:HeadInv .any ops ops.size listed
 ag:∀s,(∀i o,ops[i]?=Td o->eB gq ops i=Tc->listed.getD i Tc=Tc->o.dst≠Td s)->qp a s=qp b s
 sz:a.tmps.size=n
 ad:a.defers=[]
 sb:Sat n e b
 qv:∀i o t,ops[i]?=Td o->i∈We gq ops done ops.size->o.dst=Td t->qp b t=f i/\t<n
 qx:∀i o,ops[i]?=Td o->i∈We gq ops done ops.size->listed.getD i Tc=Tc->(zah o (yielded ops b.tmps)=Ta->∀h',Sh o b.eval h0 h'->At P (fd b.eval o) h' (.value (f i)))/\(zah o (yielded ops b.tmps)≠Ta->f i=undef)
 tt:∀j,j∈fP gq ops->(j∈todo↔listed.getD j Tc=Tc)
 ch:∀j,j∈fP gq ops->(listed.getD j Tc=Ta↔j∈done)
 dn:∀j∈done,j∈fP gq ops
 th:∀j∈todo,j∈fP gq ops
 nd:todo.Nodup
 wt:∃fu,todo.length<=fu/\iZ gq P n ops h0 K fu done todo e h
 kp:∀i o,ops[i]?=Td o->jr o=Ta->eB gq ops i=Tc->listed.getD i Tc=Tc->zah o (yielded ops b.tmps)=Ta->Sh o b.eval h0 h
 sm:Same (Zc ops.toList) a0 a
def Fl{ld:Bool}(F:lW ops ops.size=Ta)(w:Wd ops ops.size=Ta)(N:mf ops ops.size=Ta)(L:mu gq ops ops.size=Ta){f:Nat->Value}(E:b.tmps.size=n)(m:∀i∈l,i<ops.size)(aa:∀i∈l,eB gq ops i=Tc)(u:l.Pairwise (· < ·)) (H:∀c i e,l=c++i::e->∃o,ops[i]?=Td o/\(ld=Tc->jr o=Tc)/\W8 o.op=Ta/\(∀t,o.dst=Td t->t<n)/\(zah o (yielded ops (yx ops f c b).tmps)=Ta->∀h',Sh o (yx ops f c b).eval h h'->At P (fd (yx ops f c b).eval o) h' (.value (f i)))/\(zah o (yielded ops (yx ops f c b).tmps)≠Ta->f i=undef)):∀i o,ops[i]?=Td o->i∈l->(∀t,o.dst=Td t->qp (yx ops f l b) t=f i/\t<n)/\(ld=Tc->jr o=Tc)/\(zah o (yielded ops (yx ops f l b).tmps)=Ta->∀h',Sh o (yx ops f l b).eval h h'->At P (fd (yx ops f l b).eval o) h' (.value (f i)))/\(zah o (yielded ops (yx ops f l b).tmps)≠Ta->f i=undef):=by
 intro i o D hi;obtain⟨c,e,rfl⟩:=List.append_of_mem hi;have⟨y,q1,U,q4,V,Z,Y⟩:=H c i e rfl;have:y=o:=ZZ (q1.symm.trans D);subst this;have p:i<ops.size:=m i ξ;have hs:∀j∈e,i<j:=λj k=>by rw[zct]at u;simp_all
 have q:yx ops f (c++i::e) b=yx ops f e ((yx ops f c b).put (xj ops i) (f i)):=by rw[xC];rfl
 have r:xj ops i=y.dst:=ja D;have B:∀j∈i::e,mv .any ops i j=Ta->False:=λj k G=>by have⟨oj,J,x,I,Q,S⟩:=Region.waitsFor_spec G;have h1:=Qi w i oj p J x I Q;grind
 have O:yx ops f (c++i::e) b=yx ops f (i::e) (yx ops f c b):=xC;have z:∀t∈II y.op.operands.toList,qp (yx ops f (c++i::e) b) t=qp (yx ops f c b) t:=λt s=>by rw[O];refine j6 λj k C=>B j k ?_;rcases Xb (Xc L i y p D) j t (m j (ϑ k)) C s with h|h;exact h;simp_all
 have M:zah y (yielded ops (yx ops f (c++i::e) b).tmps)=zah y (yielded ops (yx ops f c b).tmps):=yZ λt s=>by rw[O];exact j6 λj k C=>B j k (Jj (wB F i y p D).2 j t (m j (ϑ k)) C s)
 rw[M];refine⟨λt s=>?_,U,λG h' hh=>?_,Y⟩;have A:=V t s;refine⟨?_,A⟩;rw[q,j6 λj k C=>?_,r,s,Qh (by rw[Bo.1,E];exact A)];have:=W9 N i j t p (m j (ϑ k)) (by rw[r,s]) C;grind;rw[xD q4 z];exact Z G h' (Sh.congr (λx I=>(rq z x I).symm) hh)
theorem Tn{K:bK->zb->Prop}{Q:Exit->Act->MN->Prop}(B:MN)(hmix:kD gq ops=Ta){a0:Act}
    (hQ:∀e' a' d' h',Sat n e' a'->Same (Zc ops.toList) a0 a'->K e' h'->Q .normal a' (mk B d' h')):
    ∀(N:Nat) (U:List Nat) (listed:Array Bool) (f:Nat->Value) (a b:Act) (e:bK) (h:zb) (d:Nat) (done todo:List Nat),U.length=N->U.Nodup->(∀k,k∈U↔k<ops.size/\listed.getD k Tc=Tc) ->
      St7 gq P n ops h0 K f a0 listed a b e h done todo->wpAny P .any ops Q N listed a (mk B d h):=by
  obtain⟨hng,hback,hnd,hsl⟩:=Ex hmix
  have hgd:∀(i:Nat) (o:n9),ops[i]?=Td o->W8 o.op=Ta/\lw ops i (mq ops o) ops.size=Ta:=λi o ho=>wB hng i o (YZ.1 ho).1 ho
  have hslot0:∀k o,ops[k]?=Td o->∀p t,p<ops.size->xj ops p=Td t->t∈II o.op.operands.toList->mv .any ops k p=Ta\/(eB gq ops p=Ta/\mv .any ops p k=Ta):=λk o ho p t hp hd ht=>
    Xb (Xc hsl k o (YZ.1 ho).1 ho) p t hp hd ht
  have hbk:∀k p,mv .any ops k p=Ta->p<k:=λk p hw=>by
    obtain⟨oj,hoj,x,hx,hb,hon⟩:=Region.waitsFor_spec hw
    have:=Qi hback k oj (YZ.1 hoj).1 hoj x hx hb
    omega
  have fin:∀{listed:Array Bool} {f:Nat->Value} {a b:Act} {e:bK} {h:zb} {d:Nat} {done todo:List Nat},(∀k,k<ops.size->listed.getD k Tc=Ta)->St7 gq P n ops h0 K f a0 listed a b e h done todo->Q .normal a (mk B d h):=by
    intro listed f a b e h d done todo hall S
    have htodo:todo=[]:=by
      cases htd:todo with
      |nil=>rfl
      |cons j l=>
        have hm:j∈todo:=by rw[htd];simp
        have hj:=S.th j hm
        have:=(S.tt j hj).1 hm
        rw[hall j (oB.1 hj).1]at this;cases this
    obtain⟨fu,_,hw⟩:=S.wt
    rw[htodo]at hw
    have hw:K (clean e) h:=by cases fu <;> exact hw
    have hv:∀s,qp a s=qp b s:=λs=>S.ag s λi o ho hq hl=>by
      grind
    have hs:Sat n e a:=⟨S.ad,S.sz,λx hx=>by
      have:=S.sb.all x hx
      have e1:qp a=qp b:=funext hv
      grind⟩
    exact hQ _ _ _ _ hs.clean S.sm hw
  intro N
  induction N with
  |zero=>
    intro U listed f a b e h d done todo hU _ hmem S
    have hUn:U=[]:=za2.1 hU
    subst hUn
    have hall:∀k,k<ops.size->listed.getD k Tc=Ta:=λk hk=>by
      simp_all
    refine⟨?_,fin hall S⟩
    rw[List.eq_nil_iff_forall_not_mem]
    intro j hj
    obtain⟨h1,o,ho,_⟩:=mem_ready.1 hj
    grind
  |succ N ih=>
    intro U listed f a b e h d done todo hU hdup hmem S
    have hex:∃k,k<ops.size/\listed.getD k Tc=Tc:=by
      cases U with
      |nil=>cases hU
      |cons k U=>exact⟨k,(hmem k).1 ZD⟩
    refine⟨λhr=>?_,λi hi=>?_⟩
    · exfalso
      obtain⟨k,hk1,hk2,hk3⟩:=Mi hex
      have:k∈Region.ready .any ops listed:=mem_ready.2 ⟨by rw[<-hk2];simp[S.inv.size,hk1],ops[k],zbc hk1,λx hx hb=>hk3 _ (Qi hback k ops[k] hk1 (zbc hk1) x hx hb)⟩
      grind
    · obtain⟨hun1,o,ho,hall⟩:=mem_ready.1 hi
      have hun:listed.getD i Tc=Tc:=getD_both hun1
      have hlt:i<ops.size:=(YZ.1 ho).1
      obtain⟨hns,hgs⟩:=hgd i o ho
      have hils:i<listed.size:=by rw[S.inv.size];exact hlt
      have hU':(U.erase i).length=N:=by rw[List.length_erase_of_mem ((hmem i).2 ⟨hlt,hun⟩),hU];rfl
      have hdup':(U.erase i).Nodup:=hdup.erase i
      have hmem':∀k,k∈U.erase i↔k<ops.size/\(listed.setIfInBounds i Ta).getD k Tc=Tc:=λk=>by
        rw[hdup.mem_erase_iff,hmem k]
        by_cases hk:i=k
        · subst hk;simp[hils]
        · rw[getD_set_ne Tc hk];grind
      have inv':=S.inv.set hi hlt
      have hset:∀k,k≠i->(listed.setIfInBounds i Ta).getD k Tc=listed.getD k Tc:=λk hk=>getD_set_ne Tc (Ne.symm hk)
      have hsetI:(listed.setIfInBounds i Ta).getD i Tc=Ta:=by simp[hils]
      have hops:∀t∈II o.op.operands.toList,qp a t=qp b t:=λt ht=>S.ag t λk ok hok hq hl hd=>by
        rcases hslot0 i o ho k t (YZ.1 hok).1 (by rw[ja hok,hd]) ht with hw|hw
        grind [r8]
        grind
      have hexec:=xD hns hops
      have hsame:∀v,Same (Zc ops.toList) a0 (a.put o.dst v):=λv=>S.sm.trans (Same.put a o.dst _ λt ht=>Dx (by
          grind) t ht)
      unfold wpOp
      rw[ho]
      simp only
      have hwab:zah o (yielded ops a.tmps)=zah o (yielded ops b.tmps):=yZ λt ht=>S.ag t λk ok hok hq hl hd=>by
        have hw:=Jj hgs k t (YZ.1 hok).1 (by rw[ja hok,hd]) ht
        grind [r8]
      cases hq:eB gq ops i with
      |false=>
        have hrdyG:∀m k ok,k<m->ops[k]?=Td ok->eB gq ops k=Tc->(∀p,mv .any ops k p=Ta->listed.getD p Tc=Ta)->k∈We gq ops done ops.size:=by
          intro m
          induction m with
          |zero=>omega
          |succ m ihm=>
            intro k ok hk hok hkh hkw
            refine tn (YZ.1 hok).1 hkh (rZ.2 λp hp hw=>⟨λhph=>?_,λhph=>?_⟩)
            · have hpl:=hkw p hw
              exact(S.ch p (oB.2 ⟨η,hph⟩)).1 hpl
            · have hps:p<ops.size:=χ ((YZ.1 hok).1)
              have hin:=ihm p ops[p] ω (zbc hps) hph λq hq2=>Jk S.inv (hkw p hw) hq2
              grind [xt,tn]
        have hrdy:=hrdyG (i+1) i o ω ho hq λp hw=>r8 hi hw
        have hqx:=S.qx i o ho hrdy hun
        have hnot:i∉fP gq ops:=λhm=>by rw[(oB.1 hm).2]at hq;cases hq
        have hunset:∀k,(listed.setIfInBounds i Ta).getD k Tc=Tc->listed.getD k Tc=Tc:=λk hu=>by
          grind
        have hfin:wpAny P .any ops Q N (listed.setIfInBounds i Ta) (a.put o.dst (f i)) (mk B d h):=by
         refine ih _ _ f _ b e h d done todo hU' hdup' hmem' { S with inv:=inv',ag:=λs hs=>?_,sz:=by rw[PJ];exact S.sz,ad:=by rw[Z5];exact S.ad,tt:=λj hj=>(by have:j≠i:=λe=>hnot (e ▸ hj);rw[hset j this];exact S.tt j hj),ch:=λj hj=>?_,qx:=λk ok hok hk hu=>S.qx k ok hok hk (hunset k hu),kp:=λk ok hok hl hkh hk=>?_,sm:=hsame _ }
         · by_cases hd:o.dst=Td s
           · obtain⟨hv,hsn⟩:=S.qv i o s ho hrdy hd
             rw[hd,Qh (by rw[S.sz];exact hsn),hv]
           · rw[wv hd]
             refine S.ag s λk ok hok hqk hlk=>?_
             grind
         · have:j≠i:=λe=>hnot (e ▸ hj)
           rw[hset j this];exact S.ch j hj
         · by_cases hki:k=i
           grind
           · rw[hset k hki]at hk;exact S.kp k ok hok hl hkh hk
        by_cases hw:zah o (yielded ops a.tmps)=Ta
        · rw[zi hw]
          left
          unfold Oper.wp
          rw[hexec,hqx.1 η h (by
            cases hl:jr o with
            |false=>exact .inl hl
            |true=>exact S.kp i o ho hl hq hun η) B d,Oper.upon_value]
          exact hfin
        grind
      |true=>
        have hin:i∈fP gq ops:=oB.2 ⟨hlt,hq⟩
        have hit:i∈todo:=(S.tt i hin).2 hun
        obtain⟨fu,hfu,hW0⟩:=S.wt
        have hcl:∀p q,(listed.setIfInBounds i Ta).getD p Tc=Ta->mv .any ops p q=Ta->(listed.setIfInBounds i Ta).getD q Tc=Ta:=λp q h1 h2=>Jk inv' h1 h2
        have hcand:sU ops todo i=Ta:=by
          unfold sU
          rw[ZB]
          intro k hk
          cases hki:gc k i with
          |true=>rfl
          |false=>
            have hne:k≠i:=λe=>by rw[e]at hki;simp at hki
            cases hr:eq (iT ops ops.size [i]) k with
            |false=>rfl
            |true=>
              exfalso
              have:=vt hcl (m:=ops.size) (S:=[i]) (λj hj=>η) k (Xa hr)
              rw[hset k hne]at this
              have h2:=(S.tt k (S.th k hk)).1 hk
              grind
        have hW:match ops[i]? with
            |some o=>(match Zf ops e o.guard with|some c=>bif xr n c o.dst then jP P o e c h λv h'=>wI P n h' Tc ops (λe'=>nW gq ops (i::done) e' h0 h' (iZ gq P n ops h0 K (fu-1) (i::done) (fY i todo) e' h')) (Wg (We gq ops done ops.size) (We gq ops (i::done) ops.size) ops.size) (putO e o.dst c v)else False|none=>False)
            |none=>False:=by
          cases fu with
          |zero=>grind
          |succ fu=>
            grind [U4]
        rw[ho]at hW
        simp only at hW
        cases hch:Zf ops e o.guard with
        |none=>grind
        |some c=>
        rw[hch]at hW
        simp only at hW
        cases hd:xr n c o.dst with
        |false=>grind
        |true=>
          rw[hd,zF]at hW
          have hwv:=Qk S.sb hch
          have key:∀(v u:Value) (d':Nat) (h':zb),(valid (qp b) c->u=v)->(¬valid (qp b) c->u=undef)->wI P n h' Tc ops (λe'=>nW gq ops (i::done) e' h0 h' (iZ gq P n ops h0 K (fu-1) (i::done) (fY i todo) e' h')) (Wg (We gq ops done ops.size) (We gq ops (i::done) ops.size) ops.size) (putO e o.dst c v)->wpAny P .any ops Q N (listed.setIfInBounds i Ta) (a.put o.dst u) (mk B d' h'):=by
           intro v v2 d' h' hv1 hv0 hK
           have sb1:Sat n (putO e o.dst c v) (b.put o.dst v2):=S.sb.putO hd hv1 hv0
           generalize hbl:Wg (We gq ops done ops.size) (We gq ops (i::done) ops.size) ops.size=bl at hK
           have hbm:∀k,k∈bl↔k<ops.size/\k∈We gq ops (i::done) ops.size/\k∉We gq ops done ops.size:=λk=>by rw[<-hbl];exact H7
           have hbsort:bl.Pairwise (· < ·):=by rw[<-hbl];exact Ho _ _ _
           have hbnd:bl.Nodup:=hbsort.imp λh=>ω
           obtain⟨f',e2,HK,sb2,hf0,hfx⟩:=Ab f hbnd hK sb1
           have hbf:=Fl hng hback hnd hsl (f:=f') (l:=bl) (b:=b.put o.dst v2) sb1.size (λk hk=>((hbm k).1 hk).1) (λk hk=>(xt ((hbm k).1 hk).2.1).2.1) hbsort hfx
           have hbnh:∀k∈bl,eB gq ops k=Tc:=λk hk=>(xt ((hbm k).1 hk).2.1).2.1
           have hlist':∀j,j∈fP gq ops->((listed.setIfInBounds i Ta).getD j Tc=Ta↔j∈i::done):=λj hj=>by
             by_cases hji:j=i
             · subst hji;grind
             · rw[hset j hji,S.ch j hj];simp[hji]
           have hjl:∀j∈i::done,(listed.setIfInBounds i Ta).getD j Tc=Ta:=λj hj=>by
             obtain rfl|hj:=YT.1 hj
             · exact hsetI
             · exact getD_set_true ((S.ch j (S.dn j hj)).2 hj)
           have hup:∀k,k∈iT ops ops.size (i::done)->(listed.setIfInBounds i Ta).getD k Tc=Ta:=λk hk=>vt hcl hjl k hk
           have hundone:i∉done:=λhm=>by rw[(S.ch i hin).2 hm]at hun;cases hun
           have hslot1:∀k ok,ops[k]?=Td ok->k∈We gq ops done ops.size->listed.getD k Tc=Tc->∀t∈II ok.op.operands.toList,qp (b.put o.dst v2) t=qp b t:=λk ok hok hk hu t ht=>wv λhdo=>by
             rcases hslot0 k ok hok i t hlt (by rw[ja ho,hdo]) ht with hw|hw
             · exact hundone ((qV hk (hbk k i hw) hw).1 hq)
             · rw[r8 hi hw.2]at hu;cases hu
           have hslot2:∀k ok,ops[k]?=Td ok->k∈We gq ops done ops.size->listed.getD k Tc=Tc->∀t∈II ok.op.operands.toList,qp (yx ops f' bl (b.put o.dst v2)) t=qp b t:=λk ok hok hk hu t ht=>by
             rw[j6 λp hp hdp=>?_]
             · exact hslot1 k ok hok hk hu t ht
             · obtain hw|hw:=hslot0 k ok hok p t ((hbm p).1 hp).1 hdp ht
               · exact((hbm p).1 hp).2.2 ((qV hk (hbk k p hw) hw).2 (hbnh p hp))
               · have:=hbnh p hp
                 grind
           have hslot3:∀k ok,ops[k]?=Td ok->k∈We gq ops done ops.size->zah ok (yielded ops (yx ops f' bl (b.put o.dst v2)).tmps)=zah ok (yielded ops b.tmps):=λk ok hok hk=>yZ λt ht=>by
             have hwt:∀p,p<ops.size->xj ops p=Td t->mv .any ops k p=Ta:=λp hp hd=>Jj (hgd k ok hok).2 p t hp hd ht
             rw[j6 λp hp hdp=>((hbm p).1 hp).2.2 ((qV hk (hbk k p (hwt p ((hbm p).1 hp).1 hdp)) (hwt p ((hbm p).1 hp).1 hdp)).2 (hbnh p hp))]
             exact wv λhdo=>hundone ((qV hk (hbk k i (hwt i hlt (by rw[ja ho,hdo]))) (hwt i hlt (by rw[ja ho,hdo]))).1 hq)
           have hdist:∀k ok t,ops[k]?=Td ok->k≠i->ok.dst=Td t->o.dst≠Td t:=λk ok t hok hki hdk hdo=>by
             have:=W9 hnd k i t (YZ.1 hok).1 hlt (by rw[ja hok,hdk]) (by rw[ja ho,hdo])
             exact hki this
           have hne_i:∀k,eB gq ops k=Tc->k≠i:=λk hk e=>by rw[e,hq]at hk;cases hk
           have hQK:iZ gq P n ops h0 K (fu-1) (i::done) (fY i todo) e2 h'/\(∀k ok,ops[k]?=Td ok->jr ok=Ta->eB gq ops k=Tc->(listed.setIfInBounds i Ta).getD k Tc=Tc->zah ok (yielded ops (yx ops f' bl (b.put o.dst v2)).tmps)=Ta->Sh ok (yx ops f' bl (b.put o.dst v2)).eval h0 h'):=by
             unfold nW at HK
             cases hl:nz gq ops (iT ops ops.size (i::done)) ops.size with
             |false=>
               rw[hl,zG]at HK
               exact⟨HK,λk ok hok hlo hkh hf _=>by rw[hup k (GF hl k ok (YZ.1 hok).1 hok hlo hkh)]at hf;cases hf⟩
             |true=>
               rw[hl,zF]at HK
               obtain⟨g1,g2⟩:=CC HK
               refine⟨g1,λk ok hok hlo hkh hf hw=>.inr (.inr λt a p hop hp=>?_)⟩
               obtain⟨t',a',p',c',g',e1,ec,eg,e2',e3,e4⟩:=g2 k ok (YZ.1 hok).1 hok hlo hkh (λhm=>by rw[hup k hm]at hf;cases hf)
               rw[hop]at e1
               injection e1 with _ e1
               subst e1
               have hvc:=(Qk sb2 ec).1 hw
               have eb:(yx ops f' bl (b.put o.dst v2)).eval a=gk e2 c' a:=W6 sb2 hvc e2' a ξ
               rw[eb,e3]at hp
               injection hp with hp
               injection hp with hp
               rw[<-hp];exact e4.out (Yo sb2 eg hvc)
           have htt:∀j,j∈fP gq ops->(j∈fY i todo↔(listed.setIfInBounds i Ta).getD j Tc=Tc):=λj hj=>by
             rw[oC]
             by_cases hji:j=i
             · subst hji;rw[hsetI];simp
             · rw[hset j hji,<-S.tt j hj];simp;omega
           refine ih _ _ f' _ (yx ops f' bl (b.put o.dst v2)) e2 h' d' (i::done) (fY i todo) hU' hdup' hmem' ⟨inv',λs hs=>?_,by rw[PJ];exact S.sz,by rw[Z5];exact S.ad,sb2,λk ok t hok hk hdk=>?_,λk ok hok hk hu=>?_,htt,hlist',(λj hj=>by
             obtain rfl|hj:=YT.1 hj
             · exact hin
             · exact S.dn j hj),(λj hj=>S.th j (oC.1 hj).1),yD S.nd,⟨fu-1,χ (Im hit),hQK.1⟩,hQK.2,hsame _⟩
           · -- slots
             have hs':∀k ok,ops[k]?=Td ok->eB gq ops k=Tc->listed.getD k Tc=Tc->ok.dst≠Td s:=λk ok hok hqk hlk=>hs k ok hok hqk (by rw[hset k (hne_i k hqk)];exact hlk)
             have hbl:∀p∈bl,xj ops p≠Td s:=λp hp hdp=>by
               have hps:=((hbm p).1 hp).1
               have hok:ops[p]?=Td ops[p]:=zbc hps
               have hph:=hbnh p hp
               refine hs p _ hok hph ?_ (by rw[<-ja hok];exact hdp)
               cases hlp:(listed.setIfInBounds i Ta).getD p Tc with
               |false=>rfl
               |true=>
                 exfalso
                 rw[hset p (hne_i p hph)]at hlp
                 have:∀m q,q<m->q<ops.size->eB gq ops q=Tc->listed.getD q Tc=Ta->q∈We gq ops done ops.size:=by
                   intro m
                   induction m with
                   |zero=>omega
                   |succ m ihm=>
                     intro q hqm hqs hqh hql
                     refine tn hqs hqh (rZ.2 λp2 hp2 hw2=>⟨λhph2=>?_,λhph2=>?_⟩)
                     · exact(S.ch p2 (oB.2 ⟨ω,hph2⟩)).1 (Jk S.inv hql hw2)
                     · have hin2:=ihm p2 ω ω hph2 (Jk S.inv hql hw2)
                       obtain⟨_,g2,g3⟩:=xt hin2
                       exact tn hp2 g2 g3
                 exact((hbm p).1 hp).2.2 (this (p+1) p ω hps hph hlp)
             rw[j6 hbl]
             by_cases hds:o.dst=Td s
             · rw[hds]
               have hsn:s<n:=by
                 rw[hds]at hd
                 unfold xr at hd
                 simp at hd;exact hd.2
               rw[Qh (by rw[S.sz];exact hsn),Qh (by rw[S.sb.size];exact hsn)]
             · rw[wv hds,wv hds];exact S.ag s hs'
           · by_cases hkb:k∈bl
             · exact(hbf k ok hok hkb).1 t hdk
             · have hk0:k∈We gq ops done ops.size:=zce λhc=>hkb ((hbm k).2 ⟨(YZ.1 hok).1,hk,hc⟩)
               have hkh:=(xt hk0).2.1
               obtain⟨q1,q2⟩:=S.qv k ok t hok hk0 hdk
               refine⟨?_,q2⟩
               rw[j6 λp hp hdp=>?_,wv (hdist k ok t hok (hne_i k hkh) hdk),q1,hf0 k hkb]
               have:=W9 hnd p k t ((hbm p).1 hp).1 (YZ.1 hok).1 hdp (by rw[ja hok,hdk])
               subst this;exact hkb hp
           · by_cases hkb:k∈bl
             · obtain⟨_,q2,q3,q4⟩:=hbf k ok hok hkb
               exact⟨λhw h'' _=>q3 hw h'' (.inl (q2 rfl)),q4⟩
             · have hk0:k∈We gq ops done ops.size:=zce λhc=>hkb ((hbm k).2 ⟨(YZ.1 hok).1,hk,hc⟩)
               have hu0:listed.getD k Tc=Tc:=by rw[<-hset k (hne_i k (xt hk0).2.1)];exact hu
               have hx:=S.qx k ok hok hk0 hu0
               rw[hslot3 k ok hok hk0,hf0 k hkb,xD (b:=b) (hgd k ok hok).1 (hslot2 k ok hok hk0 hu0)]
               exact⟨λhw h'' hh=>hx.1 hw h'' (Sh.congr (λx hx=>(rq (hslot2 k ok hok hk0 hu0) x hx).symm) hh),hx.2⟩
          by_cases hv:valid (qp b) c
          · rw[zi η]
            left
            unfold Oper.wp
            rw[hexec]
            refine Vu (b:=b) S.sb.defers ?_
            refine AC hW S.sb hv B d λv d' h' hK=>⟨by rw[Z5];exact S.sb.defers,λv2 hv2=>?_⟩
            have hbv:b.put o.dst v2=b.put o.dst v:=hv2.symm
            by_cases hds:∃t,o.dst=Td t
            · obtain⟨t,ht⟩:=hds
              have htn:t<n:=by
                have hd2:=hd
                rw[ht]at hd2
                unfold xr at hd2
                simp at hd2;exact hd2.2
              have:v2=v:=by
                have e1:qp (b.put o.dst v2) t=qp (b.put o.dst v) t:=by rw[hbv]
                rw[ht,Qh (by rw[S.sb.size];exact htn),Qh (by rw[S.sb.size];exact htn)]at e1
                exact e1
              grind
            · have hdn:o.dst=Te:=by
                cases hdx:o.dst with
                |none=>rfl
                |some t=>grind
              have e1:a.put o.dst v2=a.put o.dst v:=by rw[hdn];rfl
              grind
          · rw[za η]
            obtain⟨v,hK⟩:=Ap hW S.sb hv
            grind
def Cu{K:bK->zb->Prop}{Q:Exit->Act->MN->Prop}(B:MN)(q:kD gq ops=Ta) (H:wI P n h Ta ops (λe'=>iZ gq P n ops h K (fP gq ops).length [] (fP gq ops) e' h) (Wg [] (We gq ops [] ops.size) ops.size) e) (A:Sat n e a)(hQ:∀e' a' Y h',Sat n e' a'->Same (Zc ops.toList) a a'->K e' h'->Q .normal a' (mk B Y h')) (d:Nat):wpAny P .any ops Q ops.size (zbu ops.size Tc) a (mk B d h):=by
 have⟨C,r,L,I⟩:=Ex q;have m:∀k,k∈Wg [] (We gq ops [] ops.size) ops.size↔k∈We gq ops [] ops.size:=λk=>by rw[H7];exact⟨λh=>h.2.1,λh=>⟨(xt h).1,h,ξ⟩⟩
 have c:=Ho [] (We gq ops [] ops.size) ops.size;generalize Wg [] (We gq ops [] ops.size) ops.size=bl at H m c;have z:bl.Nodup:=c.imp λh=>ω
 have⟨f,U,HK,J,_,M⟩:=Ab (λ_=>undef) z H A;have y:=Fl C r L I (f:=f) (l:=bl) (b:=a) A.size (λk G=>(xt ((m k).1 G)).1) (λk G=>(xt ((m k).1 G)).2.1) c M;have w:∀s,(∀i o,ops[i]?=Td o->eB gq ops i=Tc->(zbu ops.size Tc).getD i Tc=Tc->o.dst≠Td s)->qp a s=qp (yx ops f bl a) s:=λs D=>(j6 λp S F=>by have N:=(xt ((m p).1 S)).1;have x:ops[p]?=Td ops[p]:=zbc N;exact D p _ x (xt ((m p).1 S)).2.1 (getD_replicate_false _ _) (by rw[<-ja x];exact F)).symm;refine Tn B q hQ ops.size (zac ops.size) _ f a (yx ops f bl a) U h d [] (fP gq ops) List.length_range List.nodup_range (λk=>by rw[zaz,getD_replicate_false];simp) ⟨⟨ξ,λj oj _ O=>(by rw[getD_replicate_false]at O;cases O),λt ht V=>ω⟩,w,A.size,A.defers,J,λi o t E hi Z=>(y i o E ((m i).2 hi)).1 t Z,λi o E hi _=>(y i o E ((m i).2 hi)).2.2,(λj u=>by rw[getD_replicate_false];simp[u]),(λj u=>by rw[getD_replicate_false];simp),(λj u=>ε u),(λj u=>u),Mp ops,⟨_,YJ _,HK⟩,λ_ _ _ _ _ _=>λ_=>.inr (.inl (Bk.refl _ _)),Same.refl _ _⟩
def yQ:List (Nat×Nat)->Nat->Option Nat
 |[],_=>Te
 |(j,m)::l,i=>bif gc i j then Td m else yQ l i
def Vc(P:EM)(n:Nat)(c:List (Nat×Nat))(id:Nat)(ops:Array n9)(b:Bool)(K:bK->zb->Prop)(e:bK)(h:zb):Prop:=
 bif b then(match yQ c id with
  |none=>bif Region.lexB .any ops then wQ P n ops h Ta (λe'=>K (clean e') h) ops.toList e else False
  |some m=>bif kD (gc m 7000) ops then wI P n h Ta ops (λe'=>iZ (gc m 7000) P n ops h K (fP (gc m 7000) ops).length [] (fP (gc m 7000) ops) e' h) (Wg [] (We (gc m 7000) ops [] ops.size) ops.size) e else False)
 else wR P n ops K ops.toList e h
theorem Xd(l m:List n9):Zc (l++m)=Zc l++Zc m:=by
 induction l with
 |nil=>rfl
 |cons o l b=>simp only[ZT,Zc];split <;> simp[b]
def BE(k:P.follows .mixedOrders=Ta){l:List (Nat×Nat)}{id:Nat}{b:Bool}{K:bK->zb->Prop} (H:Vc P n l id ops b K e h) (B:MN) (d:Nat) (c:Sat n e a) {Q:Exit->Act->MN->Prop}(f:∀e' a' i h',Sat n e' a'->Same (Zc ops.toList) a a'->K e' h'->Q .normal a' (mk B i h')):(zdx id ops b).wp P Q a (mk B d h):=by
 unfold Vc at H;cases b with
 |false=>exact wp_region_list (pw B _ _ _ _ _ H c f)
 |true=>
  simp only[zF]at H;split at H;cases hB:Region.lexB .any ops with
  |false=>rw[hB]at H;cases H
  |true=>rw[hB]at H;refine wp_region_quiet (C:=λw=>∃d,w=mk B d h) k hB ⟨d+1,rfl⟩ ?_;refine As B _ _ _ H c λe' a' o q p=>?_;rintro w' ⟨i,rfl⟩;exact f _ _ _ _ o.clean q p
  rename_i m _;cases hB:kD (gc m 7000) ops with
  |false=>rw[hB]at H;cases H
  |true=>rw[hB]at H;exact wp_region_any k (Cu B hB H c f (d+1))
end
section
variable {n:Nat} {e:bK} {a:Act} {ms:List Nat} {P:EM} {h:zb} {R:Value -> zb -> Prop} {f:n5}
@[reducible] def gT:List GT->Type->Type
 |[],X=>X
 |t::l,X=>t.den->gT l X
def oI{X:Type}:(l:List GT)->gT l X->(List Value->X->Prop)->Prop
 |[],f,k=>k [] f
 |t::l,f,k=>∀x:t.den,oI l (f x) λvs y=>k (t.enc x::vs) y
def fK{X:Type}:(l:List GT)->List Value->gT l X->Option X
 |[],[],f=>Td f
 |t::l,v::vs,f=>match t.dec v with
  |some x=>fK l vs (f x)
  |none=>Te
 |_,_,_=>Te
def lx{X:Type}:(l:List GT)->(List Value->X)->gT l X
 |[],f=>f []
 |t::l,f=>λx=>lx l λvs=>f (t.enc x::vs)
def kU{X Y:Type}:(l:List GT)->gT l X->gT l Y->gT l (X×Y)
 |[],f,g=>(f,g)
 |_::l,f,g=>λx=>kU l (f x) (g x)
def p8{X:Type}:∀{l:List GT} {vs:ab2} {f:gT l X} {x:X} {k:List Value->X->Prop},fK l vs f=Td x->oI l f k->k vs x
 |[],[],f,x,k,h,g=>by simp only[fK,YK]at h;subst h;exact g
 |[],_::_,f,x,k,h,g=>by simp[fK]at h
 |_::_,[],f,x,k,h,g=>by simp[fK]at h
 |t::l,v::vs,f,x,k,h,g=>by simp only[fK]at h;split at h;rename_i y b;have:=p8 h (g y);grind [GT.enc_of_dec];cases h
def yW{X:Type}:∀{l:List GT} {vs:ab2} {f:List Value->X} {x:X},fK l vs (lx l f)=Td x->x=f vs
 |[],[],f,x,h=>by simp only[fK,lx,YK]at h;exact h.symm
 |[],_::_,f,x,h=>by simp[fK]at h
 |_::_,[],f,x,h=>by simp[fK]at h
 |t::l,v::vs,f,x,h=>by simp only[fK,lx]at h;split at h;rename_i y b;have:=yW h;grind [GT.enc_of_dec];cases h
def yS{X:Type}:∀{l:List GT} {f:List Value->X} {k:List Value->X->Prop},(∀vs,k vs (f vs))->oI l (lx l f) k
 |[],_,_,h=>h []
 |_::_,_,_,h=>λ_=>yS λ_=>h _
abbrev fC:=List (Nat×VT)
def wb:fC->List GT
 |[]=>[]
 |(_,.one t)::J=>t::wb J
 |(_,.agg l)::J=>l++wb J
def fU(σ:Nat->Option Value):fC->Option (List Value)
 |[]=>Td []
 |(i,.one _)::J=>match σ i,fU σ J with
  |some v,some vs=>Td (v::vs)
  |_,_=>Te
 |(i,.agg l)::J=>match σ i,fU σ J with
  |some (.agg cs),some vs=>bif gc cs.toList.length l.length then Td (cs.toList++vs)else Te
  |_,_=>Te
def Yp:fC->List Value->bK
 |[],_=>[]
 |(i,.one _)::J,v::vs=>(i,[],v)::Yp J vs
 |(_,.one _)::_,[]=>[]
 |(i,.agg l)::J,vs=>(i,[],.agg (vs.take l.length).toArray)::Yp J (vs.drop l.length)
def jF(e:bK)(i:Nat):Option Value:=match look e i with
 |some ([],v)=>Td v
 |_=>Te
theorem Yq(h:Sat n e a){i:Nat}{v:Value}(b:jF e i=Td v):qp a i=v:=by unfold jF at b;split at b;rename_i u c;simp only[YK]at b;subst b;exact(h.all _ (mB c)).1 trivial;cases b
theorem yq{n:Nat}{e:bK}{a:Act}(h:Sat n e a):∀{J:fC} {vs:ab2},fU (jF e) J=Td vs->fU (λi=>Td (qp a i)) J=Td vs
 |[],vs,hv=>hv
 |(i,.one t)::J,vs,hv=>by simp only[fU]at hv ⊢;split at hv;rename_i v us h1 h2;simp only[yq h h2,Yq h h1];exact hv;cases hv
 |(i,.agg l)::J,vs,hv=>by simp only[fU]at hv ⊢;split at hv;rename_i cs us h1 h2;simp only[yq h h2,Yq h h1];exact hv;cases hv
def vX{σ:Nat->Value}:∀{J:fC} {vs:ab2},fU (λi=>Td (σ i)) J=Td vs->∀x∈Yp J vs,fact σ x
 |[],vs,_,x,b=>ε b
 |(i,.one t)::J,vs,hv,x,b=>by simp only[fU]at hv;split at hv;rename_i v us h1 h2;simp only[YK]at h1 hv;subst hv;simp only[Yp,YT]at b;obtain rfl|b:=b;exact⟨λ_=>h1,λe=>absurd trivial e⟩;exact vX h2 x b;cases hv
 |(i,.agg l)::J,vs,hv,x,b=>by
  simp only[fU]at hv;split at hv;rename_i cs us h1 h2;simp only[YK]at h1;cases hb:gc (DB cs.toList) (DB l) with
  |false=>simp_all
  |true=>rw[hb]at hv;simp only[zF,YK]at hv;subst hv;have c:cs.toList.length=DB l:=ZJ hb;simp only[Yp,YT]at b;obtain rfl|b:=b;refine⟨λ_=>?_,λe=>absurd trivial e⟩;simp_all;rw[<-c,List.drop_left]at b;exact vX h2 x b
  cases hv
def Xe(ms:List Nat):bK->bK
 |[]=>[]
 |(i,[],v)::e=>bif eq ms i then Xe ms e else(i,[],v)::Xe ms e
 |(_,_::_,_)::e=>Xe ms e
def UY{x:Nat×yb×Value}(h:x∈Xe ms e):x∈e/\x.2.1=[]/\x.1∉ms:=by
 induction e with
 |nil=>cases h
 |cons y e b=>
  have⟨i,c,v⟩:=y;cases c with
  |nil=>
   simp only[Xe]at h;cases hm:eq ms i with
   |true=>simp_all
   |false=>rw[hm]at h;simp only[zG]at h;obtain rfl|h:=YT.1 h;exact⟨ZD,rfl,Wc hm⟩;simp_all
  |cons g c=>simp only[Xe]at h;simp_all
def nA{a f:Act}(m:Sat n e a)(h:f.defers=[])(q:f.tmps.size=n)(b:Same ms a f){J:fC}{vs:ab2}(p:fU (λi=>Td (qp f i)) J=Td vs):Sat n (Yp J vs++Xe ms e) f:=by refine⟨h,q,λx c=>?_⟩;obtain c|c:=ZF.1 c;exact vX p x c;have⟨h1,h2,l⟩:=UY c;have k:=m.all x h1;refine⟨λ_=>?_,λo=>absurd (by rw[h2];trivial) o⟩;rw[b _ l];exact k.1 (by rw[h2];trivial)
def jm:Code->Option Nat
 |.region id _ _=>Td id
 |.seq a b=>match jm a with
  |some i=>Td i
  |none=>jm b
 |.cond _ a b=>match jm a with
  |some i=>Td i
  |none=>jm b
 |.block _ b=>jm b
 |.loop b=>jm b
 |.scope b=>jm b
 |_=>Te
def xu:Code->List Nat
 |.region _ ops _=>Zc ops.toList
 |.seq a b=>xu a++xu b
 |.cond _ a b=>xu a++xu b
 |.block _ b=>xu b
 |.loop b=>xu b
 |.scope b=>xu b
 |_=>[]
structure Plan where
 tails:List (Nat×Nat)
 loops:List (Nat×fC)
 joins:List (Nat×fC)
def Di:List (Nat×fC)->Nat->Option fC
 |[],_=>Te
 |(j,m)::l,i=>bif gc i j then Td m else Di l i
def oW(l:List (Nat×fC)):Option Nat->Option fC
 |some i=>Di l i
 |none=>Te
abbrev Wh:=Exit->bK->zb->Prop
def jK(K:bK->zb->Prop)(Q:Wh):Wh
 |.normal,e,h=>K e h
 |x,e,h=>Q x e h
def jI(id:Nat)(Q:Wh):Wh
 |.exit i,e,h=>bif gc i id then Q .normal e h else Q (.exit i) e h
 |x,e,h=>Q x e h
def PY(Q:Wh):Wh
 |.goto _,_,_=>False
 |x,e,h=>Q x e h
def nj{X:Type}(J:fC)(F:gT (wb J) X)(e:bK)(k:X->Prop):Prop:=
 match fU (jF e) J with
 |some vs=>match fK (wb J) vs F with
  |some q=>k q
  |none=>False
 |none=>False
def BG(J:fC)(rest:bK->zb->Prop)(F:(bK->zb->Prop)->Prop)(b:bK):Prop:=
 ∀K:gT (wb J) (zb->Prop),oI (wb J) K (λvs q=>∀h,rest (Yp J vs++b) h->q h)->F λe h=>nj J K e λq=>q h
def yM(J:fC)(body:(bK->zb->Prop)->bK->zb->Prop)(b e:bK)(h:zb):Prop:=
 ∃(I:gT (wb J) (zb->Prop)) (μ:gT (wb J) (zb->Nat)),(nj J (kU (wb J) I μ) e λp=>p.1 h) /\
  oI (wb J) (kU (wb J) I μ) λvs p=>∀h,p.1 h->body (λe' h'=>nj J (kU (wb J) I μ) e' λq=>q.1 h'/\q.2 h'<p.2 h) (Yp J vs++b) h
def W(P:EM)(n:Nat)(pl:Plan):Code->Wh->bK->zb->Prop
 |.skip,Q,e,h=>Q .normal e h
 |.ret,Q,e,h=>Q .ret e h
 |.exit id,Q,e,h=>Q (.exit id) e h
 |.label _,Q,e,h=>Q .normal e h
 |.goto l,Q,e,h=>Q (.goto l) e h
 |.region id ops draw,Q,e,h=>Vc P n pl.tails id ops draw (λe h=>Q .normal e h) e h
 |.seq x y,Q,e,h=>match oW pl.joins (jm y)with
  |none=>W P n pl x (jK (λe h=>W P n pl y Q e h) Q) e h
  |some J=>BG J (λe h=>W P n pl y Q e h) (λK=>W P n pl x (jK K Q) e h) (Xe (xu x) e)
 |.cond c x y,Q,e,h=>match fQ e [] c with
  |some (.bool b)=>(b=Ta->W P n pl x Q e h)/\(b=Tc->W P n pl y Q e h)
  |_=>False
 |.block id x,Q,e,h=>W P n pl x (jI id Q) e h
 |.loop x,Q,e,h=>match oW pl.loops (jm x)with
  |some J=>yM J (λf e h=>W P n pl x (jK f Q) e h) (Xe (xu x) e) e h
  |none=>False
 |.scope x,Q,e,h=>W P n pl x (PY Q) e h
 |_,_,_,_=>False
def BQ(n:Nat)(B:MN)(ms:List Nat)(b:Act)(Q:Wh):Exit->Act->MN->Prop:=
 λx a w=>∃e d h,w=mk B d h/\Sat n e a/\Same ms b a/\Q x e h
def kH{X:Type}{J:fC}{F:gT (wb J) X}{k:X->Prop}(h:nj J F e k):∃vs q,fU (jF e) J=Td vs/\fK (wb J) vs F=Td q/\k q:=by unfold nj at h;grind
def Lo(hm:P.follows .mixedOrders=Ta){pl:Plan}:∀(c:Code) (Q:Wh) (e:bK) (h:zb),W P n pl c Q e h ->∀(B:MN) (d:Nat) (a:Act),Sat n e a->c.wp P (BQ n B (xu c) a Q) a (mk B d h):=by
 intro c;induction c with
 |skip=>exact λQ e h H B d a f=>wp_skip ⟨e,d,h,rfl,f,Same.refl _ _,H⟩
 |ret=>exact λQ e h H B d a f=>wp_ret ⟨e,d,h,rfl,f,Same.refl _ _,H⟩
 |exit id=>exact λQ e h H B d a f=>wp_exit ⟨e,d,h,rfl,f,Same.refl _ _,H⟩
 |label l=>exact λQ e h H B d a f=>wp_label ⟨e,d,h,rfl,f,Same.refl _ _,H⟩
 |goto l=>exact λQ e h H B d a f=>wp_goto ⟨e,d,h,rfl,f,Same.refl _ _,H⟩
 |region id ops an=>exact λQ e h H B d a f=>BE hm H B d f λe' a' d' h' m t q3=>⟨e',d',h',rfl,m,t,q3⟩
 |seq x y A C=>
  intro Q e h H B d a f;simp only[W]at H;have G:∀i∈xu x,i∈xu (x.seq y):=λi hi=>YV _ hi;have S:∀i∈xu y,i∈xu (x.seq y):=λi hi=>ZH _ hi;split at H;refine wp_seq (wp_mono (A _ _ _ H B d a f) ?_);rintro ex k w1 ⟨w,r,h1,rfl,s1,s,m⟩;cases ex with
  |normal=>refine wp_mono (C _ _ _ m B r k s1) ?_;rintro ex a2 w2 ⟨u,d2,h2,rfl,s2,z,t⟩;exact⟨u,d2,h2,rfl,s2,(s.mono G).trans (z.mono S),t⟩
  |_=>exact⟨w,r,h1,rfl,s1,s.mono G,m⟩
  rename_i J hJ;have H':=H (lx (wb J) λvs=>λh=>W P n pl y Q (Yp J vs++Xe (xu x) e) h) (yS λvs h L=>L);refine wp_seq (wp_mono (A _ _ _ H' B d a f) ?_);rintro ex k w1 ⟨w,r,h1,rfl,s1,s,m⟩;cases ex with
  |normal=>have⟨vs,q,O,L,hk⟩:=kH m;have aa:=yW L;subst aa;have U:Sat n (Yp J vs++Xe (xu x) e) k:=nA f s1.defers s1.size s (yq s1 O);refine wp_mono (C _ _ _ hk B r k U) ?_;rintro ex a2 w2 ⟨u,d2,h2,rfl,s2,z,t⟩;exact⟨u,d2,h2,rfl,s2,(s.mono G).trans (z.mono S),t⟩
  |_=>exact⟨w,r,h1,rfl,s1,s.mono G,m⟩
 |cond c x y A C=>intro Q e h H B d a f;simp only[W]at H;have G:∀i∈xu x,i∈xu (zdr c x y):=λi hi=>YV _ hi;have S:∀i∈xu y,i∈xu (zdr c x y):=λi hi=>ZH _ hi;split at H;rename_i b D;refine wp_cond_split (yd f (c:=[]) trivial D) (λV=>?_) (λaf=>?_);refine wp_mono (A _ _ _ (H.1 V) B d a f) ?_;rintro ex a2 w2 ⟨u,d2,h2,rfl,s2,z,t⟩;exact⟨u,d2,h2,rfl,s2,z.mono G,t⟩;refine wp_mono (C _ _ _ (H.2 af) B d a f) ?_;rintro ex a2 w2 ⟨u,d2,h2,rfl,s2,z,t⟩;exact⟨u,d2,h2,rfl,s2,z.mono S,t⟩;cases H
 |block id x M=>
  intro Q e h H B d a f;refine wp_block (wp_mono (M _ _ _ H B d a f) ?_);rintro ex k w1 ⟨w,r,h1,rfl,s1,s,m⟩;cases ex with
  |exit i=>simp only[jI]at m;simp only[Exit.inBlock];by_cases D:gc i id=Ta;rw[zi (ZJ D)];simp only[D,zF]at m;exact⟨w,r,h1,rfl,s1,s,m⟩;rw[za (λhe=>D (by rw[he];simp))];simp only[D,zG]at m;exact⟨w,r,h1,rfl,s1,s,m⟩
  |_=>exact⟨w,r,h1,rfl,s1,s,m⟩
 |loop x M=>
  intro Q e h H B d a f;simp only[W]at H;split at H;rename_i J hJ;have⟨I,μ,h0,E⟩:=H;have⟨ae,p0,ak,am,aj⟩:=kH h0;let F:=kU (wb J) I μ;let at_:Act->Option ((zb->Prop)×(zb->Nat)):=λk=>(fU (λi=>Td (qp k i)) J).bind λvs=>fK (wb J) vs F;refine wp_loop (λk w1=>∃r h1 vs p,w1=mk B r h1/\k.defers=[]/\k.tmps.size=n/\Same (xu x) a k/\fU (λi=>Td (qp k i)) J=Td vs/\fK (wb J) vs F=Td p/\p.1 h1) (λk w1=>match at_ k with|some p=>p.2 w1.heap|none=>0) ⟨d,h,ae,p0,rfl,f.defers,f.size,Same.refl _ _,yq f ak,am,aj⟩ ?_;rintro k w1 ⟨r,h1,vs,p,rfl,Y,ai,o,O,hp,hI⟩;have s1:Sat n (Yp J vs++Xe (xu x) e) k:=nA f Y ai o O;have D:=p8 hp E h1 hI;refine wp_mono (M _ _ _ D B r k s1) ?_;rintro ex a2 w2 ⟨u,d2,h2,rfl,s2,z,t⟩;cases ex with
  |normal=>
   have⟨ab,q,N,L,Z,ah⟩:=kH t;refine⟨⟨d2,h2,ab,q,rfl,s2.defers,s2.size,o.trans z,yq s2 N,L,Z⟩,?_⟩;have w:at_ k=Td p:=by simp only[at_,O,zbw];exact hp
   have u:at_ a2=Td q:=by simp only[at_,yq s2 N,zbw];exact L
   rw[w,u];exact ah
  |_=>exact⟨u,d2,h2,rfl,s2,o.trans z,t⟩
  cases H
 |scope x M=>
  intro Q e h H B d a f;refine wp_scope_straight (wp_mono (M _ _ _ H B d a f) ?_);rintro ex k w1 ⟨w,r,h1,rfl,s1,s,m⟩;cases ex with
  |goto l=>exact m
  |_=>exact⟨w,r,h1,rfl,s1,s,m⟩
 |_=>exact λQ e h H=>H.elim
def iI:Nat->List Value->bK
 |_,[]=>[]
 |i,v::vs=>(i,[],v)::iI (i+1) vs
def iw(P:EM)(h:zb)(e:bK):List ResultVar->(List Value->Prop)->Prop
 |[],K=>K []
 |.tmp t::l,K=>match jF e t with
  |some v=>iw P h e l λvs=>K (v::vs)
  |none=>False
 |.cell a t::l,K=>match jF e a with
  |some p=>kM P h t p Te λv=>iw P h e l λvs=>K (v::vs)
  |none=>False
def iN:List Value->Value
 |[v]=>v
 |vs=>.tuple vs.toArray
def qS(P:EM)(rs:List ResultVar)(R:Value->zb->Prop):Wh
 |.normal,e,h=>iw P h e rs λvs=>R (iN vs) h
 |.ret,e,h=>iw P h e rs λvs=>R (iN vs) h
 |_,_,_=>False
def lj(tmps:Array Value):ResultVar->Sem Value
 |.tmp t=>pure (tmps.getD t undef)
 |.cell a t=>do loadVar t (<-asAddr (tmps.getD a undef))
def t7{P:EM}{n:Nat}{h:zb}{e:bK}{a:Act}(c:Sat n e a):∀{l:List ResultVar} {K:List Value->Prop},iw P h e l K->∃vs,K vs/\DB vs=DB l/\At P (l.mapM (lj a.tmps)) h vs
 |[],K,H=>⟨[],H,rfl,λ_ _=>ξ⟩
 |.tmp t::l,K,H=>by simp only[iw]at H;split at H;rename_i v o;have⟨vs,h1,h2,f⟩:=t7 c H;refine⟨v::vs,h1,ϑ h2,?_⟩;rw[zdo];refine At.bind (x:=v) ?_ (f.bind (At.pure _));rw[<-Yq c o];exact At.pure _;cases H
 |.cell x t::l,K,H=>by simp only[iw]at H;split at H;rename_i p i;have⟨v,q,m⟩:=GP H;have⟨vs,h1,h2,f⟩:=t7 c q;refine⟨v::vs,h1,ϑ h2,?_⟩;rw[zdo];refine At.bind (x:=v) ?_ (f.bind (At.pure _));have k:a.tmps.getD x undef=p:=Yq c i;simp only[lj,k];have b:=m trivial;unfold zcz at b;unfold kM at H;split at H;exact b;exact b;cases H;cases H
def Yr{fn:Func}(i:Sat n e a){rs:List ResultVar}(c:fn.results.toList=rs)(H:iw P h e rs λvs=>R (iN vs) h):∃v,R v h/\At P (results fn a.tmps) h v:=by
 have⟨vs,h1,h2,f⟩:=t7 i H;refine⟨_,h1,?_⟩;intro B d;have b:results fn a.tmps=(fn.results.mapM (lj a.tmps) >>= λvs=>zc6 (if h:vs.size=1 then vs[0]else .tuple vs)):=by unfold results;congr 1
 rw[b,Array.mapM_eq_mapM_toList,c,DM,Sem.run_map,f B d];simp only[D0,DQ]
 match vs,h2 with
 |[],_=>rfl
 |[v],_=>rfl
 |v::u::vs,_=>simp[iN]
def qL(args:ab3)(k:Nat):∀(vs:ab2) (i:Nat),(∀j v,vs[j]?=Td v->(args++zbu k undef).getD (i+j) undef=v) ->∀x∈iI i vs,fact (λi=>(args++zbu k undef).getD i undef) x
 |[],_,_,x,b=>ε b
 |v::vs,i,h,x,b=>by simp only[iI,YT]at b;obtain rfl|b:=b;exact⟨λ_=>h 0 v rfl,λe=>absurd trivial e⟩;exact qL args k vs (i+1) (λj u c=>by have:=h (j+1) u (ψ c);grind) x b
theorem OG(t:P.follows .mixedOrders=Ta){fn:Func}{c:Code}(pl:Plan)(vs:ab2){rs:List ResultVar}(q:P.funcs[f]?=Td fn)(o:fn.body=Td c)(m:fn.results.toList=rs)(s:fn.ntmps=n)(p:Nat.ble (DB vs) n=Ta) (H:W P n pl c (qS P rs R) (iI 0 vs) h):XC P f vs.toArray h R:=by
 intro B d;subst s;refine calls_of_wp q o ?_;have x:vs.length<=fn.ntmps:=zbn p;have r:Sat fn.ntmps (iI 0 vs) { tmps:=vs.toArray++zbu (fn.ntmps-vs.toArray.size) undef,defers:=[] }:=by
  refine⟨rfl,φ,?_⟩;refine qL vs.toArray _ vs 0 λj v u=>?_;have k:j<DB vs:=by obtain h|h:=zam j (DB vs);exact h;simp_all
  simp only[ZO,za3];rw[Array.getElem?_append_left (ψ k)];simp[u]
 refine wp_mono (Lo t c _ _ _ H B d _ r) ?_;rintro ex a w ⟨z,b,h1,rfl,s1,y,i⟩;cases ex with
 |normal=>have⟨v,l,e⟩:=Yr s1 m i;exact⟨s1.defers,v,e B b,v,b,h1,rfl,rfl,l⟩
 |ret=>have⟨v,l,e⟩:=Yr s1 m i;exact⟨s1.defers,v,e B b,v,b,h1,rfl,rfl,l⟩
 |_=>cases i
def codeOf(fn:Func):Code:=match fn.body with
 |some c=>c
 |none=>.skip
def Ys(fn:Func):Bool:=match fn.body with
 |some _=>Ta
 |none=>Tc
def LV(e:P.follows .mixedOrders=Ta)(pl:Plan)(vs:ab2){fn:Func}{rs:List ResultVar}(i:P.funcs[f]?=Td fn)(b:Ys fn=Ta)(k:fn.results.toList=rs)(l:fn.ntmps=n)(m:Nat.ble (DB vs) n=Ta) (H:W P n pl (codeOf fn) (qS P rs R) (iI 0 vs) h):XC P f vs.toArray h R:=by
 have c:fn.body=Td (codeOf fn):=by unfold Ys at b;unfold codeOf;split at b;omega;cases b
 grind [OG]
end
section
variable {n:Nat} {h h':zb} {e t ty:N4} {s:Sl} {xs news:List Value} {P:EM} {z:Value}
theorem jc(h:zb)(o:Obj):(h.push o)[h.size]?=Td o:=ξ
def ik(n:Nat)(h:zb)(a:Option n8)(cs:List Value):Prop:=
 cs=[]\/∃b o,a=Td ⟨b,o,Te⟩/\b<n/\∀i v,cs[i]?=Td v->zd h ⟨b,o+i,Te⟩=Td v
theorem zl(b o i:Nat):(⟨b,o,Te⟩:n8).add i=⟨b,o+i,Te⟩:=by unfold YH;simp
theorem HF(a:Option n8)(sz m:Nat):eL a sz 0 m=a:=by
 unfold eL;split;rfl;cases a with
 |none=>rfl
 |some p=>simp[YH]
theorem Fm{n:Int}(h1:-9223372036854775808<=n)(h2:n<=9223372036854775807):p3 n=n:=by
 ((try unfold p3);unfold YG);have e:(2:Int) ^ zan .i64=18446744073709551616:=ζ
 have e':(2:Int) ^ (zan .i64-1)=9223372036854775808:=ζ
 simp only[e,e'];have b:zdd .i64=Ta:=rfl;grind
def Kd{k:Nat}(h:k<9223372036854775807):p3 ((k:Int)+1)=((k+1:Nat):Int):=by grind [Fm]
def DP(h:zb)(base:Nat)(e:N4)(sz:Nat)(s:Sl)(xs:List Value):Prop:=
 (mk default 0 h).ownsRow base e sz (.slice s.a s.len s.cap) s.len xs
theorem DP.nil(h:zb)(base:Nat)(e:N4)(sz:Nat):DP h base e sz ⟨Te,0,0⟩ []:=World.ownsRow_nil _ _ _ _
theorem DP.length{base:Nat}{sz:Nat}(H:DP h base e sz s xs):xs.length=s.len*sz:=H.1
theorem DP.arr{base:Nat}{sz:Nat}(H:DP h base e sz s xs):ik h.size h s.a xs:=by obtain⟨f,h0⟩|⟨g,cap,b,f,q,l,n,r,o,p⟩:=H.2;have k:=H.1;rw[h0]at k;exact .inl (ψ k);simp only[zai]at f;have c:g<h.size:=(YZ.1 l).1;refine .inr ⟨g,0,f.1,c,λi v hi=>?_⟩;have m:h[g]?=Td (.cells b e (0,0)):=l;unfold zd;grind
theorem DP.base_le{base:Nat}{sz:Nat}(H:DP h base e sz s xs):∀p,s.a=Td p->base<=p.block/\p.block<h.size:=by intro p b;exact World.ownsRow.lt H p.block (by simp[Value.ownBlock,b])
theorem DP.aa1{base:Nat}{sz:Nat}(H:DP h base e sz s xs)(k:∀p,s.a=Td p->h'[p.block]?=h[p.block]?):DP h' base e sz s xs:=by refine⟨H.1,?_⟩;obtain l|⟨g,cap,b,c,f,i,rest⟩:=H.2;grind;simp only[zai]at c;refine .inr ⟨g,cap,b,ϑ c,f,?_,rest⟩;have:=k _ c.1;exact this.trans i
theorem DP.keepN{base:Nat}{sz:Nat}(H:DP h base e sz s xs)(k:Bk h.size h h'):DP h' base e sz s xs:= H.aa1 λp b=>k.get _ (H.base_le p b).2
structure GS (P:EM) (t e:N4) (z:Value) (sz bytes:Nat):Prop where
 slice:P.underlying t=Td (.slice e)
 info:∃i,P.info? e=Td i/\i.zero=Td z/\i.size=sz/\i.bytes=bytes
 zero:z.cells.size=sz
 pos:0<sz
def Hz{w:MN}{i:TypeInfo}{sz bytes base:Nat}(x:P.underlying t=Td (.slice e))(hi:P.info? e=Td i)(H:i.zero=Td z)(A:i.size=sz)(B:i.bytes=bytes) {v:Value} (f:w.ownsRow base e sz v n xs) {a:n8} {m c:Nat} (s:news.length=m*sz) (b:∀j u,news[j]?=Td u->w.cell? (a.add j)=Td u) (h1:∀u∈news,u.oneCell'=Ta) (M:n+m<=4611686018427387904) (k:(n+m)*bytes<=140737488355328) {F:Value} {w':MN} (V:(YN #[t,t] ty #[v,.slice (Td a) m c]).run P w=.ok F w'):∀y l G,F=.slice (Td y) l G->(∃p N c0,v=.slice (Td p) N c0/\y.block=p.block)\/y.block=w.heap.size:=by
 subst A B;intro y l G L;obtain⟨rfl,rfl⟩|⟨g,cap,q,rfl,O,J,Q,I,E,C⟩:=f.2;by_cases U:m=0;subst U;have S:news=[]:=ZU (ψ s);subst S;have D:(YN #[t,t] ty #[.slice Te 0 0,.slice (Td a) 0 c]).run P w=.ok (.slice Te 0 0) w:=by simp[YN,run_underlying x,sizeOf,typeInfo,hi,Builtin.lenOf,zb7,loadCells,loadCellsFrom]
 simp_all;have D:=run_append_nil (P:=P) (ty:=ty) w t e i z x hi H a m c news s b ω ω η;grind;by_cases h:n+m<=cap;have r:n*i.size+DB news<=q.size:=by rw[s,E,<-zb8];exact ZP _ h
 have D:=run_append_room (P:=P) (ty:=ty) w t e i x hi g n cap q J a m c news s b h1 h r;simp_all;have o:∀j u,xs[j]?=Td u->w.cell? ((⟨g,0,Te⟩:n8).add j)=Td u:=f.cells (g:=g) rfl;have D:=run_append_grow (P:=P) (ty:=ty) w t e i z x hi H ⟨g,0,Te⟩ n cap xs f.1 o a m c news s b ω ω (growslice_fits ω k);grind
def Wi{sz bytes:Nat}(T:GS P t e z sz bytes){base:Nat}(H:DP h base e sz s xs) {src:Sl} (hs:ik n h src.a news) (hl:news.length=src.len*sz) (h1:∀u∈news,u.oneCell'=Ta) (m:(s.len+src.len)*bytes<=140737488355328) (L:s.len+src.len<=4611686018427387904) (r:base<=h.size) {K:vvv} (hK:∀(f:Sl) (h':zb),f.len=s.len+src.len->DP h' base e sz f (xs++news)->(∀i,i<h.size->(∀p,s.a=Td p->i≠p.block)->h'[i]?=h[i]?)->h.size<=h'.size->(∀k,f.a=Td k->(∃p,s.a=Td p/\k.block=p.block)\/k.block=h.size)->K (.slice f.a f.len f.cap) h'):CA P (YN #[t,t] ty #[.slice s.a s.len s.cap,.slice src.a src.len src.cap]) h K:=by
 intro B d;have⟨i,hi,O,C,D⟩:=T.info;have key:∃y w',(YN #[t,t] ty #[.slice s.a s.len s.cap,.slice src.a src.len src.cap]).run P (mk B d h)=.ok y w'/\w'.ownsRow base e sz y (s.len+src.len) (xs++news)/\(mk B d h).grownBy w' (Value.ownBlock (.slice s.a s.len s.cap)) /\
  ∀k l J,y=.slice (Td k) l J->(∃p,s.a=Td p/\k.block=p.block)\/k.block=h.size:=by
  have c:(mk B d h).ownsRow base e sz (.slice s.a s.len s.cap) s.len xs:=H;obtain U|⟨b,o,U,V,hc⟩:=hs;subst U;have h0:src.len=0:=by obtain h0|h0:=zcg src.len;exact h0;have:=Nat.mul_pos h0 T.pos;grind
  rw[h0];have S:∃q,q=src.a:=⟨_,rfl⟩;have⟨q,Z⟩:=S;rw[<-Z];cases q with
  |none=>
   refine⟨_,mk B d h,?_,ψ c,⟨rfl,rfl,rfl,YJ _,λ_ _ _=>rfl⟩,λk l J A=>.inl ⟨k,θ,rfl⟩⟩;have hT:=T.slice;have ab:s.len<=s.cap:=by obtain⟨I,N⟩|⟨g,cap,aa,I,_,_,af,_⟩:=c.2;omega;simp_all
   generalize s.a=sa at *;cases sa <;> simp[YN,run_underlying hT,sizeOf,typeInfo,hi,Builtin.lenOf,zb7,ab,storeCells]
  |some p=>have⟨y,w',E,G,x,_⟩:=run_append_own (P:=P) (w:=mk B d h) base t ty e i z sz bytes T.slice hi O C D T.zero T.pos (.slice s.a s.len s.cap) s.len xs c p 0 src.cap [] ξ ξ ξ (by unfold maxLen;omega) θ r;refine⟨y,w',E,G,x,λk l J A=>?_⟩;rcases Hz T.slice hi O C D c (news:=[]) ξ ξ ξ ω θ E k l J A with⟨q,l0,c0,Z,V⟩|V;simp_all;exact .inr V
  rw[U];have⟨y,w',E,G,x,_⟩:=run_append_own (P:=P) (w:=mk B d h) base t ty e i z sz bytes T.slice hi O C D T.zero T.pos (.slice s.a s.len s.cap) s.len xs c ⟨b,o,Te⟩ src.len src.cap news hl (λj u hu=>by rw[zl];exact hc j u hu) h1 (by unfold maxLen;omega) m r;refine⟨y,w',E,G,x,λk l J A=>?_⟩;rcases Hz T.slice hi O C D c hl (λj u hu=>by rw[zl];exact hc j u hu) h1 L m E k l J A with⟨q,l0,c0,Z,M⟩|M;simp_all;exact .inr M
 have⟨y,w',E,G,x,r4⟩:=key;have hw:w'=mk B w'.drawn w'.heap:=by have I:=x.os;have N:=x.tape;have e3:=x.output;cases w';simp only[mk]at *;subst I;subst N;subst e3;rfl
 rw[hw]at E;have hv:∃f:Sl,y=.slice f.a f.len f.cap/\f.len=s.len+src.len:=by obtain⟨I,N⟩|⟨g,cap,aa,I,_⟩:=G.2;exact⟨⟨Te,0,0⟩,I,N.symm⟩;exact⟨⟨Td ⟨g,0,Te⟩,s.len+src.len,cap⟩,I,rfl⟩
 obtain⟨f,rfl,F⟩:=hv;refine⟨_,_,_,E,hK f w'.heap F ?_ ?_ x.size λk Y=>r4 k f.len f.cap (ϕ Y)⟩;rw[<-F]at G;exact G;intro j hj ae;refine x.block j hj λQ=>?_;cases S:s.a with
 |none=>rw[S]at Q;cases Q
 |some p=>rw[S]at Q;simp only[Value.ownBlock,YK]at Q;grind
end
section
variable {h:zb} {m:Nat} {P:EM} {kt t et:N4} {z:Value}
def fb(l:List (Bt×Value))(k:Bt):Option Value:=match l with
 |[]=>Te
 |p::l=>if p.1=k then Td p.2 else fb l k
def iH(l:List (Bt×Value))(k:Bt)(v:Value):List (Bt×Value):=match l with
 |[]=>[(k,v)]
 |p::l=>if p.1=k then(k,v)::l else p::iH l k v
theorem GN(l:List (Bt×Value))(k b:Bt)(v:Value):fb (iH l k v) b=ite (k=b) (Td v) (fb l b):=by
 induction l with
 |nil=>simp[iH,fb]
 |cons p l c=>simp only[iH];split;rename_i h;simp only[fb];simp_all;rename_i h;simp only[fb,c];grind
def LE(h:zb)(m:Nat)(l:List (Bt×Value)):Prop:=∃c b,h[m]?=Td (.map c b)/\c.toList.map (λe=>(e.key,e.val))=l.map λp=>(ZS p.1,p.2)
theorem LE.aa1{h h':zb}{l:List (Bt×Value)}(H:LE h m l)(k:h'[m]?=h[m]?):LE h' m l:=by have⟨b,c,h1,h2⟩:=H;exact⟨b,c,k.trans h1,h2⟩
theorem LE.lt{l:List (Bt×Value)}(H:LE h m l):m<h.size:=by have⟨b,c,h1,h2⟩:=H;grind
theorem LE.new(h:zb):LE (h.push (.map #[] 0)) h.size []:=⟨#[],0,jc _ _,rfl⟩
structure MapT (P:EM) (t kt et:N4) (z:Value):Prop where
 map:P.underlying t=Td (.map kt et)
 key:P.underlying kt=Td .string
 zero:∃i,P.info? et=Td i/\i.zero=Td z
theorem rN(a b:Bt):(a==b)=decide (a=b):=by show ByteArray.beq a b=_;cases a;cases b;rw[Bool.eq_iff_iff];simp[ByteArray.beq]
instance lawfulBA:LawfulBEq Bt where
 eq_of_beq:=λ {a b} h=>by rw[rN]at h;simpa using h
 rfl:=λ {a}=>by rw[rN];simp
def Xf(k:Bt):∀(f:List MapEntry) (l:List (Bt×Value)) (i:Nat),f.map (λe=>(e.key,e.val))=l.map (λp=>(ZS p.1,p.2)) ->(fb l k=Te/\zb5 .string (.string k) f i=Td Te)\/(∃j v e,fb l k=Td v/\f[j]?=Td e/\e.key=.string k/\e.val=v/\zb5 .string (.string k) f i=Td (Td (i+j,v))/\∀w,(f.modify j λe=>{ e with key:=.string k,val:=w }).map (λe=>(e.key,e.val))=(iH l k w).map λp=>(ZS p.1,p.2))
 |[],l,i,h=>by
  have:l=[]:=by cases l <;> simp_all
  subst this;exact .inl ⟨rfl,rfl⟩
 |e::f,l,i,h=>by
  cases l with
  |nil=>simp at h
  |cons p l=>
   simp only[ZC,za7,za5]at h;have⟨⟨h1,h2⟩,o⟩:=h;by_cases c:p.1=k;refine .inr ⟨0,p.2,e,by simp[fb,c],rfl,by rw[h1,c],h2,?_,λw=>?_⟩;have b:(k==p.1)=Ta:=by rw[rN];simpa using c.symm
   simp[zb5,zdj,h1,h2,b];simp[iH,c,o];have b:(k==p.1)=Tc:=by rw[rN];simpa using λe=>c e.symm
   obtain⟨m,n⟩|⟨j,v,e',m,n,t,q,s,r⟩:=Xf k f l (i+1) o;refine .inl ⟨by simp[fb,c,m],?_⟩;simp[zb5,zdj,h1,b,n];refine .inr ⟨j+1,v,e',by simp[fb,c,m],ψ n,t,q,?_,λw=>?_⟩;simp[zb5,zdj,h1,b,s];omega;simp[iH,c,h1,h2,r w]
def zV(c:P.underlying kt=Td .string)(b:Bool)(k:Bt)(h:zb):At P (Instr.checkKey b 10000 kt (.string k)) h ():=by intro B d;have e:=At.underlying (h:=h) c B d;unfold Instr.checkKey;simp_all
theorem Z8(c:P.underlying kt=Td .string)(k:Bt)(b:List MapEntry)(r:Option (Nat×Value))(h:zb)(e:zb5 .string (.string k) b 0=Td r):At P (Instr.findKey kt (.string k) b) h r:=by intro B d;have f:=At.underlying (h:=h) c B d;unfold Instr.findKey;simp_all
def Yg{b:Array MapEntry}{c:Nat}(e:h[m]?=Td (.map b c)):At P (getObj m) h (.map b c):=by intro B d;have:(mk B d h).heap[m]?=Td (.map b c):=e;simp[getObj,Sem.run,this]
def Le(b:∃i,P.info? t=Td i/\i.zero=Td z):At P (zeroValue t) h z:=by have⟨i,h1,h2⟩:=b;intro B d;simp[zeroValue,typeInfo,program,h1,h2,Sem.run]
def gF(l:List (Bt×Value))(k:Bt)(z:Value):Value:=(fb l k).getD z
def Xg(T:MapT P t kt et z){l:List (Bt×Value)}(H:LE h m l)(k:Bt)(ok:Bool):At P (zc0 t (.map (Td m)) (.string k) ok) h (ite ok (.tuple #[gF l k z,.bool (fb l k).isSome]) (gF l k z)):=by have⟨b,c,h1,h2⟩:=H;intro B d;have n:=At.underlying (h:=h) T.map B d;have o:=Yg (P:=P) h1 B d;have q:=zV T.key b.isEmpty k h B d;unfold zc0;rw[DM,n];simp only[D0,DM,o,DQ,q];obtain⟨f,i⟩|⟨j,v,e,f,i,u,s,p,_⟩:=Xf k b.toList l 0 h2;rw[Z8 T.key k b.toList Te h i B d];have r:=Le (h:=h) T.zero B d;simp only[D0,DM,r,DQ,gF,f];simp;rw[Z8 T.key k b.toList _ h p B d];simp only[D0,gF,f];simp
theorem wx{l:List (Bt×Value)}{k:Bt}{v:Value}(g:fb l k=Te):iH l k v=l++[(k,v)]:=by
 induction l with
 |nil=>rfl
 |cons p l c=>simp only[fb]at g;split at g;cases g;rename_i b;simp[iH,b,c g]
def Gn(T:MapT P t kt et z){l:List (Bt×Value)}(H:LE h m l)(k:Bt)(v:Value){K:zb->Prop}(x:∀h':zb,LE h' m (iH l k v)->h'.size=h.size->(∀i,i≠m->h'[i]?=h[i]?)->K h'):wf P (zbk t (.map (Td m)) (.string k) v) h K:=by
 have f:=H.lt;have⟨b,c,h1,h2⟩:=H;intro B d;have s:=At.underlying (h:=h) T.map B d;have w:=Yg (P:=P) h1 B d;have y:=zV T.key Tc k h B d;have n:∀o:Obj,(setObj m o).run P (mk B d h)=.ok () (mk B d (h.setIfInBounds m o)):=by intro o;have:(mk B d h).heap[m]?=Td (.map b c):=h1;simp[setObj,Sem.run,this];rfl
 unfold zbk;obtain⟨r,q⟩|⟨j,G,e,r,q,C,D,A,E⟩:=Xf k b.toList l 0 h2;refine⟨d,h.setIfInBounds m (.map (b.push { key:=.string k,val:=v,born:=c }) (c+1)),?_,x _ ⟨b.push { key:=.string k,val:=v,born:=c },c+1,ϑ f,?_⟩ ξ (λi hi=>η)⟩;rw[DM,s];simp only[D0,DM,w,y];rw[Z8 T.key k b.toList Te h q B d];simp_all;rw[wx r];simp[h2];have u:j<b.size:=by have:=(ZN.1 q).1;simpa using this
 refine⟨d,_,?_,x (h.setIfInBounds m (.map (b.modify j λe=>{ e with key:=.string k,val:=v }) c)) ⟨b.modify j λe=>{ e with key:=.string k,val:=v },c,ϑ f,?_⟩ ξ (λi hi=>η)⟩;rw[DM,s];simp only[D0,DM,w,y];rw[Z8 T.key k b.toList _ h A B d];simp only[D0,ZO];have p:((b[j]?).map (·.key)).getD (.string k)=.string k:=by
  have:b[j]?=Td e:=ψ q
  rw[this];exact C
 rw[p];have F:zcn (.string k) (.string k)=pure (.string k):=by unfold zcn;rw[zi (by show(k==k)=Ta;simp)]
 simp_all;simp_all
end
section
variable {h h':zb} {b n o:Nat} {cs:Array Value} {v:Value} {P:EM}
def Blk(h:zb)(b:Nat)(cs:Array Value):Prop:=∃T,h[b]?=Td (.cells cs T (0,0))
theorem Blk.aa1(H:Blk h b cs)(k:h'[b]?=h[b]?):Blk h' b cs:=by have⟨T,e⟩:=H;exact⟨T,k.trans e⟩
theorem Blk.keepN(H:Blk h b cs)(k:Bk n h h')(c:b<n):Blk h' b cs:=H.aa1 (k.get b c)
theorem Blk.new(h:zb)(cs:ab3)(T:N4):Blk (h.push (.cells cs T)) h.size cs:=⟨T,jc _ _⟩
def yp{h g:zb}{T:N4}(e:g=h.push (.cells cs T)):Bk h.size h g/\g.size=h.size+1/\Blk g h.size cs:=by subst e;exact⟨Bk.push _ _ (YJ _),Array.size_push _,Blk.new _ _ _⟩
theorem Blk.lt(H:Blk h b cs):b<h.size:=by have⟨T,e⟩:=H;grind
theorem Blk.cell(H:Blk h b cs)(c:cs[o]?=Td v):zd h ⟨b,o,Te⟩=Td v:=by have⟨T,e⟩:=H;unfold zd;simp[e,c]
theorem Blk.aa2{b o k:Nat}(H:Blk h b cs)(c:cs[o+k]?=Td v):zd h ((⟨b,o,Te⟩:n8).add k)=Td v:=by rw[zl];exact H.cell c
theorem Blk.ld{cs:ab2}(H:Blk h b cs.toArray):zc h ⟨b,0,Te⟩ 0 cs:=by
 have key:∀(l:ab2) (i:Nat),(∀j v,l[j]?=Td v->cs[i+j]?=Td v)->zc h ⟨b,0,Te⟩ i l:=by
  intro l;induction l with
  |nil=>intro i _;trivial
  |cons v l c=>intro i hi;refine⟨?_,c (i+1) λj u e=>?_⟩;rw[zl,ZO];exact H.cell (by have:=hi 0 v rfl;grind);have:=hi (j+1) u (ψ e);grind
 simp_all
theorem Bk.setBlk(o:Obj)(c:n<=b):Bk n h (h.setIfInBounds b o):= ⟨ξ,λi hi=>η⟩
def xN(H:Blk h b cs)(B:MN)(d:Nat):(mk B d h).frozen? ⟨b,o,Te⟩=Tc:=by have⟨T,e⟩:=H;have:(mk B d h).heap[b]?=Td (.cells cs T (0,0)):=e;simp[World.frozen?,this]
theorem AN{T:N4}(e:h[b]?=Td (.cells cs T (0,0)))(l:o<cs.size)(f:v.oneCell'=Ta)(B:MN)(d:Nat):(store ⟨b,o,Te⟩ v).run P (mk B d h)=.ok () (mk B d (h.setIfInBounds b (.cells (cs.setIfInBounds o v) T (0,0)))):=by
 have m:(mk B d h).cell? ⟨b,o,Te⟩=Td cs[o]:=Blk.cell (h:=h) ⟨T,e⟩ (ϑ l);have k:=xN (o:=o) (⟨T,e⟩:Blk h b cs) B d;have c:(mk B d h).setCell ⟨b,o,Te⟩ v=mk B d (h.setIfInBounds b (.cells (cs.setIfInBounds o v) T (0,0))):=by unfold World.setCell mk;simp only;congr 1;have n:b<h.size:=(YZ.1 e).1;apply Array.ext_getElem?;intro i;rw[Array.getElem?_modify];by_cases hi:i=b;simp_all;grind
 cases v with
 |agg x=>simp[i2]at f
 |tuple x=>simp[i2]at f
 |_=>simp only[store,Sem.run,m,k,zaq,if_false,c]
theorem cells_one(b:v.oneCell'=Ta):v.cells=#[v]:=by cases v <;> first|rfl|simp[i2]at b
def qj{t:N4}(hi:qq P t=Ta)(l:jk P t=1)(H:Blk h b cs)(f:o<cs.size)(c:v.oneCell'=Ta){K:zb->Prop}(n:∀h':zb,Blk h' b (cs.setIfInBounds o v)->h'.size=h.size->(∀i,i≠b->h'[i]?=h[i]?)->K h'):wf P (YI t (.pointer (Td ⟨b,o,Te⟩)) v) h K:=by
 have⟨T,e⟩:=H;have k:b<h.size:=(YZ.1 e).1;intro B d;refine⟨d,_,?_,n (h.setIfInBounds b (.cells (cs.setIfInBounds o v) T (0,0))) ⟨T,ϑ k⟩ ξ λi hi=>η⟩;have p:=At.sizeOf (P:=P) (h:=h) (wu hi).choose_spec B d;unfold YI zdb;simp only[DM,DQ,D0];unfold storeVar;rw[DM,p];simp only[D0];rw[l,cells_one c];simp only[List.size_toArray,YU,ZW,ZO,ne_eq,not_true_eq_false,if_false];show Sem.run P (storeCells ⟨b,o,Te⟩ [v]) _=_;unfold storeCells;rw[DM];have m:(⟨b,o,Te⟩:n8).add 0=⟨b,o,Te⟩:=by rw[zl];rfl
 rw[m,AN e f c B d];rfl
def Ju{P:EM}{b:Nat}{T:N4}(B:MN)(d:Nat):∀(vs:ab2) (i:Nat) (h:zb) (cs:ab3),h[b]?=Td (.cells cs T (0,0))->i+DB vs<=cs.size->(∀v∈vs,v.oneCell'=Ta) ->∃h',(storeCells ⟨b,0,Te⟩ vs i).run P (mk B d h)=.ok () (mk B d h')/\h'[b]?=Td (.cells (cs.toList.take i++vs++cs.toList.drop (i+DB vs)).toArray T (0,0))/\h'.size=h.size/\∀j,j≠b->h'[j]?=h[j]?
 |[],i,h,cs,e,_,_=>⟨h,rfl,ψ e,rfl,λ_ _=>rfl⟩
 |v::vs,i,h,cs,e,hl,hv=>by
  have l:b<h.size:=(YZ.1 e).1;simp only[YU]at hl;have h1:=AN (P:=P) e (o:=i) ω (hv v ZD) B d;have e':(h.setIfInBounds b (.cells (cs.setIfInBounds i v) T (0,0)))[b]?=Td (.cells (cs.setIfInBounds i v) T (0,0)):=ϑ l
  have c:i+1+DB vs<=(cs.setIfInBounds i v).size:=by rw[Array.size_setIfInBounds];omega
  have⟨h',n,m,f,p⟩:=Ju (P:=P) B d vs (i+1) (h.setIfInBounds b (.cells (cs.setIfInBounds i v) T (0,0))) (cs.setIfInBounds i v) e' c λu k=>hv u (ZA _ k);refine⟨h',?_,?_,υ f,λj q=>η⟩;unfold storeCells;rw[DM,zl,ZO,h1];simp_all;rw[m];congr 3;have hi:i<DB cs.toList:=φ
  simp only[Array.toList_setIfInBounds,YU];rw[List.take_set,List.drop_set_of_lt ω];have r:(cs.toList.take (i+1)).set i v=cs.toList.take i++[v]:=by
   rw[YP hi,List.set_append_right _ _ φ];have:i-(cs.toList.take i).length=0:=φ
   rw[this];rfl
  grind
theorem DP.base{h:zb}{base b:Nat}{e:N4}{sz:Nat}{s:Sl}{xs:ab2}(H:DP h base e sz s xs)(k:b<=base):DP h b e sz s xs:=by refine⟨H.1,?_⟩;obtain l|⟨g,cap,c,f,i,rest⟩:=H.2;grind;exact .inr ⟨g,cap,c,f,ω,rest⟩
end
end
section
variable {cs:List Value}
inductive Tr where
 |mk (Wf:Int) (aa0:Bt) (XK:List Bt) (WT:List Tr)
namespace Tr
@[reducible] def Wf:Tr->Int|mk k _ _ _=>k
@[reducible] def aa0:Tr->Bt|mk _ s _ _=>s
@[reducible] def XK:Tr->List Bt|mk _ _ ks _=>ks
@[reducible] def WT:Tr->List Tr|mk _ _ _ xs=>xs
@[simp] theorem rO(t:Tr):mk t.Wf t.aa0 t.XK t.WT=t:=by cases t;rfl
instance:Inhabited Tr:=⟨mk 0 ⟨#[]⟩ [] []⟩
end Tr
inductive Ty where
 |int (k:IntKind)|bool|str|row (t:Ty)|tree|unit|pair (a b:Ty)|ptr (t:Ty)|iter|err
 deriving DecidableEq
abbrev q0:Ty:=.int .i64
@[reducible] def El:Ty->Type
 |.int _=>Int
 |.bool=>Bool
 |.str=>Bt
 |.row t=>List (El t)
 |.tree=>Tr
 |.unit=>Unit
 |.pair a b=>El a×El b
 |.ptr t=>El t
 |.iter=>Bt×Nat
 |.err=>Bool
def pt:(t:Ty)->El t
 |.int _=>(0:Int)
 |.bool=>Tc
 |.str=>(⟨#[]⟩:Bt)
 |.row _=>[]
 |.tree=>default
 |.unit=>()
 |.pair a b=>(pt a,pt b)
 |.ptr t=>pt t
 |.iter=>(⟨#[]⟩,0)
 |.err=>Ta
def sz:Ty->Nat
 |.tree=>4
 |.unit=>0
 |.pair a b=>sz a+sz b
 |_=>1
abbrev Fr:=Nat->Option (Array Value)
def Fr.le(M M':Fr):Prop:=∀b cs,M b=Td cs->M' b=Td cs
theorem Fr.le.refl(M:Fr):Fr.le M M:=λ_ _ h=>h
theorem Fr.le.trans{a b c:Fr}(h:Fr.le a b)(k:Fr.le b c):Fr.le a c:=λ_ _ e=>k _ _ (h _ _ e)
def cut(cs:Array Value)(o n:Nat):List Value:=(cs.toList.drop o).take n
def RowAt(M:Fr){α:Type}(R:α->List Value->Prop)(z:Nat)(xs:List α)(v:Value):Prop:=
 ∃a c,v=.slice a xs.length c/\(xs.length<=140737488355328/\xs.length<=c)/\(xs=[]\/∃b o cs,a=Td ⟨b,o,Te⟩/\M b=Td cs/\∀i (h:i<xs.length),R xs[i] (cut cs (o+i*z) z))
inductive Rj (M:Fr):Tr->List Value->Prop where
 |mk {k:Int} {s:Bt} {ks:List Bt} {xs:List Tr} {vk:Value} {a:Option n8} {c b o:Nat} {cs:Array Value}
  (hk:RowAt M (λs cs=>cs=[.string s]) 1 ks vk) (hn:xs.length<=140737488355328/\xs.length<=c) (hz:xs=[]\/(a=Td ⟨b,o,Te⟩/\M b=Td cs))
  (hi:∀i (h:i<xs.length),Rj M xs[i] (cut cs (o+i*4) 4)):Rj M (.mk k s ks xs) [.int .i64 k,.string s,vk,.slice a xs.length c]
def Z9(s:Bt)(p:Nat):Value:=.iface 0 (.agg #[.string s,.int .i64 p])
def Rd(M:Fr):(t:Ty)->El t->List Value->Prop
 |.int k,i,cs=>cs=[.int k i]
 |.bool,b,cs=>cs=[.bool b]
 |.str,s,cs=>cs=[.string s]
 |.row t,xs,cs=>∃v,cs=[v]/\RowAt M (Rd M t) (sz t) xs v
 |.tree,t,cs=>Rj M t cs
 |.unit,_,cs=>cs=[]
 |.pair a b,x,cs=>∃c1 c2,cs=c1++c2/\Rd M a x.1 c1/\Rd M b x.2 c2
 |.ptr t,x,cs=>∃b o c,cs=[.pointer (Td ⟨b,o,Te⟩)]/\M b=Td c/\Rd M t x (cut c o (sz t))
 |.iter,x,cs=>cs=[Z9 x.1 x.2]
 |.err,b,cs=>∃v,cs=[v]/\((b=Ta/\v=.nilIface)\/(b=Tc/\∃t u,v=.iface t u))
theorem RowAt.mono{M M':Fr}(k:Fr.le M M'){α:Type}{R f:α->List Value->Prop}{z:Nat}{xs:List α}{v:Value}(H:RowAt M R z xs v)(p:∀x∈xs,∀cs,R x cs->f x cs):RowAt M' f z xs v:=by have⟨a,c,e,m,h⟩:=H;refine⟨a,c,e,m,h.imp id ?_⟩;rintro⟨b,o,cs,n,q,l⟩;exact⟨b,o,cs,n,k _ _ q,λi h=>p _ (List.getElem_mem _) _ (l i h)⟩
theorem Rj.mono{M M':Fr}(b:Fr.le M M'){t:Tr}(H:Rj M t cs):Rj M' t cs:=by
 induction H with
 |mk c f i _ e=>exact .mk (c.mono b λ_ _ _ h=>h) f (i.imp id λh=>⟨h.1,b _ _ h.2⟩) e
theorem Rd.mono{M M':Fr}(c:Fr.le M M'):∀{t:Ty} {x:El t} {cs:ab2},Rd M t x cs->Rd M' t x cs
 |.int _,_,_,h=>h
 |.bool,_,_,h=>h
 |.str,_,_,h=>h
 |.row _,_,_,⟨v,e,h⟩=>⟨v,e,h.mono c λ_ _ _ h=>Rd.mono c h⟩
 |.tree,_,_,h=>Rj.mono c h
 |.unit,_,_,h=>h
 |.pair _ _,_,_,⟨c1,c2,e,h1,h2⟩=>⟨c1,c2,e,Rd.mono c h1,Rd.mono c h2⟩
 |.ptr _,_,_,⟨b,o,cc,e,h1,h2⟩=>⟨b,o,cc,e,c _ _ h1,Rd.mono c h2⟩
 |.iter,_,_,h=>h
 |.err,_,_,h=>h
theorem Rd.len{M:Fr}:∀{t:Ty} {x:El t} {cs:ab2},Rd M t x cs->DB cs=sz t
 |.int _,_,_,h=>by rw[h];rfl
 |.bool,_,_,h=>by rw[h];rfl
 |.str,_,_,h=>by rw[h];rfl
 |.row t,_,_,⟨v,e,_⟩=>by rw[e];rfl
 |.tree,_,_,h=>by cases h;rfl
 |.unit,_,_,h=>by rw[h];rfl
 |.pair _ _,_,_,⟨c1,c2,e,h1,h2⟩=>by rw[e,YM,Rd.len h1,Rd.len h2];rfl
 |.ptr _,_,_,⟨b,o,cc,e,_⟩=>by rw[e];rfl
 |.iter,_,_,h=>by rw[h];rfl
 |.err,_,_,⟨v,e,_⟩=>by rw[e];rfl
theorem Rd.one{M:Fr}:∀{t:Ty} {x:El t} {cs:ab2},Rd M t x cs->∀v∈cs,v.oneCell'=Ta
 |.int _,_,_,h=>by rw[h];simp[i2]
 |.bool,_,_,h=>by rw[h];simp[i2]
 |.str,_,_,h=>by rw[h];simp[i2]
 |.row t,_,_,⟨v,e,a,c,e2,_⟩=>by rw[e,e2];simp[i2]
 |.tree,_,_,h=>by
  cases h with
  |mk i _ _ _=>have⟨a,c,e,_⟩:=i;rw[e];simp[i2]
 |.unit,_,_,h=>by rw[h];simp
 |.pair _ _,_,_,⟨c1,c2,e,h1,h2⟩=>by intro v f;rw[e]at f;obtain f|f:=ZF.1 f;exact Rd.one h1 v f;exact Rd.one h2 v f
 |.ptr _,_,_,⟨b,o,cc,e,_⟩=>by rw[e];simp[i2]
 |.iter,_,_,h=>by rw[h];simp[i2,Z9]
 |.err,_,_,⟨v,e,h⟩=>by rw[e];obtain⟨_,rfl⟩|⟨_,t,u,rfl⟩:=h <;> simp[i2]
theorem Rj.XK{M:Fr}{t:Tr}(H:Rj M t cs):∃e f,cs=[.int .i64 t.Wf,.string t.aa0,e,f]/\Rd M (.row .str) t.XK [e]/\Rd M (.row .tree) t.WT [f]:=by
 cases H with
 | @mk k s ks xs e a c b o cs hk hn hz hi=>exact⟨e,_,rfl,⟨e,rfl,hk⟩,⟨_,rfl,a,c,rfl,hn,hz.imp id λh=>⟨b,o,cs,h.1,h.2,hi⟩⟩⟩
theorem Rj.of{M:Fr}{k:Int}{s:Bt}{ks:List Bt}{xs:List Tr}{l n:Value}(h1:Rd M (.row .str) ks [l])(h2:Rd M (.row .tree) xs [n]):Rj M (.mk k s ks xs) [.int .i64 k,.string s,l,n]:=by
 obtain⟨v,e,h1⟩:=h1;obtain⟨r,e',a,c,f,m,h2⟩:=h2;cases e;cases e';subst f;obtain rfl|⟨b,o,cs,q,f,p⟩:=h2;exact .mk (b:=0) (o:=0) (cs:=#[]) h1 m (.inl rfl) λi h=>absurd h ξ
 exact .mk h1 m (.inr ⟨q,f⟩) p
def Bd:(t:Ty)->El t->Prop
 |.row _,xs=>xs.length<=140737488355328
 |.tree,t=>t.XK.length<=140737488355328/\t.WT.length<=140737488355328
 |.pair a b,x=>Bd a x.1/\Bd b x.2
 |_,_=>True
theorem Rd.bd{M:Fr}:∀{t:Ty} {x:El t} {cs:ab2},Rd M t x cs->Bd t x
 |.int _,_,_,_=>trivial
 |.bool,_,_,_=>trivial
 |.str,_,_,_=>trivial
 |.row t,_,_,⟨v,_,a,c,_,h,_⟩=>h.1
 |.tree,_,_,h=>by
  cases h with
  |mk b f _ _=>have⟨a,c,e,h,_⟩:=b;exact⟨h.1,f.1⟩
 |.unit,_,_,_=>trivial
 |.pair _ _,_,_,⟨_,_,_,h1,h2⟩=>⟨Rd.bd h1,Rd.bd h2⟩
 |.ptr _,_,_,_=>trivial
 |.iter,_,_,_=>trivial
 |.err,_,_,_=>trivial
inductive AA where
 |v (x:Value)
 |d (t:Ty) (x:El t)
 |box (c o:Nat)
 |own (c:Nat)
 |oelt (c z:Nat) (i:Nat) (o:Nat)
 |elt (t:Ty) (x:El t) (o:Nat)
 |dc (t:Ty) (xs:List (El t))
inductive AG where
 |a (x:AA)
 |agg (l:List AA)
inductive AV where
 |g (x:AG)
 |tup (l:List AG)
 |nx (b:Bool) (p:Int) (c:Int)
structure Gh where
 M:Fr
 β:Nat->Nat
 σ:Nat->Sl
def DA{α β:Type}(R:α->β->Prop):List α->List β->Prop
 |[],[]=>True
 |x::xs,y::ys=>R x y/\DA R xs ys
 |_,_=>False
def aK(s:Sl):Value:=.slice s.a s.len s.cap
abbrev iV(x : Int): Value := .int .i64 x
abbrev tA(a : Int)(b : Bt)(c d : Sl): Value := .agg #[.int .i64 a, .string b, aK c, aK d]
abbrev tL(a : Int)(b : Bt)(c d : Sl): List Value := [.int .i64 a, .string b, aK c, aK d]
abbrev tC: Array Value := #[.int .i64 0, .string ⟨#[]⟩, .slice Te 0 0, .slice Te 0 0]
abbrev tZ: Value := .agg tC
def CD(γ:Gh):AA->Value->Prop
 |.v x,u=>u=x
 |.d t x,u=>Rd γ.M t x [u]
 |.box c o,u=>u=.pointer (Td ⟨γ.β c,o,Te⟩)
 |.own c,u=>u=aK (γ.σ c)
 |.oelt c z i o,u=>∃g,(γ.σ c).a=Td ⟨g,0,Te⟩/\u=.pointer (Td ⟨g,i*z+o,Te⟩)
 |.elt t x o,u=>∃b f cs,u=.pointer (Td ⟨b,f+o,Te⟩)/\γ.M b=Td cs/\Rd γ.M t x (cut cs f (sz t))
 |.dc t xs,u=>∃s:Sl,u=aK s/\s.cap=s.len/\Rd γ.M (.row t) xs [u]
def MT(γ:Gh):AG->Value->Prop
 |.a x,u=>CD γ x u
 |.agg l,u=>∃us,u=.agg us.toArray/\DA (CD γ) l us
def DE(γ:Gh):AV->Value->Prop
 |.g x,u=>MT γ x u
 |.tup l,u=>∃us,u=.tuple us.toArray/\DA (MT γ) l us
 |.nx b p c,u=>(b=Ta->u=.tuple #[.bool Ta,.int .i64 p,.int .i32 c])/\(b=Tc->u=.tuple #[.bool Tc])
theorem DA.length{α β:Type}{R:α->β->Prop}:∀{l:List α} {m:List β},DA R l m->DB l=DB m
 |[],[],_=>rfl
 |[],_::_,h=>h.elim
 |_::_,[],h=>h.elim
 |_::_,_::_,h=>by simp[DA.length h.2]
theorem DA.imp{α β:Type}{R b:α->β->Prop}:∀{l:List α} {m:List β},DA R l m->(∀x∈l,∀y,R x y->b x y)->DA b l m
 |[],[],_,_=>trivial
 |[],_::_,h,_=>h.elim
 |_::_,[],h,_=>h.elim
 |_::_,_::_,h,k=>⟨k _ ZD _ h.1,DA.imp h.2 λx e y c=>k x (ZA _ e) y c⟩
theorem DA.append{α β:Type}{R:α->β->Prop}:∀{l b:List α} {m m':List β},DA R l m->DA R b m'->DA R (l++b) (m++m')
 |[],_,[],_,_,h=>h
 |[],_,_::_,_,h,_=>h.elim
 |_::_,_,[],_,h,_=>h.elim
 |_::_,_,_::_,_,h,k=>⟨h.1,DA.append h.2 k⟩
theorem DA.take{α β:Type}{R:α->β->Prop}:∀(n:Nat) {l:List α} {m:List β},DA R l m->DA R (l.take n) (m.take n)
 |0,_,_,_=>by simp[DA]
 |_+1,[],[],_=>trivial
 |_+1,[],_::_,h=>h.elim
 |_+1,_::_,[],h=>h.elim
 |n+1,_::_,_::_,h=>⟨h.1,DA.take n h.2⟩
theorem DA.drop{α β:Type}{R:α->β->Prop}:∀(n:Nat) {l:List α} {m:List β},DA R l m->DA R (l.drop n) (m.drop n)
 |0,_,_,h=>ψ h
 |_+1,[],[],_=>trivial
 |_+1,[],_::_,h=>h.elim
 |_+1,_::_,[],h=>h.elim
 |n+1,_::_,_::_,h=>ψ (DA.drop n h.2)
theorem DA.get{α β:Type}{R:α->β->Prop}:∀{l:List α} {m:List β} {i:Nat} {x:α},DA R l m->l[i]?=Td x->∃y,m[i]?=Td y/\R x y
 |[],[],_,_,_,h=>by simp at h
 |[],_::_,_,_,h,_=>h.elim
 |_::_,[],_,_,h,_=>h.elim
 |_::_,y::_,0,_,h,e=>by simp at e;subst e;exact⟨y,rfl,h.1⟩
 |_::_,_::_,i+1,_,h,e=>ψ (DA.get h.2 (by simpa using e))
def Wj:(t:Ty)->El t->List AA
 |.int k,i=>[.v (.int k i)]
 |.bool,b=>[.v (.bool b)]
 |.str,s=>[.v (.string s)]
 |.row t,xs=>[.d (.row t) xs]
 |.tree,t=>[.v (.int .i64 t.Wf),.v (.string t.aa0),.d (.row .str) t.XK,.d (.row .tree) t.WT]
 |.unit,_=>[]
 |.pair a b,x=>Wj a x.1++Wj b x.2
 |.ptr t,x=>[.elt t x 0]
 |.iter,x=>[.d .iter x]
 |.err,x=>[.d .err x]
def xz{γ:Gh}:∀{t:Ty} {x:El t} {cs:ab2},Rd γ.M t x cs->DA (CD γ) (Wj t x) cs
 |.int _,_,_,h=>by rw[h];exact⟨rfl,trivial⟩
 |.bool,_,_,h=>by rw[h];exact⟨rfl,trivial⟩
 |.str,_,_,h=>by rw[h];exact⟨rfl,trivial⟩
 |.row t,_,_,⟨v,e,h⟩=>by rw[e];exact⟨⟨v,rfl,h⟩,trivial⟩
 |.tree,_,_,h=>by have⟨c,f,e,h1,h2⟩:=Rj.XK h;rw[e];exact⟨rfl,rfl,h1,h2,trivial⟩
 |.unit,_,_,h=>by rw[h];trivial
 |.pair _ _,_,_,⟨c1,c2,e,h1,h2⟩=>by rw[e];exact(xz h1).append (xz h2)
 |.ptr t,x,_,⟨b,o,cc,e,h1,h2⟩=>by rw[e];exact⟨⟨b,o,cc,rfl,h1,h2⟩,trivial⟩
 |.iter,x,_,h=>by rw[h];exact⟨rfl,trivial⟩
 |.err,x,_,⟨v,e,h⟩=>by rw[e];exact⟨⟨v,rfl,h⟩,trivial⟩
def lF:Ty->Bool
 |.iter=>Ta
 |.err=>Ta
 |.pair a b=>bif lF a then Ta else lF b
 |_=>Tc
theorem Rd.noIt{M:Fr}:∀{t:Ty} {x:El t} {cs:ab2},lF t=Tc->Rd M t x cs->∀s p,Z9 s p∉cs
 |.int _,_,_,_,h,s,p=>by rw[h];simp[Z9]
 |.bool,_,_,_,h,s,p=>by rw[h];simp[Z9]
 |.str,_,_,_,h,s,p=>by rw[h];simp[Z9]
 |.row t,_,_,_,⟨v,e,a,c,e2,_⟩,s,p=>by rw[e,e2];simp[Z9]
 |.tree,_,_,_,h,s,p=>by
  cases h with
  |mk i _ _ _=>have⟨a,c,e,_⟩:=i;rw[e];simp[Z9]
 |.unit,_,_,_,h,s,p=>by rw[h];simp
 |.pair a b,_,_,hi,⟨c1,c2,e,h1,h2⟩,s,p=>by
  simp only[lF]at hi;cases ha:lF a with
  |true=>simp_all
  |false=>rw[ha]at hi;rw[e];intro f;obtain f|f:=ZF.1 f;exact Rd.noIt ha h1 s p f;exact Rd.noIt hi h2 s p f
 |.ptr _,_,_,_,⟨b,o,cc,e,_⟩,s,p=>by rw[e];simp[Z9]
 |.iter,_,_,hi,_,_,_=>by cases hi
 |.err,_,_,hi,_,_,_=>by cases hi
def gK:List AA->Bool
 |[.d t _]=>lF t
 |[.v (.iface _ _)]=>Ta
 |_=>Tc
theorem qT{γ:Gh}{l:List AA}{us:ab2}(h:gK l=Tc)(k:DA (CD γ) l us)(s:Bt)(p:Nat):us≠[Z9 s p]:=by
 intro e;subst e
 match l,k with
 |[x],k=>
  cases x with
  |v y=>rw[<-show Z9 s p=y from k.1]at h;simp[gK,Z9]at h
  |d t y=>exact Rd.noIt (show lF t=Tc from h) (show Rd γ.M t y [Z9 s p]from k.1) s p ξ
  |box c o=>have:Z9 s p=_:=k.1;simp[Z9]at this
  |own c=>have:Z9 s p=_:=k.1;simp[Z9,aK]at this
  |oelt c z i o=>have⟨g,_,e⟩:=k.1;simp[Z9]at e
  |elt t y o=>have⟨b,f,cs,e,_⟩:=k.1;simp[Z9]at e
  |dc t xs=>have⟨m,e,_⟩:=k.1;simp[Z9,aK]at e
 |[],k=>cases k
 |_::_::_,k=>exact k.2.elim
inductive Ch where
 |box (l:List AA)
 |row (e:N4) (t:Ty) (xs:List (El t))
 |fz (t:Ty) (xs:List (El t))
abbrev CS:=List (Nat×Ch)
def Wk:CS->Nat->Option Ch
 |[],_=>Te
 |(j,k)::l,i=>bif gc i j then Td k else Wk l i
theorem qm{l:CS}{i:Nat}{k:Ch}(h:Wk l i=Td k):(i,k)∈l:=by
 induction l with
 |nil=>cases h
 |cons x l b=>have⟨j,e⟩:=x;simp only[Wk]at h;by_cases c:gc i j=Ta;simp_all;simp_all
def Y8(t t':Ty)(x:El t):Option (El t'):=if h:t=t' then Td (h ▸ x)else Te
def Xh{M:Fr}{t t':Ty}{x:El t}{y:El t'}(h:Y8 t t' x=Td y)(r:Rd M t x cs):Rd M t' y cs:=by unfold Y8 at h;grind
def i4(cs:CS):(t:Ty)->AA->Option (El t)
 |.int k,.v (.int k' i)=>if k=k' then Td i else Te
 |.bool,.v (.bool b)=>Td b
 |.str,.v (.string s)=>Td s
 |.row t,.v (.slice Te 0 0)=>Td ([]:List (El t))
 |.row t,.d t' x=>Y8 t' (.row t) x
 |.row t,.dc t' x=>Y8 (.row t') (.row t) x
 |.row t,.own c=>match Wk cs c with
  |some (.fz t' xs)=>Y8 (.row t') (.row t) xs
  |_=>Te
 |.ptr t,.elt t' x 0=>Y8 t' t x
 |.ptr t,.d t' x=>Y8 t' (.ptr t) x
 |.iter,.d t' x=>Y8 t' .iter x
 |.err,.d t' x=>Y8 t' .err x
 |.err,.v .nilIface=>Td Ta
 |.err,.v (.iface _ _)=>Td Tc
 |_,_=>Te
def collect(cs:CS):(t:Ty)->List AA->Option (El t×List AA)
 |.unit,l=>Td ((),l)
 |.pair a b,l=>match collect cs a l with
  |some (x,l')=>match collect cs b l' with
   |some (y,l'')=>Td ((x,y),l'')
   |none=>Te
  |none=>Te
 |.tree,k::s::ks::xs::l=>match i4 cs (.int .i64) k,i4 cs .str s,i4 cs (.row .str) ks,i4 cs (.row .tree) xs with
  |some k,Td s,Td ks,some xs=>Td (Tr.mk k s ks xs,l)
  |_,_,_,_=>Te
 |.tree,_=>Te
 |t,x::l=>match i4 cs t x with
  |some y=>Td (y,l)
  |none=>Te
 |_,[]=>Te
def i8(γ:Gh)(cs:CS):Prop:=∀c t xs,(c,Ch.fz t xs)∈cs->Rd γ.M (.row t) xs [aK (γ.σ c)]
def wm{γ:Gh}{cs:CS}(k:i8 γ cs){t:Ty}{x:AA}{y:El t}(h:i4 cs t x=Td y){u:Value}(c:CD γ x u):Rd γ.M t y [u]:=by unfold i4 at h;split at h;split at h;rename_i l;simp only[YK]at h;subst h;subst l;exact congrArg (λu=>[u]) c;cases h;simp only[YK]at h;subst h;exact congrArg (λu=>[u]) c;simp only[YK]at h;subst h;exact congrArg (λu=>[u]) c;simp only[YK]at h;subst h;exact⟨u,rfl,Te,0,c,ξ,.inl rfl⟩;exact Xh h c;have⟨s,_,_,c⟩:=c;exact Xh h c;split at h;rename_i t' xs i;rw[show u=_ from c];exact Xh h (k _ _ _ (qm i));cases h;rename_i t t' x;have⟨b,f,a,e,h1,h2⟩:=c;exact⟨b,f,a,π e,h1,by unfold Y8 at h;grind⟩;exact Xh h c;exact Xh h c;exact Xh h c;simp only[YK]at h;subst h;exact⟨u,rfl,.inl ⟨rfl,c⟩⟩;rename_i t' m;simp only[YK]at h;subst h;exact⟨u,rfl,.inr ⟨rfl,_,_,c⟩⟩;cases h
def Wl{γ:Gh}{cs:CS}(e:i8 γ cs):∀{t:Ty} {l f:List AA} {y:El t},collect cs t l=Td (y,f)->∀{us:ab2},DA (CD γ) l us->∃c1 c2,us=c1++c2/\Rd γ.M t y c1/\DA (CD γ) f c2
 |.unit,l,f,y,h,us,hu=>by simp only[collect,YK,za5]at h;obtain⟨_,rfl⟩:=h;exact⟨[],us,rfl,rfl,hu⟩
 |.pair a b,l,f,y,h,us,hu=>by simp only[collect]at h;split at h;rename_i x J h1;split at h;rename_i z L h2;simp only[YK,za5]at h;obtain⟨rfl,rfl⟩:=h;obtain⟨c1,c2,rfl,m,o⟩:=Wl e h1 hu;obtain⟨c3,I,rfl,i,n⟩:=Wl e h2 o;exact⟨c1++c3,I,ξ,⟨c1,c3,rfl,m,i⟩,n⟩;cases h;cases h
 |.tree,l,f,y,h,us,hu=>by
  match l,us,hu,h with
  |k::s::ks::xs::l,u1::u2::u3::u4::us,hu,h=>simp only[collect]at h;split at h;rename_i C p w r h1 h2 F A;simp only[YK,za5]at h;obtain⟨rfl,rfl⟩:=h;have⟨B,d2,q,G,E⟩:=hu;have m:=wm e h1 B;have o:=wm e h2 d2;have i:=wm e F q;have n:=wm e A G;refine⟨[u1,u2,u3,u4],us,rfl,?_,E⟩;have H:[u1]=[zad .i64 C]:=m;have D:[u2]=[ZS p]:=o;cases H;cases D;exact Rj.of i n;cases h
  |[],_,_,h=>simp[collect]at h
  |[_],_,_,h=>simp[collect]at h
  |[_,_],_,_,h=>simp[collect]at h
  |[_,_,_],_,_,h=>simp[collect]at h
  |_::_::_::_::_,[],hu,_=>cases hu
  |_::_::_::_::_,[_],hu,_=>exact hu.2.elim
  |_::_::_::_::_,[_,_],hu,_=>exact hu.2.2.elim
  |_::_::_::_::_,[_,_,_],hu,_=>exact hu.2.2.2.elim
 |.int k,x::l,f,y,h,u::us,hu=>by simp only[collect]at h;split at h;rename_i z c;simp only[YK,za5]at h;obtain⟨rfl,rfl⟩:=h;exact⟨[u],us,rfl,wm e c hu.1,hu.2⟩;cases h
 |.bool,x::l,f,y,h,u::us,hu=>by simp only[collect]at h;split at h;rename_i z c;simp only[YK,za5]at h;obtain⟨rfl,rfl⟩:=h;exact⟨[u],us,rfl,wm e c hu.1,hu.2⟩;cases h
 |.str,x::l,f,y,h,u::us,hu=>by simp only[collect]at h;split at h;rename_i z c;simp only[YK,za5]at h;obtain⟨rfl,rfl⟩:=h;exact⟨[u],us,rfl,wm e c hu.1,hu.2⟩;cases h
 |.row _,x::l,f,y,h,u::us,hu=>by simp only[collect]at h;split at h;rename_i z c;simp only[YK,za5]at h;obtain⟨rfl,rfl⟩:=h;exact⟨[u],us,rfl,wm e c hu.1,hu.2⟩;cases h
 |.ptr _,x::l,f,y,h,u::us,hu=>by simp only[collect]at h;split at h;rename_i z c;simp only[YK,za5]at h;obtain⟨rfl,rfl⟩:=h;exact⟨[u],us,rfl,wm e c hu.1,hu.2⟩;cases h
 |.iter,x::l,f,y,h,u::us,hu=>by simp only[collect]at h;split at h;rename_i z c;simp only[YK,za5]at h;obtain⟨rfl,rfl⟩:=h;exact⟨[u],us,rfl,wm e c hu.1,hu.2⟩;cases h
 |.iter,_::_,_,_,_,[],hu=>hu.elim
 |.iter,[],_,_,h,_,_=>by simp[collect]at h
 |.err,x::l,f,y,h,u::us,hu=>by simp only[collect]at h;split at h;rename_i z c;simp only[YK,za5]at h;obtain⟨rfl,rfl⟩:=h;exact⟨[u],us,rfl,wm e c hu.1,hu.2⟩;cases h
 |.err,_::_,_,_,_,[],hu=>hu.elim
 |.err,[],_,_,h,_,_=>by simp[collect]at h
 |.int _,_::_,_,_,_,[],hu=>hu.elim
 |.bool,_::_,_,_,_,[],hu=>hu.elim
 |.str,_::_,_,_,_,[],hu=>hu.elim
 |.row _,_::_,_,_,_,[],hu=>hu.elim
 |.ptr _,_::_,_,_,_,[],hu=>hu.elim
 |.int _,[],_,_,h,_,_=>by simp[collect]at h
 |.bool,[],_,_,h,_,_=>by simp[collect]at h
 |.str,[],_,_,h,_,_=>by simp[collect]at h
 |.row _,[],_,_,h,_,_=>by simp[collect]at h
 |.ptr _,[],_,_,h,_,_=>by simp[collect]at h
end
section
section
variable {M M':Fr} {h h':zb} {b c o n0:Nat} {γ γ':Gh} {us:List Value} {u:Value} {t:Ty} {cs C R:CS} {e:N4}
def AgM(M:Fr)(h:zb):Prop:=∀b c,M b=Td c->∃T m,h[b]?=Td (.cells c T m)
theorem AgM.lt(H:AgM M h){c:ab3}(e:M b=Td c):b<h.size:=by have⟨T,m,e'⟩:=H b c e;grind
theorem AgM.none{M:Fr}{h:zb}(H:AgM M h){b:Nat}(f:h.size<=b):M b=Te:=by
 cases e:M b with
 |none=>rfl
 |some c=>have:=H.lt e;omega
theorem AgM.cell(H:AgM M h){c:ab3}{v:Value}(e:M b=Td c)(f:c[o]?=Td v):zd h ⟨b,o,Option.none⟩=Td v:=by have⟨T,m,e'⟩:=H b c e;unfold zd;simp[e',f]
def Gx(c:Option Nat)(γ γ':Gh):Prop:=Fr.le γ.M γ'.M/\∀i,c≠Td i->γ'.β i=γ.β i/\γ'.σ i=γ.σ i
theorem Gx.refl(c:ac3)(γ:Gh):Gx c γ γ:=⟨Fr.le.refl _,λ_ _=>⟨rfl,rfl⟩⟩
def kq(c:Nat):AA->Bool
 |.box j _=>gc j c
 |.own j=>gc j c
 |.oelt j _ _ _=>gc j c
 |_=>Tc
def gZ(c:Nat):List AA->Bool
 |[]=>Tc
 |x::l=>bif kq c x then Ta else gZ c l
def jn(c:Nat):Ch->Bool
 |.box l=>gZ c l
 |_=>Tc
def qP(c:Nat):AG->Bool
 |.a x=>kq c x
 |.agg l=>gZ c l
def sH(c:Nat):List AG->Bool
 |[]=>Tc
 |x::l=>bif qP c x then Ta else sH c l
def rF(c:Nat):AV->Bool
 |.g x=>qP c x
 |.tup l=>sH c l
 |.nx _ _ _=>Tc
def kG{α:Type}(f:Nat->α->Bool):Option Nat->α->Bool
 |none,_=>Tc
 |some c,x=>f c x
def pB{j c:Nat}(h:gc j c=Tc):Td c≠Td j:=by intro e;simp_all
theorem CD.gx{c:ac3}(g:Gx c γ γ'):∀{x:AA} {u:Value},kG kq c x=Tc->CD γ x u->CD γ' x u
 |.v _,_,_,h=>h
 |.d _ _,_,_,h=>Rd.mono g.1 h
 |.box j o,u,hm,h=>by
  have:c≠Td j:=by cases c with|none=>simp|some c=>exact pB hm
  rw[show u=_ from h];simp only[CD,(g.2 j this).1]
 |.own j,u,hm,h=>by
  have:c≠Td j:=by cases c with|none=>simp|some c=>exact pB hm
  rw[show u=_ from h];simp only[CD,(g.2 j this).2]
 |.oelt j z i o,u,hm,h=>by
  have:c≠Td j:=by cases c with|none=>simp|some c=>exact pB hm
  have⟨b,k,l⟩:=h;exact⟨b,by rw[(g.2 j this).2];exact k,l⟩
 |.elt _ _ _,_,_,⟨b,f,cs,e,h1,h2⟩=>⟨b,f,cs,e,g.1 _ _ h1,Rd.mono g.1 h2⟩
 |.dc _ _,_,_,⟨s,k,l,h⟩=>⟨s,k,l,Rd.mono g.1 h⟩
def XA{l:List AA}(h:gZ c l=Tc):∀x∈l,kq c x=Tc:=by
 induction l with
 |nil=>simp
 |cons y l b=>intro x e;simp only[gZ]at h;grind
theorem DenL.gx{c:ac3}(g:Gx c γ γ'){l:List AA}(b:kG gZ c l=Tc)(h:DA (CD γ) l us):DA (CD γ') l us:= h.imp λx f u e=>CD.gx g (by cases c with|none=>rfl|some c=>exact XA b x f) e
theorem MT.gx{c:ac3}(g:Gx c γ γ'){x:AG}(b:kG qP c x=Tc)(h:MT γ x u):MT γ' x u:=by
 cases x with
 |a x=>exact CD.gx g (by cases c <;> exact b) h
 |agg l=>have⟨us,e,h⟩:=h;exact⟨us,e,DenL.gx g (by cases c <;> exact b) h⟩
def Uq{l:List AG}(h:sH c l=Tc):∀x∈l,qP c x=Tc:=by
 induction l with
 |nil=>simp
 |cons y l b=>intro x e;simp only[sH]at h;grind
theorem DE.gx{c:ac3}(g:Gx c γ γ'){x:AV}(f:kG rF c x=Tc)(h:DE γ x u):DE γ' x u:=by
 cases x with
 |g x=>exact MT.gx g (by cases c <;> exact f) h
 |tup l=>have⟨us,e,h⟩:=h;exact⟨us,e,h.imp λx k u i=>MT.gx g (by cases c with|none=>rfl|some c=>exact Uq f x k) i⟩
 |nx b p c=>exact h
def Id(M:Fr)(t:Ty)(xs:List (El t))(cells:List Value):Prop:=
 cells.length=xs.length*sz t/\∀i (h:i<xs.length),Rd M t xs[i] ((cells.drop (i*sz t)).take (sz t))
theorem Id.mono(b:Fr.le M M'){xs:List (El t)}{cells:ab2}(H:Id M t xs cells):Id M' t xs cells:=⟨H.1,λi h=>Rd.mono b (H.2 i h)⟩
theorem Id.nil(M:Fr)(t:Ty):Id M t [] []:=⟨ξ,λi h=>absurd h ξ⟩
theorem Id.single{x:El t}{cs:ab2}(h:Rd M t x cs):Id M t [x] cs:=by
 have b:=h.len;refine⟨ϑ b,λi hi=>?_⟩;have:i=0:=ψ hi
 subst this;grind
theorem Id.append{xs ys:List (El t)}{c1 c2:ab2}(h1:Id M t xs c1)(h2:Id M t ys c2):Id M t (xs++ys) (c1++c2):=by
 refine⟨by rw[YM,YM,h1.1,h2.1,zb8],λi hi=>?_⟩;by_cases b:i<DB xs;rw[List.getElem_append_left b];have h:(i+1)*sz t<=DB c1:=by rw[h1.1];exact ZP _ b
 rw[zb8,zdv]at h;rw[List.drop_append_of_le_length ω,List.take_append_of_le_length η];exact h1.2 i b;have c:xs.length<=i:=ω
 rw[List.getElem_append_right c];have f:i-DB xs<DB ys:=by rw[YM]at hi;omega
 have:=h2.2 (i-DB xs) f;have e:(c1++c2).drop (i*sz t)=c2.drop ((i-DB xs)*sz t):=by
  rw[List.drop_append];have:c1.length<=i*sz t:=by rw[h1.1];exact ZP _ c
  rw[List.drop_eq_nil_of_le this,zal,h1.1,<-Nat.sub_mul]
 grind
theorem Id.one{xs:List (El t)}{cells:ab2}(H:Id M t xs cells):∀v∈cells,v.oneCell'=Ta:=by
 intro v c;obtain⟨j,b,rfl⟩:=List.getElem_of_mem c;have e:0<sz t:=by obtain h|h:=zcg (sz t);rw[H.1,h,Nat.mul_zero]at b;omega;exact h
 have hi:j / sz t<DB xs:=by rw[H.1]at b;exact Nat.div_lt_of_lt_mul η
 refine Rd.one (H.2 _ hi) _ ?_;rw[List.mem_iff_getElem?];refine⟨j % sz t,?_⟩;rw[zae,zi (Nat.mod_lt _ e),zau,Nat.mul_comm,Nat.div_add_mod,List.getElem?_eq_getElem b]
theorem Id.rd{xs:List (El t)}{cells:ab2}(H:Id M t xs cells){cs:ab3}(h:M b=Td cs)(k:(cs.toList.drop o).take (DB xs*sz t)=cells)(l:xs.length<=140737488355328/\DB xs<=c):Rd M (.row t) xs [.slice (Td ⟨b,o,Te⟩) (DB xs) c]:=by
 refine⟨_,rfl,_,_,rfl,l,.inr ⟨b,o,cs,rfl,h,λi hi=>?_⟩⟩;have:=H.2 i hi;rw[<-k]at this;have f:(i+1)*sz t<=DB xs*sz t:=ZP _ hi;rw[zb8,zdv]at f;have e:(((cs.toList.drop o).take (DB xs*sz t)).drop (i*sz t)).take (sz t)=cut cs (o+i*sz t) (sz t):=by unfold cut;rw[List.drop_take,List.take_take,zap,zci ω]
 simp_all
theorem Rd.rowC(ag:AgM M h){xs:List (El t)}(H:Rd M (.row t) xs [u]):∃s:Sl,u=aK s/\s.len=DB xs/\(DB xs<=140737488355328/\DB xs<=s.cap)/\∃cells,Id M t xs cells/\ik h.size h s.a cells:=by
 obtain⟨v,e,a,c,rfl,n,H⟩:=H;cases e;refine⟨⟨a,DB xs,c⟩,rfl,rfl,n,?_⟩;obtain rfl|⟨b,o,cs,rfl,m,hi⟩:=H;exact⟨[],Id.nil _ _,.inl rfl⟩;have f:xs=[]\/DB xs*sz t<=(cs.toList.drop o).length:=by
  obtain h0|h0:=zcg (DB xs);simp_all;right;have:=(hi (DB xs-1) ω).len;unfold cut at this;rw[ZV,ZE]at this;rw[ZE];obtain p|p:=zcg (sz t);grind;have e:xs.length*sz t=(DB xs-1)*sz t+sz t:=by rw[<-Nat.succ_mul];congr 1;omega
  rw[e];omega
 obtain rfl|f:=f;exact⟨[],Id.nil _ _,.inl rfl⟩;refine⟨(cs.toList.drop o).take (DB xs*sz t),⟨θ,λi k=>?_⟩,.inr ⟨b,o,rfl,ag.lt m,λi v q=>?_⟩⟩;have:=hi i k;have l:(i+1)*sz t<=DB xs*sz t:=ZP _ k;rw[zb8,zdv]at l;unfold cut at this;rw[List.drop_take,List.take_take,zap,zci ω];exact this;refine ag.cell m ?_;grind
def ve(o:Option Obj)(us:List Value):Prop:=((∃T,o=Td (.cells us.toArray T (0,0)))/\∀s p,us≠[Z9 s p])\/(∃s p,us=[Z9 s p]/\o=Td (.stringIter s p))
def SH(n0:Nat)(γ:Gh)(h:zb)(c:Nat):Ch->Prop
 |.box l=>∃us,ve h[γ.β c]? us/\DA (CD γ) l us
 |.row e t xs=>∃cells,DP h n0 e (sz t) (γ.σ c) cells/\Id γ.M t xs cells/\xs.length<=140737488355328/\(γ.σ c).len=xs.length
 |.fz t xs=>Rd γ.M (.row t) xs [aK (γ.σ c)]
def blk(γ:Gh)(c:Nat):Ch->Option Nat
 |.box _=>Td (γ.β c)
 |.row _ _ _=>(γ.σ c).a.map (·.block)
 |.fz _ _=>Te
structure Inv (h0:zb) (W:Nat->Prop) (M0:Fr) (cs:CS) (γ:Gh) (h:zb):Prop where
 ag:AgM γ.M h
 frame:∀i,i<h0.size->¬W i->h[i]?=h0[i]?
 size:h0.size<=h.size
 old:∀b,b<h0.size->γ.M b=M0 b
 le:Fr.le M0 γ.M
 den:∀x∈cs,SH h0.size γ h x.1 x.2
 sep:∀x∈cs,∀b,blk γ x.1 x.2=Td b->(h0.size<=b\/W b)/\γ.M b=Te
 apart:cs.Pairwise λx y=>∀b,blk γ x.1 x.2=Td b->blk γ y.1 y.2≠Td b
variable {h0 : zb} {W : Nat -> Prop} {M0 : Fr}
theorem SH.lt{k:Ch}(H:SH n0 γ h c k):∀b,blk γ c k=Td b->b<h.size:=by
 intro b f;cases k with
 |box l=>have⟨us,e,_⟩:=H;simp only[blk,YK]at f;subst f;obtain⟨⟨T,e⟩,_⟩|⟨s,p,_,e⟩:=e;grind;grind
 |row e t xs=>have⟨cells,h1,_⟩:=H;simp only[blk,zbx]at f;obtain⟨p,i,rfl⟩:=f;exact(h1.base_le p i).2
 |fz t xs=>cases f
theorem SH.gx{c:ac3}(g:Gx c γ γ'){j:Nat}{k:Ch}(r:c≠Td j)(o:kG jn c k=Tc)(H:SH n0 γ h j k)(f:∀b,blk γ j k=Td b->h'[b]?=h[b]?):SH n0 γ' h' j k:=by
 have⟨q,i⟩:=g.2 j r;cases k with
 |box l=>have⟨us,e,h1⟩:=H;exact⟨us,by rw[q,f _ rfl];exact e,DenL.gx g (by cases c <;> exact o) h1⟩
 |row e t xs=>have⟨cells,h1,h2,n,s⟩:=H;refine⟨cells,?_,h2.mono g.1,n,η⟩;rw[i];exact h1.aa1 λp m=>f _ (by simp[blk,m])
 |fz t xs=>simp only[SH,i];exact Rd.mono g.1 H
theorem lX{c:ac3}(g:Gx c γ γ'){j:Nat}(k:Ch)(e:c≠Td j):blk γ' j k=blk γ j k:=by have⟨b,f⟩:=g.2 j e;cases k <;> simp[blk,b,f]
theorem Inv.rest{cs rest:CS}{γ γ':Gh}{h h':zb}(I:Inv h0 W M0 cs γ h)(hsub:rest.Sublist cs){c:ac3}(g:Gx c γ γ') (hmen:∀x∈rest,c≠Td x.1/\kG jn c x.2=Tc) (hk:∀x∈rest,∀b,blk γ x.1 x.2=Td b->h'[b]?=h[b]?/\γ'.M b=Te)(ag:AgM γ'.M h') (hframe:∀i,i<h0.size->¬W i->h'[i]?=h[i]?) (hsize:h.size<=h'.size) (hold:∀b,b<h0.size->γ'.M b=γ.M b):Inv h0 W M0 rest γ' h' where
 ag:=ag
 frame:=λi hi hw=>(hframe i hi hw).trans (I.frame i hi hw)
 size:=zbd I.size hsize
 old:=λb hb=>(hold b hb).trans (I.old b hb)
 le:=I.le.trans g.1
 den:=λx hx=>(I.den x (hsub.subset hx)).gx g (hmen x hx).1 (hmen x hx).2 λb hb=>(hk x hx b hb).1
 sep:=λx hx b hb=>by rw[lX g _ (hmen x hx).1]at hb;exact⟨(I.sep x (hsub.subset hx) b hb).1,(hk x hx b hb).2⟩
 apart:=by refine(I.apart.sublist hsub).imp_of_mem λ {x y} hx hy h=>?_;intro b hb;rw[lX g _ (hmen x hx).1]at hb;rw[lX g _ (hmen y hy).1];exact h b hb
theorem Inv.cons{rest:CS}(I:Inv h0 W M0 rest γ h){k:Ch}(hd:SH h0.size γ h c k)(hs:∀b,blk γ c k=Td b->(h0.size<=b\/W b)/\γ.M b=Te)(ha:∀b,blk γ c k=Td b->∀x∈rest,blk γ x.1 x.2≠Td b):Inv h0 W M0 ((c,k)::rest) γ h where
 ag:=I.ag
 frame:=I.frame
 size:=I.size
 old:=I.old
 le:=I.le
 den:=λx hx=>by obtain rfl|hx:=YT.1 hx;exact hd;exact I.den x hx
 sep:=λx hx=>by obtain rfl|hx:=YT.1 hx;exact hs;exact I.sep x hx
 apart:=za4.2 ⟨λy hy b hb=>ha b hb y hy,I.apart⟩
theorem Inv.sub{cs rest:CS}(I:Inv h0 W M0 cs γ h)(hsub:rest.Sublist cs):Inv h0 W M0 rest γ h where
 ag:=I.ag
 frame:=I.frame
 size:=I.size
 old:=I.old
 le:=I.le
 den:=λx hx=>I.den x (hsub.subset hx)
 sep:=λx hx=>I.sep x (hsub.subset hx)
 apart:=I.apart.sublist hsub
theorem Inv.fz(I:Inv h0 W M0 cs γ h):i8 γ cs:=λc t xs b=>I.den _ b
theorem Inv.call(I:Inv h0 W M0 cs γ h)(k:Bk h.size h h')(n:Fr.le γ.M M')(e:∀b,b<h.size->M' b=γ.M b)(ag:AgM M' h'):Inv h0 W M0 cs { γ with M:=M' } h':= I.rest (List.Sublist.refl _) (c:=Te) ⟨n,λ_ _=>⟨rfl,rfl⟩⟩ (λx _=>⟨ξ,rfl⟩) (λx m b l=>by have f:=(I.den x m).lt b l;exact⟨k.get b f,(e b f).trans (I.sep x m b l).2⟩) ag (λi hi _=>k.get i (zcl hi I.size)) k.size (λb l=>e b (zcl l I.size))
def ji(c:Nat):CS->CS
 |[]=>[]
 |(j,k)::l=>bif (bif gc j c then Ta else jn c k)then ji c l else(j,k)::ji c l
def Qs(c:Nat):CS->Bool
 |[]=>Ta
 |(j,k)::l=>bif (bif gc j c then Ta else jn c k)then Tc else Qs c l
def fw(c:Nat):CS->CS
 |[]=>[]
 |(j,k)::l=>bif gc j c then fw c l else(j,k)::fw c l
def w9(c:Nat):∀l:CS,(ji c l).Sublist l
 |[]=>.slnil
 |(j,k)::l=>by
  simp only[ji];cases(cond (gc j c) Ta (jn c k))with
  |true=>exact(w9 c l).cons _
  |false=>exact(w9 c l).cons_cons _
def Zi(c:Nat):∀l:CS,(fw c l).Sublist l
 |[]=>.slnil
 |(j,k)::l=>by
  simp only[fw];cases gc j c with
  |true=>exact(Zi c l).cons _
  |false=>exact(Zi c l).cons_cons _
def Aj{c:Nat}:∀{l:CS} {x:Nat×Ch},x∈ji c l->Td c≠Td x.1/\jn c x.2=Tc
 |(j,k)::l,x,h=>by
  simp only[ji]at h;cases hb:(cond (gc j c) Ta (jn c k))with
  |true=>rw[hb]at h;exact Aj h
  |false=>
   rw[hb]at h;obtain rfl|h:=YT.1 h;cases hj:gc j c with
   |true=>simp[hj]at hb
   |false=>simp only[hj,zG]at hb;exact⟨pB hj,hb⟩
   exact Aj h
def zT{c:Nat}:∀{l:CS},Qs c l=Ta->∀x∈l,Td c≠Td x.1/\jn c x.2=Tc
 |[],_,x,h=>ε h
 |(j,k)::l,hn,x,h=>by
  simp only[Qs]at hn;cases hb:(cond (gc j c) Ta (jn c k))with
  |true=>simp_all
  |false=>
   rw[hb]at hn;obtain rfl|h:=YT.1 h;cases hj:gc j c with
   |true=>simp[hj]at hb
   |false=>simp only[hj,zG]at hb;exact⟨pB hj,hb⟩
   exact zT hn x h
def Jl{c:Nat}:∀{l:CS} {x:Nat×Ch},x∈fw c l->x∈l/\x.1≠c
 |(j,k)::l,x,h=>by
  simp only[fw]at h;cases hb:gc j c with
  |true=>rw[hb]at h;exact⟨ZA _ (Jl h).1,(Jl h).2⟩
  |false=>rw[hb]at h;obtain rfl|h:=YT.1 h;refine⟨ZD,λe=>?_⟩;simp_all;exact⟨ZA _ (Jl h).1,(Jl h).2⟩
def iW(γ:Gh)(c b:Nat):Gh:={ γ with β:=λi=>bif gc i c then b else γ.β i }
def gt(γ:Gh)(c:Nat)(s:Sl):Gh:={ γ with σ:=λi=>bif gc i c then s else γ.σ i }
theorem l3(γ:Gh)(c b:Nat):Gx (Td c) γ (iW γ c b):=⟨Fr.le.refl _,λi hi=>by
 have:gc i c=Tc:=by
  cases h:gc i c with
  |false=>rfl
  |true=>simp_all
 simp[iW,this]⟩
theorem Qt(γ:Gh)(c:Nat)(s:Sl):Gx (Td c) γ (gt γ c s):=⟨Fr.le.refl _,λi hi=>by
 have:gc i c=Tc:=by
  cases h:gc i c with
  |false=>rfl
  |true=>simp_all
 simp[gt,this]⟩
theorem Wm(γ:Gh)(c b:Nat):(iW γ c b).β c=b:=by simp[iW]
theorem yn(γ:Gh)(c:Nat)(s:Sl):(gt γ c s).σ c=s:=by simp[gt]
theorem ly(e:Qs c R=Ta):∀x∈ji c C++R,Td c≠Td x.1/\kG jn (Td c) x.2=Tc:=by intro x b;obtain b|b:=ZF.1 b;exact Aj b;exact zT e x b
theorem Inv.newBoxO(I:Inv h0 W M0 (C++R) γ h)(q:Qs c R=Ta){l:List AA}(r:DA (CD γ) l us)(t:gZ c l=Tc){p:Obj}(o:ve (Td p) us):Inv h0 W M0 ((c,.box l)::ji c C++R) (iW γ c h.size) (h.push p):=by
 have n:∀x∈ji c C++R,∀b,blk γ x.1 x.2=Td b->b<h.size:=λx k b f=>(I.den x (((w9 c C).append_right R).subset k)).lt b f;have s:Inv h0 W M0 (ji c C++R) (iW γ c h.size) (h.push p):=by refine I.rest ((w9 c C).append_right R) (l3 γ c h.size) (ly q) (λx k b f=>?_) (λb u e=>?_) (λi hi _=>?_) ξ (λb f=>rfl);have:=n x k b f;exact⟨η,(I.sep x (((w9 c C).append_right R).subset k) b f).2⟩;have:=I.ag.lt e;have⟨w,m,e'⟩:=I.ag b u e;grind;have:=I.size;grind
 refine s.cons ⟨us,by rw[Wm,jc];exact o,DenL.gx (l3 γ c h.size) t r⟩ (λb f=>?_) (λb f x k e=>?_);simp only[blk,Wm,YK]at f;subst f;exact⟨.inl I.size,I.ag.none (YJ _)⟩;simp only[blk,Wm,YK]at f;subst f;rw[lX (l3 γ c h.size) _ (ly q x k).1]at e;grind
theorem Inv.newBox(I:Inv h0 W M0 (C++R) γ h)(i:Qs c R=Ta){l:List AA}(e:DA (CD γ) l us)(f:gZ c l=Tc)(b:gK l=Tc)(T:N4):Inv h0 W M0 ((c,.box l)::ji c C++R) (iW γ c h.size) (h.push (.cells us.toArray T)):=
 Inv.newBoxO I i e f (.inl ⟨⟨T,rfl⟩,λs p=>qT b e s p⟩)
def pA{α:Type}{R:α->α->Prop}(b:∀x y,R x y->R y x):∀{l:List α},l.Pairwise R->∀{x y:α},x∈l->y∈l->x≠y->R x y
 |[],_,_,_,hx,_,_=>by cases hx
 |z::l,h,x,y,hx,hy,hne=>by rw[za4]at h;obtain c|h1:=YT.1 hx;grind;obtain e|h2:=YT.1 hy;simp_all;exact pA b h.2 h1 h2 hne
theorem Inv.setBox(I:Inv h0 W M0 (C++R) γ h){l s:List AA}(t:(c,Ch.box l)∈C)(e:ve h'[γ.β c]? us)(A:∀i,i≠γ.β c->h'[i]?=h[i]?) (F:h'.size=h.size) (w:DA (CD γ) s us) (H:∀x∈R,x.1≠c):Inv h0 W M0 ((c,.box s)::fw c C++R) γ h':=by
 have r:=I.sep _ (YV R t) _ rfl;have q:∀x∈fw c C++R,blk γ x.1 x.2≠Td (γ.β c):=by
  intro x k;have o:x≠(c,Ch.box l):=by rintro rfl;obtain k|k:=ZF.1 k;exact(Jl k).2 rfl;grind
  have n:x∈C++R:=((Zi c C).append_right R).subset k;have u:=@pA _ (λ(x y:Nat×Ch)=>∀b,blk γ x.1 x.2=Td b->blk γ y.1 y.2≠Td b) (λx y h b f p=>h b p f) _ I.apart;intro f;exact u (YV R t) n (λe=>o e.symm) _ rfl f
 have z:Inv h0 W M0 (fw c C++R) γ h':=by refine I.rest ((Zi c C).append_right R) (c:=Te) (Gx.refl _ _) (λx _=>⟨ξ,rfl⟩) (λx k b f=>?_) (λb B D=>?_) (λi hi E=>?_) ω (λb f=>rfl);exact⟨A b λe'=>q x k (e' ▸ f),(I.sep x (((Zi c C).append_right R).subset k) b f).2⟩;have⟨G,m,e'⟩:=I.ag b B D;grind;grind
 refine z.cons ⟨us,e,w⟩ (λb f=>?_) (λb f x k=>?_);simp only[blk,YK]at f;grind;simp only[blk,YK]at f;simp_all
theorem Inv.newRow(I:Inv h0 W M0 (C++R) γ h)(D:Qs c R=Ta)(G:h.size<=h'.size){p:ac3}(z:∀i,i<h.size->p≠Td i->h'[i]?=h[i]?) (u:∀b,p=Td b->h0.size<=b/\γ.M b=Te/\∀x∈C++R,blk γ x.1 x.2≠Td b) {s:Sl} {xs:List (El t)} {cells:ab2} (o:DP h' h0.size e (sz t) s cells) (l:∀q,s.a=Td q->p=Td q.block\/q.block=h.size) (r:Id γ.M t xs cells) (H:xs.length<=140737488355328) (F:s.len=DB xs):Inv h0 W M0 ((c,.row e t xs)::ji c C++R) (gt γ c s) h':=by
 have f:=(w9 c C).append_right R;have w:∀x∈ji c C++R,∀b,blk γ x.1 x.2=Td b->b<h.size:=λx n b l=>(I.den x (f.subset n)).lt b l;have E:Inv h0 W M0 (ji c C++R) (gt γ c s) h':=by refine I.rest f (Qt γ c s) (ly D) (λx n b l=>?_) (λb A y=>?_) (λi hi N=>?_) G (λb l=>rfl);exact⟨z b (w x n b l) λe'=>(u b e').2.2 x (f.subset n) l,(I.sep x (f.subset n) b l).2⟩;have⟨J,m,e'⟩:=I.ag b A y;exact⟨J,m,by rw[z b (I.ag.lt y) λL=>by have:=(u b L).2.1;rw[show γ.M b=Td A from y]at this;cases this];exact e'⟩;have:=I.size;grind
 refine E.cons ⟨cells,by rw[yn];exact o,r,H,by rw[yn];exact F⟩ (λb k=>?_) (λb k x n e'=>?_);simp only[blk,yn,zbx]at k;obtain⟨q,B,rfl⟩:=k;obtain h1|h1:=l q B;exact⟨.inl (u _ h1).1,(u _ h1).2.1⟩;rw[h1];exact⟨.inl I.size,I.ag.none (YJ _)⟩;simp only[blk,yn,zbx]at k;obtain⟨q,B,rfl⟩:=k;rw[lX (Qt γ c s) _ (ly D x n).1]at e';grind
def kQ(c:Nat):CS->CS
 |[]=>[]
 |(j,k)::l=>bif gc j c then(match k with
  |.row _ t xs=>(j,.fz t xs)::kQ c l
  |k=>(j,k)::kQ c l)else(j,k)::kQ c l
def fZ(γ:Gh)(b:Nat)(cs:Array Value):Gh:={ γ with M:=λi=>bif gc i b then Td cs else γ.M i }
theorem Inv.freeze1{A C:CS}{xs:List (El t)}(I:Inv h0 W M0 (A++(c,.row e t xs)::C) γ h):∃γ',Inv h0 W M0 (A++(c,.fz t xs)::C) γ' h/\Gx Te γ γ':=by
 have⟨cells,w,p,Z,S⟩:=I.den (c,.row e t xs) ξ;have N:=p.1;obtain⟨n,h1⟩|⟨g,cap,k,n,l,O,U,L,Y,G⟩:=w.2;refine⟨γ,?_,Gx.refl _ _⟩;have H:xs=[]:=ZU ω;have V:SH h0.size γ h c (.fz t xs):=by subst H;simp only[zai]at n;exact⟨_,rfl,Te,0,by simp[aK,n],⟨ξ,ξ⟩,.inl rfl⟩
 have m:∀x,x∈A++(c,Ch.fz t xs)::C->x∈A++(c,Ch.row e t xs)::C\/x=(c,Ch.fz t xs):=by intro x f;simp only[ZF,YT]at f ⊢;obtain h|h|h:=f;grind;exact .inr h;simp_all
 refine⟨I.ag,I.frame,I.size,I.old,I.le,λx f=>?_,λx f b i=>?_,?_⟩;grind [den];obtain h|rfl:=m x f;exact I.sep x h b i;cases i;have:=I.apart;simp only[zct,za4]at this ⊢;have⟨D,⟨a2,B⟩,F⟩:=this;refine⟨D,⟨λy s b i=>(by simp[blk]at i),B⟩,λx f y s b i=>?_⟩;obtain rfl|s:=YT.1 s;simp[blk];grind;simp only[zai]at n;have Q:γ.M g=Te:=(I.sep (c,.row e t xs) ξ g (by simp[blk,n.1])).2;have z:Fr.le γ.M (fZ γ g k).M:=by
  intro b J u;have:gc b g=Tc:=by
   cases i:gc b g with
   |false=>rfl
   |true=>simp_all
  simp[fZ,this,u]
 have gx:Gx Te γ (fZ γ g k):=⟨z,λ_ _=>⟨rfl,rfl⟩⟩;have P:g<h.size:=(YZ.1 O).1;have E:∀x,x∈A++C->blk γ x.1 x.2≠Td g:=by intro x f;have:=I.apart;simp only[zct,za4]at this;have⟨D,⟨a2,B⟩,F⟩:=this;obtain f|f:=ZF.1 f;intro i;exact F x f (c,.row e t xs) ZD g i (by simp[blk,n.1]);exact a2 x f g (by simp[blk,n.1])
 have q:∀b,b≠g->(fZ γ g k).M b=γ.M b:=by
  intro b i;have:gc b g=Tc:=by
   cases h:gc b g with
   |false=>rfl
   |true=>simp_all
  simp[fZ,this]
 have r:Inv h0 W M0 (A++C) (fZ γ g k) h:=by
  refine I.rest ξ gx (λx _=>⟨ξ,rfl⟩) (λx f b i=>?_) (λb J u=>?_) (λ_ _ _=>rfl) (YJ _) (λb i=>q b ω);have l:b≠g:=λe'=>E x f (e' ▸ i);refine⟨rfl,(q b l).trans (I.sep x ?_ b i).2⟩;grind;by_cases l:b=g;subst l;have:J=k:=by simp[fZ]at u;exact u.symm
  subst this;exact⟨_,_,O⟩;rw[q b l]at u;exact I.ag b J u
 refine⟨fZ γ g k,?_,gx⟩;have V:SH h0.size (fZ γ g k) h c (.fz t xs):=by
  have:=(p.mono z).rd (b:=g) (o:=0) (c:=cap) (cs:=k) (by simp[fZ]) θ ⟨Z,ω⟩;show Rd _ _ _ [aK (γ.σ c)];have e3:aK (γ.σ c)=.slice (Td ⟨g,0,Te⟩) (DB xs) cap:=by unfold aK;rw[n.1,S,n.2.2]
  rw[e3];exact this
 have m:∀x,x∈A++(c,Ch.fz t xs)::C->x∈A++C\/x=(c,Ch.fz t xs):=by intro x f;simp only[ZF,YT]at f ⊢;obtain h|h|h:=f;grind;exact .inr h;grind
 refine⟨r.ag,r.frame,r.size,r.old,r.le,λx f=>?_,λx f b i=>?_,?_⟩;grind [den];obtain h|rfl:=m x f;exact r.sep x h b i;cases i;have:=r.apart;simp only[zct,za4]at this ⊢;have⟨D,B,F⟩:=this;refine⟨D,⟨λy s b i=>(by simp[blk]at i),B⟩,λx f y s b i=>?_⟩;obtain rfl|s:=YT.1 s;simp[blk];grind
theorem Inv.freeze{R:CS}{h:zb}(c:Nat):∀(C A:CS) {γ:Gh},Inv h0 W M0 (A++C++R) γ h->∃γ',Inv h0 W M0 (A++kQ c C++R) γ' h/\Gx Te γ γ'
 |[],A,γ,I=>⟨γ,I,Gx.refl _ _⟩
 |(j,k)::l,A,γ,I=>by
  have go:∀(k:Ch) {γ:Gh},Inv h0 W M0 (A++(j,k)::l++R) γ h->∃γ',Inv h0 W M0 (A++(j,k)::kQ c l++R) γ' h/\Gx Te γ γ':=by intro k γ I;have:=Inv.freeze c l (A++[(j,k)]) (R:=R) (γ:=γ) (ψ I);simpa using this
  simp only[kQ];cases gc j c with
  |true=>
   cases k with
   |row e t xs=>obtain⟨o,p,b⟩:=Inv.freeze1 (A:=A) (C:=l++R) (γ:=γ) (ψ I);obtain⟨m,n,f⟩:=go (.fz t xs) (γ:=o) (ψ p);exact⟨m,n,b.1.trans f.1,λi hi=>⟨(f.2 i hi).1.trans (b.2 i hi).1,(f.2 i hi).2.trans (b.2 i hi).2⟩⟩
   |box q=>exact go _ I
   |fz t xs=>exact go _ I
  |false=>exact go _ I
end
section
variable {i n:Nat} {c:yb} {v:AV} {γ γ':Gh} {a:Act} {u:Value} {o:n9} {g:Option Bool} {σ:n7 -> Value}
abbrev j7:=List (Nat×yb×AV)
def jt:j7->Nat->Option (yb×AV)
 |[],_=>Te
 |(j,c,v)::e,i=>bif gc i j then Td (c,v)else jt e i
def jS(γ:Gh)(σ:Nat->Value)(x:Nat×yb×AV):Prop:=(valid σ x.2.1->DE γ x.2.2 (σ x.1))/\(¬valid σ x.2.1->σ x.1=undef)
structure Fn (n:Nat) (e:j7) (γ:Gh) (a:Act):Prop where
 defers:a.defers=[]
 size:a.tmps.size=n
 all:∀x∈e,jS γ (qp a) x
def oL:j7->Nat->j7
 |[],_=>[]
 |(j,c,v)::e,i=>bif (bif gc i j then Ta else mentions c i)then oL e i else(j,c,v)::oL e i
def Fe(e:j7)(i:Nat)(c:yb)(v:AV):j7:=(i,c,v)::oL e i
def sA(e:j7):Option Nat->yb->AV->j7
 |none,_,_=>e
 |some d,c,v=>Fe e d c v
def km:j7->j7
 |[]=>[]
 |(j,[],v)::e=>(j,[],v)::km e
 |(_,_::_,_)::e=>km e
def nQ(c:Nat):j7->j7
 |[]=>[]
 |(j,ch,v)::e=>bif rF c v then nQ c e else(j,ch,v)::nQ c e
def su:Option Nat->j7->j7
 |none,e=>e
 |some c,e=>nQ c e
def Qm{e:j7}(h:jt e i=Td (c,v)):(i,c,v)∈e:=by
 induction e with
 |nil=>cases h
 |cons x e f=>have⟨j,b,l⟩:=x;simp only[jt]at h;by_cases k:gc i j=Ta;simp_all;simp_all
def Ol{e:j7}{x:Nat×yb×AV}(h:x∈oL e i):x∈e/\x.1≠i/\mentions x.2.1 i=Tc:=by
 induction e with
 |nil=>cases h
 |cons y e o=>
  have⟨j,f,n⟩:=y;simp only[oL]at h;by_cases k:gc i j=Ta;simp_all;have c:gc i j=Tc:=Bool.eq_false_iff.2 k;simp only[c,zG]at h;by_cases l:mentions f i=Ta;simp_all;have b:mentions f i=Tc:=ψ l
  simp only[b,zG]at h;obtain rfl|h:=YT.1 h;refine⟨ZD,λm=>?_,b⟩;simp_all;simp_all
def Mt{e:j7}{x:Nat×yb×AV}(h:x∈km e):x∈e/\x.2.1=[]:=by
 induction e with
 |nil=>cases h
 |cons y e i=>
  have⟨j,b,f⟩:=y;cases b with
  |nil=>simp only[km]at h;grind
  |cons c cs=>simp only[km]at h;simp_all
def XH{c:ac3}{e:j7}{x:Nat×yb×AV}(h:x∈su c e):x∈e/\kG rF c x.2.2=Tc:=by
 cases c with
 |none=>exact⟨h,rfl⟩
 |some c=>
  have key:∀e:j7,x∈nQ c e->x∈e/\rF c x.2.2=Tc:=by
   intro e;induction e with
   |nil=>intro h;cases h
   |cons y e b=>have⟨j,f,i⟩:=y;intro h;simp only[nQ]at h;grind
  exact key e h
theorem Fn.sub{e e':j7}(h:Fn n e γ a)(b:∀x∈e',x∈e):Fn n e' γ a:=⟨h.defers,h.size,λx c=>h.all x (b x c)⟩
theorem Fn.clean{e:j7}(h:Fn n e γ a):Fn n (km e) γ a:=h.sub λ_ b=>(Mt b).1
theorem Fn.gx{e:j7}{c:ac3}(h:Fn n e γ a)(g:Gx c γ γ'):Fn n (su c e) γ' a:= ⟨h.defers,h.size,λx f=>by have⟨h1,h2⟩:=XH f;exact⟨λb=>((h.all x h1).1 b).gx g h2,(h.all x h1).2⟩⟩
theorem Fn.gx0{e:j7}(h:Fn n e γ a)(g:Gx Te γ γ'):Fn n e γ' a:=h.gx g
theorem Fn.put{e:j7}(h:Fn n e γ a)(hi:i<n)(s:mentions c i=Tc)(t:valid (qp a) c->DE γ v u) (r:¬valid (qp a) c->u=undef):Fn n (Fe e i c v) γ (a.put (Td i) u):=by
 refine⟨by rw[Z5];exact h.defers,by rw[PJ];exact h.size,λx m=>?_⟩;have k:i<a.tmps.size:=by rw[h.size];exact hi
 obtain rfl|m:=YT.1 m;have l:=W0 (σ:=qp (a.put (Td i) u)) (τ:=qp a) s (λj o=>jf o);refine⟨λf=>?_,λf=>?_⟩;simp only;rw[Qh k];grind;exact(Qh k).trans (r (λb=>f (l.2 b)));have⟨h1,h2,q⟩:=Ol m;have l:=W0 (σ:=qp (a.put (Td i) u)) (τ:=qp a) q (λj o=>jf o);have p:=h.all x h1;refine⟨λf=>?_,λf=>?_⟩;rw[jf h2];exact p.1 (l.1 f);exact(jf h2).trans (p.2 (λb=>f (l.2 b)))
theorem Fn.putO{e:j7}(h:Fn n e γ a){d:ac3}(f:xr n c d=Ta)(l:valid (qp a) c->DE γ v u) (m:¬valid (qp a) c->u=undef):Fn n (sA e d c v) γ (a.put d u):=by
 cases d with
 |none=>exact h
 |some i=>
  simp only[xr]at f;by_cases k:mentions c i=Ta;grind;have b:mentions c i=Tc:=ψ k
  simp only[b,zG]at f;exact h.put θ b l m
def vD:Value->AG
 |.agg cs=>.agg (cs.toList.map .v)
 |v=>.a (.v v)
def mN:Value->AV
 |.tuple vs=>.tup (vs.toList.map vD)
 |v=>.g (vD v)
def C3(γ:Gh)(v:Value):MT γ (vD v) v:=by
 cases v with
 |agg cs=>
  refine⟨cs.toList,ξ,?_⟩;generalize cs.toList=l;induction l with
  |nil=>trivial
  |cons x l b=>exact⟨rfl,b⟩
 |_=>exact rfl
def ov(γ:Gh)(v:Value):DE γ (mN v) v:=by
 cases v with
 |tuple vs=>
  refine⟨vs.toList,ξ,?_⟩;generalize vs.toList=l;induction l with
  |nil=>trivial
  |cons x l b=>exact⟨C3 γ x,b⟩
 |agg cs=>exact C3 γ (.agg cs)
 |_=>exact rfl
def iB:List AA->Option (List Value)
 |[]=>Td []
 |.v x::l=>match iB l with
  |some vs=>Td (x::vs)
  |none=>Te
 |_::_=>Te
def mQ:AV->Option Value
 |.g (.a (.v x))=>Td x
 |.g (.agg l)=>match iB l with
  |some vs=>Td (.agg vs.toArray)
  |none=>Te
 |_=>Te
theorem DD{γ:Gh}:∀{l:List AA} {vs us:ab2},iB l=Td vs->DA (CD γ) l us->us=vs
 |[],vs,[],h,_=>by simp only[iB,YK]at h;exact h
 |[],_,_::_,_,h=>h.elim
 |.v x::l,vs,u::us,h,hd=>by simp only[iB]at h;split at h;rename_i c b;simp only[YK]at h;subst h;rw[show u=x from hd.1,DD b hd.2];cases h
 |.v _::_,_,[],_,h=>h.elim
 |.d _ _::_,_,_,h,_=>by simp[iB]at h
 |.box _ _::_,_,_,h,_=>by simp[iB]at h
 |.own _::_,_,_,h,_=>by simp[iB]at h
 |.oelt _ _ _ _::_,_,_,h,_=>by simp[iB]at h
 |.elt _ _ _::_,_,_,h,_=>by simp[iB]at h
 |.dc _ _::_,_,_,h,_=>by simp[iB]at h
theorem tI{x:AV}{v u:Value}(h:mQ x=Td v)(b:DE γ x u):u=v:=by unfold mQ at h;split at h;simp only[YK]at h;subst h;exact b;rename_i l;split at h;rename_i vs c;simp only[YK]at h;subst h;obtain⟨us,rfl,h2⟩:=b;rw[DD c h2];cases h;cases h
def gv(e:j7)(c:yb):n7->Option AV
 |.tmp t=>match jt e t with
  |some (cs,v)=>bif iG cs c then Td v else Te
  |none=>Te
 |.const v=>Td (mN v)
 |.global g=>Td (.g (.a (.v (.pointer (Td ⟨g,0,Te⟩)))))
 |.func f=>Td (.g (.a (.v (.func (.func f) #[] #[]))))
theorem Qa{e:j7}(h:Fn n e γ a)(l:valid (qp a) c){x:n7}(b:gv e c x=Td v):DE γ v (a.eval x):=by
 cases x with
 |tmp t=>simp only[gv]at b;split at b;rename_i cs u k;by_cases i:iG cs c=Ta;simp only[i,zF,YK]at b;subst b;exact(h.all _ (Qm k)).1 (Wa i l);grind;cases b
 |const u=>simp only[gv,YK]at b;subst b;exact ov γ u
 |global g=>simp only[gv,YK]at b;subst b;exact rfl
 |func f=>simp only[gv,YK]at b;subst b;exact rfl
def mo:AV->Option Bool
 |.g (.a (.v (.bool b)))=>Td b
 |_=>Te
def tK{b:Bool}(h:mo v=Td b)(c:DE γ v u):u=.bool b:=by unfold mo at h;split at h;simp only[YK]at h;subst h;exact c;cases h
def nq(ops:Array n9)(e:j7):Option (Nat×Bool)->Option yb
 |none=>Td []
 |some (j,p)=>match xj ops j with
  |some g=>match jt e g with
   |some (cg,v)=>match mo v with
    |some _=>Td ((g,p)::cg)
    |none=>Te
   |none=>Te
  |none=>Te
def nV(e:j7):yb->Option Bool
 |[]=>Td Ta
 |(g,p)::c=>match jt e g with
  |some (cg,v)=>match mo v with
   |some b=>bif Z6 cg c then(match nV e c with
    |some f=>Td (f&&(bif p then b else !b))
    |none=>Te)else Te
   |none=>Te
  |none=>Te
def tU{n:Nat}{e:j7}{γ:Gh}{a:Act}(h:Fn n e γ a):∀{c:yb} {b:Bool},nV e c=Td b->(b=Ta↔valid (qp a) c)
 |[],b,hb=>by simp only[nV,YK]at hb;simp[<-hb,valid]
 |(g,p)::c,b,hb=>by
  simp only[nV]at hb;split at hb;rename_i t v r;split at hb;rename_i q k;by_cases o:Z6 t c=Ta;simp only[o,zF]at hb;split at hb;rename_i l i;simp only[YK]at hb;have s:=tU h i;have m:=h.all _ (Qm r);rw[J9 o]at m;by_cases f:valid (qp a) c;have h1:qp a g=.bool q:=tK k (m.1 f);have h2:=s.2 f;subst hb;simp only[valid,h1,f,h2,zbb,and_true,Value.bool.injEq];grind;have h1:l=Tc:=by cases l with|false=>rfl|true=>simp_all
  subst hb;simp[valid,f,h1];cases hb;grind;cases hb;cases hb
def HN{ops:Array n9}{e:j7}(h:Fn n e γ a)(f:nq ops e o.guard=Td c):zah o (yielded ops a.tmps)=Ta↔valid (qp a) c:=by
 unfold zah;cases hg:o.guard with
 |none=>rw[hg]at f;simp only[nq,YK]at f;simp[<-f,valid]
 |some s=>
  have⟨j,p⟩:=s;rw[hg]at f;simp only[nq]at f;split at f;rename_i g i;split at f;rename_i t v q;split at f;rename_i b u;simp only[YK]at f;subst f;have k:((ops[j]?).bind (·.dst))=Td g:=by simp only[xj]at i;split at i;simp_all;cases i
  have m:=h.all _ (Qm q);have r:yielded ops a.tmps j=Td p↔qp a g=.bool p:=by
   unfold yielded qp;rw[k];simp only[zbw];cases ht:a.tmps[g]? with
   |none=>simp[za3,ht,undef]
   |some v=>cases v <;> simp[za3,ht]
  simp only[beq_iff_eq,r,valid];constructor;intro h1;refine⟨h1,?_⟩;by_cases l:valid (qp a) t;exact l;have:=m.2 l;simp only at this;rw[h1]at this;exact absurd this.symm H6;simp_all;cases f;cases f;cases f
def mA(e:j7):yb->Option (Option Bool)
 |[]=>Td Te
 |c=>match nV e c with
  |some b=>Td (Td b)
  |none=>Te
def DC{e:j7}(i:Fn n e γ a)(h:mA e c=Td g)(k:valid (qp a) c):eJ g:=by unfold mA at h;split at h;simp only[YK]at h;subst h;trivial;split at h;rename_i b f;simp only[YK]at h;subst h;exact(tU i f).2 k;cases h
theorem Ey{e:j7}(k:Fn n e γ a)(h:mA e c=Td g)(f:¬valid (qp a) c):g=Td Tc:=by
 unfold mA at h;split at h;exact absurd trivial f;split at h;rename_i b i;simp only[YK]at h;subst h;cases b with
 |false=>rfl
 |true=>exact absurd ((tU k i).1 rfl) f
 cases h
def sF(ρ:n7->Option AV)(x:n7):Value:=match ρ x with
 |some av=>match mQ av with
  |some v=>v
  |none=>undef
 |none=>undef
def mS(ρ:n7->Option AV):List n7->Bool
 |[]=>Ta
 |x::l=>match ρ x with
  |some av=>match mQ av with
   |some _=>mS ρ l
   |none=>Tc
  |none=>Tc
def V9{ρ:n7->Option AV}(h:∀x av,ρ x=Td av->DE γ av (σ x)){l:List n7}(c:mS ρ l=Ta):∀x∈l,σ x=sF ρ x:=by
 induction l with
 |nil=>simp
 |cons y l i=>intro x f;simp only[mS]at c;split at c;rename_i av e;split at c;rename_i v b;obtain rfl|f:=YT.1 f;rw[tI b (h _ _ e)];simp[sF,e,b];grind;cases c;cases c
theorem NQ{ρ:n7->Option AV}(f:∀x av,ρ x=Td av->DE γ av (σ x))(c:W8 o.op=Ta)(e:mS ρ o.op.operands.toList=Ta):fd σ o=fd (sF ρ) o:=
 execOp_congr o (λcs b h=>ς h c) λx i=>V9 f e x (ψ i)
end
section
variable {o n f k:Nat} {h:zb} {u:Value} {us:List Value} {cs:CS} {γ:Gh} {t ty:N4} {P:EM} {s:Option Nat}
variable {h0 : zb} {W : Nat -> Prop} {M0 : Fr}
def takeN(l:List AA)(o n:Nat):Option (List AA):=bif gc ((l.drop o).take n).length n then Td ((l.drop o).take n)else Te
def pK{l r:List AA}(h:takeN l o n=Td r):r=(l.drop o).take n/\DB r=n:=by
 unfold takeN at h;cases hb:gc ((l.drop o).take n).length n with
 |false=>simp_all
 |true=>rw[hb]at h;simp_all
def DT{h:zb}{p:n8}:∀{us:ab2} {i:Nat},(∀j v,us[j]?=Td v->zd h (p.add (i+j))=Td v)->zc h p i us
 |[],_,_=>trivial
 |v::us,i,H=>⟨χ (H 0 v rfl),DT λj u b=>by have:=H (j+1) u (ψ b);grind⟩
def Behind(h:zb)(u:Value)(us:List Value):Prop:=∃b o,u=.pointer (Td ⟨b,o,Te⟩)/\∀j v,us[j]?=Td v->zd h ⟨b,o+j,Te⟩=Td v
theorem Behind.ld(H:Behind h u us):∃p:n8,u=.pointer (Td p)/\zc h p 0 us/\∀v,us=[v]->zd h p=Td v:=by have⟨b,o,e,f⟩:=H;refine⟨_,e,DT λj v c=>?_,λv c=>?_⟩;rw[zl,ZO];exact f j v c;have:=f 0 v (π c);omega
def K8{cs:ab3}{f n j:Nat}{v:Value}(h:(cut cs f n)[j]?=Td v):cs[f+j]?=Td v:=by unfold cut at h;grind
def sS(cs:CS)(n:Nat):AA->Option (List AA)
 |.box c o=>match Wk cs c with
  |some (.box l)=>bif gK l then Te else takeN l o n
  |_=>Te
 |.elt t x o=>takeN (Wj t x) o n
 |_=>Te
theorem LY(I:Inv h0 W M0 cs γ h){y:AA}{r:List AA}(k:sS cs n y=Td r)(w:CD γ y u):∃us,Behind h u us/\us.length=n/\DA (CD γ) r us:=by
 unfold sS at k;split at k
 ·rename_i c o;split at k
  ·rename_i l z;cases hit:gK l with
   |true=>simp_all
   |false=>
   rw[hit]at k;obtain⟨rfl,q⟩:=pK k;have⟨us,e,h2⟩:=I.den _ (qm z);obtain⟨⟨T,e⟩,_⟩|⟨s,p,e,_⟩:=e;case inr=>grind [qT]
   have m:=(h2.drop o).take n;refine⟨(us.drop o).take n,⟨_,_,w,λj v i=>?_⟩,by rw[<-m.length];exact q,m⟩;rw[zae]at i;split at i;rw[zau]at i;unfold zd;simp_all;cases i
  cases k
 rename_i t x o;obtain⟨rfl,q⟩:=pK k;have⟨b,f,C,e,B,A⟩:=w;have m:=((xz (γ:=γ) A).drop o).take n;refine⟨_,⟨_,_,e,λj v i=>?_⟩,by rw[<-m.length];exact q,m⟩;rw[zae]at i;split at i;rw[zau]at i;have:=K8 i;exact I.ag.cell B η;cases i;cases k
theorem Iy(I:Inv h0 W M0 cs γ h){c:Nat}{e:N4}{t:Ty}{xs:List (El t)}(G:Wk cs c=Td (.row e t xs)){i:Nat}{y:El t}(z:xs[i]?=Td y){r:List AA}(E:takeN (Wj t y) o n=Td r)(B:CD γ (.oelt c (sz t) i o) u):∃us,Behind h u us/\us.length=n/\DA (CD γ) r us:=by
 obtain⟨rfl,F⟩:=pK E;obtain⟨g,C,rfl⟩:=B;have⟨cells,f,l,_,D⟩:=I.den _ (qm G);simp only at D f;obtain⟨m,h1⟩|⟨g',cap,s,m,_,p,_,_,_,k⟩:=f.2;simp_all;simp only[zai]at m;rw[C]at m;have w:g=g':=by have:=m.1;simp only[YK,Addr.mk.injEq]at this;exact this.1
 subst w;have hi:i<xs.length:=(ZN.1 z).1;have q:xs[i]=y:=(ZN.1 z).2;have x:=l.2 i hi;rw[q]at x;have A:=((xz (γ:=γ) x).drop o).take n;refine⟨_,⟨_,_,rfl,λj v b=>?_⟩,by rw[<-A.length];exact F,A⟩;rw[zae]at b;split at b;rw[zau,zae]at b;split at b;rw[zau,<-k,zae]at b;split at b;have H:h[g]?=Td (.cells s e (0,0)):=p;unfold zd;grind;cases b;cases b;cases b
def jH:Option Nat->List AA->Option AG
 |none,[x]=>Td (.a x)
 |some _,l=>Td (.agg l)
 |_,_=>Te
def iF(P:EM)(t:N4):Option (Option Nat):=match ia P t with
 |some (.one _)=>Td Te
 |some (.agg l)=>Td (Td l.length)
 |none=>Te
def iR:Option Nat->Nat
 |none=>1
 |some n=>n
def tz(c:iF P t=Td s)(o:Behind h u us)(m:us.length=iR s){r:List AA}(b:DA (CD γ) r us){ag:AG}(i:jH s r=Td ag):∃v,MT γ ag v/\At P (zcz t u) h v:=by
 have⟨p,e,n,h1⟩:=o.ld;subst e;have f:∀v,At P (loadVar t p) h v->At P (zcz t (.pointer (Td p))) h v:=λv q B d=>by unfold zcz zdb;simp only[DM,DQ,D0];exact q B d
 unfold iF at c;split at c;rename_i a k;simp only[YK]at c;subst c
 match us,m,r,b with
 |[v],_,[x],b=>simp only[jH,YK]at i;subst i;exact⟨v,b.1,f v (o7 k (h1 v rfl))⟩
 |[v],_,[],b=>cases b
 |[v],_,_::_::_,b=>exact b.2.elim
 rename_i l k;simp only[YK]at c;subst c;simp only[jH,YK]at i;subst i;exact⟨.agg us.toArray,⟨us,rfl,b⟩,f _ (oX k m n)⟩;cases c
def mK(P:EM)(cs:CS)(t:N4)(b:AA)(g:Option Bool)(K:AV->Prop):Prop:=
 match iF P t with
 |some s=>match b with
  |.oelt c z i o=>match Wk cs c with
   |some (.row e ty xs)=>bif gc z (sz ty)then(∃y:El ty,req g (xs[i]?=Td y)/\match takeN (Wj ty y) o (iR s)with
    |some r=>match jH s r with
     |some ag=>K (.g ag)
     |none=>False
    |none=>False)else False
   |_=>False
  |b=>match sS cs (iR s) b with
   |some r=>match jH s r with
    |some ag=>K (.g ag)
    |none=>False
   |none=>False
 |none=>False
def F2{p:AA}{g:ac0}{K:AV->Prop}(H:mK P cs t p g K):∃av,K av/\(eJ g->∀γ h u,Inv h0 W M0 cs γ h->CD γ p u->∃v,DE γ av v/\At P (zcz t u) h v):=by
 unfold mK at H;split at H;rename_i s m;split at H;rename_i c z i o;split at H;rename_i e ty xs w;cases hz:gc z (sz ty)with
 |false=>simp_all
 |true=>rw[hz]at H;have⟨y,q,H⟩:=H;split at H;rename_i r k;split at H;rename_i ag f;refine⟨_,H,λn γ h u I b=>?_⟩;rw[ZJ hz]at b;have⟨us,h1,h2,l⟩:=Iy I w (q.out n) k b;exact tz m h1 h2 l f;cases H;cases H
 cases H;split at H;rename_i r k;split at H;rename_i ag f;refine⟨_,H,λn γ h u I b=>?_⟩;have⟨us,h1,h2,l⟩:=LY I k b;exact tz m h1 h2 l f;cases H;cases H;cases H
def oA(P:EM)(t:N4)(f:Nat):Option (Nat×N4):=match P.underlying t with
 |some (.struct fs)=>match fs[f]? with
  |some b=>match P.info? b.type with
   |some i=>bif gc i.size 0 then Te else Td (b.offset,b.type)
   |none=>Te
  |none=>Te
 |_=>Te
def rS(k:Nat):AA->Option AA
 |.box c o=>Td (.box c (o+k))
 |.elt t x o=>Td (.elt t x (o+k))
 |.oelt c z i o=>Td (.oelt c z i (o+k))
 |_=>Te
theorem PM(c:oA P t f=Td (k,ty))(b o:Nat):At P (Instr.fieldAt t (.pointer (Td ⟨b,o,Te⟩)) f) h (.pointer (Td ⟨b,o+k,Te⟩)):=by
 unfold oA at c;split at c;rename_i s p;split at c;rename_i q m;split at c;rename_i i hi;cases hz:gc i.size 0 with
 |true=>simp_all
 |false=>
  rw[hz]at c;simp only[zG,YK,za5]at c;obtain⟨rfl,rfl⟩:=c;intro B d;have n:=At.underlying (h:=h) p B d;have r:=At.sizeOf (h:=h) hi B d;have l:¬(jk P q.type=0):=by unfold jk;rw[hi];intro e;simp only at e;rw[e]at hz;simp at hz
  unfold Instr.fieldAt zdb fieldPlace;simp only[DM,n,D0,m,DQ,r,l,if_false,zl]
 cases c;cases c;cases c
def Er{l c:AA}(h:rS k l=Td c)(i:CD γ l u):∃b o,u=.pointer (Td ⟨b,o,Te⟩)/\CD γ c (.pointer (Td ⟨b,o+k,Te⟩)):=by unfold rS at h;split at h;simp only[YK]at h;subst h;exact⟨_,_,i,rfl⟩;simp only[YK]at h;subst h;have⟨b,f,cs,e,h1,h2⟩:=i;exact⟨_,_,e,b,f,cs,η,h1,h2⟩;simp only[YK]at h;subst h;have⟨g,m,n⟩:=i;exact⟨_,_,n,g,m,η⟩;cases h
def nK(P:EM)(ty:N4)(l:List AA)(k:Nat):Option AG:=match iF P ty with
 |some s=>match takeN l k (iR s)with
  |some r=>jH s r
  |none=>Te
 |none=>Te
def Hy(c:iF P t=Td s)(h:zb):At P (isAgg t) h s.isSome:=by
 unfold iF at c;split at c;rename_i a b;simp only[YK]at c;subst c;unfold ia at b;split at b;grind;grind;rename_i d i p f;intro B e;have k:=At.underlying (h:=h) f B e;unfold isAgg;simp_all;cases b;rename_i l b;simp only[YK]at c;subst c;unfold ia at b;have f:(∃o,P.underlying t=Td (.struct o))\/∃n e,P.underlying t=Td (.array n e):=by split at b;simp_all;simp_all;simp at b;cases b
 intro B e;obtain⟨o,f⟩|⟨m,e',f⟩:=f;have k:=At.underlying (h:=h) f B e;unfold isAgg;simp_all;have k:=At.underlying (h:=h) f B e;unfold isAgg;simp_all;cases c
def SR(b:iF P t=Td (Td n)):jk P t=n/\∃i,P.info? t=Td i:=by
 unfold iF at b;split at b;cases b
 ·rename_i l c;simp only[YK]at b;subst b;unfold ia at c;have key:∀x:Option (List GT),(match x with
    |some l=>cond (gc (DB l) (jk P t)) (Td (VT.agg l)) Te
    |none=>Te)=Td (.agg l)->jk P t=DB l:=by
   intro x e;split at e;rename_i f;cases hb:gc (DB f) (jk P t)with
   |false=>simp_all
   |true=>simp_all
   cases e
  split at c;exact⟨key _ c,JF (by assumption)⟩;exact⟨key _ c,JF (by assumption)⟩;simp at c;cases c
 cases b
theorem u9{l:List AA}{ag:AG}(b:nK P ty l k=Td ag)(o:DA (CD γ) l us)(h:zb):∃v,MT γ ag v/\At P (part ty us.toArray k) h v:=by
 unfold nK at b;split at b;rename_i s m;split at b;rename_i r t;obtain⟨rfl,u⟩:=pK t;have c:=(o.drop k).take (iR s);have e:((us.drop k).take (iR s)).length=iR s:=by rw[<-c.length];exact u
 cases s with
 |none=>
  generalize f:(us.drop k).take (iR Te)=q at *
  match q,e,f with
  |[v],_,f=>
   generalize p:(l.drop k).take (iR Te)=r' at *
   match r',c with
   |[x],c=>
    simp only[jH,YK]at b;subst b;refine⟨v,c.1,λB d=>?_⟩;have w:=Hy m h B d;have z:us[k]?=Td v:=by
     have:((us.drop k).take 1)[0]?=Td v:=by rw[show(us.drop k).take 1=[v]from f];rfl
     rw[zae,zi ω,zau]at this;simpa using this
    unfold part;simp_all
   |[],c=>cases c
   |_::_::_,c=>exact c.2.elim
 |some n=>simp only[jH,YK]at b;subst b;refine⟨.agg ((us.drop k).take n).toArray,⟨_,rfl,c⟩,λB d=>?_⟩;have w:=Hy m h B d;have⟨y,i,hi⟩:=SR m;have A:=At.sizeOf (h:=h) hi B d;unfold part;simp_all
 cases b;cases b
end
section
variable {cs:CS} {γ:Gh} {h:zb} {u:Value} {t el:N4} {a:Option n8} {n:Int} {av:AV} {P:EM} {cap:Nat} {g:Option Bool} {σ:n7 -> Value} {b:Bool} {o:n9}
variable {h0 : zb} {W : Nat -> Prop} {M0 : Fr}
def rowOf(cs:CS):AA->Option ((t:Ty)×List (El t))
 |.d (.row t) xs=>Td ⟨t,xs⟩
 |.dc t xs=>Td ⟨t,xs⟩
 |.own c=>match Wk cs c with
  |some (.fz t xs)=>Td ⟨t,xs⟩
  |_=>Te
 |_=>Te
def nI(I:Inv h0 W M0 cs γ h){e:AA}{r:(t:Ty)×List (El t)}(b:rowOf cs e=Td r)(c:CD γ e u):Rd γ.M (.row r.1) r.2 [u]:=by unfold rowOf at b;split at b;simp only[YK]at b;subst b;exact c;simp only[YK]at b;subst b;have⟨s,_,_,h⟩:=c;exact h;split at b;rename_i t xs f;simp only[YK]at b;subst b;rw[show u=_ from c];exact I.den _ (qm f);cases b;cases b
theorem Rd.sub{M:Fr}{t:Ty}{xs:List (El t)}{n c:Nat}(H:Rd M (.row t) xs [.slice a n c]){l r m:Nat}(h1:l<=r)(h2:r<=xs.length)(z:r<=m)(x:m<=c):
 Rd M (.row t) ((xs.take r).drop l) [.slice (eL a (sz t) l m) (r-l) (m-l)]:=by
 obtain⟨v,e,a',w,k,A,H⟩:=H;cases e;simp only[zai]at k;obtain⟨rfl,rfl,rfl⟩:=k;have f:((xs.take r).drop l).length=r-l:=φ
 refine⟨_,rfl,eL a (sz t) l m,m-l,ϕ f,⟨ω,ω⟩,?_⟩;by_cases y:r=l;simp_all;obtain u|⟨b,o,cs,s,p,hi⟩:=H;simp_all;right;have h:¬(m=l):=ω
 refine⟨b,o+l*sz t,cs,?_,p,λi q=>?_⟩;unfold eL;rw[za h,s];simp[zl];grind
def rh:AV->Option Int
 |.g (.a (.v (.int _ n)))=>Td n
 |_=>Te
def Cv(h:rh av=Td n)(b:DE γ av u):∃k,u=.int k n:=by unfold rh at h;split at h;simp only[YK]at h;subst h;exact⟨_,b⟩;cases h
def mR(P:EM)(t:N4):Option N4:=match P.underlying t with
 |some (.slice el)=>bif qq P el then Td el else Te
 |_=>Te
def sR(h:mR P t=Td el):P.underlying t=Td (.slice el)/\qq P el=Ta:=by unfold mR at h;grind
def vr(P:EM)(cs:CS)(t:N4)(b:AA)(n:Int)(g:Option Bool)(K:AV->Prop):Prop:=
 match mR P t with
 |some el=>match rowOf cs b with
  |some r=>bif gc (jk P el) (sz r.1)then ∃y:El r.1,req g (0<=n/\r.2[n.toNat]?=Td y)/\K (.g (.a (.elt r.1 y 0)))else False
  |none=>match b with
   |.own c=>match Wk cs c with
    |some (.row e ty xs)=>bif gc (jk P el) (sz ty)then req g (0<=n/\n.toNat<xs.length)/\K (.g (.a (.oelt c (sz ty) n.toNat 0)))else False
    |_=>False
   |_=>False
 |none=>False
def GH(e:P.underlying t=Td (.slice el))(l:qq P el=Ta){a:n8}{len cap:Nat}{k:IntKind}(h1:0<=n)(h2:n<(len:Int))(h:zb):At P (zdt t (.slice (Td a) len cap) (.int k n)) h (.pointer (Td (a.add (n.toNat*jk P el)))):=by have:=Ql (P:=P) (t:=t) (x:=.slice (Td a) len cap) (i:=.int k n) (g:=Te) (K:=λv=>v=.pointer (Td (a.add (n.toNat*jk P el)))) (λf c=>by simp_all[wu]) (by unfold pd;rw[e];exact⟨a,⟨rfl,h1,h2⟩,rfl⟩);obtain⟨v,rfl,b⟩:=this;exact b trivial h
def OH{F:AA}{K:AV->Prop}(H:vr P cs t F n g K):∃av,K av/\(eJ g->∀γ h u k,Inv h0 W M0 cs γ h->CD γ F u->∃v,DE γ av v/\At P (zdt t u (.int k n)) h v):=by
 unfold vr at H;split at H;rename_i el x;have⟨E,D⟩:=sR x;split at H;rename_i r S;cases hz:gc (jk P el) (sz r.1)with
 |false=>simp_all
 |true=>rw[hz]at H;have⟨y,A,z⟩:=H;refine⟨_,z,λs γ h u k I q=>?_⟩;have⟨i,m⟩:=A.out s;have l:=ZJ hz;have⟨v,e,a,c,N,hn,H⟩:=nI I S q;cases e;subst N;have hi:n.toNat<DB r.2:=(ZN.1 m).1;have U:r.2[n.toNat]=y:=(ZN.1 m).2;obtain Z|⟨b,o,J,V,L,w⟩:=H;simp_all;subst V;refine⟨_,?_,GH E D i ω h⟩;have:=w n.toNat hi;rw[U]at this;rw[zl,l];exact⟨b,o+n.toNat*sz r.1,J,rfl,L,this⟩
 split at H;rename_i c _;split at H;rename_i e ty xs Y;cases hz:gc (jk P el) (sz ty)with
 |false=>simp_all
 |true=>rw[hz]at H;have⟨A,z⟩:=H;refine⟨_,z,λs γ h u k I q=>?_⟩;have⟨i,hi⟩:=A.out s;have l:=ZJ hz;have⟨cells,f,G,_,Q⟩:=I.den _ (qm Y);simp only at Q f;obtain⟨p,h1⟩|⟨g',cap,O,p,_,M,_,_,_,B⟩:=f.2;omega;simp only[zai]at p;have C:u=aK (γ.σ c):=q;subst C;unfold aK;rw[p.1];refine⟨_,?_,GH E D i ω h⟩;rw[zl,l,ZO];exact⟨g',p.1,rfl⟩
 cases H;cases H;cases H
def nC(ρ:n7->Option AV)(d:Int):Option n7->Option Int
 |none=>Td d
 |some x=>match ρ x with
  |some av=>rh av
  |none=>Te
def Wn{ρ:n7->Option AV}(c:∀x av,ρ x=Td av->DE γ av (σ x)){d n:Int}{x:Option n7}(h:nC ρ d x=Td n):jg (x.map σ) d=Td n:=by unfold nC at h;split at h;exact h;rename_i y;split at h;rename_i av b;have⟨k,e⟩:=Cv h (c _ _ b);simp[jg,e];cases h
def uj(P:EM)(cs:CS)(ρ:n7->Option AV)(t:N4)(b:AA)(lo hi mx:Option n7)(g:Option Bool)(K:AV->Prop):Prop:=
 match mR P t with
 |some el=>match rowOf cs b with
  |some r=>bif gc (jk P el) (sz r.1)then(match nC ρ 0 lo,nC ρ (r.2.length:Int) hi with
   |some l,some h=>match mx with
    |none=>req g (0<=l/\l<=h/\h<=(r.2.length:Int))/\K (.g (.a (.d (.row r.1) ((r.2.take h.toNat).drop l.toNat))))
    |some m=>match nC ρ 0 (Td m),hi with
     |some m,some _=>req g (0<=l/\l<=h/\h<=(r.2.length:Int)/\m=h)/\K (.g (.a (.dc r.1 ((r.2.take h.toNat).drop l.toNat))))
     |_,_=>False
   |_,_=>False)else False
  |none=>False
 |none=>False
def Gv(e:P.underlying t=Td (.slice el))(q:qq P el=Ta){len cap:Nat}{lo hi mx:ab8}{l r m:Int}(b:jg lo 0=Td l)(c:jg hi (len:Int)=Td r)(i:jg mx (cap:Int)=Td m) (h0:mx=Te\/∃v,hi=Td v) (h1:0<=l) (h2:l<=r) (f:r<=m) (o:m<=(cap:Int)) (h:zb):At P (zdi t (.slice a len cap) lo hi mx) h (.slice (eL a (jk P el) l.toNat m.toNat) (r.toNat-l.toNat) (m.toNat-l.toNat)):=by have:=Ji (P:=P) (t:=t) (x:=.slice a len cap) (lo:=lo) (hi:=hi) (mx:=mx) (g:=Te) (K:=λv=>v=.slice (eL a (jk P el) l.toNat m.toNat) (r.toNat-l.toNat) (m.toNat-l.toNat)) (λp n=>by simp_all[wu]) (by unfold tg;rw[e];simp only[b,c,i];exact⟨h0,⟨h1,h2,f,o⟩,trivial⟩);obtain⟨v,rfl,k⟩:=this;exact k trivial h
def NH{ρ:n7->Option AV}{F:AA}{lo hi mx:Option n7}{K:AV->Prop}(H:uj P cs ρ t F lo hi mx g K):∃av,K av/\(eJ g->∀γ h u σ,Inv h0 W M0 cs γ h->(∀x av,ρ x=Td av->DE γ av (σ x))->CD γ F u->∃v,DE γ av v/\At P (zdi t u (lo.map σ) (hi.map σ) (mx.map σ)) h v):=by
 unfold uj at H;split at H;rename_i el s;have⟨E,B⟩:=sR s;split at H;rename_i r D;cases hz:gc (jk P el) (sz r.1)with
 |false=>simp_all
 |true=>
  rw[hz]at H;have o:=ZJ hz;simp only[zF]at H;split at H;rename_i l N C n;split at H;have⟨A,w⟩:=H;refine⟨_,w,λq γ h u σ I k p=>?_⟩;have⟨h1,h2,J⟩:=A.out q;have f:=nI I D p;have b:=f;have⟨v,e,a,c,y,L,_⟩:=b;cases e;subst y;refine⟨_,?_,Gv E B (Wn k C) (Wn k n) (m:=(c:Int)) rfl (.inl rfl) h1 h2 ω (Int.le_refl _) h⟩;rw[o];exact f.sub ω ω ω ω;rename_i m;split at H;rename_i m' O M;have⟨A,w⟩:=H;refine⟨_,w,λq γ h u σ I k p=>?_⟩;have⟨h1,h2,J,G⟩:=A.out q;subst G;have f:=nI I D p;have b:=f;have⟨v,e,a,c,y,L,_⟩:=b;cases e;subst y;have i:=Wn k M;have z:jg ((Td m).map σ) (c:Int)=Td m':=by unfold jg at i ⊢;simp only[Option.map_some]at i ⊢;split at i <;> simp_all
  refine⟨_,?_,Gv E B (Wn k C) (Wn k n) z (.inr ⟨_,rfl⟩) h1 h2 (Int.le_refl _) ω h⟩;rw[o];refine⟨⟨_,_,_⟩,rfl,rfl,f.sub ω ω ω ω⟩;cases H;cases H
 cases H;cases H
def xH(cs:CS):AA->Option Nat
 |.d (.row _) xs=>Td xs.length
 |.dc _ xs=>Td xs.length
 |.own c=>match Wk cs c with
  |some (.fz _ xs)=>Td xs.length
  |some (.row _ _ xs)=>Td xs.length
  |_=>Te
 |_=>Te
def N1(I:Inv h0 W M0 cs γ h){l:AA}{n:Nat}(b:xH cs l=Td n)(f:CD γ l u):∃a c,u=.slice a n c:=by
 have key:∀{t:Ty} {xs:List (El t)},Rd γ.M (.row t) xs [u]->∃a c,u=.slice a (DB xs) c:=by rintro t xs ⟨v,e,a,c,m,_⟩;cases e;exact⟨a,c,m⟩
 unfold xH at b;split at b;simp only[YK]at b;subst b;exact key f;simp only[YK]at b;subst b;have⟨s,_,_,f⟩:=f;exact key f;split at b;rename_i c t xs i;simp only[YK]at b;subst b;rw[show u=_ from f]at key ⊢;exact key (I.den _ (qm i));rename_i c e t xs i;simp only[YK]at b;subst b;have⟨cells,_,_,_,k⟩:=I.den _ (qm i);simp only at k;rw[show u=_ from f];exact⟨_,_,by unfold aK;rw[k]⟩;cases b;cases b
def CO:AA->List AA
 |.v x=>x.cells.toList.map .v
 |x=>[x]
def nJ:AV->Option (List AA)
 |.g (.a x)=>Td (CO x)
 |.g (.agg l)=>Td l
 |_=>Te
theorem K0(h:u.oneCell'=Ta):u.cells.toList=[u]:=by cases u <;> first|rfl|simp[i2]at h
def Wo(γ:Gh):∀l:List Value,DA (CD γ) (l.map .v) l
 |[]=>trivial
 |_::l=>⟨rfl,Wo γ l⟩
def Rc{x:AA}(k:CD γ x u):DA (CD γ) (CO x) u.cells.toList:=by
 have key:u.oneCell'=Ta->DA (CD γ) [x] u.cells.toList:=λh=>by rw[K0 h];exact⟨k,trivial⟩
 cases x with
 |v y=>rw[show u=y from k];exact Wo γ _
 |d t y=>exact key (Rd.one (show Rd γ.M t y [u]from k) u ξ)
 |box c o=>exact key (by rw[show u=_ from k];rfl)
 |own c=>exact key (by rw[show u=_ from k];rfl)
 |oelt c z i o=>have⟨g,_,e⟩:=k;exact key (π e)
 |elt t y o=>have⟨b,f,cs,e,_⟩:=k;exact key (π e)
 |dc t xs=>have⟨s,e,_⟩:=k;exact key (π e)
theorem Af{l:List AA}(h:nJ av=Td l)(b:DE γ av u):DA (CD γ) l u.cells.toList:=by unfold nJ at h;split at h;simp only[YK]at h;subst h;exact Rc b;simp only[YK]at h;subst h;obtain⟨us,rfl,h2⟩:=b;simpa[Value.cells]using h2;cases h
def mI(b:Nat->Option (Nat×Nat))(cells:List AA):List (Nat×AV)->Option (List AA)
 |[]=>Td cells
 |(i,av)::rest=>match b i,nJ av with
  |some (off,size),some l=>bif gc l.length size then(bif Nat.ble (off+l.length) cells.length then mI b (cells.take off++l++cells.drop (off+l.length)) rest else Te)else Te
  |_,_=>Te
def NO(vs:ab2):∀(k off:Nat) (cs:ab3),off+k+DB vs<=cs.size ->((vs.zipIdx k).foldl (λcs (x:Value×Nat)=>cs.setIfInBounds (off+x.2) x.1) cs).toList=cs.toList.take (off+k)++vs++cs.toList.drop (off+k+DB vs):=by
 induction vs with
 |nil=>simp
 |cons v vs b=>
  intro k off cs h;simp only[YU]at h;rw[List.zipIdx_cons,List.foldl_cons];refine(b (k+1) off (cs.setIfInBounds (off+k) v) η).trans ?_;simp only[Array.toList_setIfInBounds,YU];have hi:off+k<DB cs.toList:=φ
  rw[<-Nat.add_assoc,List.drop_set_of_lt ω];have c:(cs.toList.set (off+k) v).take (off+k+1)=cs.toList.take (off+k)++[v]:=by
   rw[List.take_set,YP hi,List.set_append_right _ _ φ];have:off+k-(cs.toList.take (off+k)).length=0:=φ
   rw[this];rfl
  grind
theorem uG{b:Nat->Option (Nat×Nat)}{γ:Gh}:∀{c:List (Nat×AV)} {cells r:List AA} {us:ab2} {ps:List (Nat×Value)},mI b cells c=Td r->DA (CD γ) cells us->DA (λ(x:Nat×AV) (y:Nat×Value)=>x.1=y.1/\DE γ x.2 y.2) c ps ->
 ∃n:List Value,Instr.fill b us.toArray ps=Td n.toArray/\DA (CD γ) r n
 |[],cells,r,us,[],h,hc,_=>by simp only[mI,YK]at h;subst h;exact⟨us,rfl,hc⟩
 |[],_,_,_,_::_,_,_,e=>e.elim
 |_::_,_,_,_,[],_,_,e=>e.elim
 |(i,av)::rest,cells,r,us,(j,v)::ps,h,hc,e=>by
  obtain⟨⟨f,t⟩,e⟩:=e;simp only at f t;subst f;simp only[mI]at h;split at h;rename_i off size l q w;cases hb:gc l.length size with
  |false=>simp_all
  |true=>
   rw[hb]at h;simp only[zF]at h;cases hb2:Nat.ble (off+l.length) cells.length with
   |false=>simp_all
   |true=>
    rw[hb2]at h;simp only[zF]at h;have m:=Af w t;have p:=m.length;have A:=hc.length;have h1:=ZJ hb;have h2:=zbn hb2;have s:v.cells.size=size:=by rw[<-h1,p];simp
    have k:DA (CD γ) (cells.take off++l++cells.drop (off+l.length)) (us.take off++v.cells.toList++us.drop (off+l.length)):=((hc.take off).append m).append (hc.drop _);obtain⟨n,z,u⟩:=uG h k e;refine⟨n,?_,u⟩;simp only[Instr.fill,q];have o:¬((decide (v.cells.size≠size)||decide (off+v.cells.size>us.toArray.size))=Ta):=by rw[s];simp;omega
    rw[za o];rw[<-z];congr 1;apply Array.ext';have:=NO v.cells.toList 0 off us.toArray φ;grind [Array.toList_zipIdx,trans]
  cases h
def om(P:EM):List Field->Bool
 |[]=>Ta
 |f::l=>bif qq P f.type then om P l else Tc
def GB{P:EM}{h:zb}:∀{l:List Field},om P l=Ta->At P (l.mapM λf=>do pure (f.offset,<-Go.sizeOf f.type)) h (l.map λf=>(f.offset,jk P f.type))
 |[],_=>λ_ _=>rfl
 |f::l,H=>by
  simp only[om]at H;cases ho:qq P f.type with
  |false=>simp_all
  |true=>rw[ho]at H;have⟨i,hi⟩:=wu ho;rw[zdo];exact At.bind (At.bind (At.sizeOf hi) (At.pure _)) (At.bind (GB H) (At.pure _))
def placeOf(P:EM)(b:Array Field)(i:Nat):Option (Nat×Nat):=match b[i]? with
 |some f=>Td (f.offset,jk P f.type)
 |none=>Te
def kW(ρ:n7->Option AV):List (Nat×n7)->Option (List (Nat×AV))
 |[]=>Td []
 |(i,x)::l=>match ρ x,kW ρ l with
  |some av,some r=>Td ((i,av)::r)
  |_,_=>Te
def xB{γ:Gh}{ρ:n7->Option AV}{σ:n7->Value}(b:∀x av,ρ x=Td av->DE γ av (σ x)):∀{l:List (Nat×n7)} {r:List (Nat×AV)},kW ρ l=Td r ->DA (λ(x:Nat×AV) (y:Nat×Value)=>x.1=y.1/\DE γ x.2 y.2) r (l.map λx=>(x.1,σ x.2))
 |[],r,h=>by simp only[kW,YK]at h;subst h;trivial
 |(i,x)::l,r,h=>by simp only[kW]at h;split at h;rename_i av c h1 h2;simp only[YK]at h;subst h;exact⟨⟨rfl,b _ _ h1⟩,xB b h2⟩;cases h
def zeroOf(P:EM)(t:N4):Option Value:=match P.info? t with
 |some i=>i.zero
 |none=>Te
def zO{z:Value}(h:zeroOf P t=Td z)(b:zb):At P (zeroValue t) b z:=by unfold zeroOf at h;split at h;rename_i i hi;intro B d;simp[zeroValue,typeInfo,program,hi,Sem.run,h];cases h
def uU(P:EM)(t:N4)(b:List (Nat×AV)):Option (List AA):=match P.underlying t,zeroOf P t with
 |some (.struct fs),some z=>bif om P fs.toList then mI (placeOf P fs) (z.cells.toList.map .v) b else Te
 |_,_=>Te
def Ot{b:List (Nat×AV)}{r:List AA}(h:uU P t b=Td r){ps:List (Nat×Value)}(n:DA (λ(x:Nat×AV) (y:Nat×Value)=>x.1=y.1/\DE γ x.2 y.2) b ps)(c:zb):∃k:List Value,At P (Instr.build t ps.toArray) c (.agg k.toArray)/\DA (CD γ) r k:=by
 unfold uU at h;split at h;rename_i e z o s;cases hof:om P e.toList with
 |false=>simp_all
 |true=>
  rw[hof]at h;simp only[zF]at h;have⟨k,u,q⟩:=uG h (Wo γ _) n;refine⟨k,?_,q⟩;intro B d;have p:=At.underlying (h:=c) o B d;have l:=zO s c B d;have m:=GB (P:=P) (h:=c) hof B d;unfold Instr.build;rw[DM,l];simp only[D0];rw[DM,p];simp only[D0];rw[DM,Array.mapM_eq_mapM_toList,Sem.run_map,m];simp only[D0];have w:(λi=>((e.toList.map λf=>(f.offset,jk P f.type)).toArray)[i]?)=placeOf P e:=by funext i;unfold placeOf;cases hi:e[i]? <;> simp[hi]
  simp_all
 cases h
def Ac(P:EM)(t:N4)(a b:Value):Option Bool:=match P.underlying t,a,b with
 |some (.int _),.int k x,.int k' y=>if k=k' then Td (x==y)else Te
 |some .string,.string x,.string y=>Td (x.toList==y.toList)
 |some .bool,.bool x,.bool y=>Td (x==y)
 |_,_,_=>Te
def lz(P:EM)(xs ys:List AA):List Field->Option Bool
 |[]=>Td Ta
 | f :: fs => if f.name = "_" then none else match nK P f.type xs f.offset, nK P f.type ys f.offset with
  |some (.a (.v a)),Td (.a (.v b))=>match Ac P f.type a b,lz P xs ys fs with
   |some p,some q=>Td (p&&q)
   |_,_=>Te
  |_,_=>Te
def Ai(P:EM)(o:n9)(ρ:n7->Option AV):Option Bool:=match o.op with
 |.binOp .eql t x y _=>match ρ x,ρ y with
  |some (.g (.agg xs)),Td (.g (.agg ys))=>match P.underlying t with
   |some (.struct _)=>bif P.stoodInHeld t then Te else bif P.eqGuardType P.depth t then Te else lz P xs ys (P.fieldsOf t).toList
   |_=>Te
  |_,_=>Te
 |.binOp .neq t x y _=>match ρ x,ρ y with
  |some (.g (.agg xs)),Td (.g (.agg ys))=>match P.underlying t with
   |some (.struct _)=>bif P.stoodInHeld t then Te else bif P.eqGuardType P.depth t then Te else(match lz P xs ys (P.fieldsOf t).toList with
    |some b=>Td (!b)
    |none=>Te)
   |_=>Te
  |_,_=>Te
 |_=>Te
theorem Uk{a b:Value}{r:Bool}(h:Ac P t a b=Td r)(d:Nat)(w:MN):(Op.equalIn (d+1) t a b).run P w=.ok r w:=by unfold Ac at h;grind [YK,run_equalIn_int,run_equalIn_string,run_equalIn_bool']
def Gm{P:EM}{γ:Gh}{xs ys:List AA}{us vs:ab2}(o:DA (CD γ) xs us)(n:DA (CD γ) ys vs)(d:Nat)(h:zb):∀(c:List Field) (b:Bool),lz P xs ys c=Td b->At P (Op.eqFields (d+1) us.toArray vs.toArray c) h b
 |[],b,hb=>by simp only[lz,YK]at hb;subst hb;exact At.pure _
 |f::c,b,hb=>by
  unfold lz at hb;split at hb;cases hb;rename_i z;split at hb;rename_i a s l i;split at hb;rename_i p q x t;simp only[YK]at hb;subst hb;have⟨u,C,r⟩:=u9 l o h;have⟨y,w,A⟩:=u9 i n h;have m:u=a:=C;have e:y=s:=w;subst m;subst e;intro B k;unfold Op.eqFields;rw[zi (by exact z)];rw[DM,r B k];simp only[D0];rw[DM,A B k];simp only[D0];rw[DM,Uk x d];simp only[D0];cases p with
  |false=>rfl
  |true=>simpa using Gm o n d h c q t B k
  cases hb;cases hb
def YC{ρ:n7->Option AV}(H:Ai P o ρ=Td b)(l:∀x av,ρ x=Td av->DE γ av (σ x))(h:zb):At P (fd σ o) h (.value (.bool b)):=by
 have key:∀{t:N4} {xs ys:List AA} {us vs:ab2} {k:Array Field} {b:Bool},P.underlying t=Td (.struct k)->P.stoodInHeld t=Tc->DA (CD γ) xs us->DA (CD γ) ys vs->lz P xs ys (P.fieldsOf t).toList=Td b->At P (Op.equalIn 10000 t (.agg us.toArray) (.agg vs.toArray)) h b:=by
  intro t xs ys us vs k b e c i f w B d;have u:P.underlying t=Td (.struct (P.fieldsOf t)):=by rw[e];simp[Program.fieldsOf,e]
  rw[run_equalIn_struct _ 9999 t us.toArray vs.toArray u c];exact Gm i f 9998 h _ b w B d
 unfold Ai at H;split at H;rename_i t x y z m;split at H;rename_i xs ys i f;split at H;rename_i k e;cases c:P.stoodInHeld t with
 |true=>simp_all
 |false=>
  cases hg:P.eqGuardType P.depth t with
  |true=>simp_all
  |false=>rw[c,hg]at H;have⟨us,q,r⟩:=l _ _ i;have⟨vs,s,d2⟩:=l _ _ f;have n:=key e c r d2 H;simp only[fd,m,q,s];refine At.val λB d=>?_;rw[DM,run_eqGuard_agg _ _ _ _ _ _ _ hg];simp only[D0];rw[run_eql_struct,n B d];rfl
 cases H;cases H;rename_i t x y z m;split at H;rename_i xs ys i f;split at H;rename_i k e;cases c:P.stoodInHeld t with
 |true=>simp_all
 |false=>
  cases hg:P.eqGuardType P.depth t with
  |true=>simp_all
  |false=>rw[c,hg]at H;simp only[zG]at H;split at H;rename_i A p;simp only[YK]at H;subst H;have⟨us,q,r⟩:=l _ _ i;have⟨vs,s,d2⟩:=l _ _ f;have n:=key e c r d2 p;simp only[fd,m,q,s];refine At.val λB d=>?_;rw[DM,run_eqGuard_agg _ _ _ _ _ _ _ hg];simp only[D0];rw[run_neq_struct,n B d];rfl;cases H
 cases H;cases H;cases H
def xK(P:EM)(o:n9)(ρ:n7->Option AV)(g:Option Bool)(cs:CS)(K:AV->Prop):Prop:=
 bif (bif ko o then(bif jQ P o then(bif W8 o.op then mS ρ o.op.operands.toList else Tc)else Tc)else Tc)then gb P o (sF ρ) g #[] (λv=>K (mN v))else
 match o.op with
 |.move x=>match ρ x with
  |some av=>K av
  |none=>False
 |.assign x=>match ρ x with
  |some av=>K av
  |none=>False
 |.extract x i=>match ρ x with
  |some (.tup l)=>match l[i]? with
   |some ag=>K (.g ag)
   |none=>False
  |some (.nx b p c)=>match i with
   |0=>K (.g (.a (.v (.bool b))))
   |1=>req g (b=Ta)/\K (.g (.a (.v (.int .i64 p))))
   |2=>req g (b=Ta)/\K (.g (.a (.v (.int .i32 c))))
   |_=>False
  |_=>False
 |.field t x f=>match ρ x,oA P t f with
  |some (.g (.agg l)),Td (k,ty)=>match nK P ty l k with
   |some ag=>K (.g ag)
   |none=>False
  |_,_=>False
 |.fieldAddr t x f=>match ρ x,oA P t f with
  |some (.g (.a aa)),Td (k,_)=>match rS k aa with
   |some h=>K (.g (.a h))
   |none=>False
  |_,_=>False
 |.load t x=>match ρ x with
  |some (.g (.a aa))=>mK P cs t aa g K
  |_=>False
 |.indexAddr t x i=>match ρ x,ρ i with
  |some (.g (.a aa)),some iv=>match rh iv with
   |some n=>vr P cs t aa n g K
   |none=>False
  |_,_=>False
 |.slice t x lo hi mx=>match ρ x with
  |some (.g (.a aa))=>uj P cs ρ t aa lo hi mx g K
  |_=>False
 |.nilCheck x=>match ρ x with
  |some (.g (.a aa))=>match rS 0 aa with
   |some _=>K (.g (.a aa))
   |none=>False
  |_=>False
 |.build t e=>match kW ρ e.toList with
  |some ps=>match uU P t ps with
   |some r=>K (.g (.agg r))
   |none=>False
  |none=>False
 |.call c=>match c.callee with
  |.builtin .len=>match c.args.toList,c.argTypes.toList with
   |[x],[t]=>match ρ x,P.underlying t with
    |some (.g (.a (.v (.string s)))),Td .string=>K (.g (.a (.v (.int .i64 (s.size:Int)))))
    |some (.g (.a (.v (.slice _ n _)))),Td (.slice _)=>K (.g (.a (.v (.int .i64 (n:Int)))))
    |some (.g (.a aa)),Td (.slice _)=>match xH cs aa with
     |some n=>K (.g (.a (.v (.int .i64 (n:Int)))))
     |none=>False
    |_,_=>False
   |_,_=>False
  |_=>False
 |_=>False
def LI{ρ:n7->Option AV}{K:AV->Prop}(H:xK P o ρ g cs K):∃av,K av/\(eJ g->∀γ h σ,Inv h0 W M0 cs γ h->(∀x av,ρ x=Td av->DE γ av (σ x))->∃v,DE γ av v/\At P (fd σ o) h (.value v)):=by
 unfold xK at H;cases hb:(cond (ko o) (cond (jQ P o) (cond (W8 o.op) (mS ρ o.op.operands.toList) Tc) Tc) Tc)with
 |true=>
  rw[hb]at H;cases hfam:ko o with
  |false=>simp_all
  |true=>
   cases y:jQ P o with
   |false=>simp_all
   |true=>
    cases hns:W8 o.op with
    |false=>simp_all
    |true=>rw[hfam,y,hns]at hb;simp only[zF]at hb H;have⟨v,h1,h2⟩:=vy hfam H;refine⟨_,h1,λA γ h σ I q=>⟨v,ov γ v,?_⟩⟩;rw[NQ q hns hb];exact h2 A h ⟨ξ,λi hi=>absurd hi ξ⟩
 |false=>
  rw[hb]at H;simp only[zG]at H;have val:∀{s:Sem Value} {h:zb} {v:Value},At P s h v->At P (s >>= λx=>(zc6 (zda x):Sem Next)) h (.value v):=λy=>At.val y;split at H;rename_i x w;split at H;rename_i av m;exact⟨av,H,λ_ γ h σ I q=>⟨_,q _ _ m,by simp only[fd,w];exact At.pure _⟩⟩;cases H;rename_i x w;split at H;rename_i av m;exact⟨av,H,λ_ γ h σ I q=>⟨_,q _ _ m,by simp only[fd,w];exact At.pure _⟩⟩;cases H;rename_i x i w;split at H;rename_i l m;split at H;rename_i ag G;refine⟨_,H,λ_ γ h σ I q=>?_⟩;have⟨us,e,h2⟩:=q _ _ m;have⟨u,E,z⟩:=h2.get G;refine⟨u,z,?_⟩;simp only[fd,w,e];refine val λB d=>?_;unfold Instr.extract;simp[E];cases H;rename_i b p c m;split at H;refine⟨_,H,λ_ γ h σ I q=>⟨_,rfl,?_⟩⟩;have⟨Q,e2⟩:=q _ _ m;simp only[fd,w];refine val λB d=>?_;cases b with
  |true=>rw[Q rfl];rfl
  |false=>rw[e2 rfl];rfl
  refine⟨_,H.2,λA γ h σ I q=>⟨_,rfl,?_⟩⟩;have⟨Q,_⟩:=q _ _ m;simp only[fd,w,Q (H.1.out A)];exact val λB d=>rfl;refine⟨_,H.2,λA γ h σ I q=>⟨_,rfl,?_⟩⟩;have⟨Q,_⟩:=q _ _ m;simp only[fd,w,Q (H.1.out A)];exact val λB d=>rfl;cases H;cases H;rename_i t x f w;split at H;rename_i l k ty m C;split at H;rename_i ag G;refine⟨_,H,λ_ γ h σ I q=>?_⟩;have⟨us,e,h2⟩:=q _ _ m;have⟨v,z,y⟩:=u9 G h2 h;refine⟨v,z,?_⟩;simp only[fd,w,e];refine val λB d=>?_;unfold oA at C;split at C;rename_i fs E;split at C;rename_i fl U;split at C;rename_i i hi;cases hz:gc i.size 0 with
  |true=>simp_all
  |false=>rw[hz]at C;simp only[zG,YK,za5]at C;obtain⟨rfl,rfl⟩:=C;have S:=At.underlying (h:=h) E B d;unfold Instr.field;rw[DM,S];simp only[D0,U,asAgg,DM,DQ];exact y B d
  cases C;cases C;cases C;cases H;cases H;rename_i t x f w;split at H;rename_i O k ty m C;split at H;rename_i ae L;refine⟨_,H,λ_ γ h σ I q=>?_⟩;have⟨b,o',e,z⟩:=Er L (q _ _ m);refine⟨_,z,?_⟩;simp only[fd,w];simp_all[PM];cases H;cases H;rename_i t x w;split at H;rename_i O m;have⟨av,h1,h2⟩:=F2 (h0:=h0) (W:=W) (M0:=M0) H;refine⟨av,h1,λA γ h σ I q=>?_⟩;have⟨v,z,y⟩:=h2 A γ h _ I (q _ _ m);refine⟨v,z,?_⟩;simp only[fd,w];exact val y;cases H;rename_i t x i w;split at H;rename_i O iv m V;split at H;rename_i n Y;have⟨av,h1,h2⟩:=OH (h0:=h0) (W:=W) (M0:=M0) H;refine⟨av,h1,λA γ h σ I q=>?_⟩;have⟨k,e⟩:=Cv Y (q _ _ V);have⟨v,z,y⟩:=h2 A γ h _ k I (q _ _ m);refine⟨v,z,?_⟩;simp only[fd,w];simp_all;cases H;cases H;rename_i t x lo hi mx w;split at H;rename_i O m;have⟨av,h1,h2⟩:=NH (h0:=h0) (W:=W) (M0:=M0) H;refine⟨av,h1,λA γ h σ I q=>?_⟩;have⟨v,z,y⟩:=h2 A γ h _ σ I q (q _ _ m);refine⟨v,z,?_⟩;simp only[fd,w];exact val y;cases H;rename_i x w;split at H;rename_i O m;split at H;rename_i ae L;refine⟨_,H,λ_ γ h σ I q=>?_⟩;have⟨b,o',e,z⟩:=Er L (q _ _ m);have ab:=q _ _ m;refine⟨σ x,ab,?_⟩;simp only[fd,w];rw[e];exact At.pure _;cases H;cases H;rename_i t D w;split at H;rename_i ps Z;split at H;rename_i r hr;refine⟨_,H,λ_ γ h σ I q=>?_⟩;have⟨ws,y,z⟩:=Ot hr (xB q Z) h;refine⟨.agg ws.toArray,⟨ws,rfl,z⟩,?_⟩;simp only[fd,w];have e:(D.map λx=>(x.1,σ x.2))=(D.toList.map λx=>(x.1,σ x.2)).toArray:=by rw[<-Array.toList_map]
  simp_all;cases H;cases H;rename_i c w;split at H;rename_i hc;split at H;rename_i x t J N;have F:c.args=#[x]:=by have:=congrArg List.toArray J;simp at this;exact this
  have M:c.argTypes=#[t]:=by have:=congrArg List.toArray N;simp at this;exact this
  have key:∀(σ:n7->Value) (h:zb) (n:Int),(At P (zch #[t] o.type #[σ x]) h (.int .i64 n))->At P (fd σ o) h (.value (.int .i64 n)):=by
   intro σ h n y;have e:fd σ o=(zch c.argTypes o.type (c.args.map σ) >>= λx=>(zc6 (zda x):Sem Next)):=by simp only[fd,w,resolve,hc];rfl
   rw[e,F,M];refine val ?_;simpa using y
  split at H;rename_i s m E;refine⟨_,H,λ_ γ h σ I q=>⟨_,rfl,key σ h _ λB d=>?_⟩⟩;have y:=At.underlying (h:=h) E B d;have e:σ x=.string s:=q _ _ m;unfold zch;simp only[List.getElem?_toArray,List.getElem?_cons_zero,e,DM,y,D0,DQ];rfl;rename_i a n cp el m E;refine⟨_,H,λ_ γ h σ I q=>⟨_,rfl,key σ h _ λB d=>?_⟩⟩;have y:=At.underlying (h:=h) E B d;have e:σ x=.slice a n cp:=q _ _ m;unfold zch;simp only[List.getElem?_toArray,List.getElem?_cons_zero,e,DM,y,D0,DQ];rfl;rename_i O el _ _ m E;split at H;rename_i n Y;refine⟨_,H,λ_ γ h σ I q=>⟨_,rfl,key σ h _ λB d=>?_⟩⟩;have y:=At.underlying (h:=h) E B d;have⟨a,cp,e⟩:=N1 I Y (q _ _ m);unfold zch;simp only[List.getElem?_toArray,List.getElem?_cons_zero,e,DM,y,D0,DQ];rfl;cases H;cases H;cases H;cases H;cases H
def uu(P:EM)(o:n9)(ρ:n7->Option AV):Option Bool:=match o.op with
 |.binOp op t x (.const .nilIface) _=>match ρ x,ρ (.const .nilIface),P.underlying t with
  |some (.g (.a (.d .err b))),Td (.g (.a (.v .nilIface))),Td (.interface _)=>match op with
   |.eql=>Td b
   |.neq=>Td (!b)
   |_=>Te
  |_,_,_=>Te
 |_=>Te
def JH{ρ:n7->Option AV}(H:uu P o ρ=Td b)(p:∀x av,ρ x=Td av->DE γ av (σ x))(h:zb):At P (fd σ o) h (.value (.bool b)):=by
 have key:∀{t:N4} {ms:Array (String×N4)} {b:Bool} {u:Value},P.underlying t=Td (.interface ms)->((b=Ta/\u=.nilIface)\/(b=Tc/\∃t l,u=.iface t l))->At P (zdw t u .nilIface) h b:=by intro t ms b u m i B d;have q:=At.underlying (h:=h) m B d;unfold zdw Op.maxDepth;obtain⟨rfl,rfl⟩|⟨rfl,t',l,rfl⟩:=i;unfold Op.equalIn;rw[DM,q];rfl;unfold Op.equalIn;rw[DM,q];rfl
 unfold uu at H;split at H;rename_i c t x C r;split at H;rename_i b0 ms y s m;have z:σ (.const .nilIface)=.nilIface:=p _ _ s;have⟨u,e,i⟩:=(show Rd γ.M .err b0 [σ x]from p _ _ y);have A:u=σ x:=ψ e.symm
 subst A;have n:=key m i;have w:∀c,At P (eqGuard c t x (.const .nilIface) (σ x) .nilIface) h ():=by intro c B d;unfold eqGuard;obtain⟨_,k⟩|⟨_,t',l,k⟩:=i;simp_all;simp_all
 have f:∀c,(binOp c t (σ x) .nilIface=match c with | .eql=>(do pure (.bool (<-zdw t (σ x) .nilIface))) | .neq=>(do pure (.bool (!(<-zdw t (σ x) .nilIface))))|_=>binOp c t (σ x) .nilIface):=by intro c;obtain⟨_,k⟩|⟨_,t',l,k⟩:=i;rw[k];cases c <;> rfl;rw[k];cases c <;> rfl
 simp only[fd,r,z];refine At.val ((w c).bind ?_);split at H;simp only[YK]at H;subst H;rw[f];exact n.bind (At.pure _);simp only[YK]at H;subst H;rw[f];exact n.bind (At.pure _);cases H;cases H;cases H
def HG(o:n9)(ρ:n7->Option AV):Option (N4×Nat×Nat):=match o.op with
 |.load t x=>match ρ x with
  |some (.g (.a (.v (.pointer (Td ⟨b,off,Te⟩)))))=>Td (t,b,off)
  |_=>Te
 |_=>Te
def oz(gl:Fr)(b off:Nat)(v:Value):Prop:=∃cs,gl b=Td cs/\cs[off]?=Td v
def mG(gl:Fr)(b:Nat)(g:Option Bool):List GT->Nat->(List AA->Prop)->Prop
 |[],_,K=>K []
 |.int k::l,o,K=>∃x:Int,req g (oz gl b o (.int k x))/\mG gl b g l (o+1) λr=>K (.v (.int k x)::r)
 |.str::l,o,K=>∃x:Bt,req g (oz gl b o (.string x))/\mG gl b g l (o+1) λr=>K (.v (.string x)::r)
 |.bool::l,o,K=>∃x:Bool,req g (oz gl b o (.bool x))/\mG gl b g l (o+1) λr=>K (.v (.bool x)::r)
 |_::_,_,_=>False
def Qo{gl:Fr}{b:Nat}{g:ac0}:∀{l:List GT} {o:Nat} {K:List AA->Prop},mG gl b g l o K->∃vs:List Value,DB vs=DB l/\K (vs.map .v)/\(eJ g->∀(j:Nat) (v:Value),vs[j]?=Td v->oz gl b (o+j) v)
 |[],o,K,H=>⟨[],rfl,H,λ_ j v h=>ι h⟩
 |.int k::l,o,K,⟨x,h1,h2⟩=>by
  have⟨vs,e,i,m⟩:=Qo h2;refine⟨.int k x::vs,ϑ e,i,λf j v c=>?_⟩;cases j with
  |zero=>simp at c;subst c;exact h1.out f
  |succ j=>grind
 |.str::l,o,K,⟨x,h1,h2⟩=>by
  have⟨vs,e,i,m⟩:=Qo h2;refine⟨.string x::vs,ϑ e,i,λf j v c=>?_⟩;cases j with
  |zero=>simp at c;subst c;exact h1.out f
  |succ j=>grind
 |.bool::l,o,K,⟨x,h1,h2⟩=>by
  have⟨vs,e,i,m⟩:=Qo h2;refine⟨.bool x::vs,ϑ e,i,λf j v c=>?_⟩;cases j with
  |zero=>simp at c;subst c;exact h1.out f
  |succ j=>grind
 |.sl::_,_,_,H=>H.elim
 |.mp::_,_,_,H=>H.elim
 |.ptr::_,_,_,H=>H.elim
 |.raw::_,_,_,H=>H.elim
def Dc(P:EM)(gl:Fr)(t:N4)(b off:Nat)(g:Option Bool)(K:AV->Prop):Prop:=match ia P t with
 |some (.one a)=>mG gl b g [a] off λr=>match r with
  |[x]=>K (.g (.a x))
  |_=>False
 |some (.agg l)=>mG gl b g l off λr=>K (.g (.agg r))
 |none=>False
def Bl(P:EM)(o:n9)(ρ:n7->Option AV):Option (Nat×Nat×Int×Nat×Nat):=match o.op with
 |.indexAddr t x i=>match ρ x,ρ i,P.underlying t with
  |some (.g (.a (.v (.pointer (Td ⟨b,off,Te⟩))))),Td (.g (.a (.v (.int _ n)))),Td (.array len el)=>bif qq P el then Td (b,off,n,len,jk P el)else Te
  |_,_,_=>Te
 |_=>Te
def qA(P:EM)(gl:Fr)(o:n9)(ρ:n7->Option AV)(g:Option Bool)(cs:CS)(K:AV->Prop):Prop:=match Ai P o ρ with
 |some b=>K (.g (.a (.v (.bool b))))
 |none=>match uu P o ρ with
  |some b=>K (.g (.a (.v (.bool b))))
  |none=>match HG o ρ with
   |some (t,b,off)=>Dc P gl t b off g K
   |none=>match Bl P o ρ with
    |some (b,off,n,len,z)=>req g (0<=n/\n<(len:Int))/\K (.g (.a (.v (.pointer (Td ⟨b,off+n.toNat*z,Te⟩)))))
    |none=>xK P o ρ g cs K
theorem sV{gl:Fr}(M:Fr.le gl M0){ρ:n7->Option AV}{K:AV->Prop}(H:qA P gl o ρ g cs K):
 ∃av,K av/\(eJ g->∀γ h σ,Inv h0 W M0 cs γ h->(∀x av,ρ x=Td av->DE γ av (σ x))->∃v,DE γ av v/\At P (fd σ o) h (.value v)):=by
 unfold qA at H;split at H;rename_i b A;exact⟨_,H,λ_ γ h σ _ f=>⟨_,rfl,YC A f h⟩⟩;split at H;rename_i b A;exact⟨_,H,λ_ γ h σ _ f=>⟨_,rfl,JH A f h⟩⟩;split at H;rename_i t b off e;unfold HG at e;split at e;rename_i t' x E;split at e;rename_i p c G;simp only[YK,za5]at e;obtain⟨rfl,rfl,rfl⟩:=e;have key:∀{s:ac3} {vs:ab2} {ag:AG},iF P t'=Td s->vs.length=iR s->jH s (vs.map .v)=Td ag->(eJ g->∀(j:Nat) (v:Value),vs[j]?=Td v->oz gl p (c+j) v)->eJ g->∀γ h σ,Inv h0 W M0 cs γ h->(∀x av,ρ x=Td av->DE γ av (σ x))->∃u,DE γ (.g ag) u/\At P (fd σ o) h (.value u):=by intro s vs ag Y Z V hc e γ h σ I f;have F:σ x=.pointer (Td ⟨p,c,Te⟩):=f _ _ G;obtain⟨u,O,C⟩:=tz (γ:=γ) Y (u:=σ x) (us:=vs) ⟨_,_,F,λj w U=>by obtain⟨cc,q,m⟩:=hc e j w U;exact I.ag.cell (I.le _ _ (M _ _ q)) m⟩ Z (Wo γ vs) V;exact⟨u,O,by simp only[fd,E];exact At.val C⟩
 unfold Dc at H;split at H;rename_i a J;obtain⟨vs,q,m,r⟩:=Qo H
 match vs,q,m,r with
 |[v],q,m,r=>exact⟨_,m,key (s:=Te) (by unfold iF;rw[J]) rfl rfl r⟩
 rename_i l J;obtain⟨vs,q,m,r⟩:=Qo H;exact⟨_,m,key (s:=Td l.length) (by unfold iF;rw[J]) q rfl r⟩;cases H;cases e;cases e;split at H;rename_i b off n len z e;unfold Bl at e;split at e;rename_i t x i E;split at e;rename_i p c k y N el G hi F;cases hok:qq P el with
 |false=>simp_all
 |true=>rw[hok]at e;simp only[zF,YK,za5]at e;obtain⟨rfl,rfl,rfl,rfl,rfl⟩:=e;refine⟨_,H.2,λD γ h σ I f=>⟨_,rfl,?_⟩⟩;have B:σ x=.pointer (Td ⟨p,c,Te⟩):=f _ _ G;have L:σ i=.int k y:=f _ _ hi;obtain⟨h1,h2⟩:=H.1.out D;obtain⟨v,rfl,C⟩:=Ql (P:=P) (t:=t) (x:=.pointer (Td ⟨p,c,Te⟩)) (i:=.int k y) (g:=Te) (K:=λv=>v=.pointer (Td (YH ⟨p,c,Te⟩ (y.toNat*jk P el)))) (λS Q=>by simp_all[wu]) (by unfold pd;rw[F];exact⟨_,⟨rfl,h1,h2⟩,rfl⟩);have:=C trivial h;rw[zl]at this;simp only[fd,E,B,L];exact At.val this
 cases e;cases e;exact LI H
end
section
variable {M gl:Fr} {u:Value} {P:EM} {f:n5} {γ:Gh} {cs C R:CS} {o:n9} {σ:n7 -> Value} {h:zb} {tr:N4}
variable {h0 : zb} {W : Nat -> Prop} {M0 : Fr}
def fh:Ty->Bool
 |.tree=>Ta
 |.unit=>Ta
 |.pair _ _=>Ta
 |_=>Tc
def RdV(M:Fr)(t:Ty)(x:El t)(u:Value):Prop:=if fh t=Ta then ∃cs:List Value,u=.agg cs.toArray/\Rd M t x cs else Rd M t x [u]
theorem RdV.mono{M M':Fr}(c:Fr.le M M'){t:Ty}{x:El t}(h:RdV M t x u):RdV M' t x u:=by unfold RdV at *;by_cases b:fh t=Ta;rw[zi b]at *;grind [Rd.mono];rw[za b]at *;exact Rd.mono c h
structure Arg where
 t:Ty
 x:El t
def iy(M:Fr)(l:List Arg)(vs:List Value):Prop:=DA (λ(a:Arg) u=>RdV M a.t a.x u) l vs
@[reducible] def eX:List Ty->Type
 |[]=>Unit
 |[t]=>El t
 |t::t'::l=>El t×eX (t'::l)
def A8:(l:List Ty)->eX l
 |[]=>()
 |[t]=>pt t
 |t::t'::l=>(pt t,A8 (t'::l))
def s5(M:Fr):(l:List Ty)->eX l->List Value->Prop
 |[],_,us=>us=[]
 |[t],x,us=>∃u,us=[u]/\RdV M t x u
 |t::t'::l,x,us=>∃u b,us=u::b/\RdV M t x.1 u/\s5 M (t'::l) x.2 b
def x7(M:Fr)(l:List Ty)(x:eX l)(v:Value):Prop:=∃us,s5 M l x us/\v=iN us
def PC(P:EM)(gl:Fr)(f:n5)(args:List Arg)(rt:List Ty)(R:eX rt->Prop):Prop:=
 ∀(h:zb) (M:Fr) (vs:List Value),Fr.le gl M->AgM M h->iy M args vs->XC P f vs.toArray h λv h'=>
  Bk h.size h h'/\∃M' r,Fr.le M M'/\(∀b,b<h.size->M' b=M b)/\AgM M' h'/\x7 M' rt r v/\R r
theorem PC.mono{args:List Arg}{rt:List Ty}{R b:eX rt->Prop}(H:PC P gl f args rt R)(n:∀r,R r->b r):PC P gl f args rt b:= λh M vs h1 h2 e=>(H h M vs h1 h2 e).mono λv h' ⟨k,M',r,i,o,l,m,c⟩=>⟨k,M',r,i,o,l,m,n r c⟩
theorem RdV.bd{t:Ty}{x:El t}(h:RdV M t x u):Bd t x:=by unfold RdV at h;split at h;have⟨cs,_,h⟩:=h;exact h.bd;exact h.bd
theorem PC.bd{args:List Arg}{rt:List Ty}{R:eX rt->Prop}(H:(∀a∈args,Bd a.t a.x)->PC P gl f args rt R):PC P gl f args rt R:=by
 intro h M vs h1 h2 c;refine H ?_ h M vs h1 h2 c;clear H h1 h2;induction args generalizing vs with
 |nil=>simp
 |cons a args i=>
  cases vs with
  |nil=>cases c
  |cons u us=>intro b e;obtain rfl|e:=YT.1 e;exact RdV.bd c.1;exact i us c.2 b e
def pg(t:Ty)(x:El t):AG:=bif fh t then .agg (Wj t x)else(match Wj t x with
 |[y]=>.a y
 |l=>.agg l)
def tD{t:Ty}{x:El t}(h:RdV γ.M t x u):MT γ (pg t x) u:=by
 unfold RdV at h;unfold pg;split at h;rename_i c;rw[c];have⟨cs,e,h⟩:=h;exact⟨cs,e,xz h⟩;rename_i c;have f:fh t=Tc:=ψ c
 rw[f];simp only[zG];have b:=xz (γ:=γ) h
 match hx:Wj t x,b with
 |[y],b=>exact b.1
 |[],b=>cases b
 |_::_::_,b=>exact b.2.elim
def sL:(l:List Ty)->eX l->List AG
 |[],_=>[]
 |[t],x=>[pg t x]
 |t::t'::l,x=>pg t x.1::sL (t'::l) x.2
def BH{γ:Gh}:∀{l:List Ty} {x:eX l} {us:ab2},s5 γ.M l x us->DA (MT γ) (sL l x) us
 |[],_,_,h=>by rw[h];trivial
 |[_],_,_,⟨u,e,h⟩=>by rw[e];exact⟨tD h,trivial⟩
 |_::_::_,_,_,⟨u,us,e,h,h'⟩=>by rw[e];exact⟨tD h,BH h'⟩
def oQ(l:List Ty)(x:eX l):AV:=match sL l x with
 |[g]=>.g g
 |gs=>.tup gs
def Va{l:List Ty}{x:eX l}{v:Value}(h:x7 γ.M l x v):DE γ (oQ l x) v:=by
 obtain⟨us,h,rfl⟩:=h;have b:=BH (γ:=γ) h;unfold oQ;generalize sL l x=gs at *
 match gs,us,b with
 |[],[],_=>exact⟨[],rfl,trivial⟩
 |[g],[u],b=>exact b.1
 |g::g'::gs,u::u'::us,b=>exact⟨_,rfl,b⟩
 |[],_::_,b=>cases b
 |_::_,[],b=>cases b
 |[_],_::_::_,b=>exact b.2.elim
 |_::_::_,[_],b=>exact b.2.elim
def pm(P:EM)(tr:N4):Nat->N4->Option Ty
 |0,_=>Te
 |n+1,t=>bif gc t tr then Td .tree else match P.underlying t with
  |some (.int k)=>Td (.int k)
  |some .bool=>Td .bool
  |some .string=>Td .str
  |some (.slice e)=>match pm P tr n e with
   |some x=>Td (.row x)
   |none=>Te
  |some (.struct fs)=>tysOf P (λt=>pm P tr n t) fs.toList
  |some (.interface _)=>Td .err
  |_=>Te
where tysOf (P:EM) (f:N4->Option Ty):List Field->Option Ty
 |[]=>Td .unit
 |[x]=>f x.type
 |x::y::l=>match f x.type,tysOf P f (y::l)with
  |some a,some b=>Td (.pair a b)
  |_,_=>Te
def tw(P:EM)(tr:N4):List N4->Option (List Ty)
 |[]=>Td []
 |t::l=>match pm P tr 8 t,tw P tr l with
  |some a,some b=>Td (a::b)
  |_,_=>Te
def Fu:AA->List Nat
 |.own c=>[c]
 |_=>[]
def ma:List AA->List Nat
 |[]=>[]
 |x::l=>Fu x++ma l
def Su:AV->List Nat
 |.g (.a x)=>Fu x
 |.g (.agg l)=>ma l
 |_=>[]
def iK:List AV->List Nat
 |[]=>[]
 |v::l=>Su v++iK l
def frzL:List Nat->CS->CS
 |[],C=>C
 |c::l,C=>frzL l (kQ c C)
theorem Inv.frzL{C R:CS}{γ:Gh}{h:zb}:∀(l:ab1) {C:CS} {γ:Gh},Inv h0 W M0 (C++R) γ h->∃γ',Inv h0 W M0 (frzL l C++R) γ' h/\Gx Te γ γ'
 |[],C,γ,I=>⟨γ,I,Gx.refl _ _⟩
 |c::l,C,γ,I=>by have⟨n,m,e⟩:=Inv.freeze c C [] I;have⟨f,k,b⟩:=Inv.frzL (C:=C) (γ:=γ) l m;exact⟨f,k,e.1.trans b.1,λi hi=>⟨(b.2 i hi).1.trans (e.2 i hi).1,(b.2 i hi).2.trans (e.2 i hi).2⟩⟩
def m5(cs:CS)(t:Ty):AV->Option (El t)
 |.g (.agg l)=>bif fh t then(match collect cs t l with
  |some (y,[])=>Td y
  |_=>Te)else Te
 |.g (.a x)=>bif fh t then Te else i4 cs t x
 |_=>Te
def vH(c:i8 γ cs){t:Ty}{av:AV}{y:El t}(h:m5 cs t av=Td y)(b:DE γ av u):RdV γ.M t y u:=by
 unfold m5 at h;unfold RdV;split at h;rename_i l;cases ha:fh t with
 |false=>simp_all
 |true=>
  rw[ha]at h;simp only[zF]at h;split at h;rename_i m i;simp only[YK]at h;subst h;have⟨us,e,h2⟩:=b;obtain⟨c1,c2,rfl,k,f⟩:=Wl c i h2;cases c2 with
  |nil=>simp_all
  |cons _ _=>cases f
  cases h
 rename_i x;cases ha:fh t with
 |true=>simp_all
 |false=>rw[ha]at h;simp only[zaq,if_false];exact wm c h b
 cases h
def ww(cs:CS):List Ty->List AV->Option (List Arg)
 |[],[]=>Td []
 |t::ts,v::vs=>match m5 cs t v,ww cs ts vs with
  |some x,some l=>Td (⟨t,x⟩::l)
  |_,_=>Te
 |_,_=>Te
def Jw{γ:Gh}{cs:CS}(b:i8 γ cs):∀{ts:List Ty} {vs:List AV} {l:List Arg},ww cs ts vs=Td l->∀{us:ab2},DA (DE γ) vs us->iy γ.M l us
 |[],[],l,h,[],_=>by simp only[ww,YK]at h;subst h;trivial
 |[],[],_,_,_::_,hd=>hd.elim
 |t::ts,v::vs,l,h,[],hd=>hd.elim
 |t::ts,v::vs,l,h,u::us,hd=>by simp only[ww]at h;split at h;rename_i x c h1 h2;simp only[YK]at h;subst h;exact⟨vH b h1 hd.1,Jw b h2 hd.2⟩;cases h
 |[],_::_,_,h,_,_=>by simp[ww]at h
 |_::_,[],_,h,_,_=>by simp[ww]at h
def mO(ρ:n7->Option AV):List n7->Option (List AV)
 |[]=>Td []
 |x::l=>match ρ x,mO ρ l with
  |some v,some vs=>Td (v::vs)
  |_,_=>Te
def Ag{γ:Gh}{ρ:n7->Option AV}{σ:n7->Value}(b:∀x av,ρ x=Td av->DE γ av (σ x)):∀{l:List n7} {vs:List AV},mO ρ l=Td vs->DA (DE γ) vs (l.map σ)
 |[],vs,h=>by simp only[mO,YK]at h;subst h;trivial
 |x::l,vs,h=>by simp only[mO]at h;split at h;rename_i v c h1 h2;simp only[YK]at h;subst h;exact⟨b _ _ h1,Ag b h2⟩;cases h
def ExA(P:EM)(s:Sem Next)(h:zb)(Post:Value->zb->Prop):Prop:=∀B d,
 (∃v b h',s.run P (mk B d h)=.ok (.value v) (mk B b h')/\Post v h') \/
 (∃b h',s.run P (mk B d h)=.ok .skip (mk B b h')/\Post undef h') \/
 (∃f args,s.run P (mk B d h)=.ok (.enter f args) (mk B d h)/\XC P f args h Post)
theorem ExA.upon{Post:vvv}(H:ExA P (fd σ o) h Post)(B:MN)(d:Nat){a:Act}{next:Act->MN->Prop}{Q:Exit->Act->MN->Prop}(i:∀v c h',Post v h'->next (a.put o.dst v) (mk B c h')):o.upon P a next Q ((fd σ o).run P (mk B d h)):=by obtain⟨v,c,h',e,b⟩|⟨c,h',e,b⟩|⟨f,args,e,k⟩:=H B d;exact upon_value e (i _ _ _ b);exact LT e (i _ _ _ b);rw[e];refine(k B d).mono ?_;simp_all
def gR(h0:zb)(W:Nat->Prop)(M0:Fr)(R:CS)(γ:Gh)(K:AV->CS->Option Nat->Prop)(v:Value)(h':zb):Prop:=
 ∃av b c γ',K av b c/\DE γ' av v/\Inv h0 W M0 (b++R) γ' h'/\Gx c γ γ'
theorem tF(b:Fr.le gl M0){ρ:n7->Option AV}{K:AV->CS->Option Nat->Prop}(H:qA P gl o ρ Te (C++R) λav=>K av C Te)(I:Inv h0 W M0 (C++R) γ h)(f:∀x av,ρ x=Td av->DE γ av (σ x)):ExA P (fd σ o) h (gR h0 W M0 R γ K):=by have⟨av,h1,h2⟩:=sV (h0:=h0) (W:=W) (M0:=M0) b H;have⟨v,c,e⟩:=h2 trivial γ h σ I f;exact λB d=>.inl ⟨v,d,h,e B d,av,C,Te,γ,h1,c,I,Gx.refl _ _⟩
def sE:n7->Option n5
 |.func f=>Td f
 |_=>Te
def Dd(P:EM)(tr:N4)(f:n5):Option (List Ty×List Ty):=match P.funcs[f]? with
 |some fn=>match tw P tr fn.params.toList,tw P tr fn.resultTypes.toList with
  |some a,some b=>Td (a,b)
  |_,_=>Te
 |none=>Te
def vT(P:EM)(gl:Fr)(tr:N4)(o:n9)(ρ:n7->Option AV)(C R:CS)(K:AV->CS->Prop):Prop:=
 match o.op with
 |.call c=>match c.callee with
  |.value x=>match sE x with
   |some f=>bif zr P f then(match Dd P tr f,mO ρ c.args.toList with
    |some (ts,rt),some vs=>match ww (frzL (iK vs) C++R) ts vs with
     |some args=>PC P gl f args rt λr=>K (oQ rt r) (frzL (iK vs) C)
     |none=>False
    |_,_=>False)else False
   |none=>False
  |_=>False
 |_=>False
def tS(P:EM)(gl:Fr)(tr:N4)(o:n9)(ρ:n7->Option AV)(b:Bool)(cs:CS)(K:AV->Prop):Prop:=
 match o.op with
 |.call c=>match c.callee with
  |.value x=>match sE x with
   |some f=>bif zr P f then(match Dd P tr f,mO ρ c.args.toList with
    |some (ts,rt),some vs=>match ww cs ts vs with
     |some args=>∃J:eX rt->Prop,(b=Ta->PC P gl f args rt J)/\∀r,(b=Ta->J r)->K (oQ rt r)
     |none=>False
    |_,_=>False)else False
   |none=>False
  |_=>False
 |_=>False
def HT{x:n7}(h:sE x=Td f):x=.func f:=by unfold sE at h;grind
def Cq{c:Call}(e:o.op=.call c)(i:c.callee=.value (.func f))(b:zr P f=Ta)(h:σ (.func f)=.func (.func f) #[] #[])(w:MN):(fd σ o).run P w=.ok (.enter f (c.args.map σ)) w:=by simp only[fd,e,resolve,i,h,zde,DM,DQ,D0,invoke];rw[vn b];simp
def CH(b:Fr.le gl M0){args:List Arg}{rt:List Ty}{e:eX rt->Prop}(H:PC P gl f args rt e)(I:Inv h0 W M0 cs γ h){us:ab2}(m:iy γ.M args us):XC P f us.toArray h λv h'=>∃r γ',e r/\DE γ' (oQ rt r) v/\Inv h0 W M0 cs γ' h'/\Gx Te γ γ'/\Bk h.size h h':=
 (H h γ.M us (b.trans I.le) I.ag m).mono λv h' ⟨k,M',r,c,o,l,n,i⟩=>
  ⟨r,{ γ with M:=M' },i,Va (γ:={ γ with M:=M' }) n,I.call k c o l,⟨c,λ_ _=>⟨rfl,rfl⟩⟩,k⟩
def Ip(n:Fr.le gl M0){ρ:n7->Option AV}{K:AV->CS->Option Nat->Prop}(H:vT P gl tr o ρ C R λav q=>K av q Te)(I:Inv h0 W M0 (C++R) γ h)(E:∀f,σ (.func f)=.func (.func f) #[] #[]) (D:∀x av,ρ x=Td av->DE γ av (σ x)):ExA P (fd σ o) h (gR h0 W M0 R γ K):=by
 unfold vT at H;split at H;rename_i c w;split at H;rename_i x A;split at H;rename_i f t;cases hcal:zr P f with
 |false=>simp_all
 |true=>
  rw[hcal]at H;simp only[zF]at H;split at H;rename_i ts rt vs J m;split at H;rename_i args b;intro B d;have e:=HT t;subst e;have⟨G,p,k⟩:=Inv.frzL (C:=C) (γ:=γ) (iK vs) I;have F:=Jw p.fz b ((Ag D m).imp λv _ u y=>y.gx k rfl);refine .inr (.inr ⟨f,c.args.map σ,Cq w A hcal (E f) _,?_⟩);have s:c.args.map σ=(c.args.toList.map σ).toArray:=by rw[<-Array.toList_map]
  rw[s];refine(CH n H p F).mono ?_;rintro v h' ⟨r,γ',h1,h2,z,l,_⟩;exact⟨_,_,Te,γ',h1,h2,z,k.1.trans l.1,λi hi=>⟨(l.2 i hi).1.trans (k.2 i hi).1,(l.2 i hi).2.trans (k.2 i hi).2⟩⟩;cases H;cases H
 cases H;cases H;cases H
def GG{ρ:n7->Option AV}{b:Bool}{K:AV->Prop}(H:tS P gl tr o ρ b cs K):(b=Tc->∃av,K av) /\(b=Ta->Fr.le gl M0->∀γ h σ,Inv h0 W M0 cs γ h->(∀f,σ (.func f)=.func (.func f) #[] #[])->(∀x av,ρ x=Td av->DE γ av (σ x))->∃f args,(∀w,(fd σ o).run P w=.ok (.enter f args) w)/\XC P f args h λv h'=>∃av γ',K av/\DE γ' av v/\Inv h0 W M0 cs γ' h'/\Gx Te γ γ'/\Bk h.size h h'):=by
 unfold tS at H;split at H;rename_i c p;split at H;rename_i x r;split at H;rename_i f n;cases hcal:zr P f with
 |false=>simp_all
 |true=>
  rw[hcal]at H;simp only[zF]at H;split at H;rename_i ts rt vs u k;split at H;rename_i args i;have⟨J,h1,h2⟩:=H;refine⟨λm=>⟨_,h2 (A8 rt) (λh=>θ)⟩,λm l γ h σ I t s=>?_⟩;have e:=HT n;subst e;refine⟨f,c.args.map σ,λw=>Cq p r hcal (t f) w,?_⟩;have q:c.args.map σ=(c.args.toList.map σ).toArray:=by rw[<-Array.toList_map]
  rw[q];refine(CH l (h1 m) I (Jw I.fz i (Ag s k))).mono ?_;grind;cases H;cases H
 cases H;cases H;cases H
end
section
variable {P:EM} {t:N4} {o:n9} {d:Nat} {C R:CS} {γ:Gh} {h:zb} {σ:n7 -> Value} {av:AV}
variable {h0 : zb} {W : Nat -> Prop} {M0 : Fr}
def wc(P:EM)(t:N4)(d:Nat)(C R:CS)(K:AV->CS->Option Nat->Prop):Prop:=match zeroOf P t with
 |some z=>bif Qs d R then(bif gK (z.cells.toList.map .v)then False else K (.g (.a (.box d 0))) ((d,.box (z.cells.toList.map .v))::ji d C) (Td d))else False
 |none=>False
theorem Ca(c:Nat):∀l:List Value,gZ c (l.map .v)=Tc
 |[]=>rfl
 |_::l=>by simp only[ZC,gZ,kq,zG,Ca c l]
theorem Ga(t:N4)(v:Value)(B:MN)(d:Nat)(h:zb):(newVar t v).run P (mk B d h)=.ok ⟨h.size,0,Te⟩ (mk B d (h.push (.cells v.cells t))):=rfl
theorem Oe(b:o.op=.alloc t){K:AV->CS->Option Nat->Prop}(H:wc P t d C R K)(I:Inv h0 W M0 (C++R) γ h):ExA P (fd σ o) h (gR h0 W M0 R γ K):=by
 unfold wc at H;split at H
 ·rename_i z i;cases hR:Qs d R with
  |false=>simp_all
  |true=>
   rw[hR]at H;cases hit:gK (z.cells.toList.map .v)with
   |true=>simp_all
   |false=>
   rw[hit]at H;intro B e;refine .inl ⟨.pointer (Td ⟨h.size,0,Te⟩),e,h.push (.cells z.cells t),?_,_,_,_,iW γ d h.size,H,?_,?_,l3 _ _ _⟩;have f:=zO i h B e;simp only[fd,b];refine gm ?_;unfold Instr.alloc;simp_all[DM,D0,Ga];simp only[DE,MT,CD,Wm];have:=I.newBox (c:=d) hR (Wo γ z.cells.toList) (Ca d _) hit t;omega
 cases H
def Ad(t:N4)(d:Nat)(l:List AA)(C R:CS)(K:AV->CS->Option Nat->Prop):Prop:=
 bif Qs d R then(bif gZ d l then False else(bif gK l then False else K (.g (.a (.box d 0))) ((d,.box l)::ji d C) (Td d)))else False
theorem QW{x:n7}(b:o.op=.box t x){l:List AA}{K:AV->CS->Option Nat->Prop}(H:Ad t d l C R K)(I:Inv h0 W M0 (C++R) γ h)(f:DA (CD γ) l (σ x).cells.toList):ExA P (fd σ o) h (gR h0 W M0 R γ K):=by
 unfold Ad at H;cases hR:Qs d R with
 |false=>simp_all
 |true=>
  rw[hR]at H;cases hm:gZ d l with
  |true=>simp_all
  |false=>
   rw[hm]at H;cases hit:gK l with
   |true=>simp_all
   |false=>
   rw[hit]at H;intro B e;refine .inl ⟨.pointer (Td ⟨h.size,0,Te⟩),e,h.push (.cells (σ x).cells t),?_,_,_,_,iW γ d h.size,H,?_,?_,l3 _ _ _⟩;simp only[fd,b];refine gm ?_;unfold Instr.box;rw[DM,Ga];rfl;simp only[DE,MT,CD,Wm];have:=I.newBox (c:=d) hR f hm hit t;omega
def tJ:AA->Bool
 |.v x=>x.oneCell'
 |_=>Ta
def oh:List AA->Bool
 |[]=>Ta
 |x::l=>bif tJ x then oh l else Tc
def OJ{x:AA}{u:Value}(h:tJ x=Ta)(k:CD γ x u):u.oneCell'=Ta:=by
 cases x with
 |v y=>rw[show u=y from k];exact h
 |d t y=>exact Rd.one (show Rd γ.M t y [u]from k) u ξ
 |box c o=>rw[show u=_ from k];rfl
 |own c=>rw[show u=_ from k];rfl
 |oelt c z i o=>have⟨g,_,e⟩:=k;rw[e];rfl
 |elt t y o=>have⟨b,f,cs,e,_⟩:=k;rw[e];rfl
 |dc t xs=>have⟨s,e,_⟩:=k;rw[e];rfl
def Br{γ:Gh}:∀{l:List AA} {us:ab2},oh l=Ta->DA (CD γ) l us->∀u∈us,u.oneCell'=Ta
 |[],[],_,_,u,b=>ε b
 |[],_::_,_,h,_,_=>h.elim
 |_::_,[],_,h,_,_=>h.elim
 |x::l,v::us,h,hd,u,b=>by
  simp only[oh]at h;cases hx:tJ x with
  |false=>simp_all
  |true=>rw[hx]at h;obtain rfl|b:=YT.1 b;exact OJ hx hd.1;exact Br h hd.2 u b
def iJ(c:Nat):CS->Bool
 |[]=>Ta
 |(j,_)::l=>bif gc j c then Tc else iJ c l
def mH{c:Nat}:∀{l:CS},iJ c l=Ta->∀x∈l,x.1≠c
 |[],_,x,b=>ε b
 |(j,k)::l,h,x,b=>by
  simp only[iJ]at h;cases hb:gc j c with
  |true=>simp_all
  |false=>rw[hb]at h;obtain rfl|b:=YT.1 b;intro e;simp_all;exact mH h x b
theorem vw{P:EM}{g o:Nat}:∀(vs:ab2) (i:Nat) (w:MN),(storeCells ⟨g,o,Te⟩ vs i).run P w=(storeCells ⟨g,0,Te⟩ vs (o+i)).run P w
 |[],i,w=>rfl
 |v::vs,i,w=>by unfold storeCells;rw[DM,DM,zl,zl,ZO];congr 1;funext a w';exact vw vs (i+1) w'
def Yt{n:Nat}(hi:qq P t=Ta)(i:jk P t=n){b o:Nat}{cs:ab3}{T:N4}(e:h[b]?=Td (.cells cs T (0,0))){v:Value}(l:v.cells.size=n)(p:o+n<=cs.size)(h1:∀u∈v.cells.toList,u.oneCell'=Ta)(B:MN)(d:Nat):∃h',(YI t (.pointer (Td ⟨b,o,Te⟩)) v).run P (mk B d h)=.ok () (mk B d h')/\h'[b]?=Td (.cells (cs.toList.take o++v.cells.toList++cs.toList.drop (o+n)).toArray T (0,0))/\h'.size=h.size/\∀j,j≠b->h'[j]?=h[j]?:=by have⟨h',f,q,c,k⟩:=Ju (P:=P) B d v.cells.toList (o+0) h cs e φ h1;refine⟨h',?_,η,c,k⟩;have m:=At.sizeOf (P:=P) (h:=h) (wu hi).choose_spec B d;unfold YI zdb;simp only[DM,DQ,D0];unfold storeVar;rw[DM,m];simp only[D0];rw[i,l];simp only[ne_eq,not_true_eq_false,if_false];rw[vw];exact f
theorem Yh{α:Type}{L vs:List α}{p:Nat}(h:p+DB vs<=DB L)(q:Nat):(L.take p++vs++L.drop (p+DB vs))[q]?=ite (q<p) (L[q]?) (ite (q<p+DB vs) (vs[q-p]?) (L[q]?)):=η
theorem Id.set{M:Fr}{t:Ty}{xs:List (El t)}{cells:ab2}(H:Id M t xs cells){i:Nat}(hi:i<DB xs){y:El t}{o:Nat}{vs:ab2}(m:o+DB vs<=sz t) (n:Rd M t y ((((cells.drop (i*sz t)).take (sz t)).take o)++vs++(((cells.drop (i*sz t)).take (sz t)).drop (o+DB vs)))):Id M t (xs.set i y) (cells.take (i*sz t+o)++vs++cells.drop (i*sz t+o+DB vs)):=by
 have c:(i+1)*sz t<=DB cells:=by rw[H.1];exact ZP _ hi
 rw[zb8,zdv]at c;have l:((cells.drop (i*sz t)).take (sz t)).length=sz t:=by rw[ZV,ZE];omega
 refine⟨?_,λj h=>?_⟩;rw[zcq,<-H.1];grind;rw[zcq]at h;by_cases b:i=j;subst b;rw[List.getElem_set_self];have e:(((cells.take (i*sz t+o)++vs++cells.drop (i*sz t+o+DB vs)).drop (i*sz t)).take (sz t))=(((cells.drop (i*sz t)).take (sz t)).take o)++vs++(((cells.drop (i*sz t)).take (sz t)).drop (o+DB vs)):=by apply zar;intro k;rw[Yh ω,zae,zae,zau,zau,Yh ω];by_cases f:k<sz t;grind;grind
 grind;rw[List.getElem_set_ne b];have e:(((cells.take (i*sz t+o)++vs++cells.drop (i*sz t+o+DB vs)).drop (j*sz t)).take (sz t))=(cells.drop (j*sz t)).take (sz t):=by
  apply zar;intro k;rw[zae,zae,zau,zau,Yh ω];by_cases f:k<sz t;simp only[f,if_true];obtain h1|h1:=zam j i;have:(j+1)*sz t<=i*sz t:=ZP _ h1;grind;have h2:i+1<=j:=ω
  have:(i+1)*sz t<=j*sz t:=ZP _ h2;grind;grind
 rw[e];exact H.2 j h
theorem Inv.setRow{h h':zb}(I:Inv h0 W M0 (C++R) γ h){c:Nat}{e:N4}{t:Ty}{xs l:List (El t)}(u:(c,Ch.row e t xs)∈C){g:Nat}(n:(γ.σ c).a.map (·.block)=Td g)(D:∀i,i≠g->h'[i]?=h[i]?) (G:h'.size=h.size) (w:SH h0.size γ h' c (.row e t l)) (J:∀x∈R,x.1≠c):Inv h0 W M0 ((c,.row e t l)::fw c C++R) γ h':=by
 have s:=I.sep _ (YV R u) g n;have q:∀x∈fw c C++R,blk γ x.1 x.2≠Td g:=by
  intro x k;have p:x≠(c,Ch.row e t xs):=by rintro rfl;obtain k|k:=ZF.1 k;exact(Jl k).2 rfl;grind
  have o:x∈C++R:=((Zi c C).append_right R).subset k;have A:=@pA _ (λ(x y:Nat×Ch)=>∀b,blk γ x.1 x.2=Td b->blk γ y.1 y.2≠Td b) (λx y h b f r=>h b r f) _ I.apart;intro f;exact A (YV R u) o (λe=>p e.symm) _ n f
 have B:Inv h0 W M0 (fw c C++R) γ h':=by refine I.rest ((Zi c C).append_right R) (c:=Te) (Gx.refl _ _) (λx _=>⟨ξ,rfl⟩) (λx k b f=>?_) (λb z E=>?_) (λi hi F=>?_) ω (λb f=>rfl);exact⟨D b λe'=>q x k (e' ▸ f),(I.sep x (((Zi c C).append_right R).subset k) b f).2⟩;have⟨H,m,e'⟩:=I.ag b z E;grind;grind
 refine B.cons w (λb f=>?_) (λb f x k=>?_);simp only[blk,n,YK]at f;grind;simp only[blk,n,YK]at f;simp_all
def zI(P:EM)(t:N4)(f:AA)(b:List AA)(C R:CS)(K:AV->CS->Option Nat->Prop):Prop:=
 bif qq P t then(bif gc b.length (jk P t)then(bif oh b then(match f with
 |.box c o=>match Wk C c with
  |some (.box l)=>bif iJ c R then(bif (bif gK l then Ta else gK (l.take o++b++l.drop (o+b.length)))then False else(bif Nat.ble (o+b.length) l.length then K (mN undef) ((c,.box (l.take o++b++l.drop (o+b.length)))::fw c C) Te else False))else False
  |_=>False
 |.oelt c z i o=>match Wk (frzL (ma b) C) c with
  |some (.row e ty xs)=>bif iJ c R then(bif gc z (sz ty)then(bif Nat.ble (o+b.length) (sz ty)then ∃y:El ty,xs[i]?=Td y/\(match collect (frzL (ma b) C++R) ty ((Wj ty y).take o++b++(Wj ty y).drop (o+b.length))with
   |some (y',[])=>K (mN undef) ((c,.row e ty (xs.set i y'))::fw c (frzL (ma b) C)) Te
   |_=>False)else False)else False)else False
  |_=>False
 |_=>False)else False)else False)else False
theorem Uv{a x:n7}(ho:o.op=.store t a x){aa:AA}{f:List AA}{K:AV->CS->Option Nat->Prop}(H:zI P t aa f C R K)(I:Inv h0 W M0 (C++R) γ h)(D:DA (CD γ) f (σ x).cells.toList) (ha:CD γ aa (σ a)):ExA P (fd σ o) h (gR h0 W M0 R γ K):=by
 unfold zI at H;cases hi:qq P t with
 |false=>grind
 |true=>
  rw[hi]at H;cases hn:gc f.length (jk P t)with
  |false=>simp_all
  |true=>
   rw[hn]at H;cases hok:oh f with
   |false=>simp_all
   |true=>
    rw[hok]at H;have N:f.length=jk P t:=ZJ hn;have u:(σ x).cells.size=jk P t:=by rw[<-N,D.length];simp
    have h1:=Br hok D;simp only[zF]at H;split at H
    ·rename_i c off;split at H
     ·rename_i l Y;cases hR:iJ c R with
      |false=>simp_all
      |true=>
       rw[hR]at H;cases hit:gK l with
       |true=>simp_all
       |false=>
       rw[hit]at H;cases hit2:gK (l.take off++f++l.drop (off+f.length))with
       |true=>simp_all
       |false=>
       rw[hit2]at H;simp only[zF,zG]at H;cases hble:Nat.ble (off+f.length) l.length with
       |false=>grind
       |true=>
        rw[hble]at H;have ai:=zbn hble;have⟨us,e,h2⟩:=I.den _ (YV R (qm Y));obtain⟨⟨T,e⟩,_⟩|⟨s,p,e,_⟩:=e;case inr=>grind [qT]
        have ax:=h2.length;intro B d;have⟨h',r1,r2,r3,r4⟩:=Yt (P:=P) hi rfl e (o:=off) u φ h1 B d;refine .inr (.inl ⟨d,h',?_,_,_,_,γ,H,ov _ _,?_,Gx.refl _ _⟩);simp only[fd,ho];rw[show σ a=_ from ha];exact l6 r1;refine I.setBox (qm Y) (us:=us.take off++(σ x).cells.toList++us.drop (off+f.length)) (.inl ⟨⟨T,?_⟩,λs p=>qT hit2 (((h2.take off).append D).append (h2.drop _)) s p⟩) r4 r3 ?_ (mH hR);rw[r2,N];exact((h2.take off).append D).append (h2.drop _)
     cases H
    rename_i c z i off;split at H;rename_i e ty xs Y;cases hR:iJ c R with
    |false=>simp_all
    |true=>
     rw[hR]at H;cases hz:gc z (sz ty)with
     |false=>simp_all
     |true=>
      rw[hz]at H;cases hble:Nat.ble (off+f.length) (sz ty)with
      |false=>grind
      |true=>
       rw[hble]at H;simp only[zF]at H;have⟨y,hy,H⟩:=H;split at H;rename_i y' Q;have ai:=zbn hble;have⟨γ1,I1,g1⟩:=Inv.frzL (C:=C) (γ:=γ) (ma f) I;have E:=ha.gx g1 rfl;have ab:=DenL.gx (c:=Te) g1 rfl D;rw[ZJ hz]at E;have⟨g,hg,ah⟩:=E;have q:=qm Y;have⟨cells,r,b,n,m⟩:=I1.den _ (YV R q);simp only at r b n m;have A:i<xs.length:=(ZN.1 hy).1;have aj:xs[i]=y:=(ZN.1 hy).2;obtain⟨hv,au⟩|⟨g',cap,M,hv,ak,ae,am,J,af,w⟩:=r.2;omega;simp only[zai]at hv;have an:g'=g:=by have:=hv.1;rw[hg]at this;simp only[YK,Addr.mk.injEq]at this;exact this.1.symm
       subst an;have F:cells.length=xs.length*sz ty:=b.1;have G:(i+1)*sz ty<=xs.length*sz ty:=ZP _ A;rw[zb8,zdv]at G;have Z:xs.length*sz ty<=cap*sz ty:=ZP _ ω;have ap:(σ x).cells.toList.length=f.length:=D.length.symm;intro B d;have⟨h',r1,r2,r3,r4⟩:=Yt (P:=P) hi rfl ae (o:=i*sz ty+off) u (ο af) h1 B d;refine .inr (.inl ⟨d,h',?_,_,_,_,γ1,H,ov _ _,?_,g1⟩);simp only[fd,ho];rw[ah];exact l6 r1;refine I1.setRow q (g:=g') (π hg) r4 r3 ?_ (mH hR);have hE:=b.2 i A;rw[aj]at hE;have S:=xz (γ:=γ1) hE;have V:=((S.take off).append ab).append (S.drop (off+f.length));have⟨c1,c2,e1,r5,r6⟩:=Wl I1.fz Q V;cases c2 with
       |cons _ _=>cases r6
       |nil=>
        rw[ZY]at e1;rw[<-e1]at r5;have O:=b.set A (o:=off) (vs:=(σ x).cells.toList) ω (ϖ ap r5);refine⟨_,⟨?_,.inr ⟨g',cap,_,ϑ hv,ak,r2,am,J,?_,?_⟩⟩,O,η,η⟩;grind;grind;apply zar;intro k;have U:(σ x).cells.toList.length=jk P t:=ψ u
        rw[zae,<-U];simp only;rw[Yh (L:=cells) ω];have ar:cells=M.toList.take (xs.length*sz ty):=by rw[<-w,m]
        rw[Yh (L:=M.toList) η,ar,m];grind
       cases H
    cases H;cases H
def fe(s:Bt)(p:Nat):Bool:=Nat.blt p s.size
def fp(s:Bt)(p:Nat):Nat:=bif Nat.blt p s.size then p+(zdy s p).2 else p
def gg(s:Bt)(p:Nat):Int:=((zdy s p).1:Int)
def tP(P:EM)(t:N4)(av:AV)(d:Nat)(C R:CS)(K:AV->CS->Option Nat->Prop):Prop:=match av,P.underlying t with
 |.g (.a (.v (.string s))),Td .string=>bif Qs d R then K (.g (.a (.box d 0))) ((d,.box [.d .iter (s,0)])::ji d C) (Td d)else False
 |_,_=>False
theorem US{x:n7}(f:o.op=.range t x){K:AV->CS->Option Nat->Prop}(H:tP P t av d C R K)(I:Inv h0 W M0 (C++R) γ h)(b:DE γ av (σ x)):ExA P (fd σ o) h (gR h0 W M0 R γ K):=by
 unfold tP at H;split at H;rename_i s k;cases hR:Qs d R with
 |false=>simp_all
 |true=>rw[hR]at H;intro B e;refine .inl ⟨.pointer (Td ⟨h.size,0,Te⟩),e,h.push (.stringIter s 0),?_,_,_,_,iW γ d h.size,H,?_,?_,l3 _ _ _⟩;simp only[fd,f,show σ x=.string s from b];refine gm ?_;have i:=At.underlying (h:=h) k B e;unfold zdm;rw[DM,i];rfl;simp only[DE,MT,CD,Wm];exact Inv.newBoxO (c:=d) I hR (l:=[.d .iter (s,0)]) (us:=[Z9 s 0]) ⟨rfl,trivial⟩ rfl (.inr ⟨s,0,rfl,rfl⟩)
 cases H
def vo(av:AV)(C R:CS)(K:AV->CS->Option Nat->Prop):Prop:=match av with
 |.g (.a (.box c 0))=>match Wk C c with
  |some (.box [.d .iter x])=>bif iJ c R then K (.nx (fe x.1 x.2) (x.2:Int) (gg x.1 x.2)) ((c,.box [.d .iter (x.1,fp x.1 x.2)])::fw c C) Te else False
  |_=>False
 |_=>False
theorem QD{x:n7}(t:o.op=.next x Ta){K:AV->CS->Option Nat->Prop}(H:vo av C R K)(I:Inv h0 W M0 (C++R) γ h)(E:DE γ av (σ x)):ExA P (fd σ o) h (gR h0 W M0 R γ K):=by
 unfold vo at H;split at H;rename_i c;split at H;rename_i y f;cases hR:iJ c R with
 |false=>simp_all
 |true=>
  rw[hR]at H;simp only[zF]at H;have⟨us,F,h2⟩:=I.den _ (YV R (qm f));have m:us=[Z9 y.1 y.2]:=by
   match us,h2 with
   |[u],h2=>have G:Rd γ.M .iter y [u]:=h2.1;simpa[Rd]using G
  subst m;have b:h[γ.β c]?=Td (.stringIter y.1 y.2):=by
   obtain⟨_,e⟩|⟨s,p,D,L⟩:=F;grind;have N:y.1=s/\y.2=p:=by simp only[Z9,za7,Value.iface.injEq,Value.agg.injEq,Array.mk.injEq,Value.string.injEq,Value.int.injEq,and_true,true_and]at D;exact⟨D.1,ω⟩
   grind
  have k:γ.β c<h.size:=(YZ.1 b).1;intro B d;have r:∀(w:MN),w.heap[γ.β c]?=Td (.stringIter y.1 y.2)->(getObj (γ.β c)).run P w=.ok (.stringIter y.1 y.2) w:=λw e=>by simp[getObj,Sem.run,e]
  have J:∀(w:MN) (q:Obj),w.heap[γ.β c]?=Td (.stringIter y.1 y.2)->(setObj (γ.β c) q).run P w=.ok () { w with heap:=w.heap.setIfInBounds (γ.β c) q }:=λw q e=>by simp[setObj,Sem.run,e]
  have z:σ x=.pointer (Td ⟨γ.β c,0,Te⟩):=E;by_cases l:y.2<y.1.size;have n:fe y.1 y.2=Ta:=by simpa[fe,zds]using l
  have A:fp y.1 y.2=y.2+(zdy y.1 y.2).2:=by unfold fp;rw[show Nat.blt y.2 y.1.size=Ta from n];rfl
  refine .inl ⟨.tuple #[.bool Ta,.int .i64 y.2,.int .i32 (gg y.1 y.2)],d,h.setIfInBounds (γ.β c) (.stringIter y.1 (fp y.1 y.2)),?_,_,_,_,γ,H,⟨λ_=>rfl,λf=>θ⟩,?_,Gx.refl _ _⟩;simp only[fd,t,z];refine gm ?_;unfold zcm;simp only;rw[DM,r _ b];simp only[D0,l,if_true];rw[DM,J _ _ b,A];rfl;refine I.setBox (qm f) (us:=[Z9 y.1 (fp y.1 y.2)]) (.inr ⟨_,_,rfl,ϑ k⟩) (λi hi=>η) ξ ⟨rfl,trivial⟩ (mH hR);have n:fe y.1 y.2=Tc:=by
   cases h:fe y.1 y.2 with
   |false=>rfl
   |true=>exact absurd (by simpa[fe,zds]using h) l
  have A:fp y.1 y.2=y.2:=by unfold fp;rw[show Nat.blt y.2 y.1.size=Tc from n];rfl
  refine .inl ⟨.tuple #[.bool Tc],d,h,?_,_,_,_,γ,H,⟨λf=>θ,λ_=>rfl⟩,?_,Gx.refl _ _⟩;simp only[fd,t,z];refine gm ?_;unfold zcm;simp only;rw[DM,r _ b];simp;omega;refine I.setBox (qm f) (us:=[Z9 y.1 (fp y.1 y.2)]) (.inr ⟨_,_,rfl,η⟩) (λi hi=>rfl) rfl ⟨rfl,trivial⟩ (mH hR)
 cases H;cases H
end
section
variable {P:EM} {tr t tx e ty:N4} {n d m b:Nat} {C R:CS} {γ:Gh} {h:zb} {s:Sl} {z x u:Value} {xs news:List Value}
variable {h0 : zb} {W : Nat -> Prop} {M0 : Fr}
def o8(cs:CS)(t:Ty):Nat->List AA->Option (List (El t)×List AA)
 |0,l=>Td ([],l)
 |n+1,l=>match collect cs t l with
  |some (y,l')=>match o8 cs t n l' with
   |some (ys,l'')=>Td (y::ys,l'')
   |none=>Te
  |none=>Te
def GY{γ:Gh}{cs:CS}(c:i8 γ cs){t:Ty}:∀{n:Nat} {l b:List AA} {ys:List (El t)},o8 cs t n l=Td (ys,b)->∀{us:ab2},DA (CD γ) l us->∃c1 c2,us=c1++c2/\Id γ.M t ys c1/\DB ys=n/\DA (CD γ) b c2
 |0,l,b,ys,h,us,hu=>by simp only[o8,YK,za5]at h;obtain⟨rfl,rfl⟩:=h;exact⟨[],us,rfl,Id.nil _ _,rfl,hu⟩
 |n+1,l,b,ys,h,us,hu=>by simp only[o8]at h;split at h;rename_i y q h1;split at h;rename_i e r h2;simp only[YK,za5]at h;obtain⟨rfl,rfl⟩:=h;obtain⟨c1,c2,rfl,i,m⟩:=Wl c h1 hu;obtain⟨c3,p,rfl,f,o,k⟩:=GY c h2 m;exact⟨c1++c3,p,ξ,ψ ((Id.single i).append f),ϑ o,k⟩;cases h;cases h
def Hi(P:EM)(el:N4)(k:Nat):Option (List Value):=bif gc k 0 then Td []else(match zeroOf P el with
 |some z=>Td ((Array.range k).map (z.cells[· % z.cells.size]!)).toList
 |none=>Te)
def rU:List (Nat×AV)->List AV
 |[]=>[]
 |(_,v)::l=>v::rU l
def wd(P:EM)(tr:N4)(t:N4)(n:Nat)(ps:List (Nat×AV))(d:Nat)(C R:CS)(K:AV->CS->Option Nat->Prop):Prop:=
 match mR P t with
 |some el=>match pm P tr 8 el,Hi P el (n*jk P el)with
  |some ty,some zs=>bif gc (jk P el) (sz ty)then(bif Nat.ble (n*jk P el) 16777216 then(bif Nat.blt 0 (jk P el)then(bif Qs d R then(match mI (λi=>Td (i*jk P el,jk P el)) (zs.map .v) ps with
   |some r=>match o8 (frzL (iK (rU ps)) C++R) ty n r with
    |some (ys,[])=>K (.g (.a (.own d))) ((d,.row el ty ys)::ji d (frzL (iK (rU ps)) C)) (Td d)
    |_=>False
   |none=>False)else False)else False)else False)else False
  |_,_=>False
 |none=>False
theorem Li{c:Array (Nat×n7)}{o:n9}(ho:o.op=.buildSlice t n c){ps:List (Nat×AV)}{ρ:n7->Option AV}(J:kW ρ c.toList=Td ps){K:AV->CS->Option Nat->Prop}(H:wd P tr t n ps d C R K) {σ:n7->Value} (I:Inv h0 W M0 (C++R) γ h) (hρ:∀x av,ρ x=Td av->DE γ av (σ x)):ExA P (fd σ o) h (gR h0 W M0 R γ K):=by
 unfold wd at H;split at H
 ·rename_i el D;have⟨hu,L⟩:=sR D;split at H
  ·rename_i ty w aa f;cases hz:gc (jk P el) (sz ty)with
   |false=>simp_all
   |true=>
   rw[hz]at H;cases hb1:Nat.ble (n*jk P el) 16777216 with
   |false=>simp_all
   |true=>
   rw[hb1]at H;cases hb2:Nat.blt 0 (jk P el)with
   |false=>simp_all
   |true=>
   rw[hb2]at H;cases hR:Qs d R with
   |false=>simp_all
   |true=>
   rw[hR]at H;simp only[zF]at H;split at H
   ·rename_i r hr;split at H
    ·rename_i ys E;have⟨l,Q,s⟩:=Inv.frzL (C:=C) (γ:=γ) (iK (rU ps)) I;have N:∀x av,ρ x=Td av->DE l av (σ x):=λx av hx=>(hρ x av hx).gx s rfl;have⟨ws,e1,Y⟩:=uG hr (Wo l w) (xB N J);obtain⟨c1,c2,rfl,O,S,Z⟩:=GY Q.fz E Y;cases c2 with
     |cons _ _=>cases Z
     |nil=>
     rw[ZY]at *;have F:=ZJ hz;have m:0<jk P el:=by simpa[zds]using hb2
     have ab:n*jk P el<=16777216:=zbn hb1;have hn:n<=n*jk P el:=Nat.le_mul_of_pos_right _ m;have ae:c1.length=n*jk P el:=by rw[O.1,S,F]
     intro B e;refine .inl ⟨.slice (Td ⟨h.size,0,Te⟩) n n,e,h.push (.cells c1.toArray el),?_,_,_,_,gt l d ⟨Td ⟨h.size,0,Te⟩,n,n⟩,H,?_,?_,?_⟩;have A:=At.underlying (h:=h) hu B e;have hs:=At.sizeOf (P:=P) (h:=h) (wu L).choose_spec B e;have V:(c.map λx=>(x.1,σ x.2)).toList=c.toList.map λx=>(x.1,σ x.2):=by rw[Array.toList_map]
     have U:Instr.fill (λi=>Td (i*jk P el,jk P el)) w.toArray (c.map λx=>(x.1,σ x.2)).toList=Td c1.toArray:=ϖ V e1
     simp only[fd,ho];refine gm ?_;unfold Instr.buildSlice;rw[DM,A];simp only[D0];rw[DM,hs];simp only[D0];rw[za ω];unfold Hi at f;by_cases k:n*jk P el=0;rw[zi k];rw[k]at f ⊢;simp at f;subst f;simp only[DM,DQ,D0];have u:Array.map (λx=>(#[]:ab3)[x % (#[]:ab3).size]!) (Array.range 0)=([]:ab2).toArray:=ξ
     rw[u,U];rfl;rw[za k];have y:gc (n*jk P el) 0=Tc:=by
      cases hh:gc (n*jk P el) 0 with
      |false=>rfl
      |true=>simp_all
     rw[y]at f;simp only[zG]at f;split at f;rename_i z M;have G:=zO M h B e;simp only[YK]at f;rw[DM,G];simp only[D0,DM,DQ];have u:Array.map (λx=>z.cells[x % z.cells.size]!) (Array.range (n*jk P el))=w.toArray:=by rw[<-f]
     rw[u,U];rfl;cases f;simp only[DE,MT,CD,yn];rfl;refine Q.newRow hR ξ (p:=Te) (λi hi _=>η) (λb y=>ε y) (cells:=c1) ⟨η,.inr ⟨h.size,n,c1.toArray,rfl,I.size,jc _ _,YJ _,by unfold maxLen;omega,θ,?_⟩⟩ (λq A=>.inr (by cases A;rfl)) O ω S.symm;grind;exact⟨s.1,λi hi=>⟨((Qt l d _).2 i hi).1.trans (s.2 i ξ).1,((Qt l d _).2 i hi).2.trans (s.2 i ξ).2⟩⟩
    cases H
   cases H
  cases H
 cases H
def Wp{n sz:Nat}{cells:ab2}(k:ik n h s.a cells)(f:cells.length=s.len*sz)(c:0<sz)(B:MN)(d:Nat):(zb7 sz s.len (.slice s.a s.len s.cap)).run P (mk B d h)=.ok cells.toArray (mk B d h):=by
 obtain rfl|⟨b,o,e,_,l⟩:=k;have h0:s.len=0:=by obtain h0|h0:=zcg s.len;exact h0;have:=Nat.mul_pos h0 c;grind
 rw[h0];cases s.a with
 |none=>simp[zb7]
 |some p=>simp[zb7,loadCells,loadCellsFrom]
 rw[e];exact run_firstCells_some (mk B d h) sz s.len ⟨b,o,Te⟩ s.len s.cap cells f λj u i=>by rw[zl];exact l j u i
def BV{n sz:Nat}{cells:ab2}(e:ik n h s.a cells)(c:cells.length=s.len*sz)(b:0<sz)(h1:∀u∈cells,u.oneCell'=Ta){tx e':N4}(f:P.underlying tx=Td (.slice e'))(B:MN)(d:Nat):Src P sz tx (aK s) s.len cells (mk B d h):=
 ⟨.inl ⟨e',f⟩,λ_=>rfl,Wp e c b B d,Wp e c b B (d+1),c,h1⟩
def Be{g o:Nat}{b:ab3}{T:N4}(c:h[g]?=Td (.cells b T (0,0))){vs:ab2}(k:o+DB vs<=b.size)(h1:∀u∈vs,u.oneCell'=Ta)(B:MN)(d:Nat):∃h',(storeCells ⟨g,o,Te⟩ vs 0).run P (mk B d h)=.ok () (mk B d h')/\h'[g]?=Td (.cells (b.toList.take o++vs++b.toList.drop (o+DB vs)).toArray T (0,0))/\h'.size=h.size/\∀j,j≠g->h'[j]?=h[j]?:=by have⟨h',l,e,i,f⟩:=Ju (P:=P) B d vs (o+0) h b c ω h1;grind [vw]
def zY{sz bytes:Nat}(T:GS P t e z sz bytes){base:Nat}(k:xs.length=s.len*sz)(l:∀B d,(zb7 sz s.len (aK s)).run P (mk B d h)=.ok xs.toArray (mk B d h))(A:∀B d,Src P sz tx x m news (mk B d h))(b:(s.len+m)*bytes<=140737488355328)(w:s.len+m<=140737488355328)(q:base<=h.size)(C:s.cap<s.len+m)(B:MN)(d:Nat):∃c blk,(YN #[t,tx] ty #[aK s,x]).run P (mk B d h)=.ok (.slice (Td ⟨h.size,0,Te⟩) (s.len+m) c) (mk B (d+1) (h.push (.cells blk e)))/\s.len+m<=c/\c<=maxLen/\blk.size=c*sz/\blk.toList.take ((s.len+m)*sz)=xs++news:=by
 have⟨i,hi,D,r,o⟩:=T.info;subst r;subst o;have u:=A B d;have f:=u.newsLen;have y:=run_append_grow_src (P:=P) (mk B d h) t tx ty e i z T.slice hi D s.a s.len s.cap xs (l B (d+1)) x m news u C ω (growslice_fits ω b);have n:=grownCap_ge (mk B d h) (s.len+m) s.cap e;have p:=grownCap_le_maxLen (mk B d h) (s.len+m) s.cap e (by unfold maxLen;omega);generalize grownCap (mk B d h) (s.len+m) s.cap e=c at *;refine⟨c,_,y,n,p,?_,?_⟩;simp only[Array.size_append,List.size_toArray,size_zeroCells,YM,T.zero,k,f,<-zb8];grind;simp only[Array.toList_append];have:(xs++news).length=(s.len+m)*i.size:=by rw[YM,k,f,zb8]
 grind
def Xi{sz bytes:Nat}(T:GS P t e z sz bytes){h h':zb}{B:MN}(c:Src P sz tx x m news (mk B d h))(b:s.len+m<=s.cap)(k:∀p,s.a=Td p->(storeCells (p.add (s.len*sz)) news 0).run P (mk B d h)=.ok () (mk B d h')) (f:s.a=Te->h'=h):(YN #[t,tx] ty #[aK s,x]).run P (mk B d h)=.ok (.slice s.a (s.len+m) s.cap) (mk B d h'):=by
 have⟨i,hi,r,o,q⟩:=T.info;subst o;have n:=T.slice;unfold aK;obtain⟨e',l⟩|l:=c.kind;cases ha:s.a with
 |none=>rw[f ha];simp[YN,run_underlying n,run_underlying l,sizeOf,typeInfo,hi,c.len,b,c.cells]
 |some p=>simp[YN,run_underlying n,run_underlying l,sizeOf,typeInfo,hi,c.len,b,c.cells,k p ha]
 cases ha:s.a with
 |none=>rw[f ha];simp[YN,run_underlying n,run_underlying l,sizeOf,typeInfo,hi,c.len,b,c.cells]
 |some p=>simp[YN,run_underlying n,run_underlying l,sizeOf,typeInfo,hi,c.len,b,c.cells,k p ha]
def Wq{sz bytes:Nat}(T:GS P t e z sz bytes){base:Nat}(H:DP h base e sz s xs)(Y:∀B d,Src P sz tx x m news (mk B d h)) (l:(s.len+m)*bytes<=140737488355328) (u:s.len+m<=140737488355328) (f:base<=h.size) {K:vvv} (J:∀(D:Sl) (h':zb),D.len=s.len+m->DP h' base e sz D (xs++news)->(∀i,i<h.size->(∀p,s.a=Td p->i≠p.block)->h'[i]?=h[i]?)->h.size<=h'.size->(∀r,D.a=Td r->(∃p,s.a=Td p/\r.block=p.block)\/r.block=h.size)->K (aK D) h'):CA P (YN #[t,tx] ty #[aK s,x]) h K:=by
 intro B d;have E:=Y B d;have y:=E.newsLen;have n:=H.1;have w:=H.arr;by_cases b:s.len+m<=s.cap;obtain⟨C,aa⟩|⟨g,cap,L,C,N,hg,ab,G,Q,q⟩:=H.2;simp only[zai]at C;have⟨e1,e2,e3⟩:=C;have hm:m=0:=ω
 subst hm;have Z:news=[]:=ZU (ψ y);subst Z;have A:=Xi (P:=P) (ty:=ty) T (s:=s) (h':=h) E b (λp hp=>θ) (λ_=>rfl);refine⟨_,d,h,A,J ⟨s.a,s.len+0,s.cap⟩ h rfl ?_ (λ_ _ _=>rfl) (YJ _) (λr k=>θ)⟩;simp;omega;simp only[zai]at C;have⟨e1,_,e3⟩:=C;have I:h[g]?=Td (.cells L e (0,0)):=hg;have S:(s.len+m)*sz<=cap*sz:=ZP _ ω;rw[zb8]at S;have⟨h',r1,r2,r3,r4⟩:=Be (P:=P) I (o:=s.len*sz) (vs:=news) (ο Q) E.one B d;have A:=Xi (P:=P) (ty:=ty) T (s:=s) (h':=h') E b (λp hp=>by simp_all[zl,ZO]) (λZ=>θ);refine⟨_,d,h',A,J ⟨s.a,s.len+m,s.cap⟩ h' rfl ⟨?_,.inr ⟨g,cap,_,?_,N,r2,θ,G,?_,?_⟩⟩ (λi hi F=>r4 i λe'=>F _ e1 e') ω (λr k=>.inl ⟨r,k,rfl⟩)⟩;grind;grind;grind;simp only;rw[q];have:(xs++news).length=(s.len+m)*sz:=by rw[YM,n,y,zb8]
 grind;have⟨c,blk,A,V,O,U,M⟩:=zY (P:=P) (ty:=ty) (base:=base) T n (λB d=>Wp w n T.pos B d) Y l u f ω B d;refine⟨_,d+1,_,A,J ⟨Td ⟨h.size,0,Te⟩,s.len+m,c⟩ _ rfl ⟨?_,.inr ⟨h.size,c,blk,rfl,f,jc _ _,V,O,U,M⟩⟩ (λi hi _=>η) ξ (λr k=>.inr (by cases k;rfl))⟩;grind
def jL(s:Bt):List Int:=s.data.toList.map λb=>(b.toNat:Int)
def FU:(ty:Ty)->Bt->Option (List (El ty))
 |.int .u8,s=>Td (jL s)
 |_,_=>Te
def Ae(P:EM)(cs:CS)(tx:N4)(ty:Ty):AV->Option (List (El ty))
 |.g (.a (.v (.string s)))=>match P.underlying tx with
  |some .string=>FU ty s
  |_=>Te
 |.g (.a (.v (.slice Te 0 0)))=>match P.underlying tx with
  |some (.slice _)=>Td []
  |_=>Te
 |.g (.a aa)=>match P.underlying tx with
  |some (.slice _)=>match rowOf cs aa with
   |some r=>Y8 (.row r.1) (.row ty) r.2
   |none=>match aa with
    |.own c=>match Wk cs c with
     |some (.row _ t xs)=>Y8 (.row t) (.row ty) xs
     |_=>Te
    |_=>Te
  |_=>Te
 |_=>Te
theorem Id.bytes(M:Fr)(s:Bt):Id M (.int .u8) (jL s) (byteCells s):=by
 have c:(byteCells s).length=(jL s).length:=by unfold byteCells jL;simp
 refine⟨by rw[c];simp[sz],λi hi=>?_⟩;have b:i<(byteCells s).length:=ϖ c hi
 have e:(byteCells s)[i]=.int .u8 (jL s)[i]:=by simp only[byteCells,jL,List.getElem_map]
 have f:((byteCells s).drop (i*1)).take 1=[(byteCells s)[i]]:=by rw[Nat.mul_one,List.drop_eq_getElem_cons b];rfl
 show((byteCells s).drop (i*1)).take 1=[.int .u8 (jL s)[i]];rw[f,e]
theorem Wr{t t':Ty}{xs:List (El t)}{ys:List (El t')}(h:Y8 (.row t) (.row t') xs=Td ys):∃e:t=t',ys=e ▸ xs:=by unfold Y8 at h;grind
def NX{cs:CS}(I:Inv h0 W M0 cs γ h){ty:Ty}{av:AV}{ys:List (El ty)}(b:Ae P cs tx ty av=Td ys)(o:0<sz ty)(p:DE γ av u):∃news,Id γ.M ty ys news/\∀B d,Src P (sz ty) tx u (DB ys) news (mk B d h):=by
 have row:∀{t:Ty} {xs:List (El t)} {n:Nat} {s:Sl} {cells:ab2} {e':N4},Y8 (.row t) (.row ty) xs=Td ys->P.underlying tx=Td (.slice e')->u=aK s->s.len=DB xs->Id γ.M t xs cells->ik n h s.a cells ->
  ∃news,Id γ.M ty ys news/\∀B d,Src P (sz ty) tx u (DB ys) news (mk B d h):=by
  intro t xs n s cells e' q i e l m A;have⟨z,w⟩:=Wr q;subst z;simp only at w;subst w;refine⟨cells,m,λB d=>?_⟩;rw[e,<-l];exact BV A (by rw[l];exact m.1) o m.one i B d
 unfold Ae at b;split at b
 ·rename_i s;split at b
  ·rename_i i;unfold FU at b;split at b;case h_2=>cases b
   simp only[YK]at b;subst b;refine⟨byteCells s,Id.bytes _ s,λB d=>?_⟩;rw[show u=.string s from p];have:=Src.ofString (P:=P) (mk B d h) i s;have e:(jL s).length=s.size:=by unfold jL;rw[List.length_map,Array.length_toList];rfl
   rw[e];exact this
  cases b
 split at b;rename_i e' i;simp only[YK]at b;subst b;refine⟨[],Id.nil _ _,λB d=>?_⟩;rw[show u=.slice Te 0 0 from p];exact Src.ofNil (mk B d h) i 0;cases b;rename_i C _ _;split at b;rename_i e' i;split at b;rename_i r m;have⟨s,e,l,y,cells,f,x⟩:=(nI I m p).rowC I.ag;grind;split at b;rename_i c _ _ _;split at b;rename_i e t xs q;have⟨cells,k,f,y,l⟩:=I.den _ (qm q);exact row b i (show u=aK _ from p) l f k.arr;cases b;cases b;cases b;cases b
def xW(P:EM)(el:N4)(ty:Ty):Option Nat:=match P.info? el with
 |some i=>match i.zero with
  |some z=>bif (bif gc i.size (sz ty)then(bif gc z.cells.size i.size then(bif Nat.blt 0 i.size then Nat.blt 0 i.bytes else Tc)else Tc)else Tc)then Td i.bytes else Te
  |none=>Te
 |none=>Te
def JN{t el:N4}{ty:Ty}(e:P.underlying t=Td (.slice el))(h:xW P el ty=Td b):(∃z,GS P t el z (sz ty) b)/\0<b:=by
 unfold xW at h;split at h
 ·rename_i i hi;split at h
  ·rename_i z k;cases h1:gc i.size (sz ty)with
   |false=>simp_all
   |true=>
   cases h2:gc z.cells.size i.size with
   |false=>simp_all
   |true=>
   cases h3:Nat.blt 0 i.size with
   |false=>simp_all
   |true=>
   cases h4:Nat.blt 0 i.bytes with
   |false=>simp_all
   |true=>
   rw[h1,h2,h3,h4]at h;simp only[zF,YK]at h;have c:=ZJ h1;have f:=ZJ h2;have l:0<i.size:=by simpa[zds]using h3
   have m:0<i.bytes:=by simpa[zds]using h4
   exact⟨⟨z,e,⟨i,hi,k,c,h⟩,by rw[f,c],ω⟩,ω⟩
  cases h
 cases h
def vL(P:EM)(tr:N4)(t tx:N4)(bv f:AV)(d:Nat)(C R:CS)(K:AV->CS->Option Nat->Prop):Prop:=
 match mR P t with
 |some el=>match pm P tr 8 el with
  |some ty=>match xW P el ty,Ae P (C++R) tx ty f with
   |some b,some ys=>match bv with
    |.g (.a (.v (.slice Te 0 0)))=>bif Qs d R then(ys.length*b<=140737488355328/\K (.g (.a (.own d))) ((d,.row el ty ys)::ji d C) (Td d))else False
    |.g (.a (.own c))=>match Wk C c with
     |some (.row e t' xs)=>match Y8 (.row t') (.row ty) xs with
      |some xs=>bif gc e el then(bif Qs d R then((xs.length+ys.length)*b<=140737488355328/\K (.g (.a (.own d))) ((d,.row el ty (xs++ys))::ji d (fw c C)) (Td d))else False)else False
      |none=>False
     |_=>False
    |.g (.a (.dc t' xs))=>match Y8 (.row t') (.row ty) xs with
     |some xs=>(xs.length+ys.length)*b<=140737488355328/\K (.g (.a (.d (.row ty) (xs++ys)))) C Te
     |none=>False
    |_=>False
   |_,_=>False
  |none=>False
 |none=>False
def uN{n b k:Nat}(c:0<b)(h:n*b<=k):n<=k:=zbd (Nat.le_mul_of_pos_right _ c) h
def Rt{tr t tx ty':N4}{bv sv:AV}{K:AV->CS->Option Nat->Prop}(H:vL P tr t tx bv sv d C R K)(I:Inv h0 W M0 (C++R) γ h){u v:Value} (S:DE γ bv u) (au:DE γ sv v):CA P (YN #[t,tx] ty' #[u,v]) h (gR h0 W M0 R γ K):=by
 unfold vL at H;split at H
 ·rename_i el am;have⟨hu,aB⟩:=sR am;split at H
  ·rename_i ty aA;split at H
   ·rename_i b ys r an;have⟨⟨z,T⟩,F⟩:=JN hu r;have⟨news,w,D⟩:=NX I an T.pos au;split at H
    ·cases hR:Qs d R with
     |false=>rw[hR]at H;cases H
     |true=>
     rw[hR]at H;have⟨E,V⟩:=H;rw[show u=aK ⟨Te,0,0⟩from S];have L:=uN F E;refine Wq T (DP.nil h h0.size el (sz ty)) D (ψ E) (ψ L) I.size λs' h' hl A hk hs N=>?_;rw[zal]at A;simp only[ZO]at hl;refine⟨_,_,_,gt γ d s',V,?_,I.newRow hR hs (p:=Te) (λi hi _=>hk i hi ξ) (λb r=>ε r) A (λq hq=>?_) w L hl,Qt _ _ _⟩;simp only[DE,MT,CD,yn];simp_all
    ·rename_i c;split at H
     ·rename_i e t' ax hc;split at H
      ·rename_i xs l;cases hee:gc e el with
       |false=>rw[hee]at H;cases H
       |true=>
       rw[hee]at H;cases hR:Qs d R with
       |false=>rw[hR]at H;cases H
       |true=>
       rw[hR]at H;have⟨E,V⟩:=H;have L:=uN F E;have G:=qm hc;have⟨e1,e2⟩:=Wr l;subst e1;simp only at e2;subst e2;have e3:=ZJ hee;subst e3;have ab:=I.den _ (YV R G);have⟨cells,n,f,ai,J⟩:=ab;simp only at n f J;rw[show u=aK (γ.σ c)from S];refine Wq T n D η ω I.size λs' h' hl A hk hs N=>?_;have Z:=I.sep _ (YV R G);have az:=zT hR;have ap:Inv h0 W M0 (fw c C++R) γ h:=I.sub ((Zi c C).append_right R);refine⟨_,_,_,gt γ d s',V,?_,ap.newRow hR hs (p:=(γ.σ c).a.map (·.block)) (λi hi Q=>hk i hi λp N e=>Q (by rw[N,e];rfl)) (λb r=>?_) A (λq hq=>?_) (f.append w) θ θ,Qt _ _ _⟩;simp only[DE,MT,CD,yn];have⟨h1,h2⟩:=Z b r;refine⟨?_,h2,λx hx ah=>?_⟩;simp only[zbx]at r;obtain⟨p,N,rfl⟩:=r;exact(n.base_le p N).1;have aj:x∈C++R:=((Zi c C).append_right R).subset hx;have Q:x≠(c,Ch.row e t' xs):=by rintro rfl;obtain hx|hx:=ZF.1 hx;exact(Jl hx).2 rfl;have aH:=I.apart;grind
       have N:=@pA _ (λ(x y:Nat×Ch)=>∀b,blk γ x.1 x.2=Td b->blk γ y.1 y.2≠Td b) (λx y h b r aa=>h b aa r) _ I.apart;exact N aj (YV R G) Q b ah r;grind
      cases H
     cases H
    rename_i t' ax;split at H;rename_i xs l;have⟨E,V⟩:=H;have L:=uN F E;have⟨e1,e2⟩:=Wr l;subst e1;simp only at e2;subst e2;have⟨s,e,aI,ae⟩:=(show ∃s:Sl,u=aK s/\s.cap=s.len/\Rd γ.M (.row t') xs [u]from S);subst e;have⟨s2,e,J,ai,cells,f,Y⟩:=ae.rowC I.ag;have e':s=s2:=by cases s;cases s2;simp only[aK,zai]at e;simp[e]
    subst e';have O:cells.length=s.len*sz t':=by rw[J];exact f.1
    intro B dr;by_cases hm:ys.length=0;have ar:ys=[]:=ZU hm;subst ar;have ay:news=[]:=ZU (by rw[w.1];simp);subst ay;have hr:=Xi (P:=P) (ty:=ty') T (s:=s) (h':=h) (D B dr) φ (λp N=>by simp[storeCells]) (λ_=>rfl);refine⟨_,dr,h,hr,_,C,Te,γ,V,?_,I,Gx.refl _ _⟩;rw[ZY];exact ae;have⟨c,k,hr,aJ,aF,aG,aE⟩:=zY (P:=P) (ty:=ty') (base:=0) T O (λB d=>Wp Y O T.pos B d) D η ω (Nat.zero_le _) ω B dr;have aC:γ.M h.size=Te:=I.ag.none (YJ _);have hM:Fr.le γ.M (fZ γ h.size k).M:=by
     intro b cc U;have:gc b h.size=Tc:=by
      cases r:gc b h.size with
      |false=>rfl
      |true=>simp_all
     simp[fZ,this,U]
    have ak:AgM (fZ γ h.size k).M (h.push (.cells k el)):=by
     intro b cc U;by_cases r:b=h.size;subst r;have:cc=k:=by simp[fZ]at U;exact U.symm
     simp_all;have:gc b h.size=Tc:=by
      cases aa:gc b h.size with
      |false=>rfl
      |true=>simp_all
     simp only[fZ,this,zG]at U;have⟨T',m,e'⟩:=I.ag b cc U;grind
    refine⟨_,dr+1,_,hr,_,C,Te,fZ γ h.size k,V,?_,I.call (Bk.push h _ (YJ _)) hM (λb r=>?_) ak,⟨hM,λ_ _=>⟨rfl,rfl⟩⟩⟩;have af:=((f.append w).mono hM).rd (b:=h.size) (o:=0) (c:=c) (cs:=k) (by simp[fZ]) θ θ;rw[YM,<-J]at af;exact af;grind [ZJ];cases H;cases H
   cases H
  cases H
 cases H
end
section
variable {cs C R:CS} {γ b:Gh} {h:zb} {u:Value} {P:EM} {o:n9} {σ:n7 -> Value} {n:Nat} {gl:Fr} {tr:N4} {c:yb} {a:Act} {S:List Nat}
variable {h0 : zb} {W : Nat -> Prop} {M0 : Fr}
def qR(b:List Int):Bt:=b.foldl (λr n=>r.push (UInt8.ofNat n.toNat)) ByteArray.empty
def VG(t:Ty)(xs:List (El t)):Option (List Int):=Y8 (.row t) (.row (.int .u8)) xs
def pY(cs:CS):AA->Option ((t:Ty)×List (El t))
 |.own c=>match Wk cs c with
  |some (.row _ t xs)=>Td ⟨t,xs⟩
  |some (.fz t xs)=>Td ⟨t,xs⟩
  |_=>Te
 |aa=>rowOf cs aa
def Gk(I:Inv h0 W M0 cs γ h){o:AA}{r:(t:Ty)×List (El t)}(b:pY cs o=Td r)(k:CD γ o u):∃s:Sl,u=aK s/\s.len=DB r.2/\∃cells,Id γ.M r.1 r.2 cells/\ik h.size h s.a cells:=by
 unfold pY at b;split at b;split at b;rename_i c e t xs m;simp only[YK]at b;subst b;have⟨cells,f,i,n,l⟩:=I.den _ (qm m);exact⟨_,k,l,cells,i,f.arr⟩;rename_i c t xs m;simp only[YK]at b;subst b;have:Rd γ.M (.row t) xs [u]:=by rw[show u=_ from k];exact I.den _ (qm m)
 have⟨s,e,l,n,cells,h1,h2⟩:=this.rowC I.ag;grind;cases b;have⟨s,e,l,n,cells,h1,h2⟩:=(nI I b k).rowC I.ag;grind
def vK(P:EM)(s t:N4)(av:AV)(cs:CS)(K:AV->Prop):Prop:=
 match P.underlying s,P.underlying t with
 |some (.slice e),Td .string=>match P.underlying e,av with
  |some (.int .u8),.g (.a aa)=>match pY cs aa with
   |some r=>match VG r.1 r.2 with
    |some b=>K (.g (.a (.v (.string (qR b)))))
    |none=>False
   |none=>False
  |_,_=>False
 |some (.int _),Td .string=>match av with
  |.g (.a (.v (.int _ n)))=>K (.g (.a (.v (.string (zcy n)))))
  |_=>False
 |_,_=>False
def Lz{M:Fr}{k:IntKind}:∀{b:ac7} {cells:ab2},Id M (.int k) b cells->cells=b.map (zad k)
 |b,cells,H=>by
  apply zar;intro i;have c:cells.length=DB b:=by rw[H.1];simp[sz]
  rw[List.getElem?_map];by_cases hi:i<DB b;have:((cells.drop (i*1)).take 1)=[.int k b[i]]:=H.2 i hi;have e:cells[i]?=Td (.int k b[i]):=by
   have h2:((cells.drop (i*1)).take 1)[0]?=Td (.int k b[i]):=by rw[this];rfl
   rw[zae,zi ω,zau]at h2;simpa using h2
  simp_all;simp_all
def Ln{s t:N4}{x:n7}(N:o.op=.convert s t x){av:AV}{K:AV->Prop}(H:vK P s t av cs K)(I:Inv h0 W M0 cs γ h)(G:DE γ av (σ x)):∃m v,K m/\DE γ m v/\At P (fd σ o) h (.value v):=by
 have val:∀{v:Value},At P (convert s t (σ x)) h v->At P (fd σ o) h (.value v):=λS=>by simp only[fd,N];exact At.val S
 unfold vK at H;split at H;rename_i e C u;split at H;rename_i Y O;split at H;rename_i r U;split at H;rename_i i A;refine⟨_,.string (qR i),H,rfl,val λB d=>?_⟩;have⟨sl,F,q,cells,f,l⟩:=Gk I U G;have⟨tt,xs⟩:=r;have⟨E,L⟩:=Wr A;simp only at E;subst E;simp only at L q f;subst L;have Q:=Lz f;subst Q;have h1:=At.underlying (h:=h) C B d;have h2:=At.underlying (h:=h) u B d;have V:=At.underlying (h:=h) O B d;have c:(Conv.bytesToString (σ x)).run P (mk B d h)=.ok (.string (qR i)) (mk B d h):=by
  rw[F];unfold aK;obtain y|⟨b,J,w,_,z⟩:=l;have D:i=[]:=ψ y
  subst D;simp only[ZW]at q;cases ha:sl.a with
  |none=>simp[Conv.bytesToString,qR]
  |some p=>have:=run_bytesToString (P:=P) (mk B d h) p sl.len sl.cap [] (by rw[q];simp[loadCells,loadCellsFrom]);exact this
  rw[w];refine run_bytesToString (mk B d h) ⟨b,J,Te⟩ sl.len sl.cap i ?_;have:=Wp (P:=P) (h:=h) (n:=b+1) (sz:=1) (s:=sl) (cells:=i.map (zad .u8)) (.inr ⟨b,J,w,ω,z⟩) (υ q) ω B d;rw[w]at this;simpa[zb7]using this
 unfold convert;rw[DM,h1];simp only[D0];rw[DM,h2];simp only[D0];rw[F]at c ⊢;unfold aK at c ⊢;simp_all;cases H;cases H;cases H;rename_i k C u;split at H;rename_i M n;refine⟨_,.string (zcy n),H,rfl,val λB d=>?_⟩;have h1:=At.underlying (h:=h) C B d;have h2:=At.underlying (h:=h) u B d;have e:σ x=.int M n:=G;unfold convert;rw[DM,h1];simp only[D0];rw[DM,h2,e];rfl;cases H;cases H
def EJ:BinOp->Option Bool
 |.eql=>Td Ta
 |.neq=>Td Tc
 |_=>Te
def w0(P:EM)(o:n9)(ρ:n7->Option AV)(cs:CS):Option (Bool×Nat):=match o.op with
 |.binOp b t x y _=>match EJ b,ρ x,ρ y with
  |some pol,Td (.g (.a aa)),Td (.g (.a (.v (.slice Te 0 0))))=>match pY cs aa,P.underlying t with
   |some ⟨ty,xs⟩,Td (.slice _)=>bif Nat.blt 0 (sz ty)then Td (pol,xs.length)else Te
   |_,_=>Te
  |_,_,_=>Te
 |_=>Te
theorem OP(e:BinOp)(t:N4)(x y:n7)(a b:Option n8)(l c f h:Nat)(w:MN):(eqGuard e t x y (.slice a l c) (.slice b f h)).run P w=.ok () w:=by unfold eqGuard;simp
def QN{ρ:n7->Option AV}{i:Bool}(c:w0 P o ρ (C++R)=Td (i,n)){K:AV->CS->Option Nat->Prop}(H:∀b:Bool,(b=Ta->n=0)->K (.g (.a (.v (.bool (cond i b (!b)))))) C Te)(I:Inv h0 W M0 (C++R) γ h) (w:∀x av,ρ x=Td av->DE γ av (σ x)):ExA P (fd σ o) h (gR h0 W M0 R γ K):=by
 unfold w0 at c;split at c
 ·rename_i M t x y O A;split at c
  ·rename_i r S f D J;split at c
   ·rename_i ty xs e L q;cases hz:Nat.blt 0 (sz ty)with
    |false=>rw[hz]at c;cases c
    |true=>
     rw[hz]at c;simp only[zF,YK,za5]at c;obtain⟨rfl,rfl⟩:=c;have N:0<sz ty:=by simpa[zds]using hz
     have⟨s,E,Q,cells,m,k⟩:=Gk I L (w _ _ D);have z:σ y=.slice Te 0 0:=w _ _ J;have l:s.a.isNone=Ta->DB xs=0:=by
      intro u;have p:cells=[]:=by obtain p|⟨b,o,F,_⟩:=k;exact p;rw[F]at u;cases u
      have:=m.1;rw[p]at this;simp only[ZW]at this;obtain h1|h1:=Nat.mul_eq_zero.1 this.symm;exact h1;omega
     have G:=H s.a.isNone l;intro B d;refine .inl ⟨_,d,h,?_,_,C,Te,γ,G,rfl,I,Gx.refl _ _⟩;simp only[fd,A];refine gm ?_;rw[E,z];simp only[aK];rw[DM,OP];simp only[D0];cases M <;> simp only[EJ,YK]at f <;> (try (cases f;done)) <;> subst f;simp only[binOp,DM,run_equal_slice_nil _ t _ _ _ _ q];rfl;simp only[binOp,DM,run_equal_slice_nil _ t _ _ _ _ q];rfl
   cases c
  cases c
 cases c
def l8(P:EM)(gl:Fr)(tr:N4)(o:n9)(ρ:n7->Option AV)(C R:CS)(K:AV->CS->Option Nat->Prop):Prop:=
 match o.op with
 |.alloc t=>match o.dst with
  |some d=>wc P t d C R K
  |none=>False
 |.box t x=>match o.dst,ρ x with
  |some d,some av=>match nJ av with
   |some l=>Ad t d l C R K
   |none=>False
  |_,_=>False
 |.store t a x=>match ρ a,ρ x with
  |some (.g (.a aa)),some xv=>match nJ xv with
   |some h=>zI P t aa h C R K
   |none=>False
  |_,_=>False
 |.buildSlice t n b=>match o.dst,kW ρ b.toList with
  |some d,some ps=>wd P tr t n ps d C R K
  |_,_=>False
 |.convert s t x=>bif jQ P o then qA P gl o ρ Te (C++R) (λav=>K av C Te)else(match ρ x with
  |some av=>vK P s t av (C++R) λe=>K e C Te
  |none=>False)
 |.call c=>match c.callee with
  |.builtin .append=>match c.args.toList,c.argTypes.toList,o.dst with
   |[s,x],[t,tx],some d=>match ρ s,ρ x with
    |some bv,some sv=>vL P tr t tx bv sv d C R K
    |_,_=>False
   |_,_,_=>False
  |.builtin _=>qA P gl o ρ Te (C++R) λav=>K av C Te
  |_=>vT P gl tr o ρ C R λav f=>K av f Te
 |.range t x=>match o.dst,ρ x with
  |some d,some av=>tP P t av d C R K
  |_,_=>False
 |.next x true=>match ρ x with
  |some av=>vo av C R K
  |none=>False
 |_=>qA P gl o ρ Te (C++R) λav=>K av C Te
theorem toList_eq{α:Type}{x:Array α}{l:List α}(h:x.toList=l):x=l.toArray:=η
theorem PU(k:Fr.le gl M0){ρ:n7->Option AV}{K:AV->CS->Option Nat->Prop}(H:l8 P gl tr o ρ C R K)(I:Inv h0 W M0 (C++R) γ h)(G:∀f,σ (.func f)=.func (.func f) #[] #[]) (b:∀x av,ρ x=Td av->DE γ av (σ x)):ExA P (fd σ o) h (gR h0 W M0 R γ K):=by
 unfold l8 at H;split at H;grind [Oe];grind [QW,Af];rename_i t a x n;split at H;rename_i Q N J u;split at H;rename_i l A;exact Uv n H I (Af A (b _ _ u)) (b _ _ J);cases H;cases H;grind [Li];rename_i s t x n;cases hq:jQ P o with
 |true=>grind [tF]
 |false=>rw[hq]at H;simp only[zG]at H;split at H;rename_i av q;have⟨w,v,h1,h2,E⟩:=Ln n H I (b _ _ q);exact λB d=>.inl ⟨v,d,h,E B d,w,C,Te,γ,h1,h2,I,Gx.refl _ _⟩;cases H
 rename_i c n;split at H;rename_i L;split at H;rename_i s x t tx d i m M;split at H;rename_i bv O F u;have p:=Rt (ty':=o.type) H I (b _ _ F) (b _ _ u);intro B e;have⟨v,D,h',r,z⟩:=p B e;refine .inl ⟨v,D,h',?_,z⟩;have y:fd σ o=(YN c.argTypes o.type (c.args.map σ) >>= λx=>(zc6 (zda x):Sem Next)):=by simp only[fd,n,resolve,L];rfl
 rw[y,toList_eq i,toList_eq m];simp_all;cases H;cases H;exact tF k H I b;exact Ip k H I G b;grind [US];grind [QD];exact tF k H I b
def hA(P:EM)(gl:Fr)(tr:N4)(o:n9)(ρ:n7->Option AV)(C R:CS)(K:AV->CS->Option Nat->Prop):Prop:=match w0 P o ρ (C++R)with
 |some (pol,n)=>∀b:Bool,(b=Ta->n=0)->K (.g (.a (.v (.bool (bif pol then b else !b))))) C Te
 |none=>l8 P gl tr o ρ C R K
theorem PD(i:Fr.le gl M0){ρ:n7->Option AV}{K:AV->CS->Option Nat->Prop}(H:hA P gl tr o ρ C R K)(I:Inv h0 W M0 (C++R) γ h)(k:∀f,σ (.func f)=.func (.func f) #[] #[]) (b:∀x av,ρ x=Td av->DE γ av (σ x)):ExA P (fd σ o) h (gR h0 W M0 R γ K):=by unfold hA at H;split at H;rename_i c n e;exact QN e H I b;grind [PU]
def qX:Option AV->Option AV->Option AV
 |some v,_=>Td v
 |none,w=>w
def xR(b:Bool)(x y:AV):Option AV:=match mQ x,mQ y with
 |some u,some v=>Td (mN (np b u v))
 |_,_=>match x,y with
  |.g (.a (.d t xs)),.g (.a (.d t' ys))=>match Y8 t' t ys with
   |some ys=>Td (.g (.a (.d t (bif b then xs else ys))))
   |none=>Te
  |_,_=>Te
def Rk{b:Bool}{x y z:AV}(h:xR b x y=Td z){u v:Value}(f:b=Ta->DE γ x u)(c:b=Tc->DE γ y v):DE γ z (ite (b=Ta) u v):=by
 unfold xR at h;split at h;rename_i p q i l;simp only[YK]at h;subst h;have e:(ite (b=Ta) u v)=np b p q:=by
  rw[D3];cases b with
  |true=>simp only[if_true];exact tI i (f rfl)
  |false=>simp only[zaq,if_false];exact tI l (c rfl)
 rw[e];exact ov γ _;split at h;rename_i t xs t' ys _;split at h;rename_i k m;simp only[YK]at h;subst h;cases b with
 |true=>exact f rfl
 |false=>exact Xh m (c rfl)
 cases h;cases h
def sy(e:j7)(c:yb)(x a b:n7)(K:AV->Prop):Prop:=
 match x with
 |.tmp s=>match jt e s with
  |some (cs,v)=>match mo v with
   |some t=>bif iG cs c then(match qX (gv e c a) (gv e ((s,Ta)::cs) a),qX (gv e c b) (gv e ((s,Tc)::cs) b)with
    |some va,some vb=>match xR t va vb with
     |some z=>K z
     |none=>False
    |_,_=>False)else False
   |none=>False
  |none=>False
 |_=>False
theorem vE{e:j7}{x a b:n7}{K:AV->Prop}(H:sy e c x a b K):∃z,K z/\∀(n:Nat) (γ:Gh) (f:Act),Fn n e γ f->valid (qp f) c->∃t,f.eval x=.bool t/\DE γ z (ite (t=Ta) (f.eval a) (f.eval b)):=by
 unfold sy at H;split at H;rename_i s;split at H;rename_i cs v q;split at H;rename_i t r;cases hsf:iG cs c with
 |false=>simp_all
 |true=>rw[hsf]at H;simp only[zF]at H;split at H;rename_i y A p i;split at H;rename_i z w;refine⟨z,H,λn γ f k u=>?_⟩;have h:=Wa hsf u;have o:qp f s=.bool t:=tK r ((k.all _ (Qm q)).1 h);refine⟨t,o,Rk w (λm=>?_) (λl=>?_)⟩;unfold qX at p;split at p;grind [YK,Qa];exact Qa k (c:=(s,Ta)::cs) ⟨by rw[o,m],h⟩ p;unfold qX at i;split at i;grind [YK,Qa];exact Qa k (c:=(s,Tc)::cs) ⟨by rw[o,l],h⟩ i;cases H;cases H
 cases H;cases H;cases H
def m0(P:EM)(gl:Fr)(tr:N4)(o:n9)(e:j7)(c:yb)(C R:CS)(K:AV->CS->Option Nat->Prop):Prop:=
 match o.op with
 |.pick x a b=>sy e c x a b λav=>K av C Te
 |_=>match mA e c with
  |some none=>hA P gl tr o (gv e c) C R K
  |some (Td b)=>bif oq o then tS P gl tr o (gv e c) b (C++R) (λav=>K av C Te)else qA P gl o (gv e c) (Td b) (C++R) (λav=>K av C Te)
  |none=>False
def UH(i:Fr.le gl M0){e:j7}{K:AV->CS->Option Nat->Prop}(H:m0 P gl tr o e c C R K)(k:Fn n e γ a)(I:Inv h0 W M0 (C++R) γ h)(l:valid (qp a) c):ExA P (fd a.eval o) h (gR h0 W M0 R γ K):=by
 have G:∀f,a.eval (.func f)=.func (.func f) #[] #[]:=λ_=>rfl;have p:∀x av,gv e c x=Td av->DE γ av (a.eval x):=λx av D=>Qa k l D;unfold m0 at H;split at H;rename_i x y z s;have⟨av,h1,h2⟩:=vE H;have⟨t,w,J⟩:=h2 n γ a k l;refine λB d=>.inl ⟨_,d,h,?_,av,C,Te,γ,h1,J,I,Gx.refl _ _⟩;simp only[fd,s,w,asBool,DM,DQ,D0];split at H;grind [PD];rename_i b A;have m:=DC k A l;cases hic:oq o with
 |true=>rw[hic]at H;simp only[zF]at H;have⟨f,args,h1,h2⟩:=(GG (h0:=h0) (W:=W) (M0:=M0) H).2 m i γ h a.eval I G p;refine λB d=>.inr (.inr ⟨f,args,h1 _,h2.mono ?_⟩);rintro v h' ⟨av,γ',u,E,L,r,_⟩;exact⟨av,C,Te,γ',u,E,L,r⟩
 |false=>rw[hic]at H;simp only[zG]at H;have⟨av,h1,h2⟩:=sV (h0:=h0) (W:=W) (M0:=M0) i H;have⟨v,q,F⟩:=h2 m γ h a.eval I p;exact λB d=>.inl ⟨v,d,h,F B d,av,C,Te,γ,h1,q,I,Gx.refl _ _⟩
 cases H
def WY{e:j7}{K:AV->CS->Option Nat->Prop}(H:m0 P gl tr o e c C R K)(k:Fn n e γ a)(h:¬valid (qp a) c):∃av,K av C Te:=by
 unfold m0 at H;split at H;grind [vE];split at H;grind [Ey];rename_i b i;have f:=Ey k i h;simp only[YK]at f;cases hic:oq o with
 |true=>rw[hic]at H;simp only[zF]at H;exact(GG (h0:=#[]) (W:=λ_=>False) (M0:=λ_=>Te) H).1 f
 |false=>rw[hic]at H;simp only[zG]at H;have⟨av,h1,_⟩:=sV (h0:=#[]) (W:=λ_=>False) (M0:=gl) (Fr.le.refl _) H;grind
 cases H
def GxS(S:List Nat)(γ γ':Gh):Prop:=Fr.le γ.M γ'.M/\∀i,i∉S->γ'.β i=γ.β i/\γ'.σ i=γ.σ i
theorem GxS.refl(S:ab1)(γ:Gh):GxS S γ γ:=⟨Fr.le.refl _,λ_ _=>⟨rfl,rfl⟩⟩
theorem GxS.trans{a b c:Gh}(h:GxS S a b)(k:GxS S b c):GxS S a c:=⟨h.1.trans k.1,λi hi=>⟨(k.2 i hi).1.trans (h.2 i hi).1,(k.2 i hi).2.trans (h.2 i hi).2⟩⟩
theorem GxS.mono{S c:ab1}{a b:Gh}(h:GxS S a b)(f:∀x∈S,x∈c):GxS c a b:=⟨h.1,λi hi=>h.2 i λe=>hi (f i e)⟩
def p7(c:Option Nat)(d:Option Nat):Bool:=match c,d with
 |none,_=>Ta
 |some x,some y=>gc x y
 |some _,none=>Tc
theorem Gx.toS{c d:ac3}{γ γ':Gh}(g:Gx c γ γ')(h:p7 c d=Ta)(b:∀i,d=Td i->i∈S):GxS S γ γ':=by
 refine⟨g.1,λi hi=>g.2 i λe=>?_⟩;subst e;cases d with
 |none=>cases h
 |some y=>have:i=y:=ZJ h;simp_all
def l7(P:EM)(gl:Fr)(tr:N4)(n:Nat)(ops:Array n9)(R:CS)(K:j7->CS->Prop):List n9->j7->CS->Prop
 |[],e,C=>K (km e) C
 |o::rest,e,C=>match nq ops e o.guard with
  |some c=>bif xr n c o.dst then m0 P gl tr o e c C R (λav b i=>bif p7 i o.dst then l7 P gl tr n ops R K rest (sA (su i e) o.dst c av) b else False)else False
  |none=>False
def ut{P:EM}{gl:Fr}(r:Fr.le gl M0){tr:N4}{n:Nat}{ops:Array n9}{R:CS}{K:j7->CS->Prop}{Q:Exit->Act->MN->Prop}(B:MN):∀(l:List n9) (e:j7) (C:CS) (γ:Gh) (h:zb) (a:Act) (d:Nat),l7 P gl tr n ops R K l e C->Fn n e γ a->Inv h0 W M0 (C++R) γ h->(∀e' k γ' a' m h',Fn n e' γ' a'->Inv h0 W M0 (k++R) γ' h'->Same (Zc l) a a'->GxS (Zc l) γ γ'->K e' k->Q .normal a' (mk B m h'))->wpList P ops Q l a (mk B d h)
 |[],e,C,γ,h,a,d,H,hs,I,hQ=>hQ _ _ _ _ _ _ hs.clean I (Same.refl _ _) (GxS.refl _ _) H
 |o::rest,e,C,γ,h,a,d,H,hs,I,hQ=>by
  unfold l7 at H;split at H
  ·rename_i c N;cases hd:xr n c o.dst with
   |false=>simp_all
   |true=>
    rw[hd]at H;simp only[zF]at H;have z:=HN hs N;have f:∀i,o.dst=Td i->i∈Zc (o::rest):=λi hi=>by simp[Zc,hi]
    have b:∀x∈Zc rest,x∈Zc (o::rest):=λx D=>by unfold Zc;grind
    have q:∀av u m h' k i γ',(valid (qp a) c->DE γ' av u)->(¬valid (qp a) c->u=undef)->Inv h0 W M0 (k++R) γ' h'->Gx i γ γ'->(cond (p7 i o.dst) (l7 P gl tr n ops R K rest (sA (su i e) o.dst c av) k) False) ->
     wpList P ops Q rest (a.put o.dst u) (mk B m h'):=λav u m h' k i γ' h1 h2 F g A=>by
     cases hid:p7 i o.dst with
     |false=>simp_all
     |true=>
      rw[hid]at A;exact ut r B rest _ _ _ _ _ _ A ((hs.gx g).putO hd h1 h2) F λe' s y a' w j E O J M L=>
       hQ e' s y a' w j E O ((Same.put a o.dst u f).trans (J.mono b)) ((g.toS hid f).trans (M.mono b)) L
    unfold wpList;by_cases p:valid (qp a) c;rw[zi (z.2 p)];refine .inl ((UH r H hs I p).upon B d ?_);rintro v m h' ⟨av,k,i,γ',Y,U,S,V⟩;grind;rw[za (λD=>p (z.1 D))];have⟨av,G⟩:=WY H hs p;exact q av undef d h C Te γ (λt=>absurd t p) (λ_=>rfl) I (Gx.refl _ _) G
  cases H
end
end
end Go.X
