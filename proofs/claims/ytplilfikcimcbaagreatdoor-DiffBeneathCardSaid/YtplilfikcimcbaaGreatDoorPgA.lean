/- A part of the proof: nothing is stated here for its own sake. -/
import Derived.Deep.Quiet
import Derived.StillTail
import Derived.Laws.Cover3
import Derived.Laws.Pointers
import Derived.Scope
import Derived.Laws.OwnMore
import Derived.Laws.StructEq
open _root_.Go.Addr renaming add->Tl
open _root_.Array renaming ext_getElem?->VW,getD_eq_getD_getElem?->Uv,getElem?_append_left->U9,getElem?_eq_getElem->UA,getElem?_eq_some_iff->TD,getElem?_setIfInBounds_ne->Uo,replicate->Ve,size_setIfInBounds->TW
open _root_.Bool renaming and_eq_true->TC,eq_iff_iff->T8,false_eq_true->Uz,not_eq_true'->VE,true_and->UQ
open _root_.Go.Builtin renaming append_->TB,firstCells->U6,len_->Vh
open _root_.Go.Code renaming cond->V0,region->V7
open _root_.Go.Deferred renaming ofValue->VL
open _root_.Go.Instr renaming entry->VH,findNow->U3,indexAt->V2,keyThatStays->Vo,loadAt->Vy,lookup->UV,makeSlice->Uc,mapUpdate->UN,next->Vn,range->VX,sameNow->VR,sliceAt->VQ,storeAt->Tt,sureAddr->VG
open _root_.Go.IntKind renaming bits->Ul,signed->V6,wrap->Tj
open _root_.List renaming all_eq_true->T7,cons_append->Um,drop_drop->VI,drop_eq_nil_of_le->Va,eq_nil_of_length_eq_zero->TT,getElem?_drop->Ur,getElem?_eq_getElem->Tv,getElem?_eq_some_iff->T5,getElem?_take->Ud,getElem_append_left->UR,getElem_append_right->Vf,getElem_mem->TA,length_append->Ts,length_cons->TI,length_drop->UJ,length_eq_zero_iff->Vl,length_nil->Uu,length_take->UD,mapM_cons->VZ,map_cons->TV,mem_append->TE,mem_append_left->TF,mem_append_right->TU,mem_cons->Tz,mem_cons_of_mem->TS,mem_cons_self->TQ,mem_filter->UI,mem_range->Ui,nil_append->UO,nodup_cons->Ut,pairwise_append->Vt,pairwise_cons->UM,range->TZ,replicate->UL,take_append_of_le_length->Vi,take_succ_eq_append_getElem->Tu
open _root_.List.cons renaming injEq->U4
open _root_.Nat renaming add_mul->UX,eq_of_beq_eq_true->TL,eq_zero_or_pos->Vz,le_of_ble_eq_true->UU,le_refl->Tm,le_trans->Ux,lt_of_lt_of_le->U5,lt_or_ge->Up,min_eq_left->VS,mul_comm->VA,mul_le_mul_right->TX,one_mul->V4,succ_mul->VB,zero_add->TJ
open _root_.Go.Next renaming value->VF
open _root_.Go.Op renaming equal->V5
open _root_.Option renaming bind_some->U0,map_eq_some_iff->U1,map_some->VU
open _root_.Option.some renaming inj->TY,injEq->Tn
open _root_.Prod.mk renaming injEq->Uy
open _root_.Pure renaming pure->VD
open _root_.Go.Region renaming wanted->Ue
open _root_.Go.Value renaming int->UB,string->TH
open _root_.Go.Value.slice renaming injEq->Ua
set_option linter.unusedVariables false
set_option maxRecDepth 100000
namespace Go.X
end Go.X
namespace Go.Proofs
end Go.Proofs
open Go Go.X Go.Proofs
open _root_.Bool renaming true->Ta,false->Tc
open _root_.Option renaming some->Td,none->Te
section
namespace Go.X
section
theorem zv{c:Prop}{h:Decidable c}(n:¬c){α:Sort _}{t e:α}:@ite α c h t e=e:=if_neg n
theorem zA{c:Prop}{h:Decidable c}(n:c){α:Sort _}{t e:α}:@ite α c h t e=t:=if_pos n
theorem zG{p:Prop}[Decidable p]:(decide p=true)=p:=decide_eq_true_eq
theorem zH{p:Prop}[Decidable p](h:decide p=true):p:=of_decide_eq_true h
theorem zI{p:Prop}[Decidable p](h:decide p=false):¬p:=of_decide_eq_false h
theorem zJ{p:Prop}[Decidable p](h:p):decide p=true:=decide_eq_true h
theorem zK{α:Sort _}(a b:α):cond true a b=a:=rfl
theorem zL{α:Sort _}(a b:α):cond false a b=b:=rfl
abbrev Bt:= ByteArray
variable {i n m:Nat} {v u:Value} {a:Act} {o:Oper}
abbrev za:=Array Obj
abbrev qf:=List (Nat×Bool)
abbrev bK:=List (Nat×qf×Value)
def mk(B:World)(d:Nat)(h:za):World:={ B with heap:=h,drawn:=d }
def look:bK->Nat->Option (qf×Value)
 |[],_=>Te
 |(j,c,v)::e,i=>bif Nat.beq i j then Td (c,v)else look e i
def valid(σ:Nat->Value):qf->Prop
 |[]=>True
 |(g,p)::c=>σ g=.bool p/\valid σ c
def qc(a:Act)(i:Nat):Value:=a.tmps.getD i undef
def fact(σ:Nat->Value)(x:Nat×qf×Value):Prop:=(valid σ x.2.1->σ x.1=x.2.2)/\(¬valid σ x.2.1->σ x.1=undef)
structure Sat (n:Nat) (e:bK) (a:Act):Prop where
 defers:a.defers=[]
 size:a.tmps.size=n
 all:∀x∈e,fact (qc a) x
def mentions:qf->Nat->Bool
 |[],_=>Tc
 |(g,_)::c,i=>bif Nat.beq i g then Ta else mentions c i
def qN:bK->Nat->bK
 |[],_=>[]
 |(j,c,v)::e,i=>bif (bif Nat.beq i j then Ta else mentions c i)then qN e i else(j,c,v)::qN e i
def put(e:bK)(i:Nat)(c:qf)(v:Value):bK:=(i,c,v)::qN e i
def putO(e:bK):Option Nat->qf->Value->bK
 |none,_,_=>e
 |some d,c,v=>put e d c v
def clean:bK->bK
 |[]=>[]
 |(j,[],v)::e=>(j,[],v)::clean e
 |(_,_::_,_)::e=>clean e
theorem W0{e:bK}{c:qf}(h:look e i=Td (c,v)):(i,c,v)∈e:=by
 induction e with
 |nil=>cases h
 |cons x e f=>obtain⟨j,k,b⟩:=x;simp only[look]at h;by_cases l:Nat.beq i j=Ta;simp_all;simp_all
theorem Pd{e:bK}{x:Nat×qf×Value}(h:x∈qN e i):x∈e/\x.1≠i/\mentions x.2.1 i=Tc:=by
 induction e with
 |nil=>cases h
 |cons y e o=>
  obtain⟨j,f,n⟩:=y;simp only[qN]at h;by_cases k:Nat.beq i j=Ta;simp_all;have c:Nat.beq i j=Tc:=Bool.eq_false_iff.2 k;simp only[c,zL]at h;by_cases l:mentions f i=Ta;simp_all;have b:mentions f i=Tc:=by simpa using l
  simp only[b,zL]at h;rcases Tz.1 h with rfl|h;refine⟨TQ,λm=>?_,b⟩;simp_all;simp_all
theorem Po{e:bK}{x:Nat×qf×Value}(h:x∈clean e):x∈e/\x.2.1=[]:=by
 induction e with
 |nil=>cases h
 |cons y e i=>
  obtain⟨j,b,f⟩:=y;cases b with
  |nil=>simp only[clean]at h;grind
  |cons c cs=>simp only[clean]at h;simp_all
theorem Sat.sub{e b:bK}(h:Sat n e a)(c:∀x∈b,x∈e):Sat n b a:=⟨h.defers,h.size,λx f=>h.all x (c x f)⟩
theorem Sat.clean{n:Nat}{e:bK}{a:Act}(h:Sat n e a):Sat n (clean e) a:=h.sub λ_ b=>(Po b).1
theorem Yp{σ τ:Nat->Value}{c:qf}(b:mentions c i=Tc)(h:∀j,j≠i->σ j=τ j):valid σ c↔valid τ c:=by
 induction c with
 |nil=>exact Iff.rfl
 |cons x c k=>obtain⟨g,p⟩:=x;simp only[mentions]at b;by_cases f:Nat.beq i g=Ta;grind;simp only[f,zL]at b;have l:g≠i:=λe=>f (by rw[e];simp);simp only[valid,h g l,k b]
theorem xp(hi:i<a.tmps.size):qc (a.put (Td i) u) i=u:=by simp[qc,Act.put,hi]
theorem qz{i j:Nat}(h:j≠i):qc (a.put (Td i) u) j=qc a j:=by simp[qc,Act.put,Uo (Ne.symm h)]
theorem size_put(a:Act)(d:Option Nat)(u:Value):(a.put d u).tmps.size=a.tmps.size:=by cases d <;> simp[Act.put]
theorem w8(a:Act)(d:Option Nat)(u:Value):(a.put d u).defers=a.defers:=by cases d <;> simp[Act.put]
theorem Sat.put{n:Nat}{e:bK}{a:Act}(h:Sat n e a){i:Nat}{c:qf}{v u:Value}(hi:i<n)(y:mentions c i=Tc)
  (r:valid (qc a) c->u=v) (w:¬valid (qc a) c->u=undef):Sat n (put e i c v) (a.put (Td i) u):=by
 refine⟨by rw[w8];exact h.defers,by rw[size_put];exact h.size,λx m=>?_⟩;have k:i<a.tmps.size:=by rw[h.size];exact hi
 rcases Tz.1 m with rfl|m;have l:=Yp (σ:=qc (a.put (Td i) u)) (τ:=qc a) y (λj o=>qz o);refine⟨λf=>?_,λf=>?_⟩;exact(xp k).trans (r (l.1 f));exact(xp k).trans (w (λb=>f (l.2 b)));obtain⟨h1,q,t⟩:=Pd m;have l:=Yp (σ:=qc (a.put (Td i) u)) (τ:=qc a) t (λj o=>qz o);have p:=h.all x h1;refine⟨λf=>?_,λf=>?_⟩;exact(qz q).trans (p.1 (l.1 f));exact(qz q).trans (p.2 (λb=>f (l.2 b)))
def jy(n:Nat)(c:qf):Option Nat->Bool
 |none=>Ta
 |some d=>bif mentions c d then Tc else Nat.blt d n
theorem Sat.putO{n:Nat}{e:bK}{a:Act}(h:Sat n e a){d:Option Nat}{c:qf}{v u:Value}(f:jy n c d=Ta)
  (k:valid (qc a) c->u=v) (l:¬valid (qc a) c->u=undef):Sat n (putO e d c v) (a.put d u):=by
 cases d with
 |none=>exact h
 |some i=>
  simp only[jy]at f;by_cases j:mentions c i=Ta;grind;have b:mentions c i=Tc:=by simpa using j
  simp only[b,zL]at f;exact h.put (by simp_all) b k l
def w9:qf->qf->Bool
 |[],[]=>Ta
 |(g,p)::c,(g',p')::c'=>bif Nat.beq g g' then(bif p then(bif p' then w9 c c' else Tc)else(bif p' then Tc else w9 c c'))else Tc
 |_,_=>Tc
theorem Q1:∀{c b:qf},w9 c b=Ta->c=b
 |[],[],_=>rfl
 |[],_::_,h=>by simp[w9]at h
 |_::_,[],h=>by simp[w9]at h
 |(g,p)::c,(g',p')::b,h=>by simp only[w9]at h;by_cases e:Nat.beq g g'=Ta;simp only[e,zK]at h;have f:=TL e;cases p <;> cases p' <;> simp at h <;> rw[f,Q1 h];grind
def kw(cs:qf):qf->Bool
 |[]=>w9 cs []
 |x::c=>bif w9 cs (x::c)then Ta else kw cs c
theorem Q2{σ:Nat->Value}{cs:qf}:∀{c:qf},kw cs c=Ta->valid σ c->valid σ cs
 |[],h,_=>by rw[Q1 h];trivial
 |x::c,h,hv=>by simp only[kw]at h;by_cases b:w9 cs (x::c)=Ta;rw[Q1 b];exact hv;simp only[b,zL]at h;exact Q2 h hv.2
def Jq(e:bK)(c:qf):Operand->Option Value
 |.tmp t=>match look e t with
  |some (cs,v)=>bif kw cs c then Td v else Te
  |none=>Te
 |.const v=>Td v
 |.global g=>Td (.pointer (Td ⟨g,0,Te⟩))
 |.func f=>Td (.func (.func f) #[] #[])
theorem qg{e:bK}(h:Sat n e a){c:qf}(k:valid (qc a) c){x:Operand}(b:Jq e c x=Td v):a.eval x=v:=by
 cases x with
 |tmp t=>simp only[Jq]at b;split at b;rename_i cs u j;by_cases i:kw cs c=Ta;simp only[i,zK,Tn]at b;subst b;exact(h.all _ (W0 j)).1 (Q2 i k);grind;cases b
 |const u=>simp only[Jq,Tn]at b;exact b
 |global g=>simp only[Jq,Tn]at b;exact b
 |func f=>simp only[Jq,Tn]at b;exact b
def i0(e:bK)(c:qf)(x:Operand):Value:=match Jq e c x with
 |some v=>v
 |none=>undef
def known(e:bK)(c:qf):List Operand->Bool
 |[]=>Ta
 |x::l=>match Jq e c x with
  |some _=>known e c l
  |none=>Tc
theorem Yq{e:bK}(h:Sat n e a){c:qf}(j:valid (qc a) c){l:List Operand}(b:known e c l=Ta):∀x∈l,a.eval x=i0 e c x:=by
 induction l with
 |nil=>simp
 |cons y l k=>intro x i;simp only[known]at b;split at b;rename_i v f;rcases Tz.1 i with rfl|i;rw[qg h j f];simp[i0,f];grind;cases b
def Yr:Op->Bool
 |.select _ _=>Tc
 |_=>Ta
theorem tF{e:bK}(h:Sat n e a){c:qf}(k:valid (qc a) c)(f:Yr o.op=Ta)(i:known e c o.op.operands.toList=Ta):
  execOp a.eval o=execOp (i0 e c) o:=
 execOp_congr o (λcs b j=>by rw[j]at f;cases f) λx l=>Yq h k i x (by simpa using l)
def jl(ops:Array Oper)(j:Nat):Option Nat:=match ops[j]? with
 |some o=>o.dst
 |none=>Te
def wh(ops:Array Oper)(e:bK):Option (Nat×Bool)->Option qf
 |none=>Td []
 |some (j,p)=>match jl ops j with
  |some g=>match look e g with
   |some (cg,.bool _)=>Td ((g,p)::cg)
   |_=>Te
  |none=>Te
def qs(e:bK):qf->Option Bool
 |[]=>Td Ta
 |(g,p)::c=>match look e g with
  |some (cg,.bool b)=>bif w9 cg c then(match qs e c with
    |some cb=>Td (cb&&(bif p then b else !b))
    |none=>Te)else Te
  |_=>Te
theorem AZ{b:Bool}:undef≠.bool b:=by simp[undef]
theorem xN{n:Nat}{e:bK}{a:Act}(h:Sat n e a):∀{c:qf} {b:Bool},qs e c=Td b->(b=Ta↔valid (qc a) c)
 |[],b,hb=>by simp only[qs,Tn]at hb;simp[<-hb,valid]
 |(g,p)::c,b,hb=>by
  simp only[qs]at hb;split at hb;rename_i r l m;by_cases k:w9 r c=Ta;simp only[k,zK]at hb;split at hb;rename_i cb i;simp only[Tn]at hb;have q:=xN h i;have j:=h.all _ (W0 m);rw[Q1 k]at j;by_cases f:valid (qc a) c;have h1:qc a g=.bool l:=j.1 f;have o:=q.2 f;subst hb;simp only[valid,h1,f,o,UQ,and_true,Value.bool.injEq];grind;have h1:cb=Tc:=by cases cb with|false=>rfl|true=>simp_all
  subst hb;simp[valid,f,h1];cases hb;grind;cases hb
theorem xr{ops:Array Oper}{e:bK}(h:Sat n e a){c:qf}(f:wh ops e o.guard=Td c):
  Ue o (yielded ops a.tmps)=Ta↔valid (qc a) c:=by
 unfold Ue;cases hg:o.guard with
 |none=>rw[hg]at f;simp only[wh,Tn]at f;simp[<-f,valid]
 |some t=>
  obtain⟨j,p⟩:=t;rw[hg]at f;simp only[wh]at f;split at f;rename_i g i;split at f;rename_i u b q;simp only[Tn]at f;subst f;have k:((ops[j]?).bind (·.dst))=Td g:=by simp only[jl]at i;split at i;simp_all;cases i
  have m:=h.all _ (W0 q);have r:yielded ops a.tmps j=Td p↔qc a g=.bool p:=by
   unfold yielded qc;rw[k];simp only[U0];cases ht:a.tmps[g]? with
   |none=>simp[Uv,ht,undef]
   |some v=>cases v <;> simp[Uv,ht]
  simp only[beq_iff_eq,r,valid];constructor;intro h1;refine⟨h1,?_⟩;by_cases l:valid (qc a) u;exact l;have:=m.2 l;simp only at this;rw[h1]at this;exact absurd this.symm AZ;simp_all;cases f;cases f
structure Keep (n:Nat) (h h':za):Prop where
 size:h.size<=h'.size
 get:∀i,i<n->h'[i]?=h[i]?
theorem Keep.refl(n:Nat)(h:za):Keep n h h:=⟨Tm _,λ_ _=>rfl⟩
theorem Keep.trans{a b c:za}(h:Keep n a b)(k:Keep m b c)(e:n<=m):Keep n a c:= ⟨Ux h.size k.size,λi hi=>(k.get i (U5 hi e)).trans (h.get i hi)⟩
theorem Keep.mono{a b:za}(h:Keep n a b)(c:m<=n):Keep m a b:=⟨h.size,λi hi=>h.get i (U5 hi c)⟩
theorem Keep.push(h:za)(o:Obj)(b:n<=h.size):Keep n h (h.push o):= ⟨by simp,λi hi=>by grind⟩
end
section
variable {P:Program} {α:Type} {h:za} {v i:Value} {t:TypeId} {g:Option Bool} {n l r:Int}
def zb(h:za)(a:Addr):Option Value:=
 match h[a.block]? with
 |some (.cells c _ _)=>if a.spot.isSome then Te else c[a.off]?
 |_=>Te
theorem uO(B:World)(d:Nat)(h:za)(a:Addr):(mk B d h).cell? a=zb h a:=rfl
def Qi(P:Program){α:Type}:Sem α->Option α
 |.pure a=>Td a
 |.program k=>Qi P (k P)
 |.mark _ k=>Qi P k
 |_=>Te
def QExec(P:Program){α:Type}(s:Sem α)(h:za)(x:α):Prop:=∀B d,s.run P (mk B d h)=.ok x (mk B d h)
theorem DN{s:Sem α}{x:α}(h:Qi P s=Td x)(w:World):s.run P w=.ok x w:=by
 induction s with
 |pure a=>simp only[Qi,Tn]at h;subst h;rfl
 |program k b=>exact b P h
 |mark m k b=>exact b h
 |_=>simp[Qi]at h
theorem Lz{s:Sem α}{x:α}(h:Qi P s=Td x)(b:za):QExec P s b x:=λ_ _=>DN h _
theorem QExec.bind{α β:Type}{s:Sem α}{f:α->Sem β}{x:α}{y:β}(h1:QExec P s h x)(b:QExec P (f x) h y):QExec P (s >>= f) h y:=by intro B d;rw[Sem.run_bind,h1 B d];exact b B d
theorem QExec.pure(x:α):QExec P (VD x) h x:=λ_ _=>rfl
theorem QExec.val{s:Sem Value}(h1:QExec P s h v):QExec P (s >>= λx=>VD (VF x)) h (VF v):=h1.bind (QExec.pure _)
theorem QExec.underlying{d:TypeDesc}(b:P.underlying t=Td d):QExec P (Go.underlying t) h d:=by intro B e;simp[Go.underlying,program,b,Sem.run]
def y8(P:Program)(t:TypeId):Nat:=match P.info? t with
 |some i=>i.size
 |none=>0
theorem QExec.sizeOf{i:TypeInfo}(hi:P.info? t=Td i):QExec P (Go.sizeOf t) h (y8 P t):=by intro B d;simp[Go.sizeOf,typeInfo,program,hi,Sem.run,y8]
theorem info_of_underlying{d:TypeDesc}(b:P.underlying t=Td d):∃i,P.info? t=Td i:=by unfold Program.underlying at b;grind
inductive Atom where
 |int (k:IntKind)|bool|str|sl|mp|ptr|raw|ad
structure Sl where
 a:Option Addr
 len:Nat
 cap:Nat
@[reducible] def Atom.den:Atom->Type
 |.int _=>Int | .bool=>Bool | .str=>Bt | .sl=>Sl | .mp=>Option Nat | .ptr=>Option Addr | .raw=>Value | .ad=>Addr
def Atom.enc:(t:Atom)->t.den->Value
 |.int k,n=>.int k n
 |.bool,b=>.bool b
 |.str,s=>.string s
 |.sl,s=>.slice s.a s.len s.cap
 |.mp,m=>.map m
 |.ptr,p=>.pointer p
 |.raw,v=>v
 |.ad,p=>.pointer (Td p)
def Atom.dec:(t:Atom)->Value->Option t.den
 |.int k,.int k' n=>if k=k' then Td n else Te
 |.bool,.bool b=>Td b
 |.str,.string s=>Td s
 |.sl,.slice a l c=>Td ⟨a,l,c⟩
 |.mp,.map m=>Td m
 |.ptr,.pointer p=>Td p
 |.raw,v=>Td v
 |.ad,.pointer (Td p)=>Td p
 |_,_=>Te
theorem Atom.enc_of_dec{t:Atom}{x:t.den}(h:t.dec v=Td x):t.enc x=v:=by
 cases t with
 |ad=>
  cases v with
  |pointer p=>
   cases p with
   |none=>simp[Atom.dec]at h
   |some a=>simp[Atom.dec]at h;rw[h];rfl
  |_=>simp[Atom.dec]at h
 |_=>cases v <;> simp_all[Atom.dec,Atom.enc] <;> (grind)
inductive VT where
 |one (t:Atom)
 |agg (l:List Atom)
inductive RT where
 |one (v:VT)
 |tup (l:List VT)
def rW:List Atom->(List Value->Prop)->Prop
 |[],F=>F []
 |t::l,F=>∃x:t.den,rW l λvs=>F (t.enc x::vs)
def yI:VT->(Value->Prop)->Prop
 |.one t,F=>∃x:t.den,F (t.enc x)
 |.agg l,F=>rW l λvs=>F (.agg vs.toArray)
def uQ:List VT->(List Value->Prop)->Prop
 |[],F=>F []
 |t::l,F=>yI t λv=>uQ l λvs=>F (v::vs)
def mI:RT->(Value->Prop)->Prop
 |.one v,F=>yI v F
 |.tup l,F=>uQ l λvs=>F (.tuple vs.toArray)
def po:List Atom->(List Value->Prop)->Prop
 |[],F=>F []
 |t::l,F=>∀x:t.den,po l λvs=>F (t.enc x::vs)
def pQ:VT->(Value->Prop)->Prop
 |.one t,F=>∀x:t.den,F (t.enc x)
 |.agg l,F=>po l λvs=>F (.agg vs.toArray)
def oK:List VT->(List Value->Prop)->Prop
 |[],F=>F []
 |t::l,F=>pQ t λv=>oK l λvs=>F (v::vs)
def FV:RT->(Value->Prop)->Prop
 |.one v,F=>pQ v F
 |.tup l,F=>oK l λvs=>F (.tuple vs.toArray)
theorem Q3:∀{l:List Atom} {F G:List Value->Prop},rW l F->po l G->∃vs,vs.length=l.length/\F vs/\G vs
 |[],_,_,h,g=>⟨[],rfl,h,g⟩
 |_::_,_,_,⟨x,h⟩,g=>let ⟨vs,h0,h1,h2⟩:=Q3 h (g x);⟨_,by simp[h0],h1,h2⟩
theorem jm:∀(l:List Atom),po l λ_=>True
 |[]=>trivial
 |_::l=>λ_=>jm l
theorem wW{v:VT}{F G:Value->Prop}(h:yI v F)(g:pQ v G):∃u,F u/\G u:=by
 cases v with
 |one t=>obtain⟨x,h⟩:=h;exact⟨_,h,g x⟩
 |agg l=>obtain⟨vs,_,h1,b⟩:=Q3 h g;grind
theorem LK(v:VT):pQ v λ_=>True:=by
 cases v with
 |one t=>exact λ_=>trivial
 |agg l=>exact jm l
theorem zR:∀{l:List VT} {F G:List Value->Prop},uQ l F->oK l G->∃vs,F vs/\G vs
 |[],_,_,h,g=>⟨[],h,g⟩
 |_::_,_,_,h,g=>let ⟨_,h1,h2⟩:=wW h g;let ⟨_,h3,h4⟩:=zR h1 h2;⟨_,h3,h4⟩
theorem BM:∀(l:List VT),oK l λ_=>True
 |[]=>trivial
 |v::l=>by
  have h:=BM l;simp only[oK];cases v with
  |one t=>exact λ_=>h
  |agg b=>
   simp only[pQ];have key:∀(b:List Atom) (f:List Value->List Value),po b λ_=>oK l λ_=>True:=λb _=>by
    induction b with
    |nil=>exact h
    |cons t b c=>exact λ_=>c
   exact key b id
theorem BL{r:RT}{F G:Value->Prop}(h:mI r F)(g:FV r G):∃v,F v/\G v:=by
 cases r with
 |one v=>exact wW h g
 |tup l=>obtain⟨vs,h1,b⟩:=zR h g;grind
theorem rS{r:RT}{F:Value->Prop}(h:mI r F):∃v,F v:=by
 cases r with
 |one v=>obtain⟨u,h1,_⟩:=wW h (LK v);grind
 |tup l=>obtain⟨vs,h1,_⟩:=zR h (BM l);grind
def F3:TypeDesc->Atom
 |.int k=>.int k
 |.bool=>.bool
 |.string=>.str
 |.slice _=>.sl
 |.map _ _=>.mp
 |.pointer _=>.ptr
 |_=>.raw
def sN(P:Program):Nat->TypeId->Option (List Atom)
 |0,_=>Te
 |n+1,t=>match P.underlying t with
  |some (.struct fs)=>fs.toList.foldr (λf l=>match sN P n f.type,l with
    |some x,some y=>Td (x++y)
    |_,_=>Te) (Td [])
  |some (.array m e)=>match sN P n e with
    |some x=>Td (UL m x).flatten
    |none=>Te
  |some d=>Td [F3 d]
  |none=>Te
def kc(P:Program)(t:TypeId):Option VT:=match P.underlying t with
 |some (.struct _)|some (.array _ _)=>match sN P 8 t with
  |some l=>bif Nat.beq l.length (y8 P t)then Td (.agg l)else Te
  |none=>Te
 |some d=>Td (.one (F3 d))
 |none=>Te
def Cv(P:Program):List TypeId->Option (List VT)
 |[]=>Td []
 |t::l=>match kc P t,Cv P l with
  |some x,some y=>Td (x::y)
  |_,_=>Te
def qL(P:Program)(t:TypeId):Option RT:=match P.underlying t with
 |some (.tuple ts)=>match Cv P ts.toList with
  |some l=>Td (.tup l)
  |none=>Te
 |_=>match kc P t with
  |some v=>Td (.one v)
  |none=>Te
def req:Option Bool->Prop->Prop
 |none,p=>p
 |some b,p=>b=Ta->p
def fK:Option Bool->Prop
 |none=>True
 |some b=>b=Ta
theorem req.out{p:Prop}(h:req g p)(c:fK g):p:=by
 cases g with
 |none=>exact h
 |some b=>exact h c
def zc(h:za)(p:Addr):Nat->List Value->Prop
 |_,[]=>True
 |i,v::vs=>zb h (p.add i)=Td v/\zc h p (i+1) vs
def mG(P:Program)(h:za)(t:TypeId)(p:Value)(g:Option Bool)(K:Value->Prop):Prop:=
 match p,kc P t with
 |.pointer (Td p),Td (.one a)=>∃x:a.den,req g (zb h p=Td (a.enc x))/\K (a.enc x)
 |.pointer (Td p),Td (.agg l)=>rW l λvs=>req g (zc h p 0 vs)/\K (.agg vs.toArray)
 |_,_=>False
theorem J0{P:Program}{h:za}{p:Addr}:∀(vs:List Value) (i:Nat) (b:Array Value),zc h p i vs->QExec P (loadCellsFrom p i vs.length b) h (b++vs.toArray)
 |[],i,b,_=>by intro B d;simp[loadCellsFrom]
 |v::vs,i,b,⟨h1,h2⟩=>by have c:=J0 (P:=P) vs (i+1) (b.push v) h2;intro B d;simp only[TI,loadCellsFrom,Sem.run_bind,run_load];rw[uO,h1];simp only[Result.andThen_ok];rw[c B d];simp
theorem pp{a:Atom}{p:Addr}(c:kc P t=Td (.one a))(i:zb h p=Td v):QExec P (loadVar t p) h v:=by
 unfold kc at c;cases hu:P.underlying t with
 |none=>simp_all
 |some d=>
  rw[hu]at c;intro B e;have f:=QExec.underlying (h:=h) hu B e;have b:(isAgg t).run P (mk B e h)=.ok Tc (mk B e h):=by unfold isAgg;rw[Sem.run_bind,f];cases d <;> first|rfl|grind
  unfold loadVar;rw[Sem.run_bind,b];simp only[Result.andThen_ok,Uz,if_false,run_load];rw[uO,i]
theorem pT{l:List Atom}{p:Addr}{vs:List Value}(c:kc P t=Td (.agg l))(u:vs.length=l.length)(q:zc h p 0 vs):QExec P (loadVar t p) h (.agg vs.toArray):=by
 unfold kc at c;cases hu:P.underlying t with
 |none=>simp_all
 |some d=>
  rw[hu]at c;obtain⟨i,hi⟩:=info_of_underlying hu;have b:(∃f,d=.struct f)\/(∃n e,d=.array n e):=by cases d <;> first|exact Or.inl ⟨_,rfl⟩|exact Or.inr ⟨_,_,rfl⟩|(simp at c)
  have r:y8 P t=l.length:=by
   have j:(match sN P 8 t with
     |some l=>bif Nat.beq l.length (y8 P t)then Td (VT.agg l)else Te
     |none=>Te)=Td (.agg l):=by
    rcases b with⟨f,rfl⟩|⟨n,e,rfl⟩ <;> exact c
   split at j;rename_i o _;cases hb:Nat.beq o.length (y8 P t)with
   |false=>simp_all
   |true=>simp_all
   cases j
  intro B e;have k:=QExec.underlying (h:=h) hu B e;have hA:(isAgg t).run P (mk B e h)=.ok Ta (mk B e h):=by unfold isAgg;rw[Sem.run_bind,k];rcases b with⟨f,rfl⟩|⟨n,w,rfl⟩ <;> rfl
  have m:=QExec.sizeOf (h:=h) hi B e;unfold loadVar;rw[Sem.run_bind,hA];simp only[Result.andThen_ok,if_true];rw[Sem.run_bind,m];simp only[Result.andThen_ok];have hL:=J0 (P:=P) vs 0 #[] q B e;unfold loadCells;simp_all
theorem Ct{p:Value}{K:Value->Prop}(H:mG P h t p g K):
  ∃v,K v/\(fK g->QExec P (Vy t p) h v):=by
 unfold mG at H;split at H;rename_i q a b;obtain⟨x,h1,c⟩:=H;exact⟨_,c,λe=>pp b (h1.out e)⟩;rename_i q l b;obtain⟨vs,h0,⟨h1,c⟩,_⟩:=Q3 H (jm l);exact⟨_,c,λe=>pT b h0 (h1.out e)⟩;exact H.elim
def qW(P:Program)(t:TypeId)(x i:Value)(g:Option Bool)(K:Value->Prop):Prop:=
 match P.underlying t with
 |some (.slice el)=>match x,i with
  |.slice base len _,.int _ n=>∃a:Addr,req g (base=Td a/\0<=n/\n<(len:Int))/\K (.pointer (Td (a.add (n.toNat*y8 P el))))
  |_,_=>False
 |some (.array len el)=>match x,i with
  |.pointer base,.int _ n=>∃a:Addr,req g (base=Td a/\0<=n/\n<(len:Int))/\K (.pointer (Td (a.add (n.toNat*y8 P el))))
  |_,_=>False
 |_=>False
def qm(P:Program)(t:TypeId):Bool:=match P.info? t with
 |some _=>Ta
 |none=>Tc
theorem y9(h:qm P t=Ta):∃i,P.info? t=Td i:=by unfold qm at h;grind
theorem jv(t:TypeId)(B:World)(d:Nat):(∃i,P.info? t=Td i)->(Go.sizeOf t).run P (mk B d h)=.ok (y8 P t) (mk B d h):=λ⟨_,hi⟩=>QExec.sizeOf hi B d
theorem xt{x i:Value}{K:Value->Prop} (c:∀el,(P.underlying t=Td (.slice el)\/∃n,P.underlying t=Td (.array n el))->∃i,P.info? el=Td i) (H:qW P t x i g K):
  ∃v,K v/\(fK g->∀h:za,QExec P (V2 t x i) h v):=by
 unfold qW at H;split at H;rename_i el b;split at H;rename_i base len cap k n;obtain⟨a,h1,e⟩:=H;refine⟨_,e,λl=>?_⟩;obtain⟨rfl,f,o⟩:=h1.out l;intro h B d;have m:=QExec.underlying (h:=h) b B d;have j:=jv (h:=h) el B d (c el (Or.inl b));unfold V2;simp[asIntOf,Sem.run_bind,m,j,f,o];exact H.elim;rename_i len el b;split at H;rename_i base k n;obtain⟨a,h1,e⟩:=H;refine⟨_,e,λl=>?_⟩;obtain⟨rfl,f,o⟩:=h1.out l;intro h B d;have m:=QExec.underlying (h:=h) b B d;have j:=jv (h:=h) el B d (c el (Or.inr ⟨_,b⟩));unfold V2;simp[asIntOf,Sem.run_bind,m,j,f,o,VG];exact H.elim;exact H.elim
def yu(s:Bt)(i:Nat):Int:=((s.data[i]?.getD 0).toNat:Int)
def yC(x i:Value)(g:Option Bool)(K:Value->Prop):Prop:=
 match x,i with
 |.string s,.int _ n=>req g (0<=n/\n<(s.size:Int))/\K (.int .u8 (yu s n.toNat))
 |_,_=>False
theorem Rl(s:Bt)(i:Nat)(h:i<s.size):s[i]?=Td (s.data[i]?.getD 0):=by have h':i<s.data.size:=h;rw[getElem?_pos s i h];simp[UA h'];rfl
theorem J1{x i:Value}{K:Value->Prop}(c:P.underlying t=Td .string)(H:yC x i g K):
  ∃v,K v/\(fK g->∀h:za,QExec P (Instr.index t x i) h v):=by
 unfold yC at H;split at H;rename_i s k n;obtain⟨h1,b⟩:=H;refine⟨_,b,λj=>?_⟩;obtain⟨e,m⟩:=h1.out j;intro h B d;have l:=QExec.underlying (h:=h) c B d;unfold Instr.index;have f:=Rl s n.toNat (by omega);simp only[asIntOf,Sem.run_bind,l,Sem.run_pure,Result.andThen_ok,e,if_true,f,yu];exact H.elim
def io(a:Option Addr)(sz l m:Nat):Option Addr:=if m=l then a else a.map (·.add (l*sz))
def q9:Option Value->Int->Option Int
 |none,d=>Td d
 |some (.int _ n),_=>Td n
 |some _,_=>Te
def tu(P:Program)(t:TypeId)(x:Value)(lo hi mx:Option Value)(g:Option Bool)(K:Value->Prop):Prop:=
 match P.underlying t with
 |some .string=>match x,mx with
  |.string s,none=>match q9 lo 0,q9 hi (s.size:Int)with
   |some l,some r=>req g (0<=l/\l<=r/\r<=(s.size:Int))/\K (.string (s.extract l.toNat r.toNat))
   |_,_=>False
  |_,_=>False
 |some (.slice el)=>match x with
  |.slice a len cap=>match q9 lo 0,q9 hi (len:Int),q9 mx (cap:Int)with
   |some l,Td r,some m=>(mx=Te\/∃v,hi=Td v)/\req g (0<=l/\l<=r/\r<=m/\m<=(cap:Int))/\K (.slice (io a (y8 P el) l.toNat m.toNat) (r.toNat-l.toNat) (m.toNat-l.toNat))
   |_,_,_=>False
  |_=>False
 |some (.array n el)=>match x,mx with
  |.pointer (Td a),none=>match q9 lo 0,q9 hi (n:Int)with
   |some l,some r=>req g (0<=l/\l<=r/\r<=(n:Int))/\K (.slice (io (Td a) (y8 P el) l.toNat n) (r.toNat-l.toNat) (n-l.toNat))
   |_,_=>False
  |_,_=>False
 |_=>False
theorem yj{v:Option Value}{d n:Int}(h:q9 v d=Td n):(v=Te/\n=d)\/∃k,v=Td (.int k n):=by unfold q9 at h;grind
theorem yd{k:IntKind}{y:Nat}{c:BoundsCode}(h0:0<=n)(h1:n<=(y:Int)):QExec P (Instr.sliceBound (.int k n) y c) h n.toNat:=by intro B d;simp[Instr.sliceBound,asIntOf,h0,h1]
theorem FY{n:Nat}{lo hi:Option Value}(f:q9 lo 0=Td l)(j:q9 hi (n:Int)=Td r)(c:0<=l)(i:l<=r)(b:r<=(n:Int)):
  QExec P (Instr.sliceBounds Tc n n lo hi Te) h (l.toNat,r.toNat,n):=by
 have e:(r.toNat:Int)=r:=Int.toNat_of_nonneg (by omega);rcases yj f with⟨rfl,rfl⟩|⟨k,rfl⟩ <;> rcases yj j with⟨rfl,rfl⟩|⟨k',rfl⟩;exact QExec.pure _;exact QExec.bind (QExec.pure n) (QExec.bind (yd (by omega) b) (QExec.pure _));exact QExec.bind (QExec.pure n) (QExec.bind (QExec.pure n) (QExec.bind (yd c i) (QExec.pure _)));exact QExec.bind (QExec.pure n) (QExec.bind (yd (by omega) b) (QExec.bind (yd c (by omega)) (QExec.pure _)))
theorem IR{len cap:Nat}{lo hi mx:Option Value}{l r m:Int}(f:q9 lo 0=Td l)(i:q9 hi (len:Int)=Td r)(o:q9 mx (cap:Int)=Td m) (h0:mx=Te\/∃v,hi=Td v) (b:0<=l) (p:l<=r) (n:r<=m) (j:m<=(cap:Int)):
  QExec P (Instr.sliceBounds Ta len cap lo hi mx) h (l.toNat,r.toNat,m.toNat):=by
 have e:(r.toNat:Int)=r:=Int.toNat_of_nonneg (by omega);have u:(m.toNat:Int)=m:=Int.toNat_of_nonneg (by omega);rcases yj o with⟨rfl,rfl⟩|⟨t,rfl⟩;rcases yj f with⟨rfl,rfl⟩|⟨k,rfl⟩ <;> rcases yj i with⟨rfl,rfl⟩|⟨q,rfl⟩;exact QExec.pure _;exact QExec.bind (QExec.pure cap) (QExec.bind (yd (by omega) n) (QExec.pure _));exact QExec.bind (QExec.pure cap) (QExec.bind (QExec.pure len) (QExec.bind (yd b p) (QExec.pure _)));exact QExec.bind (QExec.pure cap) (QExec.bind (yd (by omega) n) (QExec.bind (yd b (by omega)) (QExec.pure _)));rcases h0 with h0|⟨v,rfl⟩;cases h0;rcases yj i with⟨c,_⟩|⟨q,c⟩;cases c;cases c;rcases yj f with⟨rfl,rfl⟩|⟨k,rfl⟩;exact QExec.bind (x:=m.toNat) (yd (by omega) j) (QExec.bind (yd (by omega) (by omega)) (QExec.pure _));exact QExec.bind (x:=m.toNat) (yd (by omega) j) (QExec.bind (yd (by omega) (by omega)) (QExec.bind (yd b (by omega)) (QExec.pure _)))
theorem Qj{x:Value}{lo hi mx:Option Value}{K:Value->Prop} (p:∀el,(P.underlying t=Td (.slice el)\/∃n,P.underlying t=Td (.array n el))->∃i,P.info? el=Td i) (H:tu P t x lo hi mx g K):
  ∃v,K v/\(fK g->∀h:za,QExec P (VQ t x lo hi mx) h v):=by
 unfold tu at H;split at H;rename_i b;split at H;rename_i s;split at H;rename_i l r e j;obtain⟨h1,f⟩:=H;refine⟨_,f,λo=>?_⟩;obtain⟨k,q,u⟩:=h1.out o;intro h B d;have c:=QExec.underlying (h:=h) b B d;have bb:=FY (P:=P) (h:=h) e j k q u B d;unfold VQ;rw[Sem.run_bind,c];simp only[Result.andThen_ok];unfold Instr.slice;simp_all;exact H.elim;exact H.elim;rename_i el b;split at H;rename_i a len cap;split at H;rename_i l r m e j y;obtain⟨h0,h1,f⟩:=H;refine⟨_,f,λo=>?_⟩;obtain⟨k,q,u,z⟩:=h1.out o;intro h B d;have c:=QExec.underlying (h:=h) b B d;have w:=jv (h:=h) el B d (p el (.inl b));have bb:=IR (P:=P) (h:=h) e j y h0 k q u z B d;unfold VQ;rw[Sem.run_bind,c];simp only[Result.andThen_ok];unfold Instr.slice;rw[Sem.run_bind,c];simp[bb,w,io];exact H.elim;exact H.elim;rename_i n el b;split at H;rename_i a;split at H;rename_i l r e j;obtain⟨h1,f⟩:=H;refine⟨_,f,λo=>?_⟩;obtain⟨k,q,u⟩:=h1.out o;intro h B d;have c:=QExec.underlying (h:=h) b B d;have w:=jv (h:=h) el B d (p el (.inr ⟨n,b⟩));have bb:=FY (P:=P) (h:=h) e j k q u B d;unfold VQ;rw[Sem.run_bind,c];simp only[Result.andThen_ok,VG,Sem.run_bind,Sem.run_pure,bb,w];unfold io;split <;> rfl;exact H.elim;exact H.elim;exact H.elim
end
section
variable {P:Program} {f:FuncId} {h:za} {K:Value -> za -> Prop} {t ty t':TypeId} {g:Option Bool} {w w':World} {v:Value} {o:Oper} {ρ:Operand -> Value} {a:Act}
def XC(P:Program)(f:FuncId)(args:Array Value)(h:za)(R:Value->za->Prop):Prop:=
 ∀B d,Calls P f args (mk B d h) λe w'=>∃v b h',e=.returned v/\w'=mk B b h'/\R v h'
theorem XC.mono{args:Array Value}{R b:Value->za->Prop}(H:XC P f args h R)(e:∀v h',R v h'->b v h'):XC P f args h b:= λB d=>(H B d).mono λ_ _ ⟨v,i,h',c,j,r⟩=>⟨v,i,h',c,j,e _ _ r⟩
def XRun(P:Program)(s:Sem Value)(h:za)(K:Value->za->Prop):Prop:=∀B d,∃v b h',s.run P (mk B d h)=.ok v (mk B b h')/\K v h'
def XRunU(P:Program)(s:Sem Unit)(h:za)(K:za->Prop):Prop:=∀B d,∃b h',s.run P (mk B d h)=.ok () (mk B b h')/\K h'
theorem XRun.mono{s:Sem Value}{K b:Value->za->Prop}(H:XRun P s h K)(c:∀v h',K v h'->b v h'):XRun P s h b:= λB d=>let ⟨v,d',h',e,k⟩:=H B d;⟨v,d',h',e,c _ _ k⟩
theorem XRunU.mono{s:Sem Unit}{K b:za->Prop}(H:XRunU P s h K)(c:∀h',K h'->b h'):XRunU P s h b:= λB d=>let ⟨d',h',e,k⟩:=H B d;⟨d',h',e,c _ k⟩
def yz(n:Nat):Prop:=n<=9223372036854775807
def jY(P:Program)(s:Sem Next)(K:Value->Prop):Prop:=match Qi P s with
 |some (.value v)=>K v
 |_=>False
def tU(P:Program)(ty:TypeId)(s:Sem Value)(g:Option Bool)(h:za)(K:Value->Prop):Prop:=match qL P ty with
 |some b=>mI b λv=>req g (QExec P s h v)/\K v
 |none=>False
def oh(P:Program)(t:TypeId):Bool:=match P.underlying t with
 |some (.slice _)=>Ta
 |_=>Tc
def og(P:Program)(t:TypeId):Bool:=match P.underlying t with
 |some (.pointer e)=>Nat.beq e (P.pointee t)
 |_=>Tc
theorem Cr(h:og P t=Ta):P.underlying t=Td (.pointer (P.pointee t)):=by unfold og at h;grind [TL]
def sJ(P:Program)(t:TypeId)(s:Sem Next)(c:BinOp)(x y:Value)(g:Option Bool)(K:Value->Prop):Prop:=
 match c,x,y with
 |.eql,.slice a _ _,.slice Te 0 0=>bif oh P t then K (.bool a.isNone)else jY P s K
 |.neq,.slice a _ _,.slice Te 0 0=>bif oh P t then K (.bool (!a.isNone))else jY P s K
 |.eql,.pointer a,.pointer none=>bif og P t then K (.bool a.isNone)else jY P s K
 |.neq,.pointer a,.pointer none=>bif og P t then K (.bool (!a.isNone))else jY P s K
 |.quo,.int k a,.int k' b=>k=k'/\req g (b≠0)/\K (.int k (k.wrap (a.tdiv b)))
 |.rem,.int k a,.int k' b=>k=k'/\req g (b≠0)/\K (.int k (a.tmod b))
 |.add,.string a,.string b=>req g (yz (a.size+b.size))/\K (.string (a++b))
 |_,_,_=>jY P s K
def yV(b:BinOp)(y:Operand):Bool:=match y with
 |.const _=>Tc
 |_=>match b with
  |.shl | .shr=>Ta
  |_=>Tc
def sW(c:BinOp)(x y:Value)(g:Option Bool)(K:Value->Prop):Prop:=
 match x,y with
 |.int k a,.int _ b=>match c with
  |.shl=>req g (0<=b)/\K (.int k (k.wrap (a*2 ^ (min b.toNat k.bits))))
  |.shr=>req g (0<=b)/\K (.int k (a.fdiv (2 ^ (min b.toNat k.bits))))
  |_=>False
 |_,_=>False
def oO(P:Program)(t:TypeId)(y:Operand):Bool:=match y with
 |.const .nilIface=>match P.underlying t with
  |some (.interface _)=>Ta
  |_=>Tc
 |_=>Tc
def m7:Value->Bool
 |.nilIface=>Ta
 |.iface _ _=>Ta
 |_=>Tc
def nZ:Value->Bool
 |.nilIface=>Ta
 |_=>Tc
def rX(b:BinOp)(x y:Value)(g:Option Bool)(K:Value->Prop):Prop:=match y with
 |.nilIface=>match b with
  |.eql=>req g (m7 x=Ta)/\K (.bool (nZ x))
  |.neq=>req g (m7 x=Ta)/\K (.bool (!nZ x))
  |_=>False
 |_=>False
def E0(b:Builtin)(c:Array TypeId)(e:TypeId)(args:Array Value):Option (Sem Value):=
 match b with
 |.append=>Td (TB c e args)
 |.copy=>Td (Builtin.copy_ c e args)
 |.clear=>Td (Builtin.clear_ c e args)
 |.delete=>Td (Builtin.delete_ c e args)
 |.len=>Td (Vh c e args)
 |_=>Te
def wD(P:Program)(s:Sem Next)(ty:TypeId)(b:Array TypeId)(args:Array Value)(g:Option Bool)(h:za)(K:Value->Prop):Prop:=
 match (args[0]?:Option Value)with
 |some (Value.map _)=>tU P ty (Vh b ty args) g h K
 |_=>jY P s K
def X1(P:Program)(t:TypeId):Bool:=match P.underlying t with
 |some (.slice el)=>qm P el
 |some (.array _ el)=>qm P el
 |_=>Ta
theorem xa(h:X1 P t=Ta):∀el,(P.underlying t=Td (.slice el)\/∃n,P.underlying t=Td (.array n el))->∃i,P.info? el=Td i:=by intro el b;unfold X1 at h;grind [y9]
def p6(P:Program)(t:TypeId):Bool:=match P.underlying t with
 |some .string=>Ta
 |_=>Tc
theorem Db(h:p6 P t=Ta):P.underlying t=Td .string:=by unfold p6 at h;grind
def sC(P:Program)(s:Sem Next)(x:Value)(g:Option Bool)(K:Value->Prop):Prop:=match x with
 |.pointer p=>∃a:Addr,req g (p=Td a)/\K (.pointer (Td a))
 |_=>jY P s K
def J3(P:Program)(o:Oper)(ρ:Operand->Value)(g:Option Bool)(h:za)(K:Value->Prop):Prop:=
 match o.op with
 |.load t a=>mG P h t (ρ a) g K
 |.indexAddr t x i=>bif X1 P t then qW P t (ρ x) (ρ i) g K else False
 |.index t x i=>bif p6 P t then yC (ρ x) (ρ i) g K else jY P (execOp ρ o) K
 |.slice t x lo hi mx=>bif X1 P t then tu P t (ρ x) (lo.map ρ) (hi.map ρ) (mx.map ρ) g K else False
 |.binOp b t x y _=>bif yV b y then sW b (ρ x) (ρ y) g K else bif oO P t y then rX b (ρ x) (ρ y) g K else sJ P t (execOp ρ o) b (ρ x) (ρ y) g K
 |.lookup t m k ok=>tU P o.type (UV t (ρ m) (ρ k) ok) g h K
 |.nilCheck x=>sC P (execOp ρ o) (ρ x) g K
 |.call c=>match c.callee with
  |.builtin .len=>wD P (execOp ρ o) o.type c.argTypes (c.args.map ρ) g h K
  |_=>jY P (execOp ρ o) K
 |_=>jY P (execOp ρ o) K
theorem zw{s:Sem Next}{K:Value->Prop}(H:jY P s K)(g:Option Bool):∃v,K v/\(fK g->∀h:za,QExec P s h (.value v)):=by unfold jY at H;grind [Lz]
theorem AI{s:Sem Value}{K:Value->Prop}(H:tU P ty s g h K):∃v,K v/\(fK g->QExec P s h v):=by unfold tU at H;split at H;obtain⟨v,h1,c⟩:=rS H;exact⟨v,c,λb=>h1.out b⟩;exact H.elim
theorem wi{c:BinOp}(t:TypeId)(x y:Operand)(a b:Value)(h1:(c matches .eql | .neq)=Tc):eqGuard c t x y a b=pure ():=by unfold eqGuard;grind
theorem sU{s:Sem Value}(h:s.run P w=.ok v w'):(s >>= λx=>(VD (VF x):Sem Next)).run P w=.ok (.value v) w':=by simp_all
theorem oG{s:Sem Next}{K:Value->Prop}(h:za)(H:∃v,K v/\(fK g->∀h:za,QExec P s h (.value v))):∃v,K v/\(fK g->QExec P s h (.value v)):=
 let ⟨v,h1,h2⟩:=H;⟨v,h1,λb=>h2 b h⟩
theorem MZ{p:BinOp}{x y:Operand}(q:o.op=.binOp p t x y t'){K:Value->Prop}
  (H:sJ P t (execOp ρ o) p (ρ x) (ρ y) g K):∃v,K v/\(fK g->∀h:za,QExec P (execOp ρ o) h (.value v)):=by
 have f:∀(p:BinOp) (x y:Operand) (a b:Option Addr) (l c A z:Nat) (w:World),(eqGuard p t x y (.slice a l c) (.slice b A z)).run P w=.ok () w:=λp x y a b l c A z w=>by unfold eqGuard;simp
 have e:∀(p:BinOp) (x y:Operand) (a b:Option Addr) (w:World),(eqGuard p t x y (.pointer a) (.pointer b)).run P w=.ok () w:=λp x y a b w=>by unfold eqGuard;simp
 unfold sJ at H;split at H;rename_i a l c j i;cases hs:oh P t with
 |false=>rw[hs]at H;exact zw H g
 |true=>
  rw[hs,zK]at H;refine⟨_,H,λn h B d=>?_⟩;have m:∃el,P.underlying t=Td (.slice el):=by unfold oh at hs;split at hs;simp_all;cases hs
  obtain⟨el,m⟩:=m;simp only[execOp,q,j,i];refine sU ?_;rw[Sem.run_bind,f];simp only[Result.andThen_ok,binOp,Sem.run_bind,run_equal_slice_nil _ t _ _ _ _ m];rfl
 rename_i a l c j i;cases hs:oh P t with
 |false=>rw[hs]at H;exact zw H g
 |true=>
  rw[hs,zK]at H;refine⟨_,H,λn h B d=>?_⟩;have m:∃el,P.underlying t=Td (.slice el):=by unfold oh at hs;split at hs;simp_all;cases hs
  obtain⟨el,m⟩:=m;simp only[execOp,q,j,i];refine sU ?_;rw[Sem.run_bind,f];simp only[Result.andThen_ok,binOp,Sem.run_bind,run_equal_slice_nil _ t _ _ _ _ m];rfl
 rename_i a j i;cases hs:og P t with
 |false=>rw[hs]at H;exact zw H g
 |true=>rw[hs,zK]at H;refine⟨_,H,λn h B d=>?_⟩;have m:=Cr hs;simp only[execOp,q,j,i];refine sU ?_;rw[Sem.run_bind,e];simp only[Result.andThen_ok,binOp,Sem.run_bind,run_equal_pointer_nil _ t _ m];rfl
 rename_i a j i;cases hs:og P t with
 |false=>rw[hs]at H;exact zw H g
 |true=>rw[hs,zK]at H;refine⟨_,H,λn h B d=>?_⟩;have m:=Cr hs;simp only[execOp,q,j,i];refine sU ?_;rw[Sem.run_bind,e];simp only[Result.andThen_ok,binOp,Sem.run_bind,run_equal_pointer_nil _ t _ m];rfl
 rename_i k a D b j i;obtain⟨rfl,h1,r⟩:=H;refine⟨_,r,λn=>?_⟩;have u:=h1.out n;intro h B d;simp only[execOp,q,j,i];rw[wi _ _ _ _ _ rfl];simp[binOp,Op.intDiv,u];rename_i k a D b j i;obtain⟨rfl,h1,r⟩:=H;refine⟨_,r,λn=>?_⟩;have u:=h1.out n;intro h B d;simp only[execOp,q,j,i];rw[wi _ _ _ _ _ rfl];simp[binOp,Op.intDiv,u];rename_i a b j i;obtain⟨h1,r⟩:=H;refine⟨_,r,λn=>?_⟩;have u:=h1.out n;intro h B d;simp only[execOp,q,j,i];rw[wi _ _ _ _ _ rfl];have C:¬((a.size+b.size:Nat):Int)>IntKind.i64.max:=by
  unfold yz at u;have:IntKind.i64.max=9223372036854775807:=by decide
  omega
 simp only[binOp,Op.stringOp,zv C];rfl;exact zw H g
theorem S4{l:BinOp}{x y:Operand}(f:o.op=.binOp l t x y t'){K:Value->Prop}
  (H:sW l (ρ x) (ρ y) g K):∃v,K v/\(fK g->∀h:za,QExec P (execOp ρ o) h (.value v)):=by
 unfold sW at H;split at H;rename_i k a n b j i;split at H;obtain⟨h1,c⟩:=H;refine⟨_,c,λe h B d=>?_⟩;have m:=h1.out e;simp only[execOp,f,j,i];rw[wi _ _ _ _ _ rfl];simp only[binOp,Op.shift,zv (show¬b<0 by omega)];rfl;obtain⟨h1,c⟩:=H;refine⟨_,c,λe h B d=>?_⟩;have m:=h1.out e;simp only[execOp,f,j,i];rw[wi _ _ _ _ _ rfl];simp only[binOp,Op.shift,zv (show¬b<0 by omega)];rfl;exact H.elim;exact H.elim
theorem Rf{b:BinOp}{x y:Operand}(j:o.op=.binOp b t x y t'){K:Value->Prop}
  (i:oO P t y=Ta) (H:rX b (ρ x) (ρ y) g K):∃v,K v/\(fK g->∀h:za,QExec P (execOp ρ o) h (.value v)):=by
 have f:∃ms,P.underlying t=Td (.interface ms)/\y=.const .nilIface:=by unfold oO at i;split at i;grind;cases i
 obtain⟨ms,f,rfl⟩:=f;have key:∀{u:Value} (h:za),m7 u=Ta->QExec P (V5 t u .nilIface) h (nZ u):=by intro u h hi B d;have m:=QExec.underlying (h:=h) f B d;unfold V5 Op.maxDepth;cases u <;> first|(cases hi;done)|(unfold Op.equalIn;rw[Sem.run_bind,m];rfl)
 have l:∀b u (h:za),m7 u=Ta->QExec P (eqGuard b t x (.const .nilIface) u .nilIface) h ():=by intro b u h hi B d;unfold eqGuard;cases u <;> first|simp|simp
 have c:∀b u,m7 u=Ta->(binOp b t u .nilIface=match b with | .eql=>(do pure (.bool (<-V5 t u .nilIface))) | .neq=>(do pure (.bool (!(<-V5 t u .nilIface))))|_=>binOp b t u .nilIface):=by intro b u hi;cases u <;> first|(cases hi;done)|(cases b <;> rfl)
 unfold rX at H;split at H;rename_i k;split at H;refine⟨_,H.2,λe h=>?_⟩;have hi:=H.1.out e;simp only[execOp,j,k];refine QExec.val ((l _ _ h hi).bind ?_);rw[c _ _ hi];exact(key h hi).bind (QExec.pure _);refine⟨_,H.2,λe h=>?_⟩;have hi:=H.1.out e;simp only[execOp,j,k];refine QExec.val ((l _ _ h hi).bind ?_);rw[c _ _ hi];exact(key h hi).bind (QExec.pure _);exact H.elim;exact H.elim
theorem uN{b:BinOp}{x y:Operand}(c:o.op=.binOp b t x y t'){K:Value->Prop}
  (H:bif yV b y then sW b (ρ x) (ρ y) g K else bif oO P t y then rX b (ρ x) (ρ y) g K else sJ P t (execOp ρ o) b (ρ x) (ρ y) g K):∃v,K v/\(fK g->∀h:za,QExec P (execOp ρ o) h (.value v)):=by
 cases hb:yV b y with
 |true=>rw[hb]at H;exact S4 c H
 |false=>
  rw[hb]at H;cases hn:oO P t y with
  |true=>rw[hn]at H;exact Rf c hn H
  |false=>rw[hn]at H;exact MZ c H
theorem Sp{c:Call}(b:o.op=.call c)(i:c.callee=.builtin .len){K:Value->Prop}
  (H:wD P (execOp ρ o) o.type c.argTypes (c.args.map ρ) g h K):∃v,K v/\(fK g->QExec P (execOp ρ o) h (.value v)):=by
 unfold wD at H;split at H;obtain⟨v,h1,e⟩:=AI H;refine⟨v,h1,λf=>?_⟩;have:=e f;intro B d;simp only[execOp,b,resolve,i,Sem.run_bind,Sem.run_pure,Result.andThen_ok,invoke,builtin];rw[this B d];rfl;exact oG h (zw H g)
theorem u6{K:Value->Prop}(H:J3 P o ρ g h K):∃v,K v/\(fK g->QExec P (execOp ρ o) h (.value v)):=by
 unfold J3 at H;split at H;rename_i t a b;obtain⟨v,h1,e⟩:=Ct H;refine⟨v,h1,λf=>?_⟩;simp only[execOp,b];exact(e f).val;rename_i t x i b;cases he:X1 P t with
 |false=>simp_all
 |true=>rw[he]at H;obtain⟨v,h1,e⟩:=xt (xa he) H;refine⟨v,h1,λf=>?_⟩;simp only[execOp,b];exact(e f h).val
 rename_i t x i b;cases he:p6 P t with
 |false=>rw[he]at H;exact oG h (zw H g)
 |true=>rw[he]at H;obtain⟨v,h1,e⟩:=J1 (Db he) H;refine⟨v,h1,λf=>?_⟩;simp only[execOp,b];exact(e f h).val
 rename_i t x lo hi mx b;cases he:X1 P t with
 |false=>simp_all
 |true=>rw[he]at H;obtain⟨v,h1,e⟩:=Qj (xa he) H;refine⟨v,h1,λf=>?_⟩;simp only[execOp,b];exact(e f h).val
 rename_i n t x y t' b;exact oG h (uN b H);rename_i t m k ok b;obtain⟨v,h1,e⟩:=AI H;refine⟨v,h1,λf=>?_⟩;simp only[execOp,b];exact(e f).val;rename_i x b;unfold sC at H;split at H;rename_i p l;obtain⟨a,h1,e⟩:=H;refine⟨_,e,λf=>?_⟩;have j:=h1.out f;subst j;intro B d;simp only[execOp,b,l];rfl;exact oG h (zw H g);rename_i c b;split at H;simp_all[Sp];exact oG h (zw H g);exact oG h (zw H g)
def me(o:Oper):Bool:=match o.op with
 |.lookup .. => Tc
 |.call c=>match c.callee with
  |.builtin .len=>Tc
  |_=>Ta
 |_=>Ta
theorem Pe{p:Addr}(H:zb h p=Td v):p.block<h.size:=by unfold zb at H;grind
theorem ym{h h':za}(k:Keep h.size h h'){p:Addr}(H:zb h p=Td v):zb h' p=Td v:=by have:=Pe H;unfold zb at H ⊢;rw[k.get _ this];exact H
theorem F6{h h':za}(k:Keep h.size h h'){p:Addr}:∀{vs:List Value} {i:Nat},zc h p i vs->zc h' p i vs
 |[],_,_=>trivial
 |_::_,_,⟨h1,h2⟩=>⟨ym k h1,F6 k h2⟩
theorem wC{K:Value->Prop}(w:me o=Ta)(H:J3 P o ρ g h K):∃v,K v/\(fK g->∀h',Keep h.size h h'->QExec P (execOp ρ o) h' (.value v)):=by
 unfold J3 at H;split at H;rename_i t a e;unfold mG at H;split at H;rename_i q b n u;obtain⟨x,h1,f⟩:=H;refine⟨_,f,λj h' r=>?_⟩;simp only[execOp,e,n];exact(pp u (ym r (h1.out j))).val;rename_i q l n u;obtain⟨vs,h0,⟨h1,f⟩,_⟩:=Q3 H (jm l);refine⟨_,f,λj h' r=>?_⟩;simp only[execOp,e,n];exact(pT u h0 (F6 r (h1.out j))).val;exact H.elim;rename_i t x i e;cases he:X1 P t with
 |false=>simp_all
 |true=>rw[he]at H;obtain⟨v,h1,f⟩:=xt (xa he) H;refine⟨v,h1,λj h' _=>?_⟩;simp only[execOp,e];exact(f j h').val
 rename_i t x i e;cases he:p6 P t with
 |false=>rw[he]at H;obtain⟨v,h1,f⟩:=zw H g;grind
 |true=>rw[he]at H;obtain⟨v,h1,f⟩:=J1 (Db he) H;refine⟨v,h1,λj h' _=>?_⟩;simp only[execOp,e];exact(f j h').val
 rename_i t x lo hi mx e;cases he:X1 P t with
 |false=>simp_all
 |true=>rw[he]at H;obtain⟨v,h1,f⟩:=Qj (xa he) H;refine⟨v,h1,λj h' _=>?_⟩;simp only[execOp,e];exact(f j h').val
 rename_i C t x y t' e;obtain⟨v,h1,f⟩:=uN e H;grind;rename_i t m k ok e;simp[me,e]at w;rename_i x e;unfold sC at H;split at H;rename_i p z;obtain⟨a,h1,f⟩:=H;refine⟨_,f,λj h' _=>?_⟩;have n:=h1.out j;subst n;intro B d;simp only[execOp,e,z];rfl;obtain⟨v,h1,f⟩:=zw H g;grind;rename_i c e;split at H;rename_i A;simp[me,e,A]at w;obtain⟨v,h1,f⟩:=zw H g;grind;obtain⟨v,h1,f⟩:=zw H g;grind
def ml(P:Program){α:Type}:Sem α->za->(α->za->Prop)->Prop
 |.pure a,h,K=>K a h
 |.program k,h,K=>ml P (k P) h K
 |.mark _ k,h,K=>ml P k h K
 |.new o k,h,K=>ml P (k h.size) (h.push o) K
 |_,_,_=>False
theorem yJ{α:Type}{s:Sem α}{K:α->za->Prop}(H:ml P s h K)(B:World)(d:Nat):∃x h',s.run P (mk B d h)=.ok x (mk B d h')/\K x h':=by
 induction s generalizing h with
 |pure a=>exact⟨a,h,rfl,H⟩
 |program k b=>exact b P H
 |mark m k b=>exact b H
 |new o k b=>obtain⟨x,h',h1,c⟩:=b h.size H;exact⟨x,h',h1,c⟩
 |_=>exact H.elim
def typed(P:Program)(ty:TypeId)(v:Value)(K:Value->Prop):Prop:=match qL P ty with
 |some c=>mI c λb=>v=b/\K b
 |none=>False
theorem wj{K:Value->Prop}(H:typed P ty v K):K v:=by unfold typed at H;split at H;obtain⟨b,h1,c⟩:=rS H;grind;exact H.elim
def zj(P:Program)(f:FuncId):Bool:=match P.funcs[f]? with
 |some fn=>(match fn.body with
  |some _=>Ta
  | none => false) && !(fn.name == "runtime.NumGoroutine")
 |none=>Tc
theorem J4(h:zj P f=Ta)(args:Array Value)(w:World):(callFunc f args).run P w=.ok (.enter f args) w:=by unfold zj at h;split at h;rename_i fn b;simp only[TC,VE]at h;obtain⟨h1,c⟩:=h;unfold callFunc;simp only[program,Sem.run_bind,Sem.run,Result.andThen_ok,b];split at h1;simp_all;cases h1;cases h
def lD(P:Program)(v:Value)(args:Array Value)(K:FuncId->Array Value->Prop):Prop:=match v with
 |.func (.func f) first cap=>zj P f=Ta/\K f (first++args++cap)
 |_=>False
theorem EC{c:Call}{x:Operand}(b:o.op=.call c)(i:c.callee=.value x){K:FuncId->Array Value->Prop}(H:lD P (ρ x) (c.args.map ρ) K):
  ∃f args,K f args/\∀w,(execOp ρ o).run P w=.ok (.enter f args) w:=by
 unfold lD at H;split at H;rename_i f first cap e
 obtain⟨h1,h⟩:=H;refine⟨_,_,h,λw=>?_⟩;simp only[execOp,b,resolve,i,e,VL,Sem.run_bind,Sem.run_pure,Result.andThen_ok,invoke];exact J4 h1 _ w;exact H.elim
def oT:Operand->Bool
 |.func _=>Ta
 |_=>Tc
def SR(P:Program)(f:FuncId):Bool:=match P.funcs[f]? with
 |some fn=>(match fn.body with
  |some _=>Tc
  |none=>Ta)
 |none=>Tc
def KP(P:Program)(f:FuncId)(args:Array Value)(h:za)(K:Value->za->Prop):Prop:=∀B d,∃v b h',(callFunc f args).run P (mk B d h)=.ok (.value v) (mk B b h')/\K v h'
def Bh(P:Program):Operand->Bool
 |.func f=>SR P f
 |_=>Tc
def yB(P:Program)(v:Value)(args:Array Value)(h:za)(K:Value->za->Prop):Prop:=match v with
 |.func (.func f) first cap=>KP P f (first++args++cap) h K
 |_=>False
theorem R0{c:Call}{x:Operand}(e:o.op=.call c)(k:c.callee=.value x)(H:yB P (ρ x) (c.args.map ρ) h K)(B:World)(d:Nat):
  ∃v b h',(execOp ρ o).run P (mk B d h)=.ok (.value v) (mk B b h')/\K v h':=by
 unfold yB at H;split at H;rename_i f first cap i
 obtain⟨v,b,h',h1,j⟩:=H B d;refine⟨v,b,h',?_,j⟩;simp only[execOp,e,resolve,k,i,VL,Sem.run_bind,Sem.run_pure,Result.andThen_ok,invoke];exact h1;exact H.elim
def Af(P:Program)(t:TypeId):Bool:=match P.underlying t with
 |some (.map _ _)=>Ta
 |_=>Tc
def sQ(P:Program)(o:Oper)(ρ:Operand->Value)(h:za)(K:Value->za->Prop):Prop:=
 match o.op with
 |.store t a x=>XRunU P (Tt t (ρ a) (ρ x)) h λh'=>K undef h'
 |.mapUpdate t m k x=>XRunU P (UN t (ρ m) (ρ k) (ρ x)) h λh'=>K undef h'
 |.insert t m k x=>XRunU P (UN t (ρ m) (ρ k) (ρ x)) h λh'=>K undef h'
 |.entryStore t m s x=>XRunU P (Instr.entryStore t (ρ m) (ρ s) (ρ x)) h λh'=>K undef h'
 |.mapEntry t m k=>XRun P (Instr.mapEntry t (ρ m) (ρ k)) h λv h'=>typed P o.type v λe=>K e h'
 |.makeSlice t l c=>XRun P (Uc t (ρ l) (ρ c)) h λv h'=>typed P o.type v λe=>K e h'
 |.convert s t x=>XRun P (convert s t (ρ x)) h λv h'=>typed P o.type v λe=>K e h'
 |.typeAssert x t t' ok=>XRun P (Instr.typeAssert (ρ x) t t' ok) h λv h'=>typed P o.type v λe=>K e h'
 |.range t x=>bif Af P t then XRun P (VX t (ρ x)) h λv h'=>∃q:Option Addr,v=.pointer q/\K (.pointer q) h' else ml P (execOp ρ o) h λi h'=>match i with
   |.value v=>K v h'
   |.skip=>K undef h'
   |_=>False
 |.next x s=>bif s then XRun P (Vn (ρ x) s o.type) h λv h'=>(v=.tuple #[.bool Tc]/\K (.tuple #[.bool Tc]) h')\/∃k u:Int,v=.tuple #[.bool Ta,.int .i64 k,.int .i32 u]/\K (.tuple #[.bool Ta,.int .i64 k,.int .i32 u]) h'
  else XRun P (Vn (ρ x) s o.type) h λv h'=>(v=.tuple #[.bool Tc]/\K (.tuple #[.bool Tc]) h')\/∃k u:Value,v=.tuple #[.bool Ta,k,u]/\K (.tuple #[.bool Ta,k,u]) h'
 |.entry x=>XRun P (VH (ρ x)) h λv h'=>∃k u:Value,v=.tuple #[k,u]/\K (.tuple #[k,u]) h'
 |.call c=>match c.callee with
  |.builtin b=>match E0 b c.argTypes o.type (c.args.map ρ)with
   |some s=>XRun P s h λv h'=>typed P o.type v λe=>K e h'
   |none=>False
  |.value x=>bif Bh P x then yB P (ρ x) (c.args.map ρ) h (λv h'=>typed P o.type v λe=>K e h')else bif oT x then(ml P (execOp ρ o) h λi h'=>match i with
   |.enter f args=>XC P f args h' λv h''=>typed P o.type v λe=>K e h''
   |.value v=>K v h'
   |_=>False)else lD P (ρ x) (c.args.map ρ) λf args=>XC P f args h λv h''=>typed P o.type v λe=>K e h''
  |_=>False
 |_=>ml P (execOp ρ o) h λi h'=>match i with
   |.value v=>K v h'
   |.skip=>K undef h'
   |_=>False
def Pm:Builtin->Bool
 |.append | .copy | .clear | .delete=>Ta
 |_=>Tc
def Ka(P:Program)(s t:TypeId):Bool:=match P.underlying s,P.underlying t with
 |some (.int _),Td (.int _)=>Ta
 |some .string,Td .string=>Ta
 |_,_=>Tc
def l8(P:Program)(o:Oper):Bool:=
 match o.op with
 |.load _ _ | .indexAddr _ _ _ | .index _ _ _ | .slice _ _ _ _ _ | .binOp _ _ _ _ _ | .lookup _ _ _ _ | .nilCheck _=>Ta
 |.move _ | .assign _ | .unOp _ _ _ | .build _ _ | .makeFunc _ _ _ | .makeInterface _ _ | .extract _ _ | .field _ _ _ | .fieldAddr _ _ _=>Ta
 |.convert s t _=>Ka P s t
 |.call c=>match c.callee with
  |.builtin b=>!Pm b
  |_=>Tc
 |_=>Tc
def y7(P:Program)(o:Oper)(ρ:Operand->Value)(b:Bool)(h:za)(K:Value->za->Prop):Prop:=
 match qL P o.type with
 |some c=>∃J:Value->za->Prop,(b=Ta->sQ P o ρ h J)/\(b=Tc->mI c λv=>J v h)/\(b=Ta->∀v h',J v h'->mI c λe=>v=e)/\FV c λv=>∀h',J v h'->K v h'
 |none=>False
def stepW(P:Program)(o:Oper)(ρ:Operand->Value)(g:Option Bool)(h:za)(K:Value->za->Prop):Prop:=
 bif l8 P o then J3 P o ρ g h (λv=>K v h)else match g with
  |none=>sQ P o ρ h K
  |some b=>y7 P o ρ b h K
theorem upon_value{next:Act->World->Prop}{Q:Exit->Act->World->Prop}{s:Sem Next}(h:s.run P w=.ok (.value v) w')(b:next (a.put o.dst v) w'): o.upon P a next Q (s.run P w):=by rw[h];exact b
theorem upon_skip{next:Act->World->Prop}{Q:Exit->Act->World->Prop}{s:Sem Next}(h:s.run P w=.ok .skip w')(b:next (a.put o.dst undef) w'): o.upon P a next Q (s.run P w):=by rw[h];exact b
theorem jc{s:Sem Value}(h:s.run P w=.ok v w'):(s >>= λx=>(VD (VF x):Sem Next)).run P w=.ok (.value v) w':=by simp_all
theorem oC{s:Sem Unit}(h:s.run P w=.ok () w'):(s >>= λ_=>(VD Next.skip:Sem Next)).run P w=.ok .skip w':=by simp_all
theorem FL(H:sQ P o ρ h K)(B:World)(d:Nat){next:Act->World->Prop}{Q:Exit->Act->World->Prop}
  (j:∀v i h',K v h'->next (a.put o.dst v) (mk B i h')):o.upon P a next Q ((execOp ρ o).run P (mk B d h)):=by
 unfold sQ at H;split at H;case h_1 t x y ho=>obtain⟨i,h',h1,e⟩:=H B d;exact upon_skip (by simp only[execOp,ho];exact oC h1) (j _ _ _ e)
 case h_2 t m k x ho=>obtain⟨i,h',h1,e⟩:=H B d;exact upon_skip (by simp only[execOp,ho];exact oC h1) (j _ _ _ e)
 case h_3 t m k x ho=>obtain⟨i,h',h1,e⟩:=H B d;exact upon_skip (by simp only[execOp,ho];exact oC h1) (j _ _ _ e)
 case h_4 t m s x ho=>obtain⟨i,h',h1,e⟩:=H B d;exact upon_skip (by simp only[execOp,ho];exact oC h1) (j _ _ _ e)
 case h_5 t m k ho=>obtain⟨v,i,h',h1,e⟩:=H B d;exact upon_value (by simp only[execOp,ho];exact jc h1) (j _ _ _ (wj e))
 case h_6 t l c ho=>obtain⟨v,i,h',h1,e⟩:=H B d;exact upon_value (by simp only[execOp,ho];exact jc h1) (j _ _ _ (wj e))
 case h_7 s t x ho=>obtain⟨v,i,h',h1,e⟩:=H B d;exact upon_value (by simp only[execOp,ho];exact jc h1) (j _ _ _ (wj e))
 case h_8 x t t' ok ho=>obtain⟨v,i,h',h1,e⟩:=H B d;exact upon_value (by simp only[execOp,ho];exact jc h1) (j _ _ _ (wj e))
 case h_9 t x ho=>
  cases hm:Af P t with
  |true=>rw[hm]at H;obtain⟨v,i,h',h1,q,rfl,e⟩:=H B d;exact upon_value (by simp only[execOp,ho];exact jc h1) (j _ _ _ e)
  |false=>rw[hm]at H;obtain⟨p,h',h1,e⟩:=yJ H B d;grind [upon_value,upon_skip]
 case h_10 x s ho=>
  cases s with
  |true=>simp only[zK]at H;obtain⟨v,i,h',h1,e⟩:=H B d;refine upon_value (v:=v) (w':=mk B i h') (by simp only[execOp,ho];exact jc h1) (j _ _ _ ?_);grind
  |false=>simp only[zL]at H;obtain⟨v,i,h',h1,e⟩:=H B d;refine upon_value (v:=v) (w':=mk B i h') (by simp only[execOp,ho];exact jc h1) (j _ _ _ ?_);grind
 case h_11 x ho=>obtain⟨v,i,h',h1,k,u,rfl,e⟩:=H B d;exact upon_value (by simp only[execOp,ho];exact jc h1) (j _ _ _ e)
 case h_12 c ho=>
  split at H;rename_i b w;split at H;rename_i s n;obtain⟨v,i,h',h1,e⟩:=H B d;refine upon_value (w':=mk B i h') ?_ (j _ _ _ (wj e));have key:execOp ρ o=s >>= λx=>(VD (VF x):Sem Next):=by
   simp only[execOp,ho,resolve,w];unfold E0 at n;split at n <;> first
    |(simp only[Tn]at n;subst n;rfl)
    |cases n
  simp_all;exact H.elim
  ·rename_i x r;cases hex:Bh P x with
   |true=>rw[hex]at H;obtain⟨v,i,h',h1,e⟩:=R0 ho r H B d;exact upon_value h1 (j _ _ _ (wj e))
   |false=>
   rw[hex]at H;simp only[zL]at H;cases hst:oT x with
   |true=>
    rw[hst]at H;obtain⟨p,h',h1,e⟩:=yJ H B d;cases p with
    |enter f args=>rw[h1];refine(e B d).mono ?_;grind [wj]
    |value v=>exact upon_value h1 (j _ _ _ e)
    |_=>exact e.elim
   |false=>rw[hst]at H;simp only[zL]at H;obtain⟨f,args,h1,e⟩:=EC ho r H;rw[e];refine(h1 B d).mono ?_;grind [wj]
  exact H.elim
 case h_13=>obtain⟨p,h',h1,e⟩:=yJ H B d;grind [upon_value,upon_skip]
theorem No(H:stepW P o ρ g h K)(c:fK g)(B:World)(d:Nat){next:Act->World->Prop}{Q:Exit->Act->World->Prop}
  (e:∀v i h',K v h'->next (a.put o.dst v) (mk B i h')):o.upon P a next Q ((execOp ρ o).run P (mk B d h)):=by
 unfold stepW at H;cases hq:l8 P o with
 |true=>rw[hq]at H;obtain⟨v,h1,f⟩:=u6 H;exact upon_value (f c B d) (e _ _ _ h1)
 |false=>
  rw[hq]at H;cases g with
  |none=>exact FL H B d e
  |some b=>have j:b=Ta:=c;subst j;simp only[zL]at H;unfold y7 at H;grind [FL,BL]
theorem MG(H:stepW P o ρ (Td Tc) h K):∃v,K v h:=by
 unfold stepW at H;cases hq:l8 P o with
 |true=>grind [u6]
 |false=>rw[hq]at H;simp only[zL]at H;unfold y7 at H;grind [BL]
end
section
variable {n:Nat} {e:bK} {a b:Act} {c:qf} {g:Option Bool} {P:Program} {o:Oper} {h:za} {K:Value -> za -> Prop} {ms:List Nat}
def Zu(e:bK):qf->Option (Option Bool)
 |[]=>Td Te
 |c=>match qs e c with
  |some b=>Td (Td b)
  |none=>Te
theorem Zv(i:Sat n e a)(h:Zu e c=Td g)(j:valid (qc a) c):fK g:=by unfold Zu at h;split at h;simp only[Tn]at h;subst h;trivial;split at h;rename_i b f;simp only[Tn]at h;subst h;exact(xN i f).2 j;cases h
theorem OV(j:Sat n e a)(h:Zu e c=Td g)(f:¬valid (qc a) c):g=Td Tc:=by
 unfold Zu at h;split at h;exact absurd trivial f;split at h;rename_i b i;simp only[Tn]at h;subst h;cases b with
 |false=>rfl
 |true=>exact absurd ((xN j i).1 rfl) f
 cases h
def pC(b:Bool):Value->Value->Value
 |.bool x,.bool y=>.bool (bif b then x else y)
 |x,y=>bif b then x else y
theorem Dv(b:Bool)(x y:Value):pC b x y=if b=Ta then x else y:=by unfold pC;grind
def tE:Option Value->Option Value->Option Value
 |some v,_=>Td v
 |none,w=>w
def tJ(e:bK)(c:qf)(x a b:Operand)(K:Value->Prop):Prop:=
 match x with
 |.tmp s=>match look e s with
  |some (cs,.bool t)=>bif kw cs c then(match tE (Jq e c a) (Jq e ((s,Ta)::cs) a),tE (Jq e c b) (Jq e ((s,Tc)::cs) b)with
    |some va,some vb=>K (pC t va vb)
    |_,_=>False)else False
  |_=>False
 |_=>False
theorem yX{f:Act}(i:Sat n e f){x a b:Operand}{K:Value->Prop}(H:tJ e c x a b K):
  ∃v,K v/\(valid (qc f) c->∃t,f.eval x=.bool t/\(if t=Ta then f.eval a else f.eval b)=v):=by
 unfold tJ at H;split at H;rename_i s;split at H;rename_i cs t l;cases hsf:kw cs c with
 |false=>simp_all
 |true=>
  rw[hsf]at H;simp only[zK]at H;split at H;rename_i p q k j;refine⟨_,H,λo=>⟨t,?_,?_⟩⟩;exact(i.all _ (W0 l)).1 (Q2 hsf o);have h:=Q2 hsf o;have m:qc f s=.bool t:=(i.all _ (W0 l)).1 h;rw[Dv];cases t with
  |true=>simp only[if_true];unfold tE at k;split at k;grind [Tn,qg];exact qg i (c:=(s,Ta)::cs) ⟨m,h⟩ k
  |false=>simp only[Uz,if_false];unfold tE at j;split at j;grind [Tn,qg];exact qg i (c:=(s,Tc)::cs) ⟨m,h⟩ j
  exact H.elim
 exact H.elim;exact H.elim
def l7(P:Program)(o:Oper)(e:bK)(c:qf)(h:za)(K:Value->za->Prop):Prop:=
 match o.op with
 |.pick x a b=>tJ e c x a b λv=>K v h
 |_=>bif Yr o.op then(bif known e c o.op.operands.toList then(match Zu e c with
   |some g=>stepW P o (i0 e c) g h K
   |none=>False)else False)else False
def wR(P:Program)(n:Nat)(ops:Array Oper)(K:bK->za->Prop):List Oper->bK->za->Prop
 |[],e,h=>K (clean e) h
 |o::rest,e,h=>match wh ops e o.guard with
  |some c=>bif jy n c o.dst then l7 P o e c h λv h'=>wR P n ops K rest (putO e o.dst c v) h' else False
  |none=>False
theorem As(H:l7 P o e c h K)(k:Sat n e a)(m:valid (qc a) c)(B:World)(d:Nat)
  {next:Act->World->Prop} {Q:Exit->Act->World->Prop} (l:∀v i h',K v h'->next (a.put o.dst v) (mk B i h')):o.wp P a (mk B d h) next Q:=by
 unfold l7 at H;unfold Oper.wp;split at H;rename_i x y z b;obtain⟨v,h1,f⟩:=yX k H;obtain⟨t,j,p⟩:=f m;refine upon_value (w':=mk B d h) (v:=v) ?_ (l _ _ _ h1);simp only[execOp,b,j,asBool,Sem.run_bind,Sem.run_pure,Result.andThen_ok];rw[p];cases hns:Yr o.op with
 |false=>simp_all
 |true=>
  rw[hns]at H;cases hk:known e c o.op.operands.toList with
  |false=>simp_all
  |true=>rw[hk]at H;simp only[zK]at H;grind [tF,No,Zv]
theorem Gs(H:l7 P o e c h K)(f:Sat n e a)(b:¬valid (qc a) c):∃v,K v h:=by
 unfold l7 at H;split at H;grind [yX];cases hns:Yr o.op with
 |false=>simp_all
 |true=>
  rw[hns]at H;cases hk:known e c o.op.operands.toList with
  |false=>simp_all
  |true=>rw[hk]at H;simp only[zK]at H;grind [OV,MG]
def wb:List Oper->List Nat
 |[]=>[]
 |o::l=>match o.dst with
  |some d=>d::wb l
  |none=>wb l
def Same(ms:List Nat)(a b:Act):Prop:=∀i,i∉ms->qc b i=qc a i
theorem Same.refl(ms:List Nat)(a:Act):Same ms a a:=λ_ _=>rfl
theorem Same.trans{a b c:Act}(h:Same ms a b)(k:Same ms b c):Same ms a c:=λi hi=>(k i hi).trans (h i hi)
theorem Same.mono{ms c:List Nat}(h:Same ms a b)(f:∀x∈ms,x∈c):Same c a b:=λi hi=>h i λe=>hi (f i e)
theorem Same.put(a:Act)(d:Option Nat)(v:Value)(h:∀i,d=Td i->i∈ms):Same ms a (a.put d v):=by
 intro i hi;cases d with
 |none=>rfl
 |some j=>grind [qz]
theorem pU{P:Program}{n:Nat}{ops:Array Oper}{K:bK->za->Prop}{Q:Exit->Act->World->Prop}(B:World):
  ∀(l:List Oper) (e:bK) (h:za) (a:Act) (d:Nat),wR P n ops K l e h->Sat n e a->(∀k f m h',Sat n k f->Same (wb l) a f->K k h'->Q .normal f (mk B m h'))->wpList P ops Q l a (mk B d h)
 |[],e,h,a,d,H,hs,hQ=>hQ _ _ _ _ hs.clean (Same.refl _ _) H
 |o::rest,e,h,a,d,H,hs,hQ=>by
  unfold wR at H;split at H;rename_i c D;cases hd:jy n c o.dst with
  |false=>simp_all
  |true=>
   rw[hd]at H;simp only[zK]at H;have q:=xr hs D;have j:∀i,o.dst=Td i->i∈wb (o::rest):=λi hi=>by simp[wb,hi]
   have b:∀x∈wb rest,x∈wb (o::rest):=λx r=>by unfold wb;grind
   have w:∀v u m h',(valid (qc a) c->u=v)->(¬valid (qc a) c->u=undef)->wR P n ops K rest (putO e o.dst c v) h'->wpList P ops Q rest (a.put o.dst u) (mk B m h'):=λv u m h' h1 y C=>
    pU B rest _ _ _ _ C (hs.putO hd h1 y) λk f p h'' z E A=>hQ k f p h'' z ((Same.put a o.dst u j).trans (E.mono b)) A
   unfold wpList;by_cases t:valid (qc a) c;rw[zA (q.2 t)];grind [As];rw[zv (λr=>t (q.1 r))];grind [Gs]
  exact H.elim
def vN(P:Program)(o:Oper)(ρ:Operand->Value)(g:Option Bool)(h:za)(K:Value->Prop):Prop:=
 match o.op with
 |.call c=>match c.callee with
  |.value x=>bif oT x then(match Qi P (execOp ρ o)with
    |some (.enter f args)=>match qL P o.type with
     |some b=>mI b λv=>req g (XC P f args h λe h'=>e=v/\h'=h)/\K v
     |none=>False
    |_=>False)else(match qL P o.type with
     |some b=>mI b λv=>req g (lD P (ρ x) (c.args.map ρ) λf args=>XC P f args h λe h'=>e=v/\h'=h)/\K v
     |none=>False)
  |_=>False
 |_=>False
theorem IS{ρ:Operand->Value}{K:Value->Prop}(H:vN P o ρ g h K):
  ∃v,K v/\(fK g->∃f args,(∀w,(execOp ρ o).run P w=.ok (.enter f args) w)/\XC P f args h λj h'=>j=v/\h'=h):=by
 unfold vN at H;split at H;rename_i c i;split at H;rename_i x k;cases hst:oT x with
 |true=>rw[hst]at H;simp only[zK]at H;split at H;rename_i f args l;split at H;obtain⟨v,h1,b⟩:=rS H;exact⟨v,b,λe=>⟨f,args,λw=>DN l w,h1.out e⟩⟩;exact H.elim;exact H.elim
 |false=>rw[hst]at H;simp only[zL]at H;split at H;obtain⟨v,h1,b⟩:=rS H;refine⟨v,b,λe=>?_⟩;obtain⟨f,args,m,n⟩:=EC i k (h1.out e);grind;exact H.elim
 exact H.elim;exact H.elim
def qR(o:Oper):Bool:=match o.op with
 |.call c=>match c.callee with
  |.builtin _=>Tc
  |_=>Ta
 |_=>Tc
def xT(P:Program)(o:Oper)(e:bK)(c:qf)(h:za)(f:Bool)(K:Value->Prop):Prop:=
 match o.op with
 |.pick x a b=>tJ e c x a b K
 |_=>bif Yr o.op then(bif known e c o.op.operands.toList then(match Zu e c with
   |some g=>bif qR o then(bif f then vN P o (i0 e c) g h K else False)else J3 P o (i0 e c) g h K
   |none=>False)else False)else False
def wQ(P:Program)(n:Nat)(ops:Array Oper)(h:za)(b:Bool)(K:bK->Prop):List Oper->bK->Prop
 |[],e=>K e
 |o::rest,e=>match wh ops e o.guard with
  |some c=>bif jy n c o.dst then xT P o e c h b λv=>wQ P n ops h b K rest (putO e o.dst c v)else False
  |none=>False
def YQ(P:Program)(o:Oper)(a:Act)(B:World)(h:za)(b:Bool)(v:Value):Prop:=
 (∀d,(execOp a.eval o).run P (mk B d h)=.ok (.value v) (mk B d h)) \/
 (b=Ta/\∃f args,(∀d,(execOp a.eval o).run P (mk B d h)=.ok (.enter f args) (mk B d h))/\XC P f args h λc h'=>c=v/\h'=h)
theorem Pr{b:Bool}{K:Value->Prop}(H:xT P o e c h b K)(k:Sat n e a)(B:World):
  ∃v,K v/\(valid (qc a) c->YQ P o a B h b v):=by
 unfold xT at H;split at H;rename_i x y z q;obtain⟨v,h1,j⟩:=yX k H;refine⟨v,h1,λi=>?_⟩;obtain⟨t,m,l⟩:=j i;refine .inl λd=>?_;simp only[execOp,q,m,asBool,Sem.run_bind,Sem.run_pure,Result.andThen_ok];rw[l];cases hns:Yr o.op with
 |false=>simp_all
 |true=>
  rw[hns]at H;cases hk:known e c o.op.operands.toList with
  |false=>simp_all
  |true=>
   rw[hk]at H;simp only[zK]at H;split at H;rename_i g p;cases hc:qR o with
   |false=>rw[hc]at H;obtain⟨v,h1,j⟩:=u6 H;refine⟨v,h1,λi=>.inl λd=>?_⟩;rw[tF k i hns hk];exact j (Zv k p i) B d
   |true=>
    rw[hc]at H;cases b with
    |false=>exact H.elim
    |true=>simp only[zK]at H;obtain⟨v,h1,j⟩:=IS H;refine⟨v,h1,λi=>?_⟩;obtain⟨f,args,m,l⟩:=j (Zv k p i);refine .inr ⟨rfl,f,args,λd=>?_,l⟩;grind [tF]
   exact H.elim
theorem Bo{P:Program}{n:Nat}{ops:Array Oper}{h:za}{j:Bool}{K:bK->Prop}{Q:Act->Prop}(B:World):
  ∀(l:List Oper) (e:bK) (a:Act),wQ P n ops h j K l e->Sat n e a->(∀q k,Sat n q k->Same (wb l) a k->K q->Q k)->wpQuiet P ops (λw=>∃d,w=mk B d h) Q l a
 |[],e,a,H,hs,hQ=>hQ _ _ hs (Same.refl _ _) H
 |o::rest,e,a,H,hs,hQ=>by
  unfold wQ at H;split at H;rename_i c F;cases hd:jy n c o.dst with
  |false=>simp_all
  |true=>
   rw[hd]at H;simp only[zK]at H;have D:=xr hs F;have m:∀i,o.dst=Td i->i∈wb (o::rest):=λi hi=>by simp[wb,hi]
   have b:∀x∈wb rest,x∈wb (o::rest):=λx I=>by unfold wb;grind
   obtain⟨v,A,E⟩:=Pr H hs B;have p:∀u,(valid (qc a) c->u=v)->(¬valid (qc a) c->u=undef)->wpQuiet P ops (λw=>∃d,w=mk B d h) Q rest (a.put o.dst u):=λu h1 r=>
    Bo B rest _ _ A (hs.putO hd h1 r) λq k z G C=>hQ q k z ((Same.put a o.dst u m).trans (G.mono b)) C
   unfold wpQuiet;by_cases y:valid (qc a) c;rw[zA (D.2 y)];refine⟨v,?_,p v (λ_=>rfl) (λt=>absurd y t)⟩;rintro w ⟨d,rfl⟩;unfold Oper.quietAt;rcases E y with h1|⟨_,f,args,h1,r⟩;rw[h1 d];exact⟨rfl,rfl⟩;rw[h1 d];refine⟨rfl,(r B d).mono ?_⟩;simp;simp_all
  exact H.elim
end
section
variable {i:Nat} {a b:Act} {o:Oper} {h h':za} {ρ:Operand -> Value} {P:Program} {g:Option Bool} {ops:Array Oper} {listed:Array Bool}
def Jr:List Nat->Nat->Bool
 |[],_=>Tc
 |j::l,i=>bif Nat.beq i j then Ta else Jr l i
theorem Q4{l:List Nat}(h:Jr l i=Tc):i∉l:=by
 induction l with
 |nil=>simp
 |cons j l c=>simp only[Jr]at h;by_cases b:Nat.beq i j=Ta;grind;simp_all
def tmpsOf:List Operand->List Nat
 |[]=>[]
 |.tmp t::l=>t::tmpsOf l
 |_::l=>tmpsOf l
def m5(ops:Array Oper)(k:Nat)(S:List Nat):Nat->Bool
 |0=>Ta
 |p+1=>bif (match jl ops p with
  |some t=>bif Jr S t then Region.waitsFor .any ops k p else Ta
  |none=>Ta)then m5 ops k S p else Tc
theorem Qk{ops:Array Oper}{k:Nat}{S:List Nat}:∀{m:Nat},m5 ops k S m=Ta->∀p t,p<m->jl ops p=Td t->t∈S->Region.waitsFor .any ops k p=Ta
 |0,_,p,t,hp,_,_=>by omega
 |m+1,h,p,t,hp,hd,ht=>by
  simp only[m5]at h;cases hb:(match jl ops m with
   |some t=>bif Jr S t then Region.waitsFor .any ops k m else Ta
   |none=>Ta)with
  |false=>simp_all
  |true=>rw[hb]at h;rcases Up p m with h1|h1;exact Qk h p t h1 hd ht;grind [Q4]
def Q5(ops:Array Oper):Nat->Bool
 |0=>Ta
 |j+1=>bif (match ops[j]? with
  |some o=>o.after.toList.all λe=>!(Region.binds .any e)||Nat.blt e.on j
  |none=>Ta)then Q5 ops j else Tc
theorem xq{ops:Array Oper}:∀{n:Nat},Q5 ops n=Ta->∀j o,j<n->ops[j]?=Td o->∀e∈o.after,Region.binds .any e=Ta->e.on<j
 |0,_,j,_,hj,_,_,_,_=>by omega
 |n+1,h,j,o,hj,ho,e,he,hb=>by
  simp only[Q5]at h;cases hc:(match ops[n]? with
   |some o=>o.after.toList.all λe=>!(Region.binds .any e)||Nat.blt e.on n
   |none=>Ta)with
  |false=>simp_all
  |true=>
   rw[hc]at h;rcases Up j n with h1|h1;exact xq h j o h1 ho e he hb;have:j=n:=by omega
   subst this;rw[ho]at hc;have:=T7.1 hc e (by simpa using he);simp_all
def pa(ops:Array Oper)(d:Nat):Nat->Bool
 |0=>Tc
 |p+1=>bif (match jl ops p with
  |some t=>Nat.beq t d
  |none=>Tc)then Ta else pa ops d p
def oI(ops:Array Oper):Nat->Bool
 |0=>Ta
 |p+1=>bif (match jl ops p with
  |some t=>!(pa ops t p)
  |none=>Ta)then oI ops p else Tc
theorem xU{ops:Array Oper}{d:Nat}:∀{m:Nat},pa ops d m=Tc->∀p,p<m->jl ops p≠Td d
 |0,_,p,hp=>by omega
 |m+1,h,p,hp=>by
  simp only[pa]at h;cases hb:(match jl ops m with
   |some t=>Nat.beq t d
   |none=>Tc)with
  |true=>simp_all
  |false=>
   rw[hb]at h;rcases Up p m with h1|h1;exact xU h p h1;have:p=m:=by omega
   subst this;intro e;simp_all
theorem Ys{ops:Array Oper}:∀{m:Nat},oI ops m=Ta->∀p q t,p<m->q<m->jl ops p=Td t->jl ops q=Td t->p=q
 |0,_,p,q,t,hp,_,_,_=>by omega
 |m+1,h,p,q,t,hp,hq,e1,e2=>by
  simp only[oI]at h;cases hb:(match jl ops m with
   |some t=>!(pa ops t m)
   |none=>Ta)with
  |false=>simp_all
  |true=>rw[hb]at h;rcases Up p m with h1|h1 <;> rcases Up q m with h2|h2;exact Ys h p q t h1 h2 e1 e2;grind [VE,xU];grind [VE,xU];omega
def ns(o:Oper):Option Bool:=match o.op with
 |.fieldAddr _ _ _=>Td Ta
 |.indexAddr _ _ _=>Td Ta
 |.move _=>Td Ta
 |.assign _=>match o.after.toList with
  |[]=>Td Ta
  |_=>Te
 |.nilCheck _=>Td Ta
 |.slice _ _ _ _ _=>Td Ta
 |.binOp _ _ _ _ _=>Td Ta
 |.load _ _=>Td Tc
 |_=>Te
def pI(o:Oper):Bool:=match ns o with
 |some _=>Ta
 |none=>Tc
def ye(o:Oper):Bool:=match ns o with
 |some b=>!b
 |none=>Tc
theorem W5{a b:Act}:∀{l:List Operand},(∀t∈tmpsOf l,qc a t=qc b t)->∀x∈l,a.eval x=b.eval x
 |[],_,x,c=>by cases c
 |y::l,h,x,c=>by
  rcases Tz.1 c with rfl|c;cases x with
  |tmp t=>exact h t (by simp[tmpsOf])
  |const v=>rfl
  |global g=>rfl
  |func f=>rfl
  refine W5 (l:=l) (λt e=>h t ?_) x c;cases y <;> simp[tmpsOf,e]
theorem wS(c:Yr o.op=Ta)(h:∀t∈tmpsOf o.op.operands.toList,qc a t=qc b t):execOp a.eval o=execOp b.eval o:= execOp_congr o (λcs b e=>by rw[e]at c;cases c) λx f=>W5 h x (by simpa using f)
theorem OL{p:Addr}(e:h'[p.block]?=h[p.block]?)(i:Nat):zb h' (p.add i)=zb h (p.add i):=by
 have b:(p.add i).block=p.block:=by unfold Tl;split <;> rfl
 unfold zb;rw[b,e]
theorem Dj{h h':za}{p:Addr}(e:h'[p.block]?=h[p.block]?):∀{vs:List Value} {i:Nat},zc h p i vs->zc h' p i vs
 |[],_,_=>trivial
 |v::vs,i,⟨h1,h2⟩=>⟨(OL e i).trans h1,Dj e h2⟩
def LdOK(o:Oper)(ρ:Operand->Value)(h h':za):Prop:=ye o=Tc\/Keep h.size h h'\/∀t a p,o.op=.load t a->ρ a=.pointer (Td p)->h'[p.block]?=h[p.block]?
theorem LdOK.congr{ρ c:Operand->Value}(e:∀x∈o.op.operands.toList,c x=ρ x)(H:LdOK o ρ h h'):LdOK o c h h':=by rcases H with H|H|H;exact .inl H;exact .inr (.inl H);refine .inr (.inr λt a p b f=>H t a p b ?_);rw[<-e a (by rw[b];simp[Op.operands])];exact f
theorem RN{t:TypeId}{x:Value}{K:Value->Prop}(H:mG P h t x g K):∃v p,x=.pointer (Td p)/\K v/\(fK g->QExec P (Vy t x) h v/\∀h',h'[p.block]?=h[p.block]?->QExec P (Vy t x) h' v):=by unfold mG at H;split at H;rename_i q a b;obtain⟨x,h1,f⟩:=H;refine⟨_,q,rfl,f,λc=>?_⟩;have h1:zb h q=Td _:=h1.out c;refine⟨pp b h1,λh' e=>pp b ?_⟩;unfold zb at h1 ⊢;rw[e];exact h1;rename_i q l b;obtain⟨vs,h0,⟨h1,f⟩,_⟩:=Q3 H (jm l);exact⟨_,q,rfl,f,λc=>⟨pT b h0 (h1.out c),λh' e=>pT b h0 (Dj e (h1.out c))⟩⟩;exact H.elim
theorem KH(n:pI o=Ta){K:Value->Prop}(H:J3 P o ρ g h K):
  ∃v,K v/\(fK g->∀h',LdOK o ρ h h'->QExec P (execOp ρ o) h' (.value v)):=by
 cases ho:o.op with
 |load t x=>
  have f:me o=Ta:=by unfold me;rw[ho]
  by_cases b:fK g;obtain⟨j,k,k2⟩:=wC f H;unfold J3 at H;rw[ho]at H;simp only at H;obtain⟨v,p,l,h1,c⟩:=RN H;have r:j=v:=by
   have a1:=k2 b h (Keep.refl _ _) default 0;have a2:QExec P (execOp ρ o) h (.value v):=by simp only[execOp,ho];exact(c b).1.val
   have a2:=a2 default 0;rw[a1]at a2;injection a2 with a2 _;injection a2
  subst r;refine⟨j,k,λ_ h' e=>?_⟩;rcases e with e|e|e;unfold ye ns at e;rw[ho]at e;cases e;exact k2 b h' e;have:=(c b).2 h' (e t x p ho l);simp only[execOp,ho];exact this.val;obtain⟨j,k,_⟩:=wC f H;exact⟨j,k,λm=>absurd m b⟩
 |indexAddr t x i=>
  unfold J3 at H;rw[ho]at H;simp only at H;cases he:X1 P t with
  |false=>rw[he]at H;exact H.elim
  |true=>rw[he]at H;obtain⟨v,h1,c⟩:=xt (xa he) H;refine⟨v,h1,λb h' _=>?_⟩;simp only[execOp,ho];exact(c b h').val
 |slice t x lo hi mx=>
  unfold J3 at H;rw[ho]at H;simp only at H;cases he:X1 P t with
  |false=>rw[he]at H;exact H.elim
  |true=>rw[he]at H;obtain⟨v,h1,c⟩:=Qj (xa he) H;refine⟨v,h1,λb h' _=>?_⟩;simp only[execOp,ho];exact(c b h').val
 |binOp u t x y t'=>unfold J3 at H;rw[ho]at H;obtain⟨v,h1,c⟩:=uN ho H;exact⟨v,h1,λb h' _=>c b h'⟩
 |nilCheck x=>unfold J3 at H;rw[ho]at H;simp only at H;unfold sC at H;split at H;rename_i p l;obtain⟨a,h1,c⟩:=H;refine⟨_,c,λb h' _ B d=>?_⟩;have q:=h1.out b;subst q;simp only[execOp,ho,l];rfl;obtain⟨v,h1,c⟩:=zw H g;exact⟨v,h1,λb h' _=>c b h'⟩
 |_=>first|(unfold pI ns at n;rw[ho]at n;cases n;done)|(unfold J3 at H;rw[ho]at H;obtain⟨v,h1,c⟩:=zw H g;exact⟨v,h1,λb h' _=>c b h'⟩)
theorem ja{d:Option Nat}{u:Value}{s:Nat}(h:d≠Td s):qc (a.put d u) s=qc a s:=by
 cases d with
 |none=>rfl
 |some t=>grind [qz]
theorem NK{next:Act->World->Prop}{Q:Exit->Act->World->Prop}{r:Result Next}(j:b.defers=[])
  (H:o.upon P b (λc w=>c.defers=[]/\∀v,c=b.put o.dst v->next (a.put o.dst v) w) (λ_ _ _=>False) r):o.upon P a next Q r:=by
 have lo:¬LetsOut (λ(_:Exit) (_:Act) (_:World)=>False):=λh=>by obtain⟨_,_,h⟩:=h;exact h
 cases r with
 |ok x w=>
  cases x with
  |value v=>exact H.2 v rfl
  |skip=>exact H.2 undef rfl
  |defer d=>have:=H.1;rw[w8]at this;cases this
  |enter f args=>refine Calls.mono (show Calls P f args w _ from H) λe w' i=>?_;grind
  |row row args=>exact Rows.mono (show Rows P row args w _ from H) λv w' i=>i.2 v rfl
  |_=>exact H
 |halt x w=>cases x <;> first|exact H.elim|exact H
theorem W6{i p:Nat}(hi:i∈Region.ready .any ops listed)(f:Region.waitsFor .any ops i p=Ta):listed.getD p Tc=Ta:=by obtain⟨m,h,e,k,l,c⟩:=Region.waitsFor_spec f;obtain⟨_,o,j,b⟩:=mem_ready.1 hi;grind
theorem Ql{n:Nat}(inv:HeadInv .any ops n listed){i p:Nat}(hi:listed.getD i Tc=Ta)(f:Region.waitsFor .any ops i p=Ta):listed.getD p Tc=Ta:=by obtain⟨k,c,e,h,j,b⟩:=Region.waitsFor_spec f;rw[<-b];exact inv.closed i k c hi e h j
theorem Ow{p:Nat->Bool}{N:Nat}(h:∃k,k<N/\p k=Tc):∃k,k<N/\p k=Tc/\∀j,j<k->p j=Ta:=by
 obtain⟨k,h1,c⟩:=h;induction k using Nat.strongRecOn with
 |_ k b=>grind
theorem A3{o:Oper}:∀{l:List Oper},o∈l->∀i,o.dst=Td i->i∈wb l
 |[],h,_,_=>by cases h
 |x::l,h,i,hi=>by unfold wb;rcases Tz.1 h with rfl|h;simp_all;have:=A3 h i hi;grind
theorem qu{k:Nat}(h:ops[k]?=Td o):jl ops k=o.dst:=by simp[jl,h]
def iP(j:Nat):List Nat->List Nat
 |[]=>[]
 |k::l=>bif Nat.beq k j then iP j l else k::iP j l
theorem qP{j x:Nat}:∀{l:List Nat},x∈iP j l↔x∈l/\x≠j
 |[]=>by simp[iP]
 |k::l=>by
  simp only[iP];cases hb:Nat.beq k j with
  |true=>have:=TL hb;subst this;rw[zK,qP,Tz];simp_all
  |false=>
   have b:k≠j:=λe=>by simp_all
   rw[zL,Tz,Tz,qP];grind
theorem vW{j:Nat}:∀{l:List Nat},l.Nodup->(iP j l).Nodup
 |[],h=>h
 |k::l,h=>by
  simp only[iP];rw[Ut]at h;cases Nat.beq k j with
  |true=>exact vW h.2
  |false=>rw[zL,Ut];exact⟨λb=>h.1 (qP.1 b).1,vW h.2⟩
theorem Al{j:Nat}:∀{l:List Nat},(iP j l).length<=l.length
 |[]=>Tm _
 |k::l=>by simp only[iP];have:=Al (j:=j) (l:=l);grind
theorem DX{j:Nat}:∀{l:List Nat},j∈l->(iP j l).length+1<=l.length
 |[],h=>by cases h
 |k::l,h=>by
  simp only[iP];cases hb:Nat.beq k j with
  |true=>simp[Al,TI]
  |false=>
   have b:k≠j:=λe=>by simp_all
   have:=DX (j:=j) (l:=l) (by grind);simp_all
def vH(p:Nat->Prop):List Nat->Prop
 |[]=>True
 |[j]=>p j
 |j::k::l=>p j/\vH p (k::l)
theorem Gu{p:Nat->Prop}:∀{l:List Nat},vH p l->∀j∈l,p j
 |[],_,j,h=>by cases h
 |[k],H,j,h=>by simp at h;subst h;exact H
 |k::k2::l,H,j,h=>by rcases Tz.1 h with rfl|h;exact H.1;exact Gu H.2 j h
def pF(p:Nat->Bool):List Nat->List Nat
 |[]=>[]
 |j::l=>bif p j then j::pF p l else pF p l
theorem zM{p:Nat->Bool}{j:Nat}:∀{l:List Nat},j∈l->p j=Ta->j∈pF p l
 |[],h,_=>by cases h
 |k::l,h,hp=>by
  simp only[pF];rcases Tz.1 h with rfl|h;simp_all;cases p k with
  |true=>exact TS _ (zM h hp)
  |false=>exact zM h hp
end
section
variable {l:List Nat} {i m n:Nat} {ops:Array Oper} {P:Program} {o:Oper} {h h0:za} {e:bK} {a b:Act}
def Ev(o:Oper):Bool:=match o.op with
 |.extract _ _=>Ta
 |_=>Tc
variable {gq : Bool}
def ov(o:Oper):Bool:=bif pI o then Ta else Ev o
def kP(ops:Array Oper):Nat->List Nat->List Nat
 |0,S=>S
 |k+1,S=>kP ops k (bif S.any λp=>Region.waitsFor .any ops p k then k::S else S)
theorem xZ{ops:Array Oper}{listed:Array Bool}(b:∀i p,listed.getD i Tc=Ta->Region.waitsFor .any ops i p=Ta->listed.getD p Tc=Ta):∀{m:Nat} {S:List Nat},(∀j∈S,listed.getD j Tc=Ta)->∀k∈kP ops m S,listed.getD k Tc=Ta
 |0,S,h,k,hk=>h k hk
 |m+1,S,h,k,hk=>by unfold kP at hk;refine xZ b (m:=m) (λj c=>?_) k hk;grind
theorem Yt(h:Jr l i=Ta):i∈l:=by
 induction l with
 |nil=>cases h
 |cons j l b=>simp only[Jr]at h;grind [TL,TQ,TS]
theorem sK(h:i∈l):Jr l i=Ta:=by grind [Q4]
def QE(ops:Array Oper)(k:Nat):Bool:=match ops[k]? with
 |some o=>!(ov o)
 |none=>Tc
def Ml(ops:Array Oper)(i:Nat):Bool:=(kP ops ops.size [i]).any (QE ops)
def N6(o:Oper):Bool:=match o.guard with
 |none=>Tc
 |some _=>Ta
def FJ(ops:Array Oper)(t:Nat):Nat->Bool
 |0=>Tc
 |k+1=>bif (match ops[k]? with
  |some o=>Jr (tmpsOf o.op.operands.toList) t
  |none=>Tc)then Ta else FJ ops t k
def NN(ops:Array Oper)(i:Nat)(o:Oper):Bool:=match o.op with
 |.assign _=>(match o.dst with
  |some t=>FJ ops t i
  |none=>Tc)
 |_=>Tc
def J5(gq:Bool)(ops:Array Oper)(i:Nat):Bool:=match ops[i]? with
 |some o=>bif (bif N6 o then !gq else Tc)then Ta else bif ov o then(bif ye o then Ml ops i else NN ops i o)else Ta
 |none=>Ta
def iO(gq:Bool)(ops:Array Oper):List Nat:=(TZ ops.size).filter (J5 gq ops)
theorem qX{j:Nat}:j∈iO gq ops↔j<ops.size/\J5 gq ops j=Ta:=by unfold iO;simp
theorem IT(ops:Array Oper):(iO gq ops).Nodup:=List.nodup_range.filter _
def my(gq:Bool)(ops:Array Oper)(done S:List Nat)(k:Nat):Nat->Bool
 |0=>Ta
 |p+1=>bif Region.waitsFor .any ops k p then(bif (bif J5 gq ops p then Jr done p else Jr S p)then my gq ops done S k p else Tc)else my gq ops done S k p
theorem tm{ops:Array Oper}{done S:List Nat}{k:Nat}:∀{m:Nat},my gq ops done S k m=Ta↔∀p,p<m->Region.waitsFor .any ops k p=Ta->(J5 gq ops p=Ta->p∈done)/\(J5 gq ops p=Tc->p∈S)
 |0=>⟨λ_ p c=>by omega,λ_=>rfl⟩
 |m+1=>by
  unfold my;have e:=tm (ops:=ops) (done:=done) (S:=S) (k:=k) (m:=m);constructor;intro h p c b;rcases Up p m with h1|h1;grind;have:p=m:=by omega
  subst this;rw[b,zK]at h;cases hi:J5 gq ops p with
  |true=>simp_all[Yt]
  |false=>simp_all[Yt]
  intro h;have h1:=e.2 λp c b=>h p (by omega) b;cases b:Region.waitsFor .any ops k m with
  |false=>exact h1
  |true=>simp_all[sK]
def tQ(gq:Bool)(ops:Array Oper)(done S:List Nat)(k:Nat):List Nat:=bif J5 gq ops k then S else(bif my gq ops done S k k then k::S else S)
def Q7(gq:Bool)(ops:Array Oper)(done:List Nat):Nat->List Nat
 |0=>[]
 |k+1=>tQ gq ops done (Q7 gq ops done k) k
theorem jz{ops:Array Oper}{done:List Nat}:∀{m i:Nat},i∈Q7 gq ops done m->i<m/\J5 gq ops i=Tc/\my gq ops done (Q7 gq ops done i) i i=Ta
 |0,i,h=>by cases h
 |m+1,i,h=>by
  unfold Q7 tQ at h;cases hi:J5 gq ops m with
  |true=>rw[hi,zK]at h;have:=jz h;grind
  |false=>
   rw[hi,zL]at h;cases ho:my gq ops done (Q7 gq ops done m) m m with
   |false=>rw[ho,zL]at h;have:=jz h;grind
   |true=>rw[ho,zK]at h;rcases Tz.1 h with rfl|h;simp_all;have:=jz h;grind
theorem zP{ops:Array Oper}{done:List Nat}{m:Nat}:∀{m' i:Nat},m<=m'->i∈Q7 gq ops done m->i∈Q7 gq ops done m'
 |0,i,h,hi=>by simp_all
 |m'+1,i,h,hi=>by rcases Nat.eq_or_lt_of_le h with e|e;simp_all;have:=zP (m':=m') (by omega) hi;unfold Q7 tQ;grind
theorem tK{done:List Nat}(b:i<m)(h1:J5 gq ops i=Tc)(c:my gq ops done (Q7 gq ops done i) i i=Ta):i∈Q7 gq ops done m:=by refine zP (m:=i+1) b ?_;unfold Q7 tQ;simp_all
theorem tD{done:List Nat}{m i p:Nat}(h:i∈Q7 gq ops done m)(c:p<i)(e:Region.waitsFor .any ops i p=Ta):(J5 gq ops p=Ta->p∈done)/\(J5 gq ops p=Tc->p∈Q7 gq ops done m):=by obtain⟨h1,j,f⟩:=jz h;obtain⟨a,b⟩:=tm.1 f p c e;exact⟨a,λhi=>zP (by omega) (b hi)⟩
def Q8(b c:List Nat)(n:Nat):List Nat:=(TZ n).filter λi=>bif Jr c i then !(Jr b i)else Tc
theorem BF{c b:List Nat}:i∈Q8 c b n↔i<n/\i∈b/\i∉c:=by
 unfold Q8;rw[UI,Ui];constructor;rintro⟨h1,e⟩;cases hn:Jr b i with
 |false=>simp_all
 |true=>rw[hn,zK]at e;grind [Yt,sK]
 rintro⟨h1,e,f⟩;refine⟨h1,?_⟩;rw[sK e,zK];grind [Yt]
theorem AM(b c:List Nat)(n:Nat):(Q8 b c n).Pairwise (· < ·):=List.pairwise_lt_range.filter _
def wI(P:Program)(n:Nat)(h:za)(ld:Bool)(ops:Array Oper)(K:bK->Prop):List Nat->bK->Prop
 |[],e=>K e
 |i::l,e=>match ops[i]? with
  |some o=>bif ov o then(bif (bif ld then Ta else !(ye o))then(bif Yr o.op then(match wh ops e o.guard with
   |some c=>bif jy n c o.dst then(bif known e c o.op.operands.toList then(match Zu e c with
    |some g=>J3 P o (i0 e c) g h λv=>wI P n h ld ops K l (putO e o.dst c v)
    |none=>False)else False)else False
   |none=>False)else False)else False)else False
  |none=>False
def qp(ops:Array Oper)(f:Nat->Value):List Nat->Act->Act
 |[],a=>a
 |i::l,a=>qp ops f l (a.put (jl ops i) (f i))
theorem Sa(b:ov o=Ta){ρ:Operand->Value}{g:Option Bool}{K:Value->Prop}(H:J3 P o ρ g h K):
  ∃v,K v/\(fK g->∀h',LdOK o ρ h h'->QExec P (execOp ρ o) h' (.value v)):=by
 unfold ov at b;cases hb:pI o with
 |true=>exact KH hb H
 |false=>rw[hb,zL]at b;unfold Ev at b;split at b;rename_i x i c;unfold J3 at H;rw[c]at H;obtain⟨v,h1,e⟩:=zw H g;grind;cases b
theorem D1{ops:Array Oper}{f:Nat->Value}:∀{l:List Nat} {a:Act},(qp ops f l a).tmps.size=a.tmps.size/\(qp ops f l a).defers=a.defers
 |[],_=>⟨rfl,rfl⟩
 |i::l,a=>by unfold qp;have:=D1 (ops:=ops) (f:=f) (l:=l) (a:=a.put (jl ops i) (f i));rw[this.1,this.2];exact⟨size_put _ _ _,w8 _ _ _⟩
theorem yo{ops:Array Oper}{f:Nat->Value}{s:Nat}:∀{l:List Nat} {a:Act},(∀i∈l,jl ops i≠Td s)->qc (qp ops f l a) s=qc a s
 |[],_,_=>rfl
 |i::l,a,h=>by unfold qp;rw[yo λj b=>h j (TS _ b)];exact ja (h i TQ)
theorem yO{ops:Array Oper}{f:Nat->Value}:∀{l m:List Nat} {a:Act},qp ops f (l++m) a=qp ops f m (qp ops f l a)
 |[],_,_=>rfl
 |i::l,m,a=>by rw[Um];show qp ops f (l++m) _=qp ops f m (qp ops f l _);exact yO
theorem uo{P:Program}{n:Nat}{h:za}{ld:Bool}{ops:Array Oper}{K:bK->Prop}(B:Nat->Value):∀{l:List Nat} {e:bK} {a:Act},l.Nodup->wI P n h ld ops K l e->Sat n e a->∃(f:Nat->Value) (y:bK),K y/\Sat n y (qp ops f l a)/\(∀i,i∉l->f i=B i) /\
  ∀b i C,l=b++i::C->∃o,ops[i]?=Td o/\(ld=Tc->ye o=Tc)/\Yr o.op=Ta/\(∀t,o.dst=Td t->t<n) /\ (Ue o (yielded ops (qp ops f b a).tmps)=Ta->∀h',LdOK o (qp ops f b a).eval h h'->QExec P (execOp (qp ops f b a).eval o) h' (.value (f i)))/\(Ue o (yielded ops (qp ops f b a).tmps)≠Ta->f i=undef)
 |[],e,a,_,H,hs=>⟨B,e,H,hs,λ_ _=>rfl,λb i C h=>by simp at h⟩
 |i::l,e,a,hnd,H,hs=>by
  unfold wI at H;cases ho:ops[i]? with
  |none=>simp_all
  |some o=>
   rw[ho]at H;simp only at H;cases hq:ov o with
   |false=>simp_all
   |true=>
    rw[hq,zK]at H;cases hld:(bif ld then Ta else !(ye o))with
    |false=>simp_all
    |true=>
     rw[hld,zK]at H;cases hns:Yr o.op with
     |false=>simp_all
     |true=>
      rw[hns,zK]at H;split at H;rename_i c J;cases hd:jy n c o.dst with
      |false=>simp_all
      |true=>
       rw[hd,zK]at H;cases hk:known e c o.op.operands.toList with
       |false=>simp_all
       |true=>
        rw[hk,zK]at H;split at H;rename_i g L;rw[Ut]at hnd;obtain⟨v,F,I⟩:=Sa hq H;have r:jl ops i=o.dst:=qu ho;obtain⟨u,w,p⟩:∃u,(valid (qc a) c->u=v)/\(¬valid (qc a) c->u=undef):=by by_cases k:valid (qc a) c;simp_all;simp_all
        have q:=xr hs J;obtain⟨f,y,g1,g2,N,O⟩:=uo (λx=>if x=i then u else B x) (a:=a.put o.dst u) hnd.2 F (hs.putO hd w p);have m:f i=u:=by rw[N i hnd.1,zA rfl]
        have D:∀b,qp ops f (i::b) a=qp ops f b (a.put o.dst u):=λb=>by show qp ops f b (a.put (jl ops i) (f i))=_;rw[r,m]
        refine⟨f,y,g1,by grind,λj Q=>?_,λb j C A=>?_⟩;simp_all;cases b with
        |nil=>simp only[UO,U4]at A;obtain⟨rfl,rfl⟩:=A;refine⟨o,ho,λA=>by simp_all,hns,λt E=>by rw[E]at hd;unfold jy at hd;simp_all,λz h' M=>?_,λz=>?_⟩;show QExec P (execOp a.eval o) h' _;have k:=q.1 z;rw[tF hs k hns hk,m,w k];exact I (Zv hs L k) h' (LdOK.congr (λx G=>(Yq hs k hk x G).symm) M);rw[m];exact p λk=>z (q.2 k)
        |cons S b=>grind
        exact H.elim
      exact H.elim
def pJ(gq:Bool)(ops:Array Oper)(U:List Nat):Nat->Bool
 |0=>Tc
 |k+1=>bif (match ops[k]? with
  |some o=>bif ye o then(bif J5 gq ops k then Tc else !(Jr U k))else Tc
  |none=>Tc)then Ta else pJ gq ops U k
theorem Fa{ops:Array Oper}{U:List Nat}:∀{m:Nat},pJ gq ops U m=Tc->∀k o,k<m->ops[k]?=Td o->ye o=Ta->J5 gq ops k=Tc->k∈U
 |0,_,k,o,hk,_,_,_=>by omega
 |m+1,h,k,o,hk,ho,hl,hi=>by
  unfold pJ at h;cases hb:(match ops[m]? with
   |some o=>bif ye o then(bif J5 gq ops m then Tc else !(Jr U m))else Tc
   |none=>Tc)with
  |true=>simp_all
  |false=>
   rw[hb,zL]at h;rcases Up k m with h1|h1;exact Fa h k o h1 ho hl hi;have:k=m:=by omega
   simp_all[Yt]
def nv(gq:Bool)(ops:Array Oper)(U:List Nat)(e:bK)(h0 h':za)(K:Prop):Nat->Prop
 |0=>K
 |k+1=>match ops[k]? with
  |some o=>bif (bif ye o then(bif J5 gq ops k then Tc else !(Jr U k))else Tc)then(match o.op,wh ops e o.guard with
   |.load _ a,some c=>bif known e c [a]then(match i0 e c a,Zu e c with
    |.pointer (Td p),some g=>req g (h'[p.block]?=h0[p.block]?)/\nv gq ops U e h0 h' K k
    |_,_=>False)else False
   |_,_=>False)else nv gq ops U e h0 h' K k
  |none=>nv gq ops U e h0 h' K k
theorem EI{ops:Array Oper}{U:List Nat}{e:bK}{h0 h':za}{K:Prop}:∀{m:Nat},nv gq ops U e h0 h' K m->K/\∀k o,k<m->ops[k]?=Td o->ye o=Ta->J5 gq ops k=Tc->k∉U ->
  ∃t a p c g,o.op=.load t a/\wh ops e o.guard=Td c/\Zu e c=Td g/\known e c [a]=Ta/\i0 e c a=.pointer (Td p)/\req g (h'[p.block]?=h0[p.block]?)
 |0,H=>⟨H,λk o j=>by omega⟩
 |m+1,H=>by
  unfold nv at H;have step:nv gq ops U e h0 h' K m->(∀o,ops[m]?=Td o->ye o=Ta->J5 gq ops m=Tc->m∉U->∃t a p c g,o.op=.load t a/\wh ops e o.guard=Td c/\Zu e c=Td g/\known e c [a]=Ta/\i0 e c a=.pointer (Td p)/\req g (h'[p.block]?=h0[p.block]?)) ->
    K/\∀k o,k<m+1->ops[k]?=Td o->ye o=Ta->J5 gq ops k=Tc->k∉U->∃t a p c g,o.op=.load t a/\wh ops e o.guard=Td c/\Zu e c=Td g/\known e c [a]=Ta/\i0 e c a=.pointer (Td p)/\req g (h'[p.block]?=h0[p.block]?):=λh l=>by
   obtain⟨h1,f⟩:=EI h;grind
  cases ho:ops[m]? with
  |none=>grind
  |some o=>
   rw[ho]at H;simp only at H;have same:∀b,ops[m]?=Td b->b=o:=λb h1=>TY (h1.symm.trans ho);cases hc:(bif ye o then(bif J5 gq ops m then Tc else !(Jr U m))else Tc)with
   |false=>rw[hc]at H;refine step H λb h1 f i n=>?_;rw[same b h1]at f;rw[f,i,zK,zL]at hc;grind [Yt]
   |true=>grind
def oS(gq:Bool)(ops:Array Oper)(T:List Nat)(e:bK)(h0 h':za)(K:Prop):Prop:=bif pJ gq ops (kP ops ops.size T) ops.size then nv gq ops (kP ops ops.size T) e h0 h' K ops.size else K
def tY(ops:Array Oper)(todo:List Nat)(j:Nat):Bool:=todo.all λk=>bif Nat.beq k j then Ta else !(Jr (kP ops ops.size [j]) k)
def kY(gq:Bool)(P:Program)(n:Nat)(ops:Array Oper)(h0:za)(K:bK->za->Prop):Nat->List Nat->List Nat->bK->za->Prop
 |_,_,[],e,h=>K (clean e) h
 |0,_,_::_,_,_=>False
 |f+1,T,b::l0,e,h=>vH (λj=>match ops[j]? with
  |some o=>(match wh ops e o.guard with|some c=>bif jy n c o.dst then l7 P o e c h λv h'=>wI P n h' Tc ops (λi=>oS gq ops (j::T) i h0 h' (kY gq P n ops h0 K f (j::T) (iP j (b::l0)) i h')) (Q8 (Q7 gq ops T ops.size) (Q7 gq ops (j::T) ops.size) ops.size) (putO e o.dst c v)else False|none=>False)
  |none=>False) (pF (tY ops (b::l0)) (b::l0))
theorem HM{K:bK->za->Prop}{f:Nat}{T todo:List Nat}(H:kY gq P n ops h0 K (f+1) T todo e h){j:Nat}(b:j∈todo)(k:tY ops todo j=Ta):match ops[j]? with
  |some o=>(match wh ops e o.guard with|some c=>bif jy n c o.dst then l7 P o e c h λv h'=>wI P n h' Tc ops (λi=>oS gq ops (j::T) i h0 h' (kY gq P n ops h0 K f (j::T) (iP j todo) i h')) (Q8 (Q7 gq ops T ops.size) (Q7 gq ops (j::T) ops.size) ops.size) (putO e o.dst c v)else False|none=>False)
  |none=>False:=by
 cases todo with
 |nil=>cases b
 |cons m l=>exact Gu H j (zM b k)
def W8(gq:Bool)(ops:Array Oper)(k:Nat)(S:List Nat):Nat->Bool
 |0=>Ta
 |p+1=>bif (match jl ops p with
  |some t=>bif Jr S t then(bif Region.waitsFor .any ops k p then Ta else bif J5 gq ops p then Region.waitsFor .any ops p k else Tc)else Ta
  |none=>Ta)then W8 gq ops k S p else Tc
theorem Yu{ops:Array Oper}{k:Nat}{S:List Nat}:∀{m:Nat},W8 gq ops k S m=Ta->∀p t,p<m->jl ops p=Td t->t∈S->Region.waitsFor .any ops k p=Ta\/(J5 gq ops p=Ta/\Region.waitsFor .any ops p k=Ta)
 |0,_,p,t,hp,_,_=>by omega
 |m+1,h,p,t,hp,hd,ht=>by
  simp only[W8]at h;cases hb:(match jl ops m with
   |some t=>bif Jr S t then(bif Region.waitsFor .any ops k m then Ta else bif J5 gq ops m then Region.waitsFor .any ops m k else Tc)else Ta
   |none=>Ta)with
  |false=>simp_all
  |true=>
   rw[hb]at h;rcases Up p m with h1|h1;exact Yu h p t h1 hd ht;have:p=m:=by omega
   simp_all[sK]
def W9(gq:Bool)(ops:Array Oper):Nat->Bool
 |0=>Ta
 |k+1=>bif (match ops[k]? with
  |some o=>W8 gq ops k (tmpsOf o.op.operands.toList) ops.size
  |none=>Ta)then W9 gq ops k else Tc
theorem Yv{ops:Array Oper}:∀{m:Nat},W9 gq ops m=Ta->∀k o,k<m->ops[k]?=Td o->W8 gq ops k (tmpsOf o.op.operands.toList) ops.size=Ta
 |0,_,k,o,hk,_=>by omega
 |m+1,h,k,o,hk,ho=>by
  unfold W9 at h;cases hb:(match ops[m]? with
   |some o=>W8 gq ops m (tmpsOf o.op.operands.toList) ops.size
   |none=>Ta)with
  |false=>simp_all
  |true=>rw[hb,zK]at h;rcases Up k m with h1|h1;exact Yv h k o h1 ho;grind
def oL(ops:Array Oper)(o:Oper):List Nat:=match o.guard with
 |none=>[]
 |some (j,_)=>match jl ops j with
  |some t=>[t]
  |none=>[]
def nN(ops:Array Oper):Nat->Bool
 |0=>Ta
 |k+1=>bif (match ops[k]? with
  |some o=>bif Yr o.op then m5 ops k (oL ops o) ops.size else Tc
  |none=>Ta)then nN ops k else Tc
theorem uY{ops:Array Oper}:∀{m:Nat},nN ops m=Ta->∀k o,k<m->ops[k]?=Td o->Yr o.op=Ta/\m5 ops k (oL ops o) ops.size=Ta
 |0,_,k,o,hk,_=>by omega
 |m+1,h,k,o,hk,ho=>by
  unfold nN at h;cases hb:(match ops[m]? with
   |some o=>bif Yr o.op then m5 ops m (oL ops o) ops.size else Tc
   |none=>Ta)with
  |false=>simp_all
  |true=>rw[hb,zK]at h;rcases Up k m with h1|h1;exact uY h k o h1 ho;grind
theorem J6(h:∀t∈oL ops o,qc a t=qc b t):Ue o (yielded ops a.tmps)=Ue o (yielded ops b.tmps):=by
 unfold Ue;cases hg:o.guard with
 |none=>rfl
 |some f=>
  obtain⟨j,p⟩:=f;have:yielded ops a.tmps j=yielded ops b.tmps j:=by
   unfold yielded;cases hd:(ops[j]?).bind (·.dst)with
   |none=>rfl
   |some t=>
    have e:jl ops j=Td t:=by
     unfold jl;cases hoj:ops[j]? with
     |none=>simp_all
     |some i=>simp_all
    have c:=h t (by unfold oL;simp_all);unfold qc at c;simp only[Uv]at c;simp only[U0];cases h1:a.tmps[t]? <;> cases h2:b.tmps[t]? <;> rw[h1,h2]at c <;> simp at c <;> first|rfl|(subst c;rfl)|(rw[<-c];rfl)|(rw[c];rfl)
  grind
def mh(gq:Bool)(ops:Array Oper):Bool:=bif nN ops ops.size then(bif Q5 ops ops.size then(bif oI ops ops.size then W9 gq ops ops.size else Tc)else Tc)else Tc
theorem CK(h:mh gq ops=Ta):nN ops ops.size=Ta/\Q5 ops ops.size=Ta/\oI ops ops.size=Ta/\W9 gq ops ops.size=Ta:=by unfold mh at h;simp_all
structure St7 (gq:Bool) (P:Program) (n:Nat) (ops:Array Oper) (h0:za) (K:bK->za->Prop) (f:Nat->Value) (a0:Act) (listed:Array Bool) (a b:Act) (e:bK) (h:za) (done todo:List Nat):Prop where
 inv:HeadInv .any ops ops.size listed
 ag:∀s,(∀i o,ops[i]?=Td o->J5 gq ops i=Tc->listed.getD i Tc=Tc->o.dst≠Td s)->qc a s=qc b s
 sz:a.tmps.size=n
 ad:a.defers=[]
 sb:Sat n e b
 qv:∀i o t,ops[i]?=Td o->i∈Q7 gq ops done ops.size->o.dst=Td t->qc b t=f i/\t<n
 qx:∀i o,ops[i]?=Td o->i∈Q7 gq ops done ops.size->listed.getD i Tc=Tc->(Ue o (yielded ops b.tmps)=Ta->∀h',LdOK o b.eval h0 h'->QExec P (execOp b.eval o) h' (.value (f i)))/\(Ue o (yielded ops b.tmps)≠Ta->f i=undef)
 tt:∀j,j∈iO gq ops->(j∈todo↔listed.getD j Tc=Tc)
 ch:∀j,j∈iO gq ops->(listed.getD j Tc=Ta↔j∈done)
 dn:∀j∈done,j∈iO gq ops
 th:∀j∈todo,j∈iO gq ops
 nd:todo.Nodup
 wt:∃fu,todo.length<=fu/\kY gq P n ops h0 K fu done todo e h
 kp:∀i o,ops[i]?=Td o->ye o=Ta->J5 gq ops i=Tc->listed.getD i Tc=Tc->Ue o (yielded ops b.tmps)=Ta->LdOK o b.eval h0 h
 sm:Same (wb ops.toList) a0 a
theorem A1{ld:Bool}(G:nN ops ops.size=Ta)(y:Q5 ops ops.size=Ta)(O:oI ops ops.size=Ta)(M:W9 gq ops ops.size=Ta){f:Nat->Value}(F:b.tmps.size=n)(m:∀i∈l,i<ops.size)(aa:∀i∈l,J5 gq ops i=Tc)(w:l.Pairwise (· < ·)) (H:∀c i e,l=c++i::e->∃o,ops[i]?=Td o/\(ld=Tc->ye o=Tc)/\Yr o.op=Ta/\(∀t,o.dst=Td t->t<n) /\ (Ue o (yielded ops (qp ops f c b).tmps)=Ta->∀h',LdOK o (qp ops f c b).eval h h'->QExec P (execOp (qp ops f c b).eval o) h' (.value (f i)))/\(Ue o (yielded ops (qp ops f c b).tmps)≠Ta->f i=undef)):
  ∀i o,ops[i]?=Td o->i∈l->(∀t,o.dst=Td t->qc (qp ops f l b) t=f i/\t<n)/\(ld=Tc->ye o=Tc) /\ (Ue o (yielded ops (qp ops f l b).tmps)=Ta->∀h',LdOK o (qp ops f l b).eval h h'->QExec P (execOp (qp ops f l b).eval o) h' (.value (f i)))/\(Ue o (yielded ops (qp ops f l b).tmps)≠Ta->f i=undef):=by
 intro i o E hi;obtain⟨c,e,rfl⟩:=List.append_of_mem hi;obtain⟨z,q1,U,q4,V,Z,Y⟩:=H c i e rfl;have:z=o:=TY (q1.symm.trans E);subst this;have p:i<ops.size:=m i (by simp);have hs:∀j∈e,i<j:=λj k=>by rw[Vt]at w;simp_all
 have q:qp ops f (c++i::e) b=qp ops f e ((qp ops f c b).put (jl ops i) (f i)):=by rw[yO];rfl
 have r:jl ops i=z.dst:=qu E;have C:∀j∈i::e,Region.waitsFor .any ops i j=Ta->False:=λj k I=>by obtain⟨oj,L,x,J,S,T⟩:=Region.waitsFor_spec I;have h1:=xq y i oj p L x J S;grind
 have Q:qp ops f (c++i::e) b=qp ops f (i::e) (qp ops f c b):=yO;have A:∀t∈tmpsOf z.op.operands.toList,qc (qp ops f (c++i::e) b) t=qc (qp ops f c b) t:=λt u=>by rw[Q];refine yo λj k D=>C j k ?_;rcases Yu (Yv M i z p E) j t (m j (by simp[k])) D u with h|h;exact h;simp_all
 have N:Ue z (yielded ops (qp ops f (c++i::e) b).tmps)=Ue z (yielded ops (qp ops f c b).tmps):=J6 λt u=>by rw[Q];exact yo λj k D=>C j k (Qk (uY G i z p E).2 j t (m j (by simp[k])) D u)
 rw[N];refine⟨λt u=>?_,U,λI h' hh=>?_,Y⟩;have B:=V t u;refine⟨?_,B⟩;rw[q,yo λj k D=>?_,r,u,xp (by rw[D1.1,F];exact B)];have:=Ys O i j t p (m j (by simp[k])) (by rw[r,u]) D;grind;rw[wS q4 A];exact Z I h' (LdOK.congr (λx J=>(W5 A x J).symm) hh)
theorem IE{K:bK->za->Prop}{Q:Exit->Act->World->Prop}(B:World)(hmix:mh gq ops=Ta){a0:Act}
    (hQ:∀e' a' d' h',Sat n e' a'->Same (wb ops.toList) a0 a'->K e' h'->Q .normal a' (mk B d' h')):
    ∀(N:Nat) (U:List Nat) (listed:Array Bool) (f:Nat->Value) (a b:Act) (e:bK) (h:za) (d:Nat) (done todo:List Nat),U.length=N->U.Nodup->(∀k,k∈U↔k<ops.size/\listed.getD k Tc=Tc) ->
      St7 gq P n ops h0 K f a0 listed a b e h done todo->wpAny P .any ops Q N listed a (mk B d h):=by
  obtain⟨hng,hback,hnd,hsl⟩:=CK hmix
  have hgd:∀(i:Nat) (o:Oper),ops[i]?=Td o->Yr o.op=Ta/\m5 ops i (oL ops o) ops.size=Ta:=λi o ho=>uY hng i o (TD.1 ho).1 ho
  have hslot0:∀k o,ops[k]?=Td o->∀p t,p<ops.size->jl ops p=Td t->t∈tmpsOf o.op.operands.toList->Region.waitsFor .any ops k p=Ta\/(J5 gq ops p=Ta/\Region.waitsFor .any ops p k=Ta):=λk o ho p t hp hd ht=>
    Yu (Yv hsl k o (TD.1 ho).1 ho) p t hp hd ht
  have hbk:∀k p,Region.waitsFor .any ops k p=Ta->p<k:=λk p hw=>by
    obtain⟨oj,hoj,x,hx,hb,hon⟩:=Region.waitsFor_spec hw
    have:=xq hback k oj (TD.1 hoj).1 hoj x hx hb
    omega
  have fin:∀{listed:Array Bool} {f:Nat->Value} {a b:Act} {e:bK} {h:za} {d:Nat} {done todo:List Nat},(∀k,k<ops.size->listed.getD k Tc=Ta)->St7 gq P n ops h0 K f a0 listed a b e h done todo->Q .normal a (mk B d h):=by
    intro listed f a b e h d done todo hall S
    have htodo:todo=[]:=by
      cases htd:todo with
      |nil=>rfl
      |cons j l=>
        have hm:j∈todo:=by rw[htd];simp
        have hj:=S.th j hm
        have:=(S.tt j hj).1 hm
        rw[hall j (qX.1 hj).1]at this;cases this
    obtain⟨fu,_,hw⟩:=S.wt
    rw[htodo]at hw
    have hw:K (clean e) h:=by cases fu <;> exact hw
    have hv:∀s,qc a s=qc b s:=λs=>S.ag s λi o ho hq hl=>by
      grind
    have hs:Sat n e a:=⟨S.ad,S.sz,λx hx=>by
      have:=S.sb.all x hx
      have e1:qc a=qc b:=funext hv
      grind⟩
    exact hQ _ _ _ _ hs.clean S.sm hw
  intro N
  induction N with
  |zero=>
    intro U listed f a b e h d done todo hU _ hmem S
    have hUn:U=[]:=Vl.1 hU
    subst hUn
    have hall:∀k,k<ops.size->listed.getD k Tc=Ta:=λk hk=>by
      simp_all
    refine⟨?_,fin hall S⟩
    rw[List.eq_nil_iff_forall_not_mem]
    intro j hj
    obtain⟨h1,o,ho,_⟩:=mem_ready.1 hj
    grind
  |succ N ih=>
    intro U listed f a b e h d done todo hU hdup hmem S
    have hex:∃k,k<ops.size/\listed.getD k Tc=Tc:=by
      cases U with
      |nil=>cases hU
      |cons k U=>exact⟨k,(hmem k).1 TQ⟩
    refine⟨λhr=>?_,λi hi=>?_⟩
    · exfalso
      obtain⟨k,hk1,hk2,hk3⟩:=Ow hex
      have:k∈Region.ready .any ops listed:=mem_ready.2 ⟨by rw[<-hk2];simp[S.inv.size,hk1],ops[k],UA hk1,λx hx hb=>hk3 _ (xq hback k ops[k] hk1 (UA hk1) x hx hb)⟩
      grind
    · obtain⟨hun1,o,ho,hall⟩:=mem_ready.1 hi
      have hun:listed.getD i Tc=Tc:=getD_both hun1
      have hlt:i<ops.size:=(TD.1 ho).1
      obtain⟨hns,hgs⟩:=hgd i o ho
      have hils:i<listed.size:=by rw[S.inv.size];exact hlt
      have hU':(U.erase i).length=N:=by rw[List.length_erase_of_mem ((hmem i).2 ⟨hlt,hun⟩),hU];rfl
      have hdup':(U.erase i).Nodup:=hdup.erase i
      have hmem':∀k,k∈U.erase i↔k<ops.size/\(listed.setIfInBounds i Ta).getD k Tc=Tc:=λk=>by
        rw[hdup.mem_erase_iff,hmem k]
        by_cases hk:i=k
        · subst hk;simp[hils]
        · rw[getD_set_ne Tc hk];grind
      have inv':=S.inv.set hi hlt
      have hset:∀k,k≠i->(listed.setIfInBounds i Ta).getD k Tc=listed.getD k Tc:=λk hk=>getD_set_ne Tc (Ne.symm hk)
      have hsetI:(listed.setIfInBounds i Ta).getD i Tc=Ta:=by simp[hils]
      have hops:∀t∈tmpsOf o.op.operands.toList,qc a t=qc b t:=λt ht=>S.ag t λk ok hok hq hl hd=>by
        rcases hslot0 i o ho k t (TD.1 hok).1 (by rw[qu hok,hd]) ht with hw|hw
        grind [W6]
        grind
      have hexec:=wS hns hops
      have hsame:∀v,Same (wb ops.toList) a0 (a.put o.dst v):=λv=>S.sm.trans (Same.put a o.dst _ λt ht=>A3 (by
          grind) t ht)
      unfold wpOp
      rw[ho]
      simp only
      have hwab:Ue o (yielded ops a.tmps)=Ue o (yielded ops b.tmps):=J6 λt ht=>S.ag t λk ok hok hq hl hd=>by
        have hw:=Qk hgs k t (TD.1 hok).1 (by rw[qu hok,hd]) ht
        grind [W6]
      cases hq:J5 gq ops i with
      |false=>
        have hrdyG:∀m k ok,k<m->ops[k]?=Td ok->J5 gq ops k=Tc->(∀p,Region.waitsFor .any ops k p=Ta->listed.getD p Tc=Ta)->k∈Q7 gq ops done ops.size:=by
          intro m
          induction m with
          |zero=>omega
          |succ m ihm=>
            intro k ok hk hok hkh hkw
            refine tK (TD.1 hok).1 hkh (tm.2 λp hp hw=>⟨λhph=>?_,λhph=>?_⟩)
            · have hpl:=hkw p hw
              exact(S.ch p (qX.2 ⟨by grind,hph⟩)).1 hpl
            · have hps:p<ops.size:=by have:=(TD.1 hok).1;omega
              have hin:=ihm p ops[p] (by omega) (UA hps) hph λq hq2=>Ql S.inv (hkw p hw) hq2
              grind [jz,tK]
        have hrdy:=hrdyG (i+1) i o (by omega) ho hq λp hw=>W6 hi hw
        have hqx:=S.qx i o ho hrdy hun
        have hnot:i∉iO gq ops:=λhm=>by rw[(qX.1 hm).2]at hq;cases hq
        have hunset:∀k,(listed.setIfInBounds i Ta).getD k Tc=Tc->listed.getD k Tc=Tc:=λk hu=>by
          grind
        have hfin:wpAny P .any ops Q N (listed.setIfInBounds i Ta) (a.put o.dst (f i)) (mk B d h):=by
         refine ih _ _ f _ b e h d done todo hU' hdup' hmem' { S with inv:=inv',ag:=λs hs=>?_,sz:=by rw[size_put];exact S.sz,ad:=by rw[w8];exact S.ad,tt:=λj hj=>(by have:j≠i:=λe=>hnot (e ▸ hj);rw[hset j this];exact S.tt j hj),ch:=λj hj=>?_,qx:=λk ok hok hk hu=>S.qx k ok hok hk (hunset k hu),kp:=λk ok hok hl hkh hk=>?_,sm:=hsame _ }
         · by_cases hd:o.dst=Td s
           · obtain⟨hv,hsn⟩:=S.qv i o s ho hrdy hd
             rw[hd,xp (by rw[S.sz];exact hsn),hv]
           · rw[ja hd]
             refine S.ag s λk ok hok hqk hlk=>?_
             grind
         · have:j≠i:=λe=>hnot (e ▸ hj)
           rw[hset j this];exact S.ch j hj
         · by_cases hki:k=i
           grind
           · rw[hset k hki]at hk;exact S.kp k ok hok hl hkh hk
        by_cases hw:Ue o (yielded ops a.tmps)=Ta
        · rw[zA hw]
          left
          unfold Oper.wp
          rw[hexec,hqx.1 (by grind) h (by
            cases hl:ye o with
            |false=>exact .inl hl
            |true=>exact S.kp i o ho hl hq hun (by grind)) B d,Oper.upon_value]
          exact hfin
        grind
      |true=>
        have hin:i∈iO gq ops:=qX.2 ⟨hlt,hq⟩
        have hit:i∈todo:=(S.tt i hin).2 hun
        obtain⟨fu,hfu,hW0⟩:=S.wt
        have hcl:∀p q,(listed.setIfInBounds i Ta).getD p Tc=Ta->Region.waitsFor .any ops p q=Ta->(listed.setIfInBounds i Ta).getD q Tc=Ta:=λp q h1 h2=>Ql inv' h1 h2
        have hcand:tY ops todo i=Ta:=by
          unfold tY
          rw[T7]
          intro k hk
          cases hki:Nat.beq k i with
          |true=>rfl
          |false=>
            have hne:k≠i:=λe=>by rw[e]at hki;simp at hki
            cases hr:Jr (kP ops ops.size [i]) k with
            |false=>rfl
            |true=>
              exfalso
              have:=xZ hcl (m:=ops.size) (S:=[i]) (λj hj=>by grind) k (Yt hr)
              rw[hset k hne]at this
              have h2:=(S.tt k (S.th k hk)).1 hk
              grind
        have hW:match ops[i]? with
            |some o=>(match wh ops e o.guard with|some c=>bif jy n c o.dst then l7 P o e c h λv h'=>wI P n h' Tc ops (λe'=>oS gq ops (i::done) e' h0 h' (kY gq P n ops h0 K (fu-1) (i::done) (iP i todo) e' h')) (Q8 (Q7 gq ops done ops.size) (Q7 gq ops (i::done) ops.size) ops.size) (putO e o.dst c v)else False|none=>False)
            |none=>False:=by
          cases fu with
          |zero=>grind
          |succ fu=>
            grind [HM]
        rw[ho]at hW
        simp only at hW
        cases hch:wh ops e o.guard with
        |none=>grind
        |some c=>
        rw[hch]at hW
        simp only at hW
        cases hd:jy n c o.dst with
        |false=>grind
        |true=>
          rw[hd,zK]at hW
          have hwv:=xr S.sb hch
          have key:∀(v u:Value) (d':Nat) (h':za),(valid (qc b) c->u=v)->(¬valid (qc b) c->u=undef)->wI P n h' Tc ops (λe'=>oS gq ops (i::done) e' h0 h' (kY gq P n ops h0 K (fu-1) (i::done) (iP i todo) e' h')) (Q8 (Q7 gq ops done ops.size) (Q7 gq ops (i::done) ops.size) ops.size) (putO e o.dst c v)->wpAny P .any ops Q N (listed.setIfInBounds i Ta) (a.put o.dst u) (mk B d' h'):=by
           intro v v2 d' h' hv1 hv0 hK
           have sb1:Sat n (putO e o.dst c v) (b.put o.dst v2):=S.sb.putO hd hv1 hv0
           generalize hbl:Q8 (Q7 gq ops done ops.size) (Q7 gq ops (i::done) ops.size) ops.size=bl at hK
           have hbm:∀k,k∈bl↔k<ops.size/\k∈Q7 gq ops (i::done) ops.size/\k∉Q7 gq ops done ops.size:=λk=>by rw[<-hbl];exact BF
           have hbsort:bl.Pairwise (· < ·):=by rw[<-hbl];exact AM _ _ _
           have hbnd:bl.Nodup:=hbsort.imp λh=>by omega
           obtain⟨f',e2,HK,sb2,hf0,hfx⟩:=uo f hbnd hK sb1
           have hbf:=A1 hng hback hnd hsl (f:=f') (l:=bl) (b:=b.put o.dst v2) sb1.size (λk hk=>((hbm k).1 hk).1) (λk hk=>(jz ((hbm k).1 hk).2.1).2.1) hbsort hfx
           have hbnh:∀k∈bl,J5 gq ops k=Tc:=λk hk=>(jz ((hbm k).1 hk).2.1).2.1
           have hlist':∀j,j∈iO gq ops->((listed.setIfInBounds i Ta).getD j Tc=Ta↔j∈i::done):=λj hj=>by
             by_cases hji:j=i
             · subst hji;grind
             · rw[hset j hji,S.ch j hj];simp[hji]
           have hjl:∀j∈i::done,(listed.setIfInBounds i Ta).getD j Tc=Ta:=λj hj=>by
             rcases Tz.1 hj with rfl|hj
             · exact hsetI
             · exact getD_set_true ((S.ch j (S.dn j hj)).2 hj)
           have hup:∀k,k∈kP ops ops.size (i::done)->(listed.setIfInBounds i Ta).getD k Tc=Ta:=λk hk=>xZ hcl hjl k hk
           have hundone:i∉done:=λhm=>by rw[(S.ch i hin).2 hm]at hun;cases hun
           have hslot1:∀k ok,ops[k]?=Td ok->k∈Q7 gq ops done ops.size->listed.getD k Tc=Tc->∀t∈tmpsOf ok.op.operands.toList,qc (b.put o.dst v2) t=qc b t:=λk ok hok hk hu t ht=>ja λhdo=>by
             rcases hslot0 k ok hok i t hlt (by rw[qu ho,hdo]) ht with hw|hw
             · exact hundone ((tD hk (hbk k i hw) hw).1 hq)
             · rw[W6 hi hw.2]at hu;cases hu
           have hslot2:∀k ok,ops[k]?=Td ok->k∈Q7 gq ops done ops.size->listed.getD k Tc=Tc->∀t∈tmpsOf ok.op.operands.toList,qc (qp ops f' bl (b.put o.dst v2)) t=qc b t:=λk ok hok hk hu t ht=>by
             rw[yo λp hp hdp=>?_]
             · exact hslot1 k ok hok hk hu t ht
             · rcases hslot0 k ok hok p t ((hbm p).1 hp).1 hdp ht with hw|hw
               · exact((hbm p).1 hp).2.2 ((tD hk (hbk k p hw) hw).2 (hbnh p hp))
               · have:=hbnh p hp
                 grind
           have hslot3:∀k ok,ops[k]?=Td ok->k∈Q7 gq ops done ops.size->Ue ok (yielded ops (qp ops f' bl (b.put o.dst v2)).tmps)=Ue ok (yielded ops b.tmps):=λk ok hok hk=>J6 λt ht=>by
             have hwt:∀p,p<ops.size->jl ops p=Td t->Region.waitsFor .any ops k p=Ta:=λp hp hd=>Qk (hgd k ok hok).2 p t hp hd ht
             rw[yo λp hp hdp=>((hbm p).1 hp).2.2 ((tD hk (hbk k p (hwt p ((hbm p).1 hp).1 hdp)) (hwt p ((hbm p).1 hp).1 hdp)).2 (hbnh p hp))]
             exact ja λhdo=>hundone ((tD hk (hbk k i (hwt i hlt (by rw[qu ho,hdo]))) (hwt i hlt (by rw[qu ho,hdo]))).1 hq)
           have hdist:∀k ok t,ops[k]?=Td ok->k≠i->ok.dst=Td t->o.dst≠Td t:=λk ok t hok hki hdk hdo=>by
             have:=Ys hnd k i t (TD.1 hok).1 hlt (by rw[qu hok,hdk]) (by rw[qu ho,hdo])
             exact hki this
           have hne_i:∀k,J5 gq ops k=Tc->k≠i:=λk hk e=>by rw[e,hq]at hk;cases hk
           have hQK:kY gq P n ops h0 K (fu-1) (i::done) (iP i todo) e2 h'/\(∀k ok,ops[k]?=Td ok->ye ok=Ta->J5 gq ops k=Tc->(listed.setIfInBounds i Ta).getD k Tc=Tc->Ue ok (yielded ops (qp ops f' bl (b.put o.dst v2)).tmps)=Ta->LdOK ok (qp ops f' bl (b.put o.dst v2)).eval h0 h'):=by
             unfold oS at HK
             cases hl:pJ gq ops (kP ops ops.size (i::done)) ops.size with
             |false=>
               rw[hl,zL]at HK
               exact⟨HK,λk ok hok hlo hkh hf _=>by rw[hup k (Fa hl k ok (TD.1 hok).1 hok hlo hkh)]at hf;cases hf⟩
             |true=>
               rw[hl,zK]at HK
               obtain⟨g1,g2⟩:=EI HK
               refine⟨g1,λk ok hok hlo hkh hf hw=>.inr (.inr λt a p hop hp=>?_)⟩
               obtain⟨t',a',p',c',g',e1,ec,eg,e2',e3,e4⟩:=g2 k ok (TD.1 hok).1 hok hlo hkh (λhm=>by rw[hup k hm]at hf;cases hf)
               rw[hop]at e1
               injection e1 with _ e1
               subst e1
               have hvc:=(xr sb2 ec).1 hw
               have eb:(qp ops f' bl (b.put o.dst v2)).eval a=i0 e2 c' a:=Yq sb2 hvc e2' a (by simp)
               rw[eb,e3]at hp
               injection hp with hp
               injection hp with hp
               rw[<-hp];exact e4.out (Zv sb2 eg hvc)
           have htt:∀j,j∈iO gq ops->(j∈iP i todo↔(listed.setIfInBounds i Ta).getD j Tc=Tc):=λj hj=>by
             rw[qP]
             by_cases hji:j=i
             · subst hji;rw[hsetI];simp
             · rw[hset j hji,<-S.tt j hj];simp;omega
           refine ih _ _ f' _ (qp ops f' bl (b.put o.dst v2)) e2 h' d' (i::done) (iP i todo) hU' hdup' hmem' ⟨inv',λs hs=>?_,by rw[size_put];exact S.sz,by rw[w8];exact S.ad,sb2,λk ok t hok hk hdk=>?_,λk ok hok hk hu=>?_,htt,hlist',(λj hj=>by
             rcases Tz.1 hj with rfl|hj
             · exact hin
             · exact S.dn j hj),(λj hj=>S.th j (qP.1 hj).1),vW S.nd,⟨fu-1,by have:=DX hit;omega,hQK.1⟩,hQK.2,hsame _⟩
           · -- slots
             have hs':∀k ok,ops[k]?=Td ok->J5 gq ops k=Tc->listed.getD k Tc=Tc->ok.dst≠Td s:=λk ok hok hqk hlk=>hs k ok hok hqk (by rw[hset k (hne_i k hqk)];exact hlk)
             have hbl:∀p∈bl,jl ops p≠Td s:=λp hp hdp=>by
               have hps:=((hbm p).1 hp).1
               have hok:ops[p]?=Td ops[p]:=UA hps
               have hph:=hbnh p hp
               refine hs p _ hok hph ?_ (by rw[<-qu hok];exact hdp)
               cases hlp:(listed.setIfInBounds i Ta).getD p Tc with
               |false=>rfl
               |true=>
                 exfalso
                 rw[hset p (hne_i p hph)]at hlp
                 have:∀m q,q<m->q<ops.size->J5 gq ops q=Tc->listed.getD q Tc=Ta->q∈Q7 gq ops done ops.size:=by
                   intro m
                   induction m with
                   |zero=>omega
                   |succ m ihm=>
                     intro q hqm hqs hqh hql
                     refine tK hqs hqh (tm.2 λp2 hp2 hw2=>⟨λhph2=>?_,λhph2=>?_⟩)
                     · exact(S.ch p2 (qX.2 ⟨by omega,hph2⟩)).1 (Ql S.inv hql hw2)
                     · have hin2:=ihm p2 (by omega) (by omega) hph2 (Ql S.inv hql hw2)
                       obtain⟨_,g2,g3⟩:=jz hin2
                       exact tK hp2 g2 g3
                 exact((hbm p).1 hp).2.2 (this (p+1) p (by omega) hps hph hlp)
             rw[yo hbl]
             by_cases hds:o.dst=Td s
             · rw[hds]
               have hsn:s<n:=by
                 rw[hds]at hd
                 unfold jy at hd
                 simp at hd;exact hd.2
               rw[xp (by rw[S.sz];exact hsn),xp (by rw[S.sb.size];exact hsn)]
             · rw[ja hds,ja hds];exact S.ag s hs'
           · by_cases hkb:k∈bl
             · exact(hbf k ok hok hkb).1 t hdk
             · have hk0:k∈Q7 gq ops done ops.size:=Classical.byContradiction λhc=>hkb ((hbm k).2 ⟨(TD.1 hok).1,hk,hc⟩)
               have hkh:=(jz hk0).2.1
               obtain⟨q1,q2⟩:=S.qv k ok t hok hk0 hdk
               refine⟨?_,q2⟩
               rw[yo λp hp hdp=>?_,ja (hdist k ok t hok (hne_i k hkh) hdk),q1,hf0 k hkb]
               have:=Ys hnd p k t ((hbm p).1 hp).1 (TD.1 hok).1 hdp (by rw[qu hok,hdk])
               subst this;exact hkb hp
           · by_cases hkb:k∈bl
             · obtain⟨_,q2,q3,q4⟩:=hbf k ok hok hkb
               exact⟨λhw h'' _=>q3 hw h'' (.inl (q2 rfl)),q4⟩
             · have hk0:k∈Q7 gq ops done ops.size:=Classical.byContradiction λhc=>hkb ((hbm k).2 ⟨(TD.1 hok).1,hk,hc⟩)
               have hu0:listed.getD k Tc=Tc:=by rw[<-hset k (hne_i k (jz hk0).2.1)];exact hu
               have hx:=S.qx k ok hok hk0 hu0
               rw[hslot3 k ok hok hk0,hf0 k hkb,wS (b:=b) (hgd k ok hok).1 (hslot2 k ok hok hk0 hu0)]
               exact⟨λhw h'' hh=>hx.1 hw h'' (LdOK.congr (λx hx=>(W5 (hslot2 k ok hok hk0 hu0) x hx).symm) hh),hx.2⟩
          by_cases hv:valid (qc b) c
          · rw[zA (by grind)]
            left
            unfold Oper.wp
            rw[hexec]
            refine NK (b:=b) S.sb.defers ?_
            refine As hW S.sb hv B d λv d' h' hK=>⟨by rw[w8];exact S.sb.defers,λv2 hv2=>?_⟩
            have hbv:b.put o.dst v2=b.put o.dst v:=hv2.symm
            by_cases hds:∃t,o.dst=Td t
            · obtain⟨t,ht⟩:=hds
              have htn:t<n:=by
                have hd2:=hd
                rw[ht]at hd2
                unfold jy at hd2
                simp at hd2;exact hd2.2
              have:v2=v:=by
                have e1:qc (b.put o.dst v2) t=qc (b.put o.dst v) t:=by rw[hbv]
                rw[ht,xp (by rw[S.sb.size];exact htn),xp (by rw[S.sb.size];exact htn)]at e1
                exact e1
              grind
            · have hdn:o.dst=Te:=by
                cases hdx:o.dst with
                |none=>rfl
                |some t=>grind
              have e1:a.put o.dst v2=a.put o.dst v:=by rw[hdn];rfl
              grind
          · rw[zv (by grind)]
            obtain⟨v,hK⟩:=Gs hW S.sb hv
            grind
theorem DC{K:bK->za->Prop}{Q:Exit->Act->World->Prop}(B:World)(q:mh gq ops=Ta) (H:wI P n h Ta ops (λA=>kY gq P n ops h K (iO gq ops).length [] (iO gq ops) A h) (Q8 [] (Q7 gq ops [] ops.size) ops.size) e) (C:Sat n e a)
  (hQ:∀A F Z h',Sat n A F->Same (wb ops.toList) a F->K A h'->Q .normal F (mk B Z h')) (d:Nat):wpAny P .any ops Q ops.size (Ve ops.size Tc) a (mk B d h):=by
 obtain⟨D,r,N,L⟩:=CK q;have m:∀k,k∈Q8 [] (Q7 gq ops [] ops.size) ops.size↔k∈Q7 gq ops [] ops.size:=λk=>by rw[BF];exact⟨λh=>h.2.1,λh=>⟨(jz h).1,h,by simp⟩⟩
 have c:=AM [] (Q7 gq ops [] ops.size) ops.size;generalize Q8 [] (Q7 gq ops [] ops.size) ops.size=bl at H m c;have z:bl.Nodup:=c.imp λh=>by omega
 obtain⟨f,V,HK,M,_,O⟩:=uo (λ_=>undef) z H C;have y:=A1 D r N L (f:=f) (l:=bl) (b:=a) C.size (λk J=>(jz ((m k).1 J)).1) (λk J=>(jz ((m k).1 J)).2.1) c O;have w:∀s,(∀i o,ops[i]?=Td o->J5 gq ops i=Tc->(Ve ops.size Tc).getD i Tc=Tc->o.dst≠Td s)->qc a s=qc (qp ops f bl a) s:=λs E=>(yo λp U I=>by have S:=(jz ((m p).1 U)).1;have x:ops[p]?=Td ops[p]:=UA S;exact E p _ x (jz ((m p).1 U)).2.1 (getD_replicate_false _ _) (by rw[<-qu x];exact I)).symm;refine IE B q hQ ops.size (TZ ops.size) _ f a (qp ops f bl a) V h d [] (iO gq ops) List.length_range List.nodup_range (λk=>by rw[Ui,getD_replicate_false];simp) ⟨⟨by simp,λj oj _ T=>(by rw[getD_replicate_false]at T;cases T),λt ht Y=>by omega⟩,w,C.size,C.defers,M,λi o t G hi hd=>(y i o G ((m i).2 hi)).1 t hd,λi o G hi _=>(y i o G ((m i).2 hi)).2.2,(λj u=>by rw[getD_replicate_false];simp[u]),(λj u=>by rw[getD_replicate_false];simp),(λj u=>by cases u),(λj u=>u),IT ops,⟨_,Tm _,HK⟩,λ_ _ _ _ _ _=>λ_=>.inr (.inl (Keep.refl _ _)),Same.refl _ _⟩
def vu:List (Nat×Nat)->Nat->Option Nat
 |[],_=>Te
 |(j,m)::l,i=>bif Nat.beq i j then Td m else vu l i
def regionF(P:Program)(n:Nat)(f:List (Nat×Nat))(id:Nat)(ops:Array Oper)(b:Bool)(K:bK->za->Prop)(e:bK)(h:za):Prop:=
 bif b then(match vu f id with
  |none=>bif Region.lexB .any ops then wQ P n ops h Ta (λc=>K (clean c) h) ops.toList e else False
  |some m=>bif mh (Nat.beq m 7000) ops then wI P n h Ta ops (λc=>kY (Nat.beq m 7000) P n ops h K (iO (Nat.beq m 7000) ops).length [] (iO (Nat.beq m 7000) ops) c h) (Q8 [] (Q7 (Nat.beq m 7000) ops [] ops.size) ops.size) e else False)
 else wR P n ops K ops.toList e h
theorem Yw(l m:List Oper):wb (l++m)=wb l++wb m:=by
 induction l with
 |nil=>rfl
 |cons o l b=>simp only[Um,wb];split <;> simp[b]
theorem BQ(l:P.follows .mixedOrders=Ta){o:List (Nat×Nat)}{id:Nat}{b:Bool}{K:bK->za->Prop} (H:regionF P n o id ops b K e h) (B:World) (d:Nat) (f:Sat n e a) {Q:Exit->Act->World->Prop}
  (i:∀j c k h',Sat n j c->Same (wb ops.toList) a c->K j h'->Q .normal c (mk B k h')):(V7 id ops b).wp P Q a (mk B d h):=by
 unfold regionF at H;cases b with
 |false=>exact wp_region_list (pU B _ _ _ _ _ H f i)
 |true=>
  simp only[zK]at H;split at H;cases hB:Region.lexB .any ops with
  |false=>rw[hB]at H;exact H.elim
  |true=>rw[hB]at H;refine wp_region_quiet (C:=λw=>∃d,w=mk B d h) l hB ⟨d+1,rfl⟩ ?_;refine Bo B _ _ _ H f λj c p r q=>?_;rintro w' ⟨k,rfl⟩;exact i _ _ _ _ p.clean r q
  rename_i m _;cases hB:mh (Nat.beq m 7000) ops with
  |false=>rw[hB]at H;exact H.elim
  |true=>rw[hB]at H;exact wp_region_any l (DC B hB H f i (d+1))
end
section
variable {n:Nat} {e:bK} {a:Act} {ms:List Nat} {P:Program} {h:za} {R:Value -> za -> Prop} {f:FuncId}
@[reducible] def jP:List Atom->Type->Type
 |[],X=>X
 |t::l,X=>t.den->jP l X
def pS{X:Type}:(l:List Atom)->jP l X->(List Value->X->Prop)->Prop
 |[],f,k=>k [] f
 |t::l,f,k=>∀x:t.den,pS l (f x) λvs y=>k (t.enc x::vs) y
def iK{X:Type}:(l:List Atom)->List Value->jP l X->Option X
 |[],[],f=>Td f
 |t::l,v::vs,f=>match t.dec v with
  |some x=>iK l vs (f x)
  |none=>Te
 |_,_,_=>Te
def nq{X:Type}:(l:List Atom)->(List Value->X)->jP l X
 |[],f=>f []
 |t::l,f=>λx=>nq l λvs=>f (t.enc x::vs)
def mU{X Y:Type}:(l:List Atom)->jP l X->jP l Y->jP l (X×Y)
 |[],f,g=>(f,g)
 |_::l,f,g=>λx=>mU l (f x) (g x)
theorem sd{X:Type}:∀{l:List Atom} {vs:List Value} {f:jP l X} {x:X} {k:List Value->X->Prop},iK l vs f=Td x->pS l f k->k vs x
 |[],[],f,x,k,h,g=>by simp only[iK,Tn]at h;subst h;exact g
 |[],_::_,f,x,k,h,g=>by simp[iK]at h
 |_::_,[],f,x,k,h,g=>by simp[iK]at h
 |t::l,v::vs,f,x,k,h,g=>by simp only[iK]at h;split at h;rename_i y b;have:=sd h (g y);grind [Atom.enc_of_dec];cases h
theorem xJ{X:Type}:∀{l:List Atom} {vs:List Value} {f:List Value->X} {x:X},iK l vs (nq l f)=Td x->x=f vs
 |[],[],f,x,h=>by simp only[iK,nq,Tn]at h;exact h.symm
 |[],_::_,f,x,h=>by simp[iK]at h
 |_::_,[],f,x,h=>by simp[iK]at h
 |t::l,v::vs,f,x,h=>by simp only[iK,nq]at h;split at h;rename_i y b;have:=xJ h;grind [Atom.enc_of_dec];cases h
theorem y3{X:Type}:∀{l:List Atom} {f:List Value->X} {k:List Value->X->Prop},(∀vs,k vs (f vs))->pS l (nq l f) k
 |[],_,_,h=>h []
 |_::_,_,_,h=>λ_=>y3 λ_=>h _
abbrev iB:=List (Nat×VT)
def yv:iB->List Atom
 |[]=>[]
 |(_,.one t)::J=>t::yv J
 |(_,.agg l)::J=>l++yv J
def Js(σ:Nat->Option Value):iB->Option (List Value)
 |[]=>Td []
 |(i,.one _)::J=>match σ i,Js σ J with
  |some v,some vs=>Td (v::vs)
  |_,_=>Te
 |(i,.agg l)::J=>match σ i,Js σ J with
  |some (.agg cs),some vs=>bif Nat.beq cs.toList.length l.length then Td (cs.toList++vs)else Te
  |_,_=>Te
def Zw:iB->List Value->bK
 |[],_=>[]
 |(i,.one _)::J,v::vs=>(i,[],v)::Zw J vs
 |(_,.one _)::_,[]=>[]
 |(i,.agg l)::J,vs=>(i,[],.agg (vs.take l.length).toArray)::Zw J (vs.drop l.length)
def lM(e:bK)(i:Nat):Option Value:=match look e i with
 |some ([],v)=>Td v
 |_=>Te
theorem Zx(h:Sat n e a){i:Nat}{v:Value}(b:lM e i=Td v):qc a i=v:=by unfold lM at b;split at b;rename_i u c;simp only[Tn]at b;subst b;exact(h.all _ (W0 c)).1 trivial;cases b
theorem qn{n:Nat}{e:bK}{a:Act}(h:Sat n e a):∀{J:iB} {vs:List Value},Js (lM e) J=Td vs->Js (λi=>Td (qc a i)) J=Td vs
 |[],vs,hv=>hv
 |(i,.one t)::J,vs,hv=>by simp only[Js]at hv ⊢;split at hv;rename_i v us h1 b;simp only[qn h b,Zx h h1];exact hv;cases hv
 |(i,.agg l)::J,vs,hv=>by simp only[Js]at hv ⊢;split at hv;rename_i cs us h1 b;simp only[qn h b,Zx h h1];exact hv;cases hv
theorem J7{σ:Nat->Value}:∀{J:iB} {vs:List Value},Js (λi=>Td (σ i)) J=Td vs->∀x∈Zw J vs,fact σ x
 |[],vs,_,x,b=>by cases b
 |(i,.one t)::J,vs,hv,x,b=>by simp only[Js]at hv;split at hv;rename_i v us h1 e;simp only[Tn]at h1 hv;subst hv;simp only[Zw,Tz]at b;rcases b with rfl|b;exact⟨λ_=>h1,λf=>absurd trivial f⟩;exact J7 e x b;cases hv
 |(i,.agg l)::J,vs,hv,x,b=>by
  simp only[Js]at hv;split at hv;rename_i cs us h1 e;simp only[Tn]at h1;cases hb:Nat.beq cs.toList.length l.length with
  |false=>simp_all
  |true=>rw[hb]at hv;simp only[zK,Tn]at hv;subst hv;have c:cs.toList.length=l.length:=TL hb;simp only[Zw,Tz]at b;rcases b with rfl|b;refine⟨λ_=>?_,λf=>absurd trivial f⟩;simp_all;rw[<-c,List.drop_left]at b;exact J7 e x b
  cases hv
def Yx(ms:List Nat):bK->bK
 |[]=>[]
 |(i,[],v)::e=>bif Jr ms i then Yx ms e else(i,[],v)::Yx ms e
 |(_,_::_,_)::e=>Yx ms e
theorem Nv{x:Nat×qf×Value}(h:x∈Yx ms e):x∈e/\x.2.1=[]/\x.1∉ms:=by
 induction e with
 |nil=>cases h
 |cons y e b=>
  obtain⟨i,c,v⟩:=y;cases c with
  |nil=>
   simp only[Yx]at h;cases hm:Jr ms i with
   |true=>simp_all
   |false=>rw[hm]at h;simp only[zL]at h;rcases Tz.1 h with rfl|h;exact⟨TQ,rfl,Q4 hm⟩;simp_all
  |cons g c=>simp only[Yx]at h;simp_all
theorem J8{a a1:Act}(l:Sat n e a)(h:a1.defers=[])(hz:a1.tmps.size=n)(b:Same ms a a1){J:iB}{vs:List Value}
  (o:Js (λi=>Td (qc a1 i)) J=Td vs):Sat n (Zw J vs++Yx ms e) a1:=by
 refine⟨h,hz,λx c=>?_⟩;rcases TE.1 c with c|c;exact J7 o x c;obtain⟨h1,f,k⟩:=Nv c;have j:=l.all x h1;refine⟨λ_=>?_,λm=>absurd (by rw[f];trivial) m⟩;rw[b _ k];exact j.1 (by rw[f];trivial)
def yc:Code->Option Nat
 |.region id _ _=>Td id
 |.seq a b=>match yc a with
  |some i=>Td i
  |none=>yc b
 |.cond _ a b=>match yc a with
  |some i=>Td i
  |none=>yc b
 |.block _ b=>yc b
 |.loop b=>yc b
 |.scope b=>yc b
 |_=>Te
def j3:Code->List Nat
 |.region _ ops _=>wb ops.toList
 |.seq a b=>j3 a++j3 b
 |.cond _ a b=>j3 a++j3 b
 |.block _ b=>j3 b
 |.loop b=>j3 b
 |.scope b=>j3 b
 |_=>[]
structure Plan where
 tails:List (Nat×Nat)
 loops:List (Nat×iB)
 joins:List (Nat×iB)
def BW:List (Nat×iB)->Nat->Option iB
 |[],_=>Te
 |(j,m)::l,i=>bif Nat.beq i j then Td m else BW l i
def pG(l:List (Nat×iB)):Option Nat->Option iB
 |some i=>BW l i
 |none=>Te
abbrev Q9:=Exit->bK->za->Prop
def l5(K:bK->za->Prop)(Q:Q9):Q9
 |.normal,e,h=>K e h
 |x,e,h=>Q x e h
def lP(id:Nat)(Q:Q9):Q9
 |.exit i,e,h=>bif Nat.beq i id then Q .normal e h else Q (.exit i) e h
 |x,e,h=>Q x e h
def Nu(Q:Q9):Q9
 |.goto _,_,_=>False
 |x,e,h=>Q x e h
def o7{X:Type}(J:iB)(F:jP (yv J) X)(e:bK)(k:X->Prop):Prop:=
 match Js (lM e) J with
 |some vs=>match iK (yv J) vs F with
  |some q=>k q
  |none=>False
 |none=>False
def CM(J:iB)(rest:bK->za->Prop)(F:(bK->za->Prop)->Prop)(b:bK):Prop:=
 ∀K:jP (yv J) (za->Prop),pS (yv J) K (λvs q=>∀h,rest (Zw J vs++b) h->q h)->F λe h=>o7 J K e λq=>q h
def wT(J:iB)(body:(bK->za->Prop)->bK->za->Prop)(b e:bK)(h:za):Prop:=
 ∃(I:jP (yv J) (za->Prop)) (μ:jP (yv J) (za->Nat)),(o7 J (mU (yv J) I μ) e λp=>p.1 h) /\
  pS (yv J) (mU (yv J) I μ) λvs p=>∀h,p.1 h->body (λc h'=>o7 J (mU (yv J) I μ) c λq=>q.1 h'/\q.2 h'<p.2 h) (Zw J vs++b) h
def W(P:Program)(n:Nat)(pl:Plan):Code->Q9->bK->za->Prop
 |.skip,Q,e,h=>Q .normal e h
 |.ret,Q,e,h=>Q .ret e h
 |.exit id,Q,e,h=>Q (.exit id) e h
 |.label _,Q,e,h=>Q .normal e h
 |.goto l,Q,e,h=>Q (.goto l) e h
 |.region id ops draw,Q,e,h=>regionF P n pl.tails id ops draw (λe h=>Q .normal e h) e h
 |.seq x y,Q,e,h=>match pG pl.joins (yc y)with
  |none=>W P n pl x (l5 (λe h=>W P n pl y Q e h) Q) e h
  |some J=>CM J (λe h=>W P n pl y Q e h) (λK=>W P n pl x (l5 K Q) e h) (Yx (j3 x) e)
 |.cond c x y,Q,e,h=>match Jq e [] c with
  |some (.bool b)=>(b=Ta->W P n pl x Q e h)/\(b=Tc->W P n pl y Q e h)
  |_=>False
 |.block id x,Q,e,h=>W P n pl x (lP id Q) e h
 |.loop x,Q,e,h=>match pG pl.loops (yc x)with
  |some J=>wT J (λf e h=>W P n pl x (l5 f Q) e h) (Yx (j3 x) e) e h
  |none=>False
 |.scope x,Q,e,h=>W P n pl x (Nu Q) e h
 |_,_,_,_=>False
def CO(n:Nat)(B:World)(ms:List Nat)(b:Act)(Q:Q9):Exit->Act->World->Prop:=
 λx a w=>∃e d h,w=mk B d h/\Sat n e a/\Same ms b a/\Q x e h
theorem J9{X:Type}{J:iB}{F:jP (yv J) X}{k:X->Prop}(h:o7 J F e k):∃vs q,Js (lM e) J=Td vs/\iK (yv J) vs F=Td q/\k q:=by unfold o7 at h;grind
theorem Mu(hm:P.follows .mixedOrders=Ta){pl:Plan}:∀(c:Code) (Q:Q9) (e:bK) (h:za),W P n pl c Q e h ->
  ∀(B:World) (d:Nat) (a:Act),Sat n e a->c.wp P (CO n B (j3 c) a Q) a (mk B d h):=by
 intro c;induction c with
 |skip=>exact λQ e h H B d a f=>wp_skip ⟨e,d,h,rfl,f,Same.refl _ _,H⟩
 |ret=>exact λQ e h H B d a f=>wp_ret ⟨e,d,h,rfl,f,Same.refl _ _,H⟩
 |exit id=>exact λQ e h H B d a f=>wp_exit ⟨e,d,h,rfl,f,Same.refl _ _,H⟩
 |label l=>exact λQ e h H B d a f=>wp_label ⟨e,d,h,rfl,f,Same.refl _ _,H⟩
 |goto l=>exact λQ e h H B d a f=>wp_goto ⟨e,d,h,rfl,f,Same.refl _ _,H⟩
 |region id ops aj=>exact λQ e h H B d a f=>BQ hm H B d f λe' a' d' h' j o q3=>⟨e',d',h',rfl,j,o,q3⟩
 |seq x y z A=>
  intro Q e h H B d a f;simp only[W]at H;have E:∀i∈j3 x,i∈j3 (x.seq y):=λi hi=>TF _ hi;have O:∀i∈j3 y,i∈j3 (x.seq y):=λi hi=>TU _ hi;split at H;refine wp_seq (wp_mono (z _ _ _ H B d a f) ?_);rintro ex a1 w1 ⟨t,d1,h1,rfl,s1,m,j⟩;cases ex with
  |normal=>refine wp_mono (A _ _ _ j B d1 a1 s1) ?_;rintro ex a2 w2 ⟨r,d2,u,rfl,s2,w,o⟩;exact⟨r,d2,u,rfl,s2,(m.mono E).trans (w.mono O),o⟩
  |_=>exact⟨t,d1,h1,rfl,s1,m.mono E,j⟩
  rename_i J hJ;have H':=H (nq (yv J) λvs=>λh=>W P n pl y Q (Zw J vs++Yx (j3 x) e) h) (y3 λvs h G=>G);refine wp_seq (wp_mono (z _ _ _ H' B d a f) ?_);rintro ex a1 w1 ⟨t,d1,h1,rfl,s1,m,j⟩;cases ex with
  |normal=>obtain⟨vs,q,N,G,hk⟩:=J9 j;have Y:=xJ G;subst Y;have S:Sat n (Zw J vs++Yx (j3 x) e) a1:=J8 f s1.defers s1.size m (qn s1 N);refine wp_mono (A _ _ _ hk B d1 a1 S) ?_;rintro ex a2 w2 ⟨r,d2,u,rfl,s2,w,o⟩;exact⟨r,d2,u,rfl,s2,(m.mono E).trans (w.mono O),o⟩
  |_=>exact⟨t,d1,h1,rfl,s1,m.mono E,j⟩
 |cond c x y z A=>intro Q e h H B d a f;simp only[W]at H;have E:∀i∈j3 x,i∈j3 (V0 c x y):=λi hi=>TF _ hi;have O:∀i∈j3 y,i∈j3 (V0 c x y):=λi hi=>TU _ hi;split at H;rename_i b C;refine wp_cond_split (qg f (c:=[]) trivial C) (λT=>?_) (λab=>?_);refine wp_mono (z _ _ _ (H.1 T) B d a f) ?_;rintro ex a2 w2 ⟨r,d2,u,rfl,s2,w,o⟩;exact⟨r,d2,u,rfl,s2,w.mono E,o⟩;refine wp_mono (A _ _ _ (H.2 ab) B d a f) ?_;rintro ex a2 w2 ⟨r,d2,u,rfl,s2,w,o⟩;exact⟨r,d2,u,rfl,s2,w.mono O,o⟩;exact H.elim
 |block id x L=>
  intro Q e h H B d a f;refine wp_block (wp_mono (L _ _ _ H B d a f) ?_);rintro ex a1 w1 ⟨t,d1,h1,rfl,s1,m,j⟩;cases ex with
  |exit i=>simp only[lP]at j;simp only[Exit.inBlock];by_cases C:Nat.beq i id=Ta;rw[zA (TL C)];simp only[C,zK]at j;exact⟨t,d1,h1,rfl,s1,m,j⟩;rw[zv (λhe=>C (by rw[he];simp))];simp only[C,zL]at j;exact⟨t,d1,h1,rfl,s1,m,j⟩
  |_=>exact⟨t,d1,h1,rfl,s1,m,j⟩
 |loop x L=>
  intro Q e h H B d a f;simp only[W]at H;split at H;rename_i J hJ;obtain⟨I,μ,h0,D⟩:=H;obtain⟨aa,p0,ah,ai,af⟩:=J9 h0;let F:=mU (yv J) I μ;let at_:Act->Option ((za->Prop)×(za->Nat)):=λa1=>(Js (λi=>Td (qc a1 i)) J).bind λvs=>iK (yv J) vs F;refine wp_loop (λa1 w1=>∃d1 h1 vs p,w1=mk B d1 h1/\a1.defers=[]/\a1.tmps.size=n/\Same (j3 x) a a1/\Js (λi=>Td (qc a1 i)) J=Td vs/\iK (yv J) vs F=Td p/\p.1 h1) (λa1 w1=>match at_ a1 with|some p=>p.2 w1.heap|none=>0) ⟨d,h,aa,p0,rfl,f.defers,f.size,Same.refl _ _,qn f ah,ai,af⟩ ?_;rintro a1 w1 ⟨d1,h1,vs,p,rfl,U,ae,k,N,hp,hI⟩;have s1:Sat n (Zw J vs++Yx (j3 x) e) a1:=J8 f U ae k N;have C:=sd hp D h1 hI;refine wp_mono (L _ _ _ C B d1 a1 s1) ?_;rintro ex a2 w2 ⟨r,d2,u,rfl,s2,w,o⟩;cases ex with
  |normal=>
   obtain⟨Z,q,M,G,V,ac⟩:=J9 o;refine⟨⟨d2,u,Z,q,rfl,s2.defers,s2.size,k.trans w,qn s2 M,G,V⟩,?_⟩;have t:at_ a1=Td p:=by simp only[at_,N,U0];exact hp
   have r:at_ a2=Td q:=by simp only[at_,qn s2 M,U0];exact G
   rw[t,r];exact ac
  |_=>exact⟨r,d2,u,rfl,s2,k.trans w,o⟩
  exact H.elim
 |scope x L=>
  intro Q e h H B d a f;refine wp_scope_straight (wp_mono (L _ _ _ H B d a f) ?_);rintro ex a1 w1 ⟨t,d1,h1,rfl,s1,m,j⟩;cases ex with
  |goto l=>exact j
  |_=>exact⟨t,d1,h1,rfl,s1,m,j⟩
 |_=>exact λQ e h H=>H.elim
def kC:Nat->List Value->bK
 |_,[]=>[]
 |i,v::vs=>(i,[],v)::kC (i+1) vs
def kz(P:Program)(h:za)(e:bK):List ResultVar->(List Value->Prop)->Prop
 |[],K=>K []
 |.tmp t::l,K=>match lM e t with
  |some v=>kz P h e l λvs=>K (v::vs)
  |none=>False
 |.cell a t::l,K=>match lM e a with
  |some p=>mG P h t p Te λv=>kz P h e l λvs=>K (v::vs)
  |none=>False
def kj:List Value->Value
 |[v]=>v
 |vs=>.tuple vs.toArray
def rq(P:Program)(rs:List ResultVar)(R:Value->za->Prop):Q9
 |.normal,e,h=>kz P h e rs λvs=>R (kj vs) h
 |.ret,e,h=>kz P h e rs λvs=>R (kj vs) h
 |_,_,_=>False
def mO(tmps:Array Value):ResultVar->Sem Value
 |.tmp t=>pure (tmps.getD t undef)
 |.cell a t=>do loadVar t (<-asAddr (tmps.getD a undef))
theorem vU{P:Program}{n:Nat}{h:za}{e:bK}{a:Act}(c:Sat n e a):∀{l:List ResultVar} {K:List Value->Prop},kz P h e l K->∃vs,K vs/\vs.length=l.length/\QExec P (l.mapM (mO a.tmps)) h vs
 |[],K,H=>⟨[],H,rfl,λ_ _=>by simp⟩
 |.tmp t::l,K,H=>by simp only[kz]at H;split at H;rename_i v o;obtain⟨vs,h1,f,i⟩:=vU c H;refine⟨v::vs,h1,by simp[f],?_⟩;rw[VZ];refine QExec.bind (x:=v) ?_ (i.bind (QExec.pure _));rw[<-Zx c o];exact QExec.pure _;exact H.elim
 |.cell x t::l,K,H=>by simp only[kz]at H;split at H;rename_i p j;obtain⟨v,q,m⟩:=Ct H;obtain⟨vs,h1,f,i⟩:=vU c q;refine⟨v::vs,h1,by simp[f],?_⟩;rw[VZ];refine QExec.bind (x:=v) ?_ (i.bind (QExec.pure _));have k:a.tmps.getD x undef=p:=Zx c j;simp only[mO,k];have b:=m trivial;unfold Vy at b;unfold mG at H;split at H;exact b;exact b;exact H.elim;exact H.elim
theorem Zy{fn:Func}(j:Sat n e a){rs:List ResultVar}(f:fn.results.toList=rs)(H:kz P h e rs λvs=>R (kj vs) h):
  ∃v,R v h/\QExec P (results fn a.tmps) h v:=by
 obtain⟨vs,h1,c,i⟩:=vU j H;refine⟨_,h1,?_⟩;intro B d;have b:results fn a.tmps=(fn.results.mapM (mO a.tmps) >>= λvs=>VD (if h:vs.size=1 then vs[0]else .tuple vs)):=by unfold results;congr 1
 rw[b,Array.mapM_eq_mapM_toList,f,Sem.run_bind,Sem.run_map,i B d];simp only[Result.andThen_ok,Sem.run_pure]
 match vs,c with
 |[],_=>rfl
 |[v],_=>rfl
 |v::u::vs,_=>simp[kj]
theorem Xa(args:Array Value)(k:Nat):∀(vs:List Value) (i:Nat),(∀j v,vs[j]?=Td v->(args++Ve k undef).getD (i+j) undef=v) ->
  ∀x∈kC i vs,fact (λi=>(args++Ve k undef).getD i undef) x
 |[],_,_,x,b=>by cases b
 |v::vs,i,h,x,b=>by simp only[kC,Tz]at b;rcases b with rfl|b;exact⟨λ_=>h 0 v rfl,λe=>absurd trivial e⟩;exact Xa args k vs (i+1) (λj u c=>by have:=h (j+1) u (by simpa using c);grind) x b
theorem OF(r:P.follows .mixedOrders=Ta){fn:Func}{c:Code}(pl:Plan)(vs:List Value){rs:List ResultVar}(o:P.funcs[f]?=Td fn)(m:fn.body=Td c)(l:fn.results.toList=rs)(q:fn.ntmps=n)
  (hz:Nat.ble vs.length n=Ta) (H:W P n pl c (rq P rs R) (kC 0 vs) h):XC P f vs.toArray h R:=by
 intro B d;subst q;refine calls_of_wp o m ?_;have u:vs.length<=fn.ntmps:=UU hz;have p:Sat fn.ntmps (kC 0 vs) { tmps:=vs.toArray++Ve (fn.ntmps-vs.toArray.size) undef,defers:=[] }:=by
  refine⟨rfl,by simp;omega,?_⟩;refine Xa vs.toArray _ vs 0 λj v t=>?_;have i:j<vs.length:=by rcases Up j vs.length with h|h;exact h;simp_all
  simp only[TJ,Uv];rw[U9 (by simpa using i)];simp[t]
 refine wp_mono (Mu r c _ _ _ H B d _ p) ?_;rintro ex a w ⟨y,d1,h1,rfl,s1,x,e⟩;cases ex with
 |normal=>obtain⟨v,k,b⟩:=Zy s1 l e;exact⟨s1.defers,v,b B d1,v,d1,h1,rfl,rfl,k⟩
 |ret=>obtain⟨v,k,b⟩:=Zy s1 l e;exact⟨s1.defers,v,b B d1,v,d1,h1,rfl,rfl,k⟩
 |_=>exact e.elim
def codeOf(fn:Func):Code:=match fn.body with
 |some c=>c
 |none=>.skip
def Zz(fn:Func):Bool:=match fn.body with
 |some _=>Ta
 |none=>Tc
theorem J2(e:P.follows .mixedOrders=Ta)(pl:Plan)(vs:List Value){fn:Func}{rs:List ResultVar}(i:P.funcs[f]?=Td fn)(b:Zz fn=Ta)(j:fn.results.toList=rs)(k:fn.ntmps=n)
  (hz:Nat.ble vs.length n=Ta) (H:W P n pl (codeOf fn) (rq P rs R) (kC 0 vs) h):XC P f vs.toArray h R:=by
 have c:fn.body=Td (codeOf fn):=by unfold Zz at b;unfold codeOf;split at b;omega;cases b
 grind [OF]
end
section
variable {n:Nat} {h h':za} {a:Addr} {e t ty:TypeId} {xs news:List Value} {P:Program} {z:Value}
theorem qj(h:za)(o:Obj):(h.push o)[h.size]?=Td o:=by simp
theorem SO(k:Keep n h h')(b:a.block<n):zb h' a=zb h a:=by unfold zb;rw[k.get _ b]
theorem Ew(e:h'[a.block]?=h[a.block]?):zb h' a=zb h a:=by unfold zb;rw[e]
def Arr(n:Nat)(h:za)(a:Option Addr)(cs:List Value):Prop:=
 cs=[]\/∃b o,a=Td ⟨b,o,Te⟩/\b<n/\∀i v,cs[i]?=Td v->zb h ⟨b,o+i,Te⟩=Td v
theorem Arr.keep{a:Option Addr}{cs:List Value}(H:Arr n h a cs)(k:Keep n h h'):Arr n h' a cs:=by rcases H with e|⟨b,o,e,c,f⟩;exact .inl e;exact .inr ⟨b,o,e,c,λi v hi=>(SO k (a:=⟨b,o+i,Te⟩) c).trans (f i v hi)⟩
theorem zd(b o i:Nat):(⟨b,o,Te⟩:Addr).add i=⟨b,o+i,Te⟩:=by unfold Tl;simp
theorem FW(a:Option Addr)(sz m:Nat):io a sz 0 m=a:=by
 unfold io;split;rfl;cases a with
 |none=>rfl
 |some p=>simp[Tl]
theorem wrap64{n:Int}(h1:-9223372036854775808<=n)(f:n<=9223372036854775807):Tj .i64 n=n:=by
 unfold Tj;have e:(2:Int) ^ Ul .i64=18446744073709551616:=by decide
 have b:(2:Int) ^ (Ul .i64-1)=9223372036854775808:=by decide
 simp only[e,b];have c:V6 .i64=Ta:=rfl;grind
theorem zl{k:Nat}(h:k<9223372036854775807):Tj .i64 ((k:Int)+1)=((k+1:Nat):Int):=by grind [wrap64]
def Owns(h:za)(base:Nat)(e:TypeId)(sz:Nat)(s:Sl)(xs:List Value):Prop:=
 (mk default 0 h).ownsRow base e sz (.slice s.a s.len s.cap) s.len xs
theorem Owns.nil(h:za)(base:Nat)(e:TypeId)(sz:Nat):Owns h base e sz ⟨Te,0,0⟩ []:=World.ownsRow_nil _ _ _ _
theorem Owns.length{base:Nat}{sz:Nat}{s:Sl}(H:Owns h base e sz s xs):xs.length=s.len*sz:=H.1
theorem Owns.arr{base:Nat}{sz:Nat}{s:Sl}(H:Owns h base e sz s xs):Arr h.size h s.a xs:=by rcases H.2 with⟨f,h0⟩|⟨g,cap,b,f,p,k,m,q,n,o⟩;have j:=H.1;rw[h0]at j;exact .inl (by simpa using j);simp only[Ua]at f;have c:g<h.size:=(TD.1 k).1;refine .inr ⟨g,0,f.1,c,λi v hi=>?_⟩;have l:h[g]?=Td (.cells b e (0,0)):=k;unfold zb;grind
theorem Owns.base_le{base:Nat}{sz:Nat}{s:Sl}(H:Owns h base e sz s xs):∀p,s.a=Td p->base<=p.block/\p.block<h.size:=by intro p b;exact World.ownsRow.lt H p.block (by simp[Value.ownBlock,b])
theorem Owns.keep{base:Nat}{sz:Nat}{s:Sl}(H:Owns h base e sz s xs)(k:∀p,s.a=Td p->h'[p.block]?=h[p.block]?):Owns h' base e sz s xs:=by refine⟨H.1,?_⟩;rcases H.2 with j|⟨g,cap,b,c,f,i,rest⟩;grind;simp only[Ua]at c;refine .inr ⟨g,cap,b,by simp[c],f,?_,rest⟩;have:=k _ c.1;exact this.trans i
theorem Owns.keepN{base:Nat}{sz:Nat}{s:Sl}(H:Owns h base e sz s xs)(k:Keep h.size h h'):Owns h' base e sz s xs:= H.keep λp b=>k.get _ (H.base_le p b).2
structure ElemT (P:Program) (t e:TypeId) (z:Value) (sz bytes:Nat):Prop where
 slice:P.underlying t=Td (.slice e)
 info:∃i,P.info? e=Td i/\i.zero=Td z/\i.size=sz/\i.bytes=bytes
 zero:z.cells.size=sz
 pos:0<sz
theorem Cz{w:World}{i:TypeInfo}{sz bytes base:Nat}(y:P.underlying t=Td (.slice e))(hi:P.info? e=Td i)(hz:i.zero=Td z)(B:i.size=sz)(C:i.bytes=bytes) {v:Value} (f:w.ownsRow base e sz v n xs) {m c:Nat} (x:news.length=m*sz) (b:∀j u,news[j]?=Td u->w.cell? (a.add j)=Td u) (h1:∀u∈news,u.oneCell'=Ta) (M:n+m<=4611686018427387904) (k:(n+m)*bytes<=140737488355328) {G:Value} {w':World} (V:(TB #[t,t] ty #[v,.slice (Td a) m c]).run P w=.ok G w'):
  ∀A l H,G=.slice (Td A) l H->(∃p N U,v=.slice (Td p) N U/\A.block=p.block)\/A.block=w.heap.size:=by
 subst B C;intro A l H L;rcases f.2 with⟨rfl,rfl⟩|⟨g,cap,q,rfl,O,J,Q,I,F,D⟩;by_cases T:m=0;subst T;have S:news=[]:=TT (by simpa using x);subst S;have E:(TB #[t,t] ty #[.slice Te 0 0,.slice (Td a) 0 c]).run P w=.ok (.slice Te 0 0) w:=by simp[TB,run_underlying y,sizeOf,typeInfo,hi,Builtin.lenOf,U6,loadCells,loadCellsFrom]
 simp_all;have E:=run_append_nil (P:=P) (ty:=ty) w t e i z y hi hz a m c news x b (by omega) (by omega) (by grind);grind;by_cases h:n+m<=cap;have r:n*i.size+news.length<=q.size:=by rw[x,F,<-UX];exact TX _ h
 have E:=run_append_room (P:=P) (ty:=ty) w t e i y hi g n cap q J a m c news x b h1 h r;simp_all;have o:∀j u,xs[j]?=Td u->w.cell? ((⟨g,0,Te⟩:Addr).add j)=Td u:=f.cells (g:=g) rfl;have E:=run_append_grow (P:=P) (ty:=ty) w t e i z y hi hz ⟨g,0,Te⟩ n cap xs f.1 o a m c news x b (by omega) (by omega) (growslice_fits (by omega) k);grind
theorem xb{sz bytes:Nat}(T:ElemT P t e z sz bytes){base:Nat}{s:Sl}(H:Owns h base e sz s xs) {src:Sl} (hs:Arr n h src.a news) (hl:news.length=src.len*sz) (h1:∀u∈news,u.oneCell'=Ta) (m:(s.len+src.len)*bytes<=140737488355328) (L:s.len+src.len<=4611686018427387904) (r:base<=h.size) {K:Value->za->Prop} (hK:∀(f:Sl) (h':za),f.len=s.len+src.len->Owns h' base e sz f (xs++news)->(∀i,i<h.size->(∀p,s.a=Td p->i≠p.block)->h'[i]?=h[i]?)->h.size<=h'.size->(∀k,f.a=Td k->(∃p,s.a=Td p/\k.block=p.block)\/k.block=h.size)->K (.slice f.a f.len f.cap) h'):
  XRun P (TB #[t,t] ty #[.slice s.a s.len s.cap,.slice src.a src.len src.cap]) h K:=by
 intro B d;obtain⟨i,hi,hz,C,D⟩:=T.info;have key:∃y w',(TB #[t,t] ty #[.slice s.a s.len s.cap,.slice src.a src.len src.cap]).run P (mk B d h)=.ok y w'/\w'.ownsRow base e sz y (s.len+src.len) (xs++news)/\(mk B d h).grownBy w' (Value.ownBlock (.slice s.a s.len s.cap)) /\
   ∀k l J,y=.slice (Td k) l J->(∃p,s.a=Td p/\k.block=p.block)\/k.block=h.size:=by
  have c:(mk B d h).ownsRow base e sz (.slice s.a s.len s.cap) s.len xs:=H;rcases hs with S|⟨b,o,S,U,hc⟩;subst S;have h0:src.len=0:=by rcases Vz src.len with h0|h0;exact h0;have:=Nat.mul_pos h0 T.pos;grind
  rw[h0];have Q:∃q,q=src.a:=⟨_,rfl⟩;obtain⟨q,Y⟩:=Q;rw[<-Y];cases q with
  |none=>
   refine⟨_,mk B d h,?_,by simpa using c,⟨rfl,rfl,rfl,Tm _,λ_ _ _=>rfl⟩,λk l J A=>.inl ⟨k,by simp_all,rfl⟩⟩;have hT:=T.slice;have aa:s.len<=s.cap:=by rcases c.2 with⟨I,N⟩|⟨g,cap,Z,I,_,_,ac,_⟩;omega;simp_all
   generalize s.a=sa at *;cases sa <;> simp[TB,run_underlying hT,sizeOf,typeInfo,hi,Builtin.lenOf,U6,aa,storeCells]
  |some p=>obtain⟨y,w',E,G,x,_⟩:=run_append_own (P:=P) (w:=mk B d h) base t ty e i z sz bytes T.slice hi hz C D T.zero T.pos (.slice s.a s.len s.cap) s.len xs c p 0 src.cap [] (by simp) (by simp) (by simp) (by unfold maxLen;omega) (by simp_all) r;refine⟨y,w',E,G,x,λk l J A=>?_⟩;rcases Cz T.slice hi hz C D c (news:=[]) (by simp) (by simp) (by simp) (by omega) (by simp_all) E k l J A with⟨q,l0,c0,Y,U⟩|U;simp_all;exact .inr U
  rw[S];obtain⟨y,w',E,G,x,_⟩:=run_append_own (P:=P) (w:=mk B d h) base t ty e i z sz bytes T.slice hi hz C D T.zero T.pos (.slice s.a s.len s.cap) s.len xs c ⟨b,o,Te⟩ src.len src.cap news hl (λj u hu=>by rw[zd];exact hc j u hu) h1 (by unfold maxLen;omega) m r;refine⟨y,w',E,G,x,λk l J A=>?_⟩;rcases Cz T.slice hi hz C D c hl (λj u hu=>by rw[zd];exact hc j u hu) h1 L m E k l J A with⟨q,l0,c0,Y,M⟩|M;simp_all;exact .inr M
 obtain⟨y,w',E,G,x,r4⟩:=key;have hw:w'=mk B w'.drawn w'.heap:=by have I:=x.os;have N:=x.tape;have e3:=x.output;cases w';simp only[mk]at *;subst I;subst N;subst e3;rfl
 rw[hw]at E;have hv:∃f:Sl,y=.slice f.a f.len f.cap/\f.len=s.len+src.len:=by rcases G.2 with⟨I,N⟩|⟨g,cap,Z,I,_⟩;exact⟨⟨Te,0,0⟩,I,N.symm⟩;exact⟨⟨Td ⟨g,0,Te⟩,s.len+src.len,cap⟩,I,rfl⟩
 obtain⟨f,rfl,F⟩:=hv;refine⟨_,_,_,E,hK f w'.heap F ?_ ?_ x.size λk V=>r4 k f.len f.cap (by rw[V])⟩;rw[<-F]at G;exact G;intro j hj ab;refine x.block j hj λO=>?_;cases Q:s.a with
 |none=>rw[Q]at O;cases O
 |some p=>rw[Q]at O;simp only[Value.ownBlock,Tn]at O;grind
end
section
variable {h:za} {m:Nat} {P:Program} {kt t et:TypeId} {z:Value}
def Xp(l:List (Bt×Value))(k:Bt):Option Value:=match l with
 |[]=>Te
 |p::l=>if p.1=k then Td p.2 else Xp l k
def kH(l:List (Bt×Value))(k:Bt)(v:Value):List (Bt×Value):=match l with
 |[]=>[(k,v)]
 |p::l=>if p.1=k then(k,v)::l else p::kH l k v
theorem PL(l:List (Bt×Value))(k b:Bt)(v:Value):Xp (kH l k v) b=if k=b then Td v else Xp l b:=by
 induction l with
 |nil=>simp[kH,Xp]
 |cons p l c=>simp only[kH];split;rename_i h;simp only[Xp];simp_all;rename_i h;simp only[Xp,c];grind
def MapAt(h:za)(m:Nat)(l:List (Bt×Value)):Prop:=∃c b,h[m]?=Td (.map c b)/\c.toList.map (λe=>(e.key,e.val))=l.map λp=>(TH p.1,p.2)
theorem MapAt.keep{h h':za}{l:List (Bt×Value)}(H:MapAt h m l)(k:h'[m]?=h[m]?):MapAt h' m l:=by obtain⟨e,c,h1,b⟩:=H;exact⟨e,c,k.trans h1,b⟩
theorem MapAt.lt{l:List (Bt×Value)}(H:MapAt h m l):m<h.size:=by obtain⟨b,c,h1,e⟩:=H;grind
theorem MapAt.new(h:za):MapAt (h.push (.map #[] 0)) h.size []:=⟨#[],0,qj _ _,rfl⟩
structure MapT (P:Program) (t kt et:TypeId) (z:Value):Prop where
 map:P.underlying t=Td (.map kt et)
 key:P.underlying kt=Td .string
 zero:∃i,P.info? et=Td i/\i.zero=Td z
theorem tO(a b:Bt):(a==b)=decide (a=b):=by show ByteArray.beq a b=_;cases a;cases b;rw[T8];simp[ByteArray.beq]
instance lawfulBA:LawfulBEq Bt where
 eq_of_beq:=λ {a b} h=>by rw[tO]at h;simpa using h
 rfl:=λ {a}=>by rw[tO];simp
theorem Yy(k:Bt):∀(f:List MapEntry) (l:List (Bt×Value)) (i:Nat),f.map (λe=>(e.key,e.val))=l.map (λp=>(TH p.1,p.2)) ->
  (Xp l k=Te/\U3 .string (.string k) f i=Td Te)\/(∃j v e,Xp l k=Td v/\f[j]?=Td e/\e.key=.string k/\e.val=v/\U3 .string (.string k) f i=Td (Td (i+j,v)) /\ ∀w,(f.modify j λe=>{ e with key:=.string k,val:=w }).map (λe=>(e.key,e.val))=(kH l k w).map λp=>(TH p.1,p.2))
 |[],l,i,h=>by
  have:l=[]:=by cases l <;> simp_all
  subst this;exact .inl ⟨rfl,rfl⟩
 |e::f,l,i,h=>by
  cases l with
  |nil=>simp at h
  |cons p l=>
   simp only[TV,U4,Uy]at h;obtain⟨⟨h1,m⟩,n⟩:=h;by_cases c:p.1=k;refine .inr ⟨0,p.2,e,by simp[Xp,c],rfl,by rw[h1,c],m,?_,λw=>?_⟩;have b:(k==p.1)=Ta:=by rw[tO];simpa using c.symm
   simp[U3,VR,h1,m,b];simp[kH,c,n];have b:(k==p.1)=Tc:=by rw[tO];simpa using λe=>c e.symm
   rcases Yy k f l (i+1) n with⟨g1,g2⟩|⟨j,v,t,g1,g2,u,o,r,q⟩;refine .inl ⟨by simp[Xp,c,g1],?_⟩;simp[U3,VR,h1,b,g2];refine .inr ⟨j+1,v,t,by simp[Xp,c,g1],by simpa using g2,u,o,?_,λw=>?_⟩;simp[U3,VR,h1,b,r];omega;simp[kH,c,h1,m,q w]
theorem Wa(c:P.underlying kt=Td .string)(b:Bool)(k:Bt)(h:za):QExec P (Instr.checkKey b 10000 kt (.string k)) h ():=by intro B d;have e:=QExec.underlying (h:=h) c B d;unfold Instr.checkKey;simp_all
theorem xc(c:P.underlying kt=Td .string)(k:Bt)(b:List MapEntry)(r:Option (Nat×Value))(h:za)(e:U3 .string (.string k) b 0=Td r):
  QExec P (Instr.findKey kt (.string k) b) h r:=by
 intro B d;have f:=QExec.underlying (h:=h) c B d;unfold Instr.findKey;simp_all
theorem Zq{b:Array MapEntry}{c:Nat}(e:h[m]?=Td (.map b c)):QExec P (getObj m) h (.map b c):=by intro B d;have:(mk B d h).heap[m]?=Td (.map b c):=e;simp[getObj,Sem.run,this]
theorem Ov(hz:∃i,P.info? t=Td i/\i.zero=Td z):QExec P (zeroValue t) h z:=by obtain⟨i,h1,b⟩:=hz;intro B d;simp[zeroValue,typeInfo,program,h1,b,Sem.run]
def iY(l:List (Bt×Value))(k:Bt)(z:Value):Value:=(Xp l k).getD z
theorem Z0(T:MapT P t kt et z){l:List (Bt×Value)}(H:MapAt h m l)(k:Bt)(ok:Bool):
  QExec P (UV t (.map (Td m)) (.string k) ok) h (if ok then .tuple #[iY l k z,.bool (Xp l k).isSome]else iY l k z):=by
 obtain⟨b,c,h1,f⟩:=H;intro B d;have i:=QExec.underlying (h:=h) T.map B d;have n:=Zq (P:=P) h1 B d;have p:=Wa T.key b.isEmpty k h B d;unfold UV;rw[Sem.run_bind,i];simp only[Result.andThen_ok,Sem.run_bind,n,Sem.run_pure,p];rcases Yy k b.toList l 0 f with⟨g1,g2⟩|⟨j,v,e,g1,g2,r,q,o,_⟩;rw[xc T.key k b.toList Te h g2 B d];have hz:=Ov (h:=h) T.zero B d;simp only[Result.andThen_ok,Sem.run_bind,hz,Sem.run_pure,iY,g1];simp;rw[xc T.key k b.toList _ h o B d];simp only[Result.andThen_ok,iY,g1];simp
theorem Yz{l:List (Bt×Value)}{k:Bt}{v:Value}(g:Xp l k=Te):kH l k v=l++[(k,v)]:=by
 induction l with
 |nil=>rfl
 |cons p l c=>simp only[Xp]at g;split at g;cases g;rename_i b;simp[kH,b,c g]
theorem OG(T:MapT P t kt et z){l:List (Bt×Value)}(H:MapAt h m l)(k:Bt)(v:Value){K:za->Prop}
  (x:∀h':za,MapAt h' m (kH l k v)->h'.size=h.size->(∀i,i≠m->h'[i]?=h[i]?)->K h'):XRunU P (UN t (.map (Td m)) (.string k) v) h K:=by
 have f:=H.lt;obtain⟨b,c,h1,q⟩:=H;intro B d;have r:=QExec.underlying (h:=h) T.map B d;have w:=Zq (P:=P) h1 B d;have y:=Wa T.key Tc k h B d;have n:∀o:Obj,(setObj m o).run P (mk B d h)=.ok () (mk B d (h.setIfInBounds m o)):=by intro o;have:(mk B d h).heap[m]?=Td (.map b c):=h1;simp[setObj,Sem.run,this];rfl
 unfold UN;rcases Yy k b.toList l 0 q with⟨g1,g2⟩|⟨j,G,e,g1,g2,C,D,A,E⟩;refine⟨d,h.setIfInBounds m (.map (b.push { key:=.string k,val:=v,born:=c }) (c+1)),?_,x _ ⟨b.push { key:=.string k,val:=v,born:=c },c+1,by simp[f],?_⟩ (by simp) (λi hi=>by grind)⟩;rw[Sem.run_bind,r];simp only[Result.andThen_ok,Sem.run_bind,w,y];rw[xc T.key k b.toList Te h g2 B d];simp_all;rw[Yz g1];simp[q];have u:j<b.size:=by have:=(T5.1 g2).1;simpa using this
 refine⟨d,_,?_,x (h.setIfInBounds m (.map (b.modify j λe=>{ e with key:=.string k,val:=v }) c)) ⟨b.modify j λe=>{ e with key:=.string k,val:=v },c,by simp[f],?_⟩ (by simp) (λi hi=>by grind)⟩;rw[Sem.run_bind,r];simp only[Result.andThen_ok,Sem.run_bind,w,y];rw[xc T.key k b.toList _ h A B d];simp only[Result.andThen_ok,TJ];have p:((b[j]?).map (·.key)).getD (.string k)=.string k:=by
  have:b[j]?=Td e:=by simpa using g2
  rw[this];exact C
 rw[p];have F:Vo (.string k) (.string k)=pure (.string k):=by unfold Vo;rw[zA (by show(k==k)=Ta;simp)]
 simp_all;simp_all
end
section
variable {h h':za} {b n o:Nat} {cs:Array Value} {v:Value} {P:Program}
def Blk(h:za)(b:Nat)(cs:Array Value):Prop:=∃T,h[b]?=Td (.cells cs T (0,0))
theorem Blk.keep(H:Blk h b cs)(k:h'[b]?=h[b]?):Blk h' b cs:=by obtain⟨T,e⟩:=H;exact⟨T,k.trans e⟩
theorem Blk.keepN(H:Blk h b cs)(k:Keep n h h')(c:b<n):Blk h' b cs:=H.keep (k.get b c)
theorem Blk.new(h:za)(cs:Array Value)(T:TypeId):Blk (h.push (.cells cs T)) h.size cs:=⟨T,qj _ _⟩
theorem Blk.lt(H:Blk h b cs):b<h.size:=by obtain⟨T,e⟩:=H;grind
theorem Blk.cell(H:Blk h b cs)(c:cs[o]?=Td v):zb h ⟨b,o,Te⟩=Td v:=by obtain⟨T,e⟩:=H;unfold zb;simp[e,c]
theorem Blk.cellAdd{b o k:Nat}(H:Blk h b cs)(c:cs[o+k]?=Td v):zb h ((⟨b,o,Te⟩:Addr).add k)=Td v:=by rw[zd];exact H.cell c
theorem Blk.ld{cs:List Value}(H:Blk h b cs.toArray):zc h ⟨b,0,Te⟩ 0 cs:=by
 have key:∀(l:List Value) (i:Nat),(∀j v,l[j]?=Td v->cs[i+j]?=Td v)->zc h ⟨b,0,Te⟩ i l:=by
  intro l;induction l with
  |nil=>intro i _;trivial
  |cons v l c=>intro i hi;refine⟨?_,c (i+1) λj u e=>?_⟩;rw[zd,TJ];exact H.cell (by have:=hi 0 v rfl;grind);have:=hi (j+1) u (by simpa using e);grind
 simp_all
theorem Keep.setBlk(o:Obj)(c:n<=b):Keep n h (h.setIfInBounds b o):= ⟨by simp,λi hi=>by grind⟩
theorem xY(H:Blk h b cs)(B:World)(d:Nat):(mk B d h).frozen? ⟨b,o,Te⟩=Tc:=by obtain⟨T,e⟩:=H;have:(mk B d h).heap[b]?=Td (.cells cs T (0,0)):=e;simp[World.frozen?,this]
theorem E1{T:TypeId}(e:h[b]?=Td (.cells cs T (0,0)))(k:o<cs.size)(f:v.oneCell'=Ta)(B:World)(d:Nat):
  (store ⟨b,o,Te⟩ v).run P (mk B d h)=.ok () (mk B d (h.setIfInBounds b (.cells (cs.setIfInBounds o v) T (0,0)))):=by
 have l:(mk B d h).cell? ⟨b,o,Te⟩=Td cs[o]:=Blk.cell (h:=h) ⟨T,e⟩ (by simp[k]);have j:=xY (o:=o) (⟨T,e⟩:Blk h b cs) B d;have c:(mk B d h).setCell ⟨b,o,Te⟩ v=mk B d (h.setIfInBounds b (.cells (cs.setIfInBounds o v) T (0,0))):=by unfold World.setCell mk;simp only;congr 1;have m:b<h.size:=(TD.1 e).1;apply VW;intro i;rw[Array.getElem?_modify];by_cases hi:i=b;simp_all;grind
 cases v with
 |agg x=>simp[Value.oneCell']at f
 |tuple x=>simp[Value.oneCell']at f
 |_=>simp only[store,Sem.run,l,j,Uz,if_false,c]
theorem cells_one(b:v.oneCell'=Ta):v.cells=#[v]:=by cases v <;> first|rfl|simp[Value.oneCell']at b
theorem j6{t:TypeId}(hi:qm P t=Ta)(k:y8 P t=1)(H:Blk h b cs)(f:o<cs.size)(c:v.oneCell'=Ta){K:za->Prop}
  (m:∀h':za,Blk h' b (cs.setIfInBounds o v)->h'.size=h.size->(∀i,i≠b->h'[i]?=h[i]?)->K h'):XRunU P (Tt t (.pointer (Td ⟨b,o,Te⟩)) v) h K:=by
 obtain⟨T,e⟩:=H;have j:b<h.size:=(TD.1 e).1;intro B d;refine⟨d,_,?_,m (h.setIfInBounds b (.cells (cs.setIfInBounds o v) T (0,0))) ⟨T,by simp[j]⟩ (by simp) λi hi=>by grind⟩;have hz:=QExec.sizeOf (P:=P) (h:=h) (y9 hi).choose_spec B d;unfold Tt VG;simp only[Sem.run_bind,Sem.run_pure,Result.andThen_ok];unfold storeVar;rw[Sem.run_bind,hz];simp only[Result.andThen_ok];rw[k,cells_one c];simp only[List.size_toArray,TI,Uu,TJ,ne_eq,not_true_eq_false,if_false];show Sem.run P (storeCells ⟨b,o,Te⟩ [v]) _=_;unfold storeCells;rw[Sem.run_bind];have l:(⟨b,o,Te⟩:Addr).add 0=⟨b,o,Te⟩:=by rw[zd];rfl
 rw[l,E1 e f c B d];rfl
theorem Qt{P:Program}{b:Nat}{T:TypeId}(B:World)(d:Nat):∀(vs:List Value) (i:Nat) (h:za) (cs:Array Value),h[b]?=Td (.cells cs T (0,0))->i+vs.length<=cs.size->(∀v∈vs,v.oneCell'=Ta) ->
  ∃h',(storeCells ⟨b,0,Te⟩ vs i).run P (mk B d h)=.ok () (mk B d h')/\h'[b]?=Td (.cells (cs.toList.take i++vs++cs.toList.drop (i+vs.length)).toArray T (0,0))/\h'.size=h.size/\∀j,j≠b->h'[j]?=h[j]?
 |[],i,h,cs,e,_,_=>⟨h,rfl,by simpa using e,rfl,λ_ _=>rfl⟩
 |v::vs,i,h,cs,e,hl,hv=>by
  have l:b<h.size:=(TD.1 e).1;simp only[TI]at hl;have h1:=E1 (P:=P) e (o:=i) (by omega) (hv v TQ) B d;have n:(h.setIfInBounds b (.cells (cs.setIfInBounds i v) T (0,0)))[b]?=Td (.cells (cs.setIfInBounds i v) T (0,0)):=by simp[l]
  have c:i+1+vs.length<=(cs.setIfInBounds i v).size:=by rw[TW];omega
  obtain⟨h',p,m,f,q⟩:=Qt (P:=P) B d vs (i+1) (h.setIfInBounds b (.cells (cs.setIfInBounds i v) T (0,0))) (cs.setIfInBounds i v) n c λu k=>hv u (TS _ k);refine⟨h',?_,?_,by rw[f];simp,λj r=>by grind⟩;unfold storeCells;rw[Sem.run_bind,zd,TJ,h1];simp_all;rw[m];congr 3;have hi:i<cs.toList.length:=by simp;omega
  simp only[Array.toList_setIfInBounds,TI];rw[List.take_set,List.drop_set_of_lt (by omega)];have t:(cs.toList.take (i+1)).set i v=cs.toList.take i++[v]:=by
   rw[Tu hi,List.set_append_right _ _ (by simp;omega)];have:i-(cs.toList.take i).length=0:=by simp;omega
   rw[this];rfl
  grind
theorem Owns.base{h:za}{base b:Nat}{e:TypeId}{sz:Nat}{s:Sl}{xs:List Value}(H:Owns h base e sz s xs)(j:b<=base):Owns h b e sz s xs:=by refine⟨H.1,?_⟩;rcases H.2 with k|⟨g,cap,c,f,i,rest⟩;grind;exact .inr ⟨g,cap,c,f,by omega,rest⟩
end
end Go.X
end
section
namespace Go.X
variable {cs:List Value}
inductive Tr where
 |mk (kind:Int) (text:Bt) (keys:List Bt) (items:List Tr)
namespace Tr
@[reducible] def kind:Tr->Int|mk k _ _ _=>k
@[reducible] def text:Tr->Bt|mk _ s _ _=>s
@[reducible] def keys:Tr->List Bt|mk _ _ ks _=>ks
@[reducible] def items:Tr->List Tr|mk _ _ _ xs=>xs
@[simp] theorem Ti(t:Tr):mk t.kind t.text t.keys t.items=t:=by cases t;rfl
instance:Inhabited Tr:=⟨mk 0 ⟨#[]⟩ [] []⟩
end Tr
inductive Ty where
 |int (k:IntKind)|bool|str|row (t:Ty)|tree|unit|pair (a b:Ty)|ptr (t:Ty)|iter|err
 deriving DecidableEq
@[reducible] def El:Ty->Type
 |.int _=>Int
 |.bool=>Bool
 |.str=>Bt
 |.row t=>List (El t)
 |.tree=>Tr
 |.unit=>Unit
 |.pair a b=>El a×El b
 |.ptr t=>El t
 |.iter=>Bt×Nat
 |.err=>Bool
def pH:(t:Ty)->El t
 |.int _=>(0:Int)
 |.bool=>Tc
 |.str=>(⟨#[]⟩:Bt)
 |.row _=>[]
 |.tree=>default
 |.unit=>()
 |.pair a b=>(pH a,pH b)
 |.ptr t=>pH t
 |.iter=>(⟨#[]⟩,0)
 |.err=>Ta
def sz:Ty->Nat
 |.tree=>4
 |.unit=>0
 |.pair a b=>sz a+sz b
 |_=>1
abbrev Fr:=Nat->Option (Array Value)
def Fr.le(M M':Fr):Prop:=∀b cs,M b=Td cs->M' b=Td cs
theorem Fr.le.refl(M:Fr):Fr.le M M:=λ_ _ h=>h
theorem Fr.le.trans{a b c:Fr}(h:Fr.le a b)(k:Fr.le b c):Fr.le a c:=λ_ _ e=>k _ _ (h _ _ e)
def cut(cs:Array Value)(o n:Nat):List Value:=(cs.toList.drop o).take n
def RowAt(M:Fr){α:Type}(R:α->List Value->Prop)(z:Nat)(xs:List α)(v:Value):Prop:=
 ∃a c,v=.slice a xs.length c/\(xs.length<=140737488355328/\xs.length<=c)/\(xs=[]\/∃b o cs,a=Td ⟨b,o,Te⟩/\M b=Td cs/\∀i (h:i<xs.length),R xs[i] (cut cs (o+i*z) z))
inductive TrRd (M:Fr):Tr->List Value->Prop where
 |mk {k:Int} {s:Bt} {ks:List Bt} {xs:List Tr} {vk:Value} {a:Option Addr} {c b o:Nat} {cs:Array Value}
  (hk:RowAt M (λs cs=>cs=[.string s]) 1 ks vk) (hn:xs.length<=140737488355328/\xs.length<=c) (hz:xs=[]\/(a=Td ⟨b,o,Te⟩/\M b=Td cs))
  (hi:∀i (h:i<xs.length),TrRd M xs[i] (cut cs (o+i*4) 4)):TrRd M (.mk k s ks xs) [.int .i64 k,.string s,vk,.slice a xs.length c]
def xd(s:Bt)(p:Nat):Value:=.iface 0 (.agg #[.string s,.int .i64 p])
def Rd(M:Fr):(t:Ty)->El t->List Value->Prop
 |.int k,i,cs=>cs=[.int k i]
 |.bool,b,cs=>cs=[.bool b]
 |.str,s,cs=>cs=[.string s]
 |.row t,xs,cs=>∃v,cs=[v]/\RowAt M (Rd M t) (sz t) xs v
 |.tree,t,cs=>TrRd M t cs
 |.unit,_,cs=>cs=[]
 |.pair a b,x,cs=>∃c1 c2,cs=c1++c2/\Rd M a x.1 c1/\Rd M b x.2 c2
 |.ptr t,x,cs=>∃b o c,cs=[.pointer (Td ⟨b,o,Te⟩)]/\M b=Td c/\Rd M t x (cut c o (sz t))
 |.iter,x,cs=>cs=[xd x.1 x.2]
 |.err,b,cs=>∃v,cs=[v]/\((b=Ta/\v=.nilIface)\/(b=Tc/\∃t u,v=.iface t u))
theorem RowAt.mono{M M':Fr}(j:Fr.le M M'){α:Type}{R f:α->List Value->Prop}{z:Nat}{xs:List α}{v:Value}(H:RowAt M R z xs v)(n:∀x∈xs,∀cs,R x cs->f x cs):RowAt M' f z xs v:=by obtain⟨a,c,e,l,h⟩:=H;refine⟨a,c,e,l,h.imp id ?_⟩;rintro⟨b,o,cs,m,p,k⟩;exact⟨b,o,cs,m,j _ _ p,λi h=>n _ (TA _) _ (k i h)⟩
theorem TrRd.mono{M M':Fr}(b:Fr.le M M'){t:Tr}(H:TrRd M t cs):TrRd M' t cs:=by
 induction H with
 |mk c f hz _ e=>exact .mk (c.mono b λ_ _ _ h=>h) f (hz.imp id λh=>⟨h.1,b _ _ h.2⟩) e
theorem Rd.mono{M M':Fr}(c:Fr.le M M'):∀{t:Ty} {x:El t} {cs:List Value},Rd M t x cs->Rd M' t x cs
 |.int _,_,_,h=>h
 |.bool,_,_,h=>h
 |.str,_,_,h=>h
 |.row _,_,_,⟨v,e,h⟩=>⟨v,e,h.mono c λ_ _ _ h=>Rd.mono c h⟩
 |.tree,_,_,h=>TrRd.mono c h
 |.unit,_,_,h=>h
 |.pair _ _,_,_,⟨c1,c2,e,h1,h2⟩=>⟨c1,c2,e,Rd.mono c h1,Rd.mono c h2⟩
 |.ptr _,_,_,⟨b,o,cc,e,h1,h2⟩=>⟨b,o,cc,e,c _ _ h1,Rd.mono c h2⟩
 |.iter,_,_,h=>h
 |.err,_,_,h=>h
theorem Rd.len{M:Fr}:∀{t:Ty} {x:El t} {cs:List Value},Rd M t x cs->cs.length=sz t
 |.int _,_,_,h=>by rw[h];rfl
 |.bool,_,_,h=>by rw[h];rfl
 |.str,_,_,h=>by rw[h];rfl
 |.row t,_,_,⟨v,e,_⟩=>by rw[e];rfl
 |.tree,_,_,h=>by cases h;rfl
 |.unit,_,_,h=>by rw[h];rfl
 |.pair _ _,_,_,⟨c1,c2,e,h1,h2⟩=>by rw[e,Ts,Rd.len h1,Rd.len h2];rfl
 |.ptr _,_,_,⟨b,o,cc,e,_⟩=>by rw[e];rfl
 |.iter,_,_,h=>by rw[h];rfl
 |.err,_,_,⟨v,e,_⟩=>by rw[e];rfl
theorem Rd.one{M:Fr}:∀{t:Ty} {x:El t} {cs:List Value},Rd M t x cs->∀v∈cs,v.oneCell'=Ta
 |.int _,_,_,h=>by rw[h];simp[Value.oneCell']
 |.bool,_,_,h=>by rw[h];simp[Value.oneCell']
 |.str,_,_,h=>by rw[h];simp[Value.oneCell']
 |.row t,_,_,⟨v,e,a,c,e2,_⟩=>by rw[e,e2];simp[Value.oneCell']
 |.tree,_,_,h=>by
  cases h with
  |mk i _ _ _=>obtain⟨a,c,e,_⟩:=i;rw[e];simp[Value.oneCell']
 |.unit,_,_,h=>by rw[h];simp
 |.pair _ _,_,_,⟨c1,c2,e,h1,h2⟩=>by intro v f;rw[e]at f;rcases TE.1 f with f|f;exact Rd.one h1 v f;exact Rd.one h2 v f
 |.ptr _,_,_,⟨b,o,cc,e,_⟩=>by rw[e];simp[Value.oneCell']
 |.iter,_,_,h=>by rw[h];simp[Value.oneCell',xd]
 |.err,_,_,⟨v,e,h⟩=>by rw[e];rcases h with⟨_,rfl⟩|⟨_,t,u,rfl⟩ <;> simp[Value.oneCell']
theorem TrRd.keys{M:Fr}{t:Tr}(H:TrRd M t cs):∃e f,cs=[.int .i64 t.kind,.string t.text,e,f]/\Rd M (.row .str) t.keys [e]/\Rd M (.row .tree) t.items [f]:=by
 cases H with
 | @mk k s ks xs e a c b o cs hk hn hz hi=>exact⟨e,_,rfl,⟨e,rfl,hk⟩,⟨_,rfl,a,c,rfl,hn,hz.imp id λh=>⟨b,o,cs,h.1,h.2,hi⟩⟩⟩
theorem TrRd.of{M:Fr}{k:Int}{s:Bt}{ks:List Bt}{xs:List Tr}{l n:Value}(h1:Rd M (.row .str) ks [l])(f:Rd M (.row .tree) xs [n]):TrRd M (.mk k s ks xs) [.int .i64 k,.string s,l,n]:=by
 obtain⟨v,e,h1⟩:=h1;obtain⟨t,r,a,c,j,m,f⟩:=f;cases e;cases r;subst j;rcases f with rfl|⟨b,o,cs,q,j,p⟩;exact .mk (b:=0) (o:=0) (cs:=#[]) h1 m (.inl rfl) λi h=>absurd h (by simp)
 exact .mk h1 m (.inr ⟨q,j⟩) p
def Bd:(t:Ty)->El t->Prop
 |.row _,xs=>xs.length<=140737488355328
 |.tree,t=>t.keys.length<=140737488355328/\t.items.length<=140737488355328
 |.pair a b,x=>Bd a x.1/\Bd b x.2
 |_,_=>True
theorem Rd.bd{M:Fr}:∀{t:Ty} {x:El t} {cs:List Value},Rd M t x cs->Bd t x
 |.int _,_,_,_=>trivial
 |.bool,_,_,_=>trivial
 |.str,_,_,_=>trivial
 |.row t,_,_,⟨v,_,a,c,_,h,_⟩=>h.1
 |.tree,_,_,h=>by
  cases h with
  |mk b f _ _=>obtain⟨a,c,e,h,_⟩:=b;exact⟨h.1,f.1⟩
 |.unit,_,_,_=>trivial
 |.pair _ _,_,_,⟨_,_,_,h1,h2⟩=>⟨Rd.bd h1,Rd.bd h2⟩
 |.ptr _,_,_,_=>trivial
 |.iter,_,_,_=>trivial
 |.err,_,_,_=>trivial
inductive AA where
 |v (x:Value)
 |d (t:Ty) (x:El t)
 |box (c o:Nat)
 |own (c:Nat)
 |oelt (c z:Nat) (i:Nat) (o:Nat)
 |elt (t:Ty) (x:El t) (o:Nat)
 |dc (t:Ty) (xs:List (El t))
inductive AG where
 |a (x:AA)
 |agg (l:List AA)
inductive AV where
 |g (x:AG)
 |tup (l:List AG)
 |nx (b:Bool) (p:Int) (c:Int)
structure Gh where
 M:Fr
 β:Nat->Nat
 σ:Nat->Sl
def All2{α β:Type}(R:α->β->Prop):List α->List β->Prop
 |[],[]=>True
 |x::xs,y::ys=>R x y/\All2 R xs ys
 |_,_=>False
def aK(s:Sl):Value:=.slice s.a s.len s.cap
abbrev iV(x : Int): Value := .int .i64 x
abbrev tA(a : Int)(b : Bt)(c d : Sl): Value := .agg #[.int .i64 a, .string b, aK c, aK d]
abbrev tL(a : Int)(b : Bt)(c d : Sl): List Value := [.int .i64 a, .string b, aK c, aK d]
abbrev tC: Array Value := #[.int .i64 0, .string ⟨#[]⟩, .slice Te 0 0, .slice Te 0 0]
abbrev tZ: Value := .agg tC
def DenA(γ:Gh):AA->Value->Prop
 |.v x,u=>u=x
 |.d t x,u=>Rd γ.M t x [u]
 |.box c o,u=>u=.pointer (Td ⟨γ.β c,o,Te⟩)
 |.own c,u=>u=aK (γ.σ c)
 |.oelt c z i o,u=>∃g,(γ.σ c).a=Td ⟨g,0,Te⟩/\u=.pointer (Td ⟨g,i*z+o,Te⟩)
 |.elt t x o,u=>∃b f cs,u=.pointer (Td ⟨b,f+o,Te⟩)/\γ.M b=Td cs/\Rd γ.M t x (cut cs f (sz t))
 |.dc t xs,u=>∃s:Sl,u=aK s/\s.cap=s.len/\Rd γ.M (.row t) xs [u]
def DenG(γ:Gh):AG->Value->Prop
 |.a x,u=>DenA γ x u
 |.agg l,u=>∃us,u=.agg us.toArray/\All2 (DenA γ) l us
def DenV(γ:Gh):AV->Value->Prop
 |.g x,u=>DenG γ x u
 |.tup l,u=>∃us,u=.tuple us.toArray/\All2 (DenG γ) l us
 |.nx b p c,u=>(b=Ta->u=.tuple #[.bool Ta,.int .i64 p,.int .i32 c])/\(b=Tc->u=.tuple #[.bool Tc])
theorem All2.length{α β:Type}{R:α->β->Prop}:∀{l:List α} {m:List β},All2 R l m->l.length=m.length
 |[],[],_=>rfl
 |[],_::_,h=>h.elim
 |_::_,[],h=>h.elim
 |_::_,_::_,h=>by simp[All2.length h.2]
theorem All2.imp{α β:Type}{R b:α->β->Prop}:∀{l:List α} {m:List β},All2 R l m->(∀x∈l,∀y,R x y->b x y)->All2 b l m
 |[],[],_,_=>trivial
 |[],_::_,h,_=>h.elim
 |_::_,[],h,_=>h.elim
 |_::_,_::_,h,k=>⟨k _ TQ _ h.1,All2.imp h.2 λx e y c=>k x (TS _ e) y c⟩
theorem All2.append{α β:Type}{R:α->β->Prop}:∀{l b:List α} {m m':List β},All2 R l m->All2 R b m'->All2 R (l++b) (m++m')
 |[],_,[],_,_,h=>h
 |[],_,_::_,_,h,_=>h.elim
 |_::_,_,[],_,h,_=>h.elim
 |_::_,_,_::_,_,h,k=>⟨h.1,All2.append h.2 k⟩
theorem All2.take{α β:Type}{R:α->β->Prop}:∀(n:Nat) {l:List α} {m:List β},All2 R l m->All2 R (l.take n) (m.take n)
 |0,_,_,_=>by simp[All2]
 |_+1,[],[],_=>trivial
 |_+1,[],_::_,h=>h.elim
 |_+1,_::_,[],h=>h.elim
 |n+1,_::_,_::_,h=>⟨h.1,All2.take n h.2⟩
theorem All2.drop{α β:Type}{R:α->β->Prop}:∀(n:Nat) {l:List α} {m:List β},All2 R l m->All2 R (l.drop n) (m.drop n)
 |0,_,_,h=>by simpa using h
 |_+1,[],[],_=>trivial
 |_+1,[],_::_,h=>h.elim
 |_+1,_::_,[],h=>h.elim
 |n+1,_::_,_::_,h=>by simpa using All2.drop n h.2
theorem All2.get{α β:Type}{R:α->β->Prop}:∀{l:List α} {m:List β} {i:Nat} {x:α},All2 R l m->l[i]?=Td x->∃y,m[i]?=Td y/\R x y
 |[],[],_,_,_,h=>by simp at h
 |[],_::_,_,_,h,_=>h.elim
 |_::_,[],_,_,h,_=>h.elim
 |_::_,y::_,0,_,h,e=>by simp at e;subst e;exact⟨y,rfl,h.1⟩
 |_::_,_::_,i+1,_,h,e=>by simpa using All2.get h.2 (by simpa using e)
def Ya:(t:Ty)->El t->List AA
 |.int k,i=>[.v (.int k i)]
 |.bool,b=>[.v (.bool b)]
 |.str,s=>[.v (.string s)]
 |.row t,xs=>[.d (.row t) xs]
 |.tree,t=>[.v (.int .i64 t.kind),.v (.string t.text),.d (.row .str) t.keys,.d (.row .tree) t.items]
 |.unit,_=>[]
 |.pair a b,x=>Ya a x.1++Ya b x.2
 |.ptr t,x=>[.elt t x 0]
 |.iter,x=>[.d .iter x]
 |.err,x=>[.d .err x]
theorem j7{γ:Gh}:∀{t:Ty} {x:El t} {cs:List Value},Rd γ.M t x cs->All2 (DenA γ) (Ya t x) cs
 |.int _,_,_,h=>by rw[h];exact⟨rfl,trivial⟩
 |.bool,_,_,h=>by rw[h];exact⟨rfl,trivial⟩
 |.str,_,_,h=>by rw[h];exact⟨rfl,trivial⟩
 |.row t,_,_,⟨v,e,h⟩=>by rw[e];exact⟨⟨v,rfl,h⟩,trivial⟩
 |.tree,_,_,h=>by obtain⟨f,i,e,h1,c⟩:=TrRd.keys h;rw[e];exact⟨rfl,rfl,h1,c,trivial⟩
 |.unit,_,_,h=>by rw[h];trivial
 |.pair _ _,_,_,⟨c1,c2,e,h1,c⟩=>by rw[e];exact(j7 h1).append (j7 c)
 |.ptr t,x,_,⟨b,o,cc,e,h1,c⟩=>by rw[e];exact⟨⟨b,o,cc,rfl,h1,c⟩,trivial⟩
 |.iter,x,_,h=>by rw[h];exact⟨rfl,trivial⟩
 |.err,x,_,⟨v,e,h⟩=>by rw[e];exact⟨⟨v,rfl,h⟩,trivial⟩
def mS:Ty->Bool
 |.iter=>Ta
 |.err=>Ta
 |.pair a b=>bif mS a then Ta else mS b
 |_=>Tc
theorem Rd.noIt{M:Fr}:∀{t:Ty} {x:El t} {cs:List Value},mS t=Tc->Rd M t x cs->∀s p,xd s p∉cs
 |.int _,_,_,_,h,s,p=>by rw[h];simp[xd]
 |.bool,_,_,_,h,s,p=>by rw[h];simp[xd]
 |.str,_,_,_,h,s,p=>by rw[h];simp[xd]
 |.row t,_,_,_,⟨v,e,a,c,e2,_⟩,s,p=>by rw[e,e2];simp[xd]
 |.tree,_,_,_,h,s,p=>by
  cases h with
  |mk i _ _ _=>obtain⟨a,c,e,_⟩:=i;rw[e];simp[xd]
 |.unit,_,_,_,h,s,p=>by rw[h];simp
 |.pair a b,_,_,hi,⟨c1,c2,e,h1,h2⟩,s,p=>by
  simp only[mS]at hi;cases ha:mS a with
  |true=>simp_all
  |false=>rw[ha]at hi;rw[e];intro f;rcases TE.1 f with f|f;exact Rd.noIt ha h1 s p f;exact Rd.noIt hi h2 s p f
 |.ptr _,_,_,_,⟨b,o,cc,e,_⟩,s,p=>by rw[e];simp[xd]
 |.iter,_,_,hi,_,_,_=>by cases hi
 |.err,_,_,hi,_,_,_=>by cases hi
def jN:List AA->Bool
 |[.d t _]=>mS t
 |[.v (.iface _ _)]=>Ta
 |_=>Tc
theorem tw{γ:Gh}{l:List AA}{us:List Value}(h:jN l=Tc)(j:All2 (DenA γ) l us)(s:Bt)(p:Nat):us≠[xd s p]:=by
 intro e;subst e
 match l,j with
 |[x],j=>
  cases x with
  |v y=>rw[<-show xd s p=y from j.1]at h;simp[jN,xd]at h
  |d t y=>exact Rd.noIt (show mS t=Tc from h) (show Rd γ.M t y [xd s p]from j.1) s p (by simp)
  |box c o=>have:xd s p=_:=j.1;simp[xd]at this
  |own c=>have:xd s p=_:=j.1;simp[xd,aK]at this
  |oelt c z i o=>obtain⟨g,_,e⟩:=j.1;simp[xd]at e
  |elt t y o=>obtain⟨b,f,cs,e,_⟩:=j.1;simp[xd]at e
  |dc t xs=>obtain⟨k,e,_⟩:=j.1;simp[xd,aK]at e
 |[],j=>exact j.elim
 |_::_::_,j=>exact j.2.elim
inductive Ch where
 |box (l:List AA)
 |row (e:TypeId) (t:Ty) (xs:List (El t))
 |fz (t:Ty) (xs:List (El t))
abbrev CS:=List (Nat×Ch)
def Yb:CS->Nat->Option Ch
 |[],_=>Te
 |(j,k)::l,i=>bif Nat.beq i j then Td k else Yb l i
theorem zx{l:CS}{i:Nat}{k:Ch}(h:Yb l i=Td k):(i,k)∈l:=by
 induction l with
 |nil=>cases h
 |cons x l b=>obtain⟨j,e⟩:=x;simp only[Yb]at h;by_cases c:Nat.beq i j=Ta;simp_all;simp_all
def Qg(t t':Ty)(x:El t):Option (El t'):=if h:t=t' then Td (h ▸ x)else Te
theorem Y0{M:Fr}{t t':Ty}{x:El t}{y:El t'}(h:Qg t t' x=Td y)(r:Rd M t x cs):Rd M t' y cs:=by unfold Qg at h;grind
def lh(cs:CS):(t:Ty)->AA->Option (El t)
 |.int k,.v (.int k' i)=>if k=k' then Td i else Te
 |.bool,.v (.bool b)=>Td b
 |.str,.v (.string s)=>Td s
 |.row t,.v (.slice Te 0 0)=>Td ([]:List (El t))
 |.row t,.d t' x=>Qg t' (.row t) x
 |.row t,.dc t' x=>Qg (.row t') (.row t) x
 |.row t,.own c=>match Yb cs c with
  |some (.fz t' xs)=>Qg (.row t') (.row t) xs
  |_=>Te
 |.ptr t,.elt t' x 0=>Qg t' t x
 |.ptr t,.d t' x=>Qg t' (.ptr t) x
 |.iter,.d t' x=>Qg t' .iter x
 |.err,.d t' x=>Qg t' .err x
 |.err,.v .nilIface=>Td Ta
 |.err,.v (.iface _ _)=>Td Tc
 |_,_=>Te
def collect(cs:CS):(t:Ty)->List AA->Option (El t×List AA)
 |.unit,l=>Td ((),l)
 |.pair a b,l=>match collect cs a l with
  |some (x,l')=>match collect cs b l' with
   |some (y,l'')=>Td ((x,y),l'')
   |none=>Te
  |none=>Te
 |.tree,k::s::ks::xs::l=>match lh cs (.int .i64) k,lh cs .str s,lh cs (.row .str) ks,lh cs (.row .tree) xs with
  |some k,Td s,Td ks,some xs=>Td (Tr.mk k s ks xs,l)
  |_,_,_,_=>Te
 |.tree,_=>Te
 |t,x::l=>match lh cs t x with
  |some y=>Td (y,l)
  |none=>Te
 |_,[]=>Te
def kU(γ:Gh)(cs:CS):Prop:=∀c t xs,(c,Ch.fz t xs)∈cs->Rd γ.M (.row t) xs [aK (γ.σ c)]
theorem y0{γ:Gh}{cs:CS}(j:kU γ cs){t:Ty}{x:AA}{y:El t}(h:lh cs t x=Td y){u:Value}(c:DenA γ x u):Rd γ.M t y [u]:=by unfold lh at h;split at h;split at h;rename_i k;simp only[Tn]at h;subst h;subst k;exact congrArg (λu=>[u]) c;cases h;simp only[Tn]at h;subst h;exact congrArg (λu=>[u]) c;simp only[Tn]at h;subst h;exact congrArg (λu=>[u]) c;simp only[Tn]at h;subst h;exact⟨u,rfl,Te,0,c,by simp,.inl rfl⟩;exact Y0 h c;obtain⟨s,_,_,c⟩:=c;exact Y0 h c;split at h;rename_i t' xs i;rw[show u=_ from c];exact Y0 h (j _ _ _ (zx i));cases h;rename_i t t' x;obtain⟨b,f,cs',e,h1,l⟩:=c;exact⟨b,f,cs',by rw[e];rfl,h1,by unfold Qg at h;grind⟩;exact Y0 h c;exact Y0 h c;exact Y0 h c;simp only[Tn]at h;subst h;exact⟨u,rfl,.inl ⟨rfl,c⟩⟩;rename_i t' m;simp only[Tn]at h;subst h;exact⟨u,rfl,.inr ⟨rfl,_,_,c⟩⟩;cases h
theorem Yc{γ:Gh}{cs:CS}(c:kU γ cs):∀{t:Ty} {l e:List AA} {y:El t},collect cs t l=Td (y,e)->∀{us:List Value},All2 (DenA γ) l us->∃c1 c2,us=c1++c2/\Rd γ.M t y c1/\All2 (DenA γ) e c2
 |.unit,l,e,y,h,us,hu=>by simp only[collect,Tn,Uy]at h;obtain⟨_,rfl⟩:=h;exact⟨[],us,rfl,rfl,hu⟩
 |.pair a b,l,e,y,h,us,hu=>by simp only[collect]at h;split at h;rename_i x H h1;split at h;rename_i z I i;simp only[Tn,Uy]at h;obtain⟨rfl,rfl⟩:=h;obtain⟨c1,c2,rfl,j,n⟩:=Yc c h1 hu;obtain⟨o,G,rfl,f,m⟩:=Yc c i n;exact⟨c1++o,G,by simp,⟨c1,o,rfl,j,f⟩,m⟩;cases h;cases h
 |.tree,l,e,y,h,us,hu=>by
  match l,us,hu,h with
  |k::s::ks::xs::l,u1::u2::u3::u4::us,hu,h=>simp only[collect]at h;split at h;rename_i A p r q h1 i D w;simp only[Tn,Uy]at h;obtain⟨rfl,rfl⟩:=h;obtain⟨d1,d2,d3,E,C⟩:=hu;have j:=y0 c h1 d1;have n:=y0 c i d2;have f:=y0 c D d3;have m:=y0 c w E;refine⟨[u1,u2,u3,u4],us,rfl,?_,C⟩;have F:[u1]=[UB .i64 A]:=j;have B:[u2]=[TH p]:=n;cases F;cases B;exact TrRd.of f m;cases h
  |[],_,_,h=>simp[collect]at h
  |[_],_,_,h=>simp[collect]at h
  |[_,_],_,_,h=>simp[collect]at h
  |[_,_,_],_,_,h=>simp[collect]at h
  |_::_::_::_::_,[],hu,_=>exact hu.elim
  |_::_::_::_::_,[_],hu,_=>exact hu.2.elim
  |_::_::_::_::_,[_,_],hu,_=>exact hu.2.2.elim
  |_::_::_::_::_,[_,_,_],hu,_=>exact hu.2.2.2.elim
 |.int k,x::l,e,y,h,u::us,hu=>by simp only[collect]at h;split at h;rename_i z hz;simp only[Tn,Uy]at h;obtain⟨rfl,rfl⟩:=h;exact⟨[u],us,rfl,y0 c hz hu.1,hu.2⟩;cases h
 |.bool,x::l,e,y,h,u::us,hu=>by simp only[collect]at h;split at h;rename_i z hz;simp only[Tn,Uy]at h;obtain⟨rfl,rfl⟩:=h;exact⟨[u],us,rfl,y0 c hz hu.1,hu.2⟩;cases h
 |.str,x::l,e,y,h,u::us,hu=>by simp only[collect]at h;split at h;rename_i z hz;simp only[Tn,Uy]at h;obtain⟨rfl,rfl⟩:=h;exact⟨[u],us,rfl,y0 c hz hu.1,hu.2⟩;cases h
 |.row _,x::l,e,y,h,u::us,hu=>by simp only[collect]at h;split at h;rename_i z hz;simp only[Tn,Uy]at h;obtain⟨rfl,rfl⟩:=h;exact⟨[u],us,rfl,y0 c hz hu.1,hu.2⟩;cases h
 |.ptr _,x::l,e,y,h,u::us,hu=>by simp only[collect]at h;split at h;rename_i z hz;simp only[Tn,Uy]at h;obtain⟨rfl,rfl⟩:=h;exact⟨[u],us,rfl,y0 c hz hu.1,hu.2⟩;cases h
 |.iter,x::l,e,y,h,u::us,hu=>by simp only[collect]at h;split at h;rename_i z hz;simp only[Tn,Uy]at h;obtain⟨rfl,rfl⟩:=h;exact⟨[u],us,rfl,y0 c hz hu.1,hu.2⟩;cases h
 |.iter,_::_,_,_,_,[],hu=>hu.elim
 |.iter,[],_,_,h,_,_=>by simp[collect]at h
 |.err,x::l,e,y,h,u::us,hu=>by simp only[collect]at h;split at h;rename_i z hz;simp only[Tn,Uy]at h;obtain⟨rfl,rfl⟩:=h;exact⟨[u],us,rfl,y0 c hz hu.1,hu.2⟩;cases h
 |.err,_::_,_,_,_,[],hu=>hu.elim
 |.err,[],_,_,h,_,_=>by simp[collect]at h
 |.int _,_::_,_,_,_,[],hu=>hu.elim
 |.bool,_::_,_,_,_,[],hu=>hu.elim
 |.str,_::_,_,_,_,[],hu=>hu.elim
 |.row _,_::_,_,_,_,[],hu=>hu.elim
 |.ptr _,_::_,_,_,_,[],hu=>hu.elim
 |.int _,[],_,_,h,_,_=>by simp[collect]at h
 |.bool,[],_,_,h,_,_=>by simp[collect]at h
 |.str,[],_,_,h,_,_=>by simp[collect]at h
 |.row _,[],_,_,h,_,_=>by simp[collect]at h
 |.ptr _,[],_,_,h,_,_=>by simp[collect]at h
end Go.X
end
section
namespace Go.X
section
variable {M M':Fr} {h h':za} {b c o n0:Nat} {γ γ':Gh} {us:List Value} {u:Value} {t:Ty} {cs C R:CS} {e:TypeId}
def AgM(M:Fr)(h:za):Prop:=∀b c,M b=Td c->∃T m,h[b]?=Td (.cells c T m)
theorem AgM.lt(H:AgM M h){c:Array Value}(e:M b=Td c):b<h.size:=by obtain⟨T,m,f⟩:=H b c e;grind
theorem AgM.none{M:Fr}{h:za}(H:AgM M h){b:Nat}(f:h.size<=b):M b=Te:=by
 cases e:M b with
 |none=>rfl
 |some c=>have:=H.lt e;omega
theorem AgM.cell(H:AgM M h){c:Array Value}{v:Value}(e:M b=Td c)(i:c[o]?=Td v):zb h ⟨b,o,Option.none⟩=Td v:=by obtain⟨T,m,f⟩:=H b c e;unfold zb;simp[f,i]
def Gx(c:Option Nat)(γ γ':Gh):Prop:=Fr.le γ.M γ'.M/\∀i,c≠Td i->γ'.β i=γ.β i/\γ'.σ i=γ.σ i
theorem Gx.refl(c:Option Nat)(γ:Gh):Gx c γ γ:=⟨Fr.le.refl _,λ_ _=>⟨rfl,rfl⟩⟩
def mf(c:Nat):AA->Bool
 |.box j _=>Nat.beq j c
 |.own j=>Nat.beq j c
 |.oelt j _ _ _=>Nat.beq j c
 |_=>Tc
def jV(c:Nat):List AA->Bool
 |[]=>Tc
 |x::l=>bif mf c x then Ta else jV c l
def kT(c:Nat):Ch->Bool
 |.box l=>jV c l
 |_=>Tc
def sH(c:Nat):AG->Bool
 |.a x=>mf c x
 |.agg l=>jV c l
def t6(c:Nat):List AG->Bool
 |[]=>Tc
 |x::l=>bif sH c x then Ta else t6 c l
def s9(c:Nat):AV->Bool
 |.g x=>sH c x
 |.tup l=>t6 c l
 |.nx _ _ _=>Tc
def mc{α:Type}(f:Nat->α->Bool):Option Nat->α->Bool
 |none,_=>Tc
 |some c,x=>f c x
theorem pV{j c:Nat}(h:Nat.beq j c=Tc):Td c≠Td j:=by intro e;simp_all
theorem DenA.gx{c:Option Nat}(g:Gx c γ γ'):∀{x:AA} {u:Value},mc mf c x=Tc->DenA γ x u->DenA γ' x u
 |.v _,_,_,h=>h
 |.d _ _,_,_,h=>Rd.mono g.1 h
 |.box j o,u,hm,h=>by
  have:c≠Td j:=by cases c with|none=>simp|some c=>exact pV hm
  rw[show u=_ from h];simp only[DenA,(g.2 j this).1]
 |.own j,u,hm,h=>by
  have:c≠Td j:=by cases c with|none=>simp|some c=>exact pV hm
  rw[show u=_ from h];simp only[DenA,(g.2 j this).2]
 |.oelt j z i o,u,hm,h=>by
  have:c≠Td j:=by cases c with|none=>simp|some c=>exact pV hm
  obtain⟨b,k,l⟩:=h;exact⟨b,by rw[(g.2 j this).2];exact k,l⟩
 |.elt _ _ _,_,_,⟨b,f,cs,e,h1,h2⟩=>⟨b,f,cs,e,g.1 _ _ h1,Rd.mono g.1 h2⟩
 |.dc _ _,_,_,⟨s,k,l,h⟩=>⟨s,k,l,Rd.mono g.1 h⟩
theorem Og{l:List AA}(h:jV c l=Tc):∀x∈l,mf c x=Tc:=by
 induction l with
 |nil=>simp
 |cons y l b=>intro x e;simp only[jV]at h;grind
theorem DenL.gx{c:Option Nat}(g:Gx c γ γ'){l:List AA}(b:mc jV c l=Tc)(h:All2 (DenA γ) l us):All2 (DenA γ') l us:= h.imp λx f u e=>DenA.gx g (by cases c with|none=>rfl|some c=>exact Og b x f) e
theorem DenG.gx{c:Option Nat}(g:Gx c γ γ'){x:AG}(b:mc sH c x=Tc)(h:DenG γ x u):DenG γ' x u:=by
 cases x with
 |a x=>exact DenA.gx g (by cases c <;> exact b) h
 |agg l=>obtain⟨us,e,h⟩:=h;exact⟨us,e,DenL.gx g (by cases c <;> exact b) h⟩
theorem LO{l:List AG}(h:t6 c l=Tc):∀x∈l,sH c x=Tc:=by
 induction l with
 |nil=>simp
 |cons y l b=>intro x e;simp only[t6]at h;grind
theorem DenV.gx{c:Option Nat}(g:Gx c γ γ'){x:AV}(f:mc s9 c x=Tc)(h:DenV γ x u):DenV γ' x u:=by
 cases x with
 |g x=>exact DenG.gx g (by cases c <;> exact f) h
 |tup l=>obtain⟨us,e,h⟩:=h;exact⟨us,e,h.imp λx j u i=>DenG.gx g (by cases c with|none=>rfl|some c=>exact LO f x j) i⟩
 |nx b p c=>exact h
def RowC(M:Fr)(t:Ty)(xs:List (El t))(cells:List Value):Prop:=
 cells.length=xs.length*sz t/\∀i (h:i<xs.length),Rd M t xs[i] ((cells.drop (i*sz t)).take (sz t))
theorem RowC.mono(b:Fr.le M M'){xs:List (El t)}{cells:List Value}(H:RowC M t xs cells):RowC M' t xs cells:=⟨H.1,λi h=>Rd.mono b (H.2 i h)⟩
theorem RowC.nil(M:Fr)(t:Ty):RowC M t [] []:=⟨by simp,λi h=>absurd h (by simp)⟩
theorem RowC.single{x:El t}{cs:List Value}(h:Rd M t x cs):RowC M t [x] cs:=by
 have b:=h.len;refine⟨by simp[b],λi hi=>?_⟩;have:i=0:=by simpa using hi
 subst this;grind
theorem RowC.append{xs ys:List (El t)}{c1 c2:List Value}(h1:RowC M t xs c1)(j:RowC M t ys c2):RowC M t (xs++ys) (c1++c2):=by
 refine⟨by rw[Ts,Ts,h1.1,j.1,UX],λi hi=>?_⟩;by_cases b:i<xs.length;rw[UR b];have h:(i+1)*sz t<=c1.length:=by rw[h1.1];exact TX _ b
 rw[UX,V4]at h;rw[List.drop_append_of_le_length (by omega),Vi (by grind)];exact h1.2 i b;have c:xs.length<=i:=by omega
 rw[Vf c];have f:i-xs.length<ys.length:=by rw[Ts]at hi;omega
 have:=j.2 (i-xs.length) f;have e:(c1++c2).drop (i*sz t)=c2.drop ((i-xs.length)*sz t):=by
  rw[List.drop_append];have:c1.length<=i*sz t:=by rw[h1.1];exact TX _ c
  rw[Va this,UO,h1.1,<-Nat.sub_mul]
 grind
theorem RowC.one{xs:List (El t)}{cells:List Value}(H:RowC M t xs cells):∀v∈cells,v.oneCell'=Ta:=by
 intro v c;obtain⟨j,b,rfl⟩:=List.getElem_of_mem c;have hz:0<sz t:=by rcases Vz (sz t)with h|h;rw[H.1,h,Nat.mul_zero]at b;omega;exact h
 have hi:j / sz t<xs.length:=by rw[H.1]at b;exact Nat.div_lt_of_lt_mul (by grind)
 refine Rd.one (H.2 _ hi) _ ?_;rw[List.mem_iff_getElem?];refine⟨j % sz t,?_⟩;rw[Ud,zA (Nat.mod_lt _ hz),Ur,VA,Nat.div_add_mod,Tv b]
theorem RowC.rd{xs:List (El t)}{cells:List Value}(H:RowC M t xs cells){cs:Array Value}(h:M b=Td cs)(j:(cs.toList.drop o).take (xs.length*sz t)=cells)(k:xs.length<=140737488355328/\xs.length<=c):
  Rd M (.row t) xs [.slice (Td ⟨b,o,Te⟩) xs.length c]:=by
 refine⟨_,rfl,_,_,rfl,k,.inr ⟨b,o,cs,rfl,h,λi hi=>?_⟩⟩;have:=H.2 i hi;rw[<-j]at this;have f:(i+1)*sz t<=xs.length*sz t:=TX _ hi;rw[UX,V4]at f;have e:(((cs.toList.drop o).take (xs.length*sz t)).drop (i*sz t)).take (sz t)=cut cs (o+i*sz t) (sz t):=by unfold cut;rw[List.drop_take,List.take_take,VI,VS (by omega)]
 simp_all
theorem Rd.rowC(ag:AgM M h){xs:List (El t)}(H:Rd M (.row t) xs [u]):∃s:Sl,u=aK s/\s.len=xs.length/\(xs.length<=140737488355328/\xs.length<=s.cap)/\∃cells,RowC M t xs cells/\Arr h.size h s.a cells:=by
 obtain⟨v,e,a,c,rfl,m,H⟩:=H;cases e;refine⟨⟨a,xs.length,c⟩,rfl,rfl,m,?_⟩;rcases H with rfl|⟨b,o,cs,rfl,l,hi⟩;exact⟨[],RowC.nil _ _,.inl rfl⟩;have f:xs=[]\/xs.length*sz t<=(cs.toList.drop o).length:=by
  rcases Vz xs.length with h0|h0;simp_all;right;have:=(hi (xs.length-1) (by omega)).len;unfold cut at this;rw[UD,UJ]at this;rw[UJ];rcases Vz (sz t)with hz|hz;grind;have e:xs.length*sz t=(xs.length-1)*sz t+sz t:=by rw[<-VB];congr 1;omega
  rw[e];omega
 rcases f with rfl|f;exact⟨[],RowC.nil _ _,.inl rfl⟩;refine⟨(cs.toList.drop o).take (xs.length*sz t),⟨by simp_all,λi j=>?_⟩,.inr ⟨b,o,rfl,ag.lt l,λi v n=>?_⟩⟩;have:=hi i j;have k:(i+1)*sz t<=xs.length*sz t:=TX _ j;rw[UX,V4]at k;unfold cut at this;rw[List.drop_take,List.take_take,VI,VS (by omega)];exact this;refine ag.cell l ?_;grind
def xH(o:Option Obj)(us:List Value):Prop:=((∃T,o=Td (.cells us.toArray T (0,0)))/\∀s p,us≠[xd s p])\/(∃s p,us=[xd s p]/\o=Td (.stringIter s p))
def DenC(n0:Nat)(γ:Gh)(h:za)(c:Nat):Ch->Prop
 |.box l=>∃us,xH h[γ.β c]? us/\All2 (DenA γ) l us
 |.row e t xs=>∃cells,Owns h n0 e (sz t) (γ.σ c) cells/\RowC γ.M t xs cells/\xs.length<=140737488355328/\(γ.σ c).len=xs.length
 |.fz t xs=>Rd γ.M (.row t) xs [aK (γ.σ c)]
def blk(γ:Gh)(c:Nat):Ch->Option Nat
 |.box _=>Td (γ.β c)
 |.row _ _ _=>(γ.σ c).a.map (·.block)
 |.fz _ _=>Te
structure Inv (h0:za) (W:Nat->Prop) (M0:Fr) (cs:CS) (γ:Gh) (h:za):Prop where
 ag:AgM γ.M h
 frame:∀i,i<h0.size->¬W i->h[i]?=h0[i]?
 size:h0.size<=h.size
 old:∀b,b<h0.size->γ.M b=M0 b
 le:Fr.le M0 γ.M
 den:∀x∈cs,DenC h0.size γ h x.1 x.2
 sep:∀x∈cs,∀b,blk γ x.1 x.2=Td b->(h0.size<=b\/W b)/\γ.M b=Te
 apart:cs.Pairwise λx y=>∀b,blk γ x.1 x.2=Td b->blk γ y.1 y.2≠Td b
variable {h0 : za} {W : Nat -> Prop} {M0 : Fr}
theorem DenC.lt{k:Ch}(H:DenC n0 γ h c k):∀b,blk γ c k=Td b->b<h.size:=by
 intro b f;cases k with
 |box l=>obtain⟨us,e,_⟩:=H;simp only[blk,Tn]at f;subst f;rcases e with⟨⟨T,e⟩,_⟩|⟨s,p,_,e⟩;grind;grind
 |row e t xs=>obtain⟨cells,h1,_⟩:=H;simp only[blk,U1]at f;obtain⟨p,i,rfl⟩:=f;exact(h1.base_le p i).2
 |fz t xs=>cases f
theorem DenC.gx{c:Option Nat}(g:Gx c γ γ'){j:Nat}{k:Ch}(u:c≠Td j)(q:mc kT c k=Tc)(H:DenC n0 γ h j k)(f:∀b,blk γ j k=Td b->h'[b]?=h[b]?):DenC n0 γ' h' j k:=by
 obtain⟨r,i⟩:=g.2 j u;cases k with
 |box l=>obtain⟨us,e,h1⟩:=H;exact⟨us,by rw[r,f _ rfl];exact e,DenL.gx g (by cases c <;> exact q) h1⟩
 |row e t xs=>obtain⟨cells,h1,n,o,w⟩:=H;refine⟨cells,?_,n.mono g.1,o,by grind⟩;rw[i];exact h1.keep λp m=>f _ (by simp[blk,m])
 |fz t xs=>simp only[DenC,i];exact Rd.mono g.1 H
theorem nH{c:Option Nat}(g:Gx c γ γ'){j:Nat}(k:Ch)(e:c≠Td j):blk γ' j k=blk γ j k:=by obtain⟨b,f⟩:=g.2 j e;cases k <;> simp[blk,b,f]
theorem Inv.rest{cs rest:CS}{γ γ':Gh}{h h':za}(I:Inv h0 W M0 cs γ h)(hsub:rest.Sublist cs){c:Option Nat}(g:Gx c γ γ') (hmen:∀x∈rest,c≠Td x.1/\mc kT c x.2=Tc) (hk:∀x∈rest,∀b,blk γ x.1 x.2=Td b->h'[b]?=h[b]?/\γ'.M b=Te)
  (ag:AgM γ'.M h') (hframe:∀i,i<h0.size->¬W i->h'[i]?=h[i]?) (hsize:h.size<=h'.size) (hold:∀b,b<h0.size->γ'.M b=γ.M b):Inv h0 W M0 rest γ' h' where
 ag:=ag
 frame:=λi hi hw=>(hframe i hi hw).trans (I.frame i hi hw)
 size:=Ux I.size hsize
 old:=λb hb=>(hold b hb).trans (I.old b hb)
 le:=I.le.trans g.1
 den:=λx hx=>(I.den x (hsub.subset hx)).gx g (hmen x hx).1 (hmen x hx).2 λb hb=>(hk x hx b hb).1
 sep:=λx hx b hb=>by rw[nH g _ (hmen x hx).1]at hb;exact⟨(I.sep x (hsub.subset hx) b hb).1,(hk x hx b hb).2⟩
 apart:=by refine(I.apart.sublist hsub).imp_of_mem λ {x y} hx hy h=>?_;intro b hb;rw[nH g _ (hmen x hx).1]at hb;rw[nH g _ (hmen y hy).1];exact h b hb
theorem Inv.cons{rest:CS}(I:Inv h0 W M0 rest γ h){k:Ch}(hd:DenC h0.size γ h c k)(hs:∀b,blk γ c k=Td b->(h0.size<=b\/W b)/\γ.M b=Te)
  (ha:∀b,blk γ c k=Td b->∀x∈rest,blk γ x.1 x.2≠Td b):Inv h0 W M0 ((c,k)::rest) γ h where
 ag:=I.ag
 frame:=I.frame
 size:=I.size
 old:=I.old
 le:=I.le
 den:=λx hx=>by rcases Tz.1 hx with rfl|hx;exact hd;exact I.den x hx
 sep:=λx hx=>by rcases Tz.1 hx with rfl|hx;exact hs;exact I.sep x hx
 apart:=UM.2 ⟨λy hy b hb=>ha b hb y hy,I.apart⟩
theorem Inv.sub{cs rest:CS}(I:Inv h0 W M0 cs γ h)(hsub:rest.Sublist cs):Inv h0 W M0 rest γ h where
 ag:=I.ag
 frame:=I.frame
 size:=I.size
 old:=I.old
 le:=I.le
 den:=λx hx=>I.den x (hsub.subset hx)
 sep:=λx hx=>I.sep x (hsub.subset hx)
 apart:=I.apart.sublist hsub
theorem Inv.fz(I:Inv h0 W M0 cs γ h):kU γ cs:=λc t xs b=>I.den _ b
theorem Inv.call(I:Inv h0 W M0 cs γ h)(k:Keep h.size h h')(m:Fr.le γ.M M')(e:∀b,b<h.size->M' b=γ.M b)(ag:AgM M' h'):Inv h0 W M0 cs { γ with M:=M' } h':= I.rest (List.Sublist.refl _) (c:=Te) ⟨m,λ_ _=>⟨rfl,rfl⟩⟩ (λx _=>⟨by simp,rfl⟩) (λx l b j=>by have f:=(I.den x l).lt b j;exact⟨k.get b f,(e b f).trans (I.sep x l b j).2⟩) ag (λi hi _=>k.get i (U5 hi I.size)) k.size (λb j=>e b (U5 j I.size))
def yb(c:Nat):CS->CS
 |[]=>[]
 |(j,k)::l=>bif (bif Nat.beq j c then Ta else kT c k)then yb c l else(j,k)::yb c l
def Zd(c:Nat):CS->Bool
 |[]=>Ta
 |(j,k)::l=>bif (bif Nat.beq j c then Ta else kT c k)then Tc else Zd c l
def ir(c:Nat):CS->CS
 |[]=>[]
 |(j,k)::l=>bif Nat.beq j c then ir c l else(j,k)::ir c l
theorem jh(c:Nat):∀l:CS,(yb c l).Sublist l
 |[]=>.slnil
 |(j,k)::l=>by
  simp only[yb];cases(bif Nat.beq j c then Ta else kT c k)with
  |true=>exact(jh c l).cons _
  |false=>exact(jh c l).cons_cons _
theorem wl(c:Nat):∀l:CS,(ir c l).Sublist l
 |[]=>.slnil
 |(j,k)::l=>by
  simp only[ir];cases Nat.beq j c with
  |true=>exact(wl c l).cons _
  |false=>exact(wl c l).cons_cons _
theorem vl{c:Nat}:∀{l:CS} {x:Nat×Ch},x∈yb c l->Td c≠Td x.1/\kT c x.2=Tc
 |(j,k)::l,x,h=>by
  simp only[yb]at h;cases hb:(bif Nat.beq j c then Ta else kT c k)with
  |true=>rw[hb]at h;exact vl h
  |false=>
   rw[hb]at h;rcases Tz.1 h with rfl|h;cases hj:Nat.beq j c with
   |true=>simp[hj]at hb
   |false=>simp only[hj,zL]at hb;exact⟨pV hj,hb⟩
   exact vl h
theorem vx{c:Nat}:∀{l:CS},Zd c l=Ta->∀x∈l,Td c≠Td x.1/\kT c x.2=Tc
 |[],_,x,h=>by cases h
 |(j,k)::l,hn,x,h=>by
  simp only[Zd]at hn;cases hb:(bif Nat.beq j c then Ta else kT c k)with
  |true=>simp_all
  |false=>
   rw[hb]at hn;rcases Tz.1 h with rfl|h;cases hj:Nat.beq j c with
   |true=>simp[hj]at hb
   |false=>simp only[hj,zL]at hb;exact⟨pV hj,hb⟩
   exact vx hn x h
theorem Qm{c:Nat}:∀{l:CS} {x:Nat×Ch},x∈ir c l->x∈l/\x.1≠c
 |(j,k)::l,x,h=>by
  simp only[ir]at h;cases hb:Nat.beq j c with
  |true=>rw[hb]at h;exact⟨TS _ (Qm h).1,(Qm h).2⟩
  |false=>rw[hb]at h;rcases Tz.1 h with rfl|h;refine⟨TQ,λe=>?_⟩;simp_all;exact⟨TS _ (Qm h).1,(Qm h).2⟩
def kL(γ:Gh)(c b:Nat):Gh:={ γ with β:=λi=>bif Nat.beq i c then b else γ.β i }
def i9(γ:Gh)(c:Nat)(s:Sl):Gh:={ γ with σ:=λi=>bif Nat.beq i c then s else γ.σ i }
theorem nS(γ:Gh)(c b:Nat):Gx (Td c) γ (kL γ c b):=⟨Fr.le.refl _,λi hi=>by
 have:Nat.beq i c=Tc:=by
  cases h:Nat.beq i c with
  |false=>rfl
  |true=>simp_all
 simp[kL,this]⟩
theorem Ze(γ:Gh)(c:Nat)(s:Sl):Gx (Td c) γ (i9 γ c s):=⟨Fr.le.refl _,λi hi=>by
 have:Nat.beq i c=Tc:=by
  cases h:Nat.beq i c with
  |false=>rfl
  |true=>simp_all
 simp[i9,this]⟩
theorem Yd(γ:Gh)(c b:Nat):(kL γ c b).β c=b:=by simp[kL]
theorem qk(γ:Gh)(c:Nat)(s:Sl):(i9 γ c s).σ c=s:=by simp[i9]
theorem m0(e:Zd c R=Ta):∀x∈yb c C++R,Td c≠Td x.1/\mc kT (Td c) x.2=Tc:=by intro x b;rcases TE.1 b with b|b;exact vl b;exact vx e x b
theorem Inv.newBoxO(I:Inv h0 W M0 (C++R) γ h)(o:Zd c R=Ta){l:List AA}(p:All2 (DenA γ) l us)(r:jV c l=Tc){ob:Obj}(n:xH (Td ob) us):
  Inv h0 W M0 ((c,.box l)::yb c C++R) (kL γ c h.size) (h.push ob):=by
 have k:∀x∈yb c C++R,∀b,blk γ x.1 x.2=Td b->b<h.size:=λx j b f=>(I.den x (((jh c C).append_right R).subset j)).lt b f;have q:Inv h0 W M0 (yb c C++R) (kL γ c h.size) (h.push ob):=by refine I.rest ((jh c C).append_right R) (nS γ c h.size) (m0 o) (λx j b f=>?_) (λb t e=>?_) (λi hi _=>?_) (by simp) (λb f=>rfl);have:=k x j b f;exact⟨by grind,(I.sep x (((jh c C).append_right R).subset j) b f).2⟩;have:=I.ag.lt e;obtain⟨u,m,w⟩:=I.ag b t e;grind;have:=I.size;grind
 refine q.cons ⟨us,by rw[Yd,qj];exact n,DenL.gx (nS γ c h.size) r p⟩ (λb f=>?_) (λb f x j e=>?_);simp only[blk,Yd,Tn]at f;subst f;exact⟨.inl I.size,I.ag.none (Tm _)⟩;simp only[blk,Yd,Tn]at f;subst f;rw[nH (nS γ c h.size) _ (m0 o x j).1]at e;grind
theorem Inv.newBox(I:Inv h0 W M0 (C++R) γ h)(i:Zd c R=Ta){l:List AA}(e:All2 (DenA γ) l us)(f:jV c l=Tc)(b:jN l=Tc)(T:TypeId):
  Inv h0 W M0 ((c,.box l)::yb c C++R) (kL γ c h.size) (h.push (.cells us.toArray T)):=
 Inv.newBoxO I i e f (.inl ⟨⟨T,rfl⟩,λs p=>tw b e s p⟩)
theorem qB{α:Type}{R:α->α->Prop}(c:∀x y,R x y->R y x):∀{l:List α},l.Pairwise R->∀{x y:α},x∈l->y∈l->x≠y->R x y
 |[],_,_,_,hx,_,_=>by cases hx
 |z::l,h,x,y,hx,hy,hne=>by rw[UM]at h;rcases Tz.1 hx with e|h1;grind;rcases Tz.1 hy with f|b;simp_all;exact qB c h.2 h1 b hne
theorem Inv.setBox(I:Inv h0 W M0 (C++R) γ h){l r:List AA}(u:(c,Ch.box l)∈C)(e:xH h'[γ.β c]? us)
  (B:∀i,i≠γ.β c->h'[i]?=h[i]?) (G:h'.size=h.size) (z:All2 (DenA γ) r us) (J:∀x∈R,x.1≠c):Inv h0 W M0 ((c,.box r)::ir c C++R) γ h':=by
 have q:=I.sep _ (TF R u) _ rfl;have p:∀x∈ir c C++R,blk γ x.1 x.2≠Td (γ.β c):=by
  intro x j;have n:x≠(c,Ch.box l):=by rintro rfl;rcases TE.1 j with j|j;exact(Qm j).2 rfl;grind
  have k:x∈C++R:=((wl c C).append_right R).subset j;have w:=@qB _ (λ(x y:Nat×Ch)=>∀b,blk γ x.1 x.2=Td b->blk γ y.1 y.2≠Td b) (λx y h b f o=>h b o f) _ I.apart;intro f;exact w (TF R u) k (λe=>n e.symm) _ rfl f
 have A:Inv h0 W M0 (ir c C++R) γ h':=by refine I.rest ((wl c C).append_right R) (c:=Te) (Gx.refl _ _) (λx _=>⟨by simp,rfl⟩) (λx j b f=>?_) (λb D E=>?_) (λi hi F=>?_) (by omega) (λb f=>rfl);exact⟨B b λt=>p x j (t ▸ f),(I.sep x (((wl c C).append_right R).subset j) b f).2⟩;obtain⟨H,m,t⟩:=I.ag b D E;grind;grind
 refine A.cons ⟨us,e,z⟩ (λb f=>?_) (λb f x j=>?_);simp only[blk,Tn]at f;grind;simp only[blk,Tn]at f;simp_all
theorem Inv.newRow(I:Inv h0 W M0 (C++R) γ h)(D:Zd c R=Ta)(G:h.size<=h'.size){p:Option Nat}(z:∀i,i<h.size->p≠Td i->h'[i]?=h[i]?) (u:∀b,p=Td b->h0.size<=b/\γ.M b=Te/\∀x∈C++R,blk γ x.1 x.2≠Td b) {s:Sl} {xs:List (El t)} {cells:List Value} (n:Owns h' h0.size e (sz t) s cells) (k:∀q,s.a=Td q->p=Td q.block\/q.block=h.size) (o:RowC γ.M t xs cells) (H:xs.length<=140737488355328) (F:s.len=xs.length):
  Inv h0 W M0 ((c,.row e t xs)::yb c C++R) (i9 γ c s) h':=by
 have f:=(jh c C).append_right R;have w:∀x∈yb c C++R,∀b,blk γ x.1 x.2=Td b->b<h.size:=λx l b k=>(I.den x (f.subset l)).lt b k;have E:Inv h0 W M0 (yb c C++R) (i9 γ c s) h':=by refine I.rest f (Ze γ c s) (m0 D) (λx l b k=>?_) (λb A y=>?_) (λi hi N=>?_) G (λb k=>rfl);exact⟨z b (w x l b k) λr=>(u b r).2.2 x (f.subset l) k,(I.sep x (f.subset l) b k).2⟩;obtain⟨J,m,r⟩:=I.ag b A y;exact⟨J,m,by rw[z b (I.ag.lt y) λL=>by have:=(u b L).2.1;rw[show γ.M b=Td A from y]at this;cases this];exact r⟩;have:=I.size;grind
 refine E.cons ⟨cells,by rw[qk];exact n,o,H,by rw[qk];exact F⟩ (λb j=>?_) (λb j x l r=>?_);simp only[blk,qk,U1]at j;obtain⟨q,B,rfl⟩:=j;rcases k q B with h1|h1;exact⟨.inl (u _ h1).1,(u _ h1).2.1⟩;rw[h1];exact⟨.inl I.size,I.ag.none (Tm _)⟩;simp only[blk,qk,U1]at j;obtain⟨q,B,rfl⟩:=j;rw[nH (Ze γ c s) _ (m0 D x l).1]at r;grind
def nh(c:Nat):CS->CS
 |[]=>[]
 |(j,k)::l=>bif Nat.beq j c then(match k with
  |.row _ t xs=>(j,.fz t xs)::nh c l
  |k=>(j,k)::nh c l)else(j,k)::nh c l
def iR(γ:Gh)(b:Nat)(cs:Array Value):Gh:={ γ with M:=λi=>bif Nat.beq i b then Td cs else γ.M i }
theorem Inv.freeze1{A C:CS}{xs:List (El t)}(I:Inv h0 W M0 (A++(c,.row e t xs)::C) γ h):∃γ',Inv h0 W M0 (A++(c,.fz t xs)::C) γ' h/\Gx Te γ γ':=by
 obtain⟨cells,w,n,Y,Q⟩:=I.den (c,.row e t xs) (by simp);have L:=n.1;rcases w.2 with⟨m,h1⟩|⟨g,cap,j,m,k,N,S,J,V,F⟩;refine⟨γ,?_,Gx.refl _ _⟩;have G:xs=[]:=TT (by omega);have T:DenC h0.size γ h c (.fz t xs):=by subst G;simp only[Ua]at m;exact⟨_,rfl,Te,0,by simp[aK,m],⟨by simp,by simp⟩,.inl rfl⟩
 have l:∀x,x∈A++(c,Ch.fz t xs)::C->x∈A++(c,Ch.row e t xs)::C\/x=(c,Ch.fz t xs):=by intro x f;simp only[TE,Tz]at f ⊢;rcases f with h|h|h;grind;exact .inr h;simp_all
 refine⟨I.ag,I.frame,I.size,I.old,I.le,λx f=>?_,λx f b i=>?_,?_⟩;grind [den];rcases l x f with h|rfl;exact I.sep x h b i;cases i;have:=I.apart;simp only[Vt,UM]at this ⊢;obtain⟨a1,⟨a2,B⟩,E⟩:=this;refine⟨a1,⟨λy r b i=>(by simp[blk]at i),B⟩,λx f y r b i=>?_⟩;rcases Tz.1 r with rfl|r;simp[blk];grind;simp only[Ua]at m;have P:γ.M g=Te:=(I.sep (c,.row e t xs) (by simp) g (by simp[blk,m.1])).2;have z:Fr.le γ.M (iR γ g j).M:=by
  intro b H u;have:Nat.beq b g=Tc:=by
   cases i:Nat.beq b g with
   |false=>rfl
   |true=>simp_all
  simp[iR,this,u]
 have gx:Gx Te γ (iR γ g j):=⟨z,λ_ _=>⟨rfl,rfl⟩⟩;have O:g<h.size:=(TD.1 N).1;have D:∀x,x∈A++C->blk γ x.1 x.2≠Td g:=by intro x f;have:=I.apart;simp only[Vt,UM]at this;obtain⟨a1,⟨a2,B⟩,E⟩:=this;rcases TE.1 f with f|f;intro i;exact E x f (c,.row e t xs) TQ g i (by simp[blk,m.1]);exact a2 x f g (by simp[blk,m.1])
 have p:∀b,b≠g->(iR γ g j).M b=γ.M b:=by
  intro b i;have:Nat.beq b g=Tc:=by
   cases h:Nat.beq b g with
   |false=>rfl
   |true=>simp_all
  simp[iR,this]
 have q:Inv h0 W M0 (A++C) (iR γ g j) h:=by
  refine I.rest (by simp) gx (λx _=>⟨by simp,rfl⟩) (λx f b i=>?_) (λb H u=>?_) (λ_ _ _=>rfl) (Tm _) (λb i=>p b (by omega));have k:b≠g:=λU=>D x f (U ▸ i);refine⟨rfl,(p b k).trans (I.sep x ?_ b i).2⟩;grind;by_cases k:b=g;subst k;have:H=j:=by simp[iR]at u;exact u.symm
  subst this;exact⟨_,_,N⟩;rw[p b k]at u;exact I.ag b H u
 refine⟨iR γ g j,?_,gx⟩;have T:DenC h0.size (iR γ g j) h c (.fz t xs):=by
  have:=(n.mono z).rd (b:=g) (o:=0) (c:=cap) (cs:=j) (by simp[iR]) (by simp_all) ⟨Y,by omega⟩;show Rd _ _ _ [aK (γ.σ c)];have Z:aK (γ.σ c)=.slice (Td ⟨g,0,Te⟩) xs.length cap:=by unfold aK;rw[m.1,Q,m.2.2]
  rw[Z];exact this
 have l:∀x,x∈A++(c,Ch.fz t xs)::C->x∈A++C\/x=(c,Ch.fz t xs):=by intro x f;simp only[TE,Tz]at f ⊢;rcases f with h|h|h;grind;exact .inr h;grind
 refine⟨q.ag,q.frame,q.size,q.old,q.le,λx f=>?_,λx f b i=>?_,?_⟩;grind [den];rcases l x f with h|rfl;exact q.sep x h b i;cases i;have:=q.apart;simp only[Vt,UM]at this ⊢;obtain⟨a1,B,E⟩:=this;refine⟨a1,⟨λy r b i=>(by simp[blk]at i),B⟩,λx f y r b i=>?_⟩;rcases Tz.1 r with rfl|r;simp[blk];grind
theorem Inv.freeze{R:CS}{h:za}(c:Nat):∀(C A:CS) {γ:Gh},Inv h0 W M0 (A++C++R) γ h->∃γ',Inv h0 W M0 (A++nh c C++R) γ' h/\Gx Te γ γ'
 |[],A,γ,I=>⟨γ,I,Gx.refl _ _⟩
 |(j,k)::l,A,γ,I=>by
  have go:∀(k:Ch) {γ:Gh},Inv h0 W M0 (A++(j,k)::l++R) γ h->∃γ',Inv h0 W M0 (A++(j,k)::nh c l++R) γ' h/\Gx Te γ γ':=by intro k γ I;have:=Inv.freeze c l (A++[(j,k)]) (R:=R) (γ:=γ) (by simpa using I);simpa using this
  simp only[nh];cases Nat.beq j c with
  |true=>
   cases k with
   |row e t xs=>obtain⟨m,n,g1⟩:=Inv.freeze1 (A:=A) (C:=l++R) (γ:=γ) (by simpa using I);obtain⟨b,f,g2⟩:=go (.fz t xs) (γ:=m) (by simpa using n);exact⟨b,f,g1.1.trans g2.1,λi hi=>⟨(g2.2 i hi).1.trans (g1.2 i hi).1,(g2.2 i hi).2.trans (g1.2 i hi).2⟩⟩
   |box o=>exact go _ I
   |fz t xs=>exact go _ I
  |false=>exact go _ I
end
section
variable {i n:Nat} {c:qf} {v:AV} {γ γ':Gh} {a:Act} {u:Value} {o:Oper} {g:Option Bool} {σ:Operand -> Value}
abbrev yp:=List (Nat×qf×AV)
def lW:yp->Nat->Option (qf×AV)
 |[],_=>Te
 |(j,c,v)::e,i=>bif Nat.beq i j then Td (c,v)else lW e i
def mB(γ:Gh)(σ:Nat->Value)(x:Nat×qf×AV):Prop:=(valid σ x.2.1->DenV γ x.2.2 (σ x.1))/\(¬valid σ x.2.1->σ x.1=undef)
structure SatA (n:Nat) (e:yp) (γ:Gh) (a:Act):Prop where
 defers:a.defers=[]
 size:a.tmps.size=n
 all:∀x∈e,mB γ (qc a) x
def oY:yp->Nat->yp
 |[],_=>[]
 |(j,c,v)::e,i=>bif (bif Nat.beq i j then Ta else mentions c i)then oY e i else(j,c,v)::oY e i
def DU(e:yp)(i:Nat)(c:qf)(v:AV):yp:=(i,c,v)::oY e i
def tH(e:yp):Option Nat->qf->AV->yp
 |none,_,_=>e
 |some d,c,v=>DU e d c v
def mD:yp->yp
 |[]=>[]
 |(j,[],v)::e=>(j,[],v)::mD e
 |(_,_::_,_)::e=>mD e
def qQ(c:Nat):yp->yp
 |[]=>[]
 |(j,ch,v)::e=>bif s9 c v then qQ c e else(j,ch,v)::qQ c e
def sS:Option Nat->yp->yp
 |none,e=>e
 |some c,e=>qQ c e
theorem xu{e:yp}(h:lW e i=Td (c,v)):(i,c,v)∈e:=by
 induction e with
 |nil=>cases h
 |cons x e f=>obtain⟨j,b,l⟩:=x;simp only[lW]at h;by_cases k:Nat.beq i j=Ta;simp_all;simp_all
theorem Lh{e:yp}{x:Nat×qf×AV}(h:x∈oY e i):x∈e/\x.1≠i/\mentions x.2.1 i=Tc:=by
 induction e with
 |nil=>cases h
 |cons y e o=>
  obtain⟨j,f,n⟩:=y;simp only[oY]at h;by_cases k:Nat.beq i j=Ta;simp_all;have c:Nat.beq i j=Tc:=Bool.eq_false_iff.2 k;simp only[c,zL]at h;by_cases l:mentions f i=Ta;simp_all;have b:mentions f i=Tc:=by simpa using l
  simp only[b,zL]at h;rcases Tz.1 h with rfl|h;refine⟨TQ,λm=>?_,b⟩;simp_all;simp_all
theorem P7{e:yp}{x:Nat×qf×AV}(h:x∈mD e):x∈e/\x.2.1=[]:=by
 induction e with
 |nil=>cases h
 |cons y e i=>
  obtain⟨j,b,f⟩:=y;cases b with
  |nil=>simp only[mD]at h;grind
  |cons c cs=>simp only[mD]at h;simp_all
theorem RI{c:Option Nat}{e:yp}{x:Nat×qf×AV}(h:x∈sS c e):x∈e/\mc s9 c x.2.2=Tc:=by
 cases c with
 |none=>exact⟨h,rfl⟩
 |some c=>
  have key:∀e:yp,x∈qQ c e->x∈e/\s9 c x.2.2=Tc:=by
   intro e;induction e with
   |nil=>intro h;cases h
   |cons y e b=>obtain⟨j,f,i⟩:=y;intro h;simp only[qQ]at h;grind
  exact key e h
theorem SatA.sub{e b:yp}(h:SatA n e γ a)(c:∀x∈b,x∈e):SatA n b γ a:=⟨h.defers,h.size,λx f=>h.all x (c x f)⟩
theorem SatA.clean{e:yp}(h:SatA n e γ a):SatA n (mD e) γ a:=h.sub λ_ b=>(P7 b).1
theorem SatA.gx{e:yp}{c:Option Nat}(h:SatA n e γ a)(g:Gx c γ γ'):SatA n (sS c e) γ' a:= ⟨h.defers,h.size,λx i=>by obtain⟨h1,f⟩:=RI i;exact⟨λb=>((h.all x h1).1 b).gx g f,(h.all x h1).2⟩⟩
theorem SatA.gx0{e:yp}(h:SatA n e γ a)(g:Gx Te γ γ'):SatA n e γ' a:=h.gx g
theorem SatA.put{e:yp}(h:SatA n e γ a)(hi:i<n)(w:mentions c i=Tc)
  (y:valid (qc a) c->DenV γ v u) (t:¬valid (qc a) c->u=undef):SatA n (DU e i c v) γ (a.put (Td i) u):=by
 refine⟨by rw[w8];exact h.defers,by rw[size_put];exact h.size,λx m=>?_⟩;have k:i<a.tmps.size:=by rw[h.size];exact hi
 rcases Tz.1 m with rfl|m;have l:=Yp (σ:=qc (a.put (Td i) u)) (τ:=qc a) w (λj o=>qz o);refine⟨λf=>?_,λf=>?_⟩;simp only;rw[xp k];grind;exact(xp k).trans (t (λb=>f (l.2 b)));obtain⟨h1,q,r⟩:=Lh m;have l:=Yp (σ:=qc (a.put (Td i) u)) (τ:=qc a) r (λj o=>qz o);have p:=h.all x h1;refine⟨λf=>?_,λf=>?_⟩;rw[qz q];exact p.1 (l.1 f);exact(qz q).trans (p.2 (λb=>f (l.2 b)))
theorem SatA.putO{e:yp}(h:SatA n e γ a){d:Option Nat}(f:jy n c d=Ta)
  (k:valid (qc a) c->DenV γ v u) (l:¬valid (qc a) c->u=undef):SatA n (tH e d c v) γ (a.put d u):=by
 cases d with
 |none=>exact h
 |some i=>
  simp only[jy]at f;by_cases j:mentions c i=Ta;grind;have b:mentions c i=Tc:=by simpa using j
  simp only[b,zL]at f;exact h.put (by simp_all) b k l
def yE:Value->AG
 |.agg cs=>.agg (cs.toList.map .v)
 |v=>.a (.v v)
def nQ:Value->AV
 |.tuple vs=>.tup (vs.toList.map yE)
 |v=>.g (yE v)
theorem Ca(γ:Gh)(v:Value):DenG γ (yE v) v:=by
 cases v with
 |agg cs=>
  refine⟨cs.toList,by simp,?_⟩;generalize cs.toList=l;induction l with
  |nil=>trivial
  |cons x l b=>exact⟨rfl,b⟩
 |_=>exact rfl
theorem Wb(γ:Gh)(v:Value):DenV γ (nQ v) v:=by
 cases v with
 |tuple vs=>
  refine⟨vs.toList,by simp,?_⟩;generalize vs.toList=l;induction l with
  |nil=>trivial
  |cons x l b=>exact⟨Ca γ x,b⟩
 |agg cs=>exact Ca γ (.agg cs)
 |_=>exact rfl
def ku:List AA->Option (List Value)
 |[]=>Td []
 |.v x::l=>match ku l with
  |some vs=>Td (x::vs)
  |none=>Te
 |_::_=>Te
def oE:AV->Option Value
 |.g (.a (.v x))=>Td x
 |.g (.agg l)=>match ku l with
  |some vs=>Td (.agg vs.toArray)
  |none=>Te
 |_=>Te
theorem EO{γ:Gh}:∀{l:List AA} {vs us:List Value},ku l=Td vs->All2 (DenA γ) l us->us=vs
 |[],vs,[],h,_=>by simp only[ku,Tn]at h;exact h
 |[],_,_::_,_,h=>h.elim
 |.v x::l,vs,u::us,h,hd=>by simp only[ku]at h;split at h;rename_i ws b;simp only[Tn]at h;subst h;rw[show u=x from hd.1,EO b hd.2];cases h
 |.v _::_,_,[],_,h=>h.elim
 |.d _ _::_,_,_,h,_=>by simp[ku]at h
 |.box _ _::_,_,_,h,_=>by simp[ku]at h
 |.own _::_,_,_,h,_=>by simp[ku]at h
 |.oelt _ _ _ _::_,_,_,h,_=>by simp[ku]at h
 |.elt _ _ _::_,_,_,h,_=>by simp[ku]at h
 |.dc _ _::_,_,_,h,_=>by simp[ku]at h
theorem xB{x:AV}{v u:Value}(h:oE x=Td v)(b:DenV γ x u):u=v:=by unfold oE at h;split at h;simp only[Tn]at h;subst h;exact b;rename_i l;split at h;rename_i vs c;simp only[Tn]at h;subst h;obtain⟨us,rfl,e⟩:=b;rw[EO c e];cases h;cases h
def jn(e:yp)(c:qf):Operand->Option AV
 |.tmp t=>match lW e t with
  |some (cs,v)=>bif kw cs c then Td v else Te
  |none=>Te
 |.const v=>Td (nQ v)
 |.global g=>Td (.g (.a (.v (.pointer (Td ⟨g,0,Te⟩)))))
 |.func f=>Td (.g (.a (.v (.func (.func f) #[] #[]))))
theorem xe{e:yp}(h:SatA n e γ a)(k:valid (qc a) c){x:Operand}(b:jn e c x=Td v):DenV γ v (a.eval x):=by
 cases x with
 |tmp t=>simp only[jn]at b;split at b;rename_i cs u j;by_cases i:kw cs c=Ta;simp only[i,zK,Tn]at b;subst b;exact(h.all _ (xu j)).1 (Q2 i k);grind;cases b
 |const u=>simp only[jn,Tn]at b;subst b;exact Wb γ u
 |global g=>simp only[jn,Tn]at b;subst b;exact rfl
 |func f=>simp only[jn,Tn]at b;subst b;exact rfl
def oo:AV->Option Bool
 |.g (.a (.v (.bool b)))=>Td b
 |_=>Te
theorem vP{b:Bool}(h:oo v=Td b)(c:DenV γ v u):u=.bool b:=by unfold oo at h;split at h;simp only[Tn]at h;subst h;exact c;cases h
def pt(ops:Array Oper)(e:yp):Option (Nat×Bool)->Option qf
 |none=>Td []
 |some (j,p)=>match jl ops j with
  |some g=>match lW e g with
   |some (cg,v)=>match oo v with
    |some _=>Td ((g,p)::cg)
    |none=>Te
   |none=>Te
  |none=>Te
def pg(e:yp):qf->Option Bool
 |[]=>Td Ta
 |(g,p)::c=>match lW e g with
  |some (cg,v)=>match oo v with
   |some b=>bif w9 cg c then(match pg e c with
    |some cb=>Td (cb&&(bif p then b else !b))
    |none=>Te)else Te
   |none=>Te
  |none=>Te
theorem Wc{n:Nat}{e:yp}{γ:Gh}{a:Act}(h:SatA n e γ a):∀{c:qf} {b:Bool},pg e c=Td b->(b=Ta↔valid (qc a) c)
 |[],b,hb=>by simp only[pg,Tn]at hb;simp[<-hb,valid]
 |(g,p)::c,b,hb=>by
  simp only[pg]at hb;split at hb;rename_i t v o;split at hb;rename_i m j;by_cases l:w9 t c=Ta;simp only[l,zK]at hb;split at hb;rename_i cb i;simp only[Tn]at hb;have r:=Wc h i;have k:=h.all _ (xu o);rw[Q1 l]at k;by_cases f:valid (qc a) c;have h1:qc a g=.bool m:=vP j (k.1 f);have q:=r.2 f;subst hb;simp only[valid,h1,f,q,UQ,and_true,Value.bool.injEq];grind;have h1:cb=Tc:=by cases cb with|false=>rfl|true=>simp_all
  subst hb;simp[valid,f,h1];cases hb;grind;cases hb;cases hb
theorem FF{ops:Array Oper}{e:yp}(h:SatA n e γ a)(f:pt ops e o.guard=Td c):
  Ue o (yielded ops a.tmps)=Ta↔valid (qc a) c:=by
 unfold Ue;cases hg:o.guard with
 |none=>rw[hg]at f;simp only[pt,Tn]at f;simp[<-f,valid]
 |some t=>
  obtain⟨j,p⟩:=t;rw[hg]at f;simp only[pt]at f;split at f;rename_i g i;split at f;rename_i u v q;split at f;rename_i b w;simp only[Tn]at f;subst f;have k:((ops[j]?).bind (·.dst))=Td g:=by simp only[jl]at i;split at i;simp_all;cases i
  have m:=h.all _ (xu q);have r:yielded ops a.tmps j=Td p↔qc a g=.bool p:=by
   unfold yielded qc;rw[k];simp only[U0];cases ht:a.tmps[g]? with
   |none=>simp[Uv,ht,undef]
   |some v=>cases v <;> simp[Uv,ht]
  simp only[beq_iff_eq,r,valid];constructor;intro h1;refine⟨h1,?_⟩;by_cases l:valid (qc a) u;exact l;have:=m.2 l;simp only at this;rw[h1]at this;exact absurd this.symm AZ;simp_all;cases f;cases f;cases f
def Xb(e:yp):qf->Option (Option Bool)
 |[]=>Td Te
 |c=>match pg e c with
  |some b=>Td (Td b)
  |none=>Te
theorem Ez{e:yp}(i:SatA n e γ a)(h:Xb e c=Td g)(j:valid (qc a) c):fK g:=by unfold Xb at h;split at h;simp only[Tn]at h;subst h;trivial;split at h;rename_i b f;simp only[Tn]at h;subst h;exact(Wc i f).2 j;cases h
theorem FG{e:yp}(j:SatA n e γ a)(h:Xb e c=Td g)(f:¬valid (qc a) c):g=Td Tc:=by
 unfold Xb at h;split at h;exact absurd trivial f;split at h;rename_i b i;simp only[Tn]at h;subst h;cases b with
 |false=>rfl
 |true=>exact absurd ((Wc j i).1 rfl) f
 cases h
def tq(ρ:Operand->Option AV)(x:Operand):Value:=match ρ x with
 |some av=>match oE av with
  |some v=>v
  |none=>undef
 |none=>undef
def ow(ρ:Operand->Option AV):List Operand->Bool
 |[]=>Ta
 |x::l=>match ρ x with
  |some av=>match oE av with
   |some _=>ow ρ l
   |none=>Tc
  |none=>Tc
theorem KY{ρ:Operand->Option AV}(h:∀x av,ρ x=Td av->DenV γ av (σ x)){l:List Operand}(c:ow ρ l=Ta):∀x∈l,σ x=tq ρ x:=by
 induction l with
 |nil=>simp
 |cons y l i=>intro x f;simp only[ow]at c;split at c;rename_i av e;split at c;rename_i v b;rcases Tz.1 f with rfl|f;rw[xB b (h _ _ e)];simp[tq,e,b];grind;cases c;cases c
theorem P0{ρ:Operand->Option AV}(f:∀x av,ρ x=Td av->DenV γ av (σ x))(c:Yr o.op=Ta)(e:ow ρ o.op.operands.toList=Ta):
  execOp σ o=execOp (tq ρ) o:=
 execOp_congr o (λcs b h=>by rw[h]at c;cases c) λx i=>KY f e x (by simpa using i)
end
section
variable {o n f k:Nat} {h:za} {u:Value} {us:List Value} {cs:CS} {γ:Gh} {t ty:TypeId} {P:Program}
variable {h0 : za} {W : Nat -> Prop} {M0 : Fr}
def takeN(l:List AA)(o n:Nat):Option (List AA):=bif Nat.beq ((l.drop o).take n).length n then Td ((l.drop o).take n)else Te
theorem Xc{l r:List AA}(h:takeN l o n=Td r):r=(l.drop o).take n/\r.length=n:=by
 unfold takeN at h;cases hb:Nat.beq ((l.drop o).take n).length n with
 |false=>simp_all
 |true=>rw[hb]at h;simp_all
theorem FS{h:za}{p:Addr}:∀{us:List Value} {i:Nat},(∀j v,us[j]?=Td v->zb h (p.add (i+j))=Td v)->zc h p i us
 |[],_,_=>trivial
 |v::us,i,H=>⟨by have:=H 0 v rfl;omega,FS λj u b=>by have:=H (j+1) u (by simpa using b);grind⟩
def Behind(h:za)(u:Value)(us:List Value):Prop:=∃b o,u=.pointer (Td ⟨b,o,Te⟩)/\∀j v,us[j]?=Td v->zb h ⟨b,o+j,Te⟩=Td v
theorem Behind.ld(H:Behind h u us):∃p:Addr,u=.pointer (Td p)/\zc h p 0 us/\∀v,us=[v]->zb h p=Td v:=by obtain⟨b,o,e,f⟩:=H;refine⟨_,e,FS λj v c=>?_,λv c=>?_⟩;rw[zd,TJ];exact f j v c;have:=f 0 v (by rw[c];rfl);omega
theorem LP{cs:Array Value}{f n j:Nat}{v:Value}(h:(cut cs f n)[j]?=Td v):cs[f+j]?=Td v:=by unfold cut at h;grind
def sI(cs:CS)(n:Nat):AA->Option (List AA)
 |.box c o=>match Yb cs c with
  |some (.box l)=>bif jN l then Te else takeN l o n
  |_=>Te
 |.elt t x o=>takeN (Ya t x) o n
 |_=>Te
theorem R7(I:Inv h0 W M0 cs γ h){y:AA}{r:List AA}(k:sI cs n y=Td r)(w:DenA γ y u):
  ∃us,Behind h u us/\us.length=n/\All2 (DenA γ) r us:=by
 unfold sI at k;split at k
 ·rename_i c o;split at k
  ·rename_i l z;cases hit:jN l with
   |true=>simp_all
   |false=>
   rw[hit]at k;obtain⟨rfl,q⟩:=Xc k;obtain⟨us,e,A⟩:=I.den _ (zx z);rcases e with⟨⟨T,e⟩,_⟩|⟨s,p,e,_⟩;case inr=>grind [tw]
   have m:=(A.drop o).take n;refine⟨(us.drop o).take n,⟨_,_,w,λj v i=>?_⟩,by rw[<-m.length];exact q,m⟩;rw[Ud]at i;split at i;rw[Ur]at i;unfold zb;simp_all;cases i
  cases k
 rename_i t x o;obtain⟨rfl,q⟩:=Xc k;obtain⟨b,f,D,e,C,B⟩:=w;have m:=((j7 (γ:=γ) B).drop o).take n;refine⟨_,⟨_,_,e,λj v i=>?_⟩,by rw[<-m.length];exact q,m⟩;rw[Ud]at i;split at i;rw[Ur]at i;have:=LP i;exact I.ag.cell C (by grind);cases i;cases k
theorem Mz(I:Inv h0 W M0 cs γ h){c:Nat}{e:TypeId}{t:Ty}{xs:List (El t)}(H:Yb cs c=Td (.row e t xs)){i:Nat}{y:El t}(A:xs[i]?=Td y){r:List AA}(F:takeN (Ya t y) o n=Td r)(C:DenA γ (.oelt c (sz t) i o) u):∃us,Behind h u us/\us.length=n/\All2 (DenA γ) r us:=by
 obtain⟨rfl,G⟩:=Xc F;obtain⟨g,D,rfl⟩:=C;obtain⟨cells,f,l,_,E⟩:=I.den _ (zx H);simp only at E f;rcases f.2 with⟨m,h1⟩|⟨g',cap,w,m,_,p,_,_,_,k⟩;simp_all;simp only[Ua]at m;rw[D]at m;have x:g=g':=by have:=m.1;simp only[Tn,Addr.mk.injEq]at this;exact this.1
 subst x;have hi:i<xs.length:=(T5.1 A).1;have q:xs[i]=y:=(T5.1 A).2;have z:=l.2 i hi;rw[q]at z;have B:=((j7 (γ:=γ) z).drop o).take n;refine⟨_,⟨_,_,rfl,λj v b=>?_⟩,by rw[<-B.length];exact G,B⟩;rw[Ud]at b;split at b;rw[Ur,Ud]at b;split at b;rw[Ur,<-k,Ud]at b;split at b;have J:h[g]?=Td (.cells w e (0,0)):=p;unfold zb;grind;cases b;cases b;cases b
def lS:Option Nat->List AA->Option AG
 |none,[x]=>Td (.a x)
 |some _,l=>Td (.agg l)
 |_,_=>Te
def Wd(P:Program)(t:TypeId):Option (Option Nat):=match kc P t with
 |some (.one _)=>Td Te
 |some (.agg l)=>Td (Td l.length)
 |none=>Te
def lr:Option Nat->Nat
 |none=>1
 |some n=>n
theorem vB{s:Option Nat}(c:Wd P t=Td s)(n:Behind h u us)(k:us.length=lr s){r:List AA}(b:All2 (DenA γ) r us){ag:AG}(i:lS s r=Td ag):
  ∃v,DenG γ ag v/\QExec P (Vy t u) h v:=by
 obtain⟨p,e,m,h1⟩:=n.ld;subst e;have f:∀v,QExec P (loadVar t p) h v->QExec P (Vy t (.pointer (Td p))) h v:=λv o B d=>by unfold Vy VG;simp only[Sem.run_bind,Sem.run_pure,Result.andThen_ok];exact o B d
 unfold Wd at c;split at c;rename_i a j;simp only[Tn]at c;subst c
 match us,k,r,b with
 |[v],_,[x],b=>simp only[lS,Tn]at i;subst i;exact⟨v,b.1,f v (pp j (h1 v rfl))⟩
 |[v],_,[],b=>exact b.elim
 |[v],_,_::_::_,b=>exact b.2.elim
 rename_i l j;simp only[Tn]at c;subst c;simp only[lS,Tn]at i;subst i;exact⟨.agg us.toArray,⟨us,rfl,b⟩,f _ (pT j k m)⟩;cases c
def oA(P:Program)(cs:CS)(t:TypeId)(b:AA)(g:Option Bool)(K:AV->Prop):Prop:=
 match Wd P t with
 |some s=>match b with
  |.oelt c z i o=>match Yb cs c with
   |some (.row e ty xs)=>bif Nat.beq z (sz ty)then(∃y:El ty,req g (xs[i]?=Td y)/\match takeN (Ya ty y) o (lr s)with
    |some r=>match lS s r with
     |some ag=>K (.g ag)
     |none=>False
    |none=>False)else False
   |_=>False
  |b=>match sI cs (lr s) b with
   |some r=>match lS s r with
    |some ag=>K (.g ag)
    |none=>False
   |none=>False
 |none=>False
theorem Ao{p:AA}{g:Option Bool}{K:AV->Prop}(H:oA P cs t p g K):
  ∃av,K av/\(fK g->∀γ h u,Inv h0 W M0 cs γ h->DenA γ p u->∃v,DenV γ av v/\QExec P (Vy t u) h v):=by
 unfold oA at H;split at H;rename_i s m;split at H;rename_i c z i o;split at H;rename_i e ty xs w;cases hz:Nat.beq z (sz ty)with
 |false=>simp_all
 |true=>rw[hz]at H;obtain⟨y,q,H⟩:=H;split at H;rename_i r k;split at H;rename_i ag f;refine⟨_,H,λn γ h u I b=>?_⟩;rw[TL hz]at b;obtain⟨us,h1,j,l⟩:=Mz I w (q.out n) k b;exact vB m h1 j l f;exact H.elim;exact H.elim
 exact H.elim;split at H;rename_i r k;split at H;rename_i ag f;refine⟨_,H,λn γ h u I b=>?_⟩;obtain⟨us,h1,j,l⟩:=R7 I k b;exact vB m h1 j l f;exact H.elim;exact H.elim;exact H.elim
def pO(P:Program)(t:TypeId)(f:Nat):Option (Nat×TypeId):=match P.underlying t with
 |some (.struct fs)=>match fs[f]? with
  |some b=>match P.info? b.type with
   |some i=>bif Nat.beq i.size 0 then Te else Td (b.offset,b.type)
   |none=>Te
  |none=>Te
 |_=>Te
def sL(k:Nat):AA->Option AA
 |.box c o=>Td (.box c (o+k))
 |.elt t x o=>Td (.elt t x (o+k))
 |.oelt c z i o=>Td (.oelt c z i (o+k))
 |_=>Te
theorem Kz(c:pO P t f=Td (k,ty))(b o:Nat):QExec P (Instr.fieldAt t (.pointer (Td ⟨b,o,Te⟩)) f) h (.pointer (Td ⟨b,o+k,Te⟩)):=by
 unfold pO at c;split at c;rename_i r n;split at c;rename_i p l;split at c;rename_i i hi;cases hz:Nat.beq i.size 0 with
 |true=>simp_all
 |false=>
  rw[hz]at c;simp only[zL,Tn,Uy]at c;obtain⟨rfl,rfl⟩:=c;intro B d;have m:=QExec.underlying (h:=h) n B d;have q:=QExec.sizeOf (h:=h) hi B d;have j:¬(y8 P p.type=0):=by unfold y8;rw[hi];intro e;simp only at e;rw[e]at hz;simp at hz
  unfold Instr.fieldAt VG fieldPlace;simp only[Sem.run_bind,m,Result.andThen_ok,l,Sem.run_pure,q,j,if_false,zd]
 cases c;cases c;cases c
theorem GM{j c:AA}(h:sL k j=Td c)(i:DenA γ j u):∃b o,u=.pointer (Td ⟨b,o,Te⟩)/\DenA γ c (.pointer (Td ⟨b,o+k,Te⟩)):=by unfold sL at h;split at h;simp only[Tn]at h;subst h;exact⟨_,_,i,rfl⟩;simp only[Tn]at h;subst h;obtain⟨b,f,cs,e,h1,m⟩:=i;exact⟨_,_,e,b,f,cs,by grind,h1,m⟩;simp only[Tn]at h;subst h;obtain⟨g,l,n⟩:=i;exact⟨_,_,n,g,l,by grind⟩;cases h
def pD(P:Program)(ty:TypeId)(l:List AA)(k:Nat):Option AG:=match Wd P ty with
 |some s=>match takeN l k (lr s)with
  |some r=>lS s r
  |none=>Te
 |none=>Te
theorem EJ{s:Option Nat}(c:Wd P t=Td s)(h:za):QExec P (isAgg t) h s.isSome:=by
 unfold Wd at c;split at c;rename_i a b;simp only[Tn]at c;subst c;unfold kc at b;split at b;grind;grind;rename_i d i o f;intro B e;have j:=QExec.underlying (h:=h) f B e;unfold isAgg;simp_all;cases b;rename_i l b;simp only[Tn]at c;subst c;unfold kc at b;have f:(∃k,P.underlying t=Td (.struct k))\/∃n e,P.underlying t=Td (.array n e):=by split at b;simp_all;simp_all;simp at b;cases b
 intro B e;rcases f with⟨k,f⟩|⟨m,p,f⟩;have j:=QExec.underlying (h:=h) f B e;unfold isAgg;simp_all;have j:=QExec.underlying (h:=h) f B e;unfold isAgg;simp_all;cases c
theorem RD(b:Wd P t=Td (Td n)):y8 P t=n/\∃i,P.info? t=Td i:=by
 unfold Wd at b;split at b;cases b
 ·rename_i l c;simp only[Tn]at b;subst b;unfold kc at c;have key:∀x:Option (List Atom),(match x with
    |some l=>bif Nat.beq l.length (y8 P t)then Td (VT.agg l)else Te
    |none=>Te)=Td (.agg l)->y8 P t=l.length:=by
   intro x e;split at e;rename_i f;cases hb:Nat.beq f.length (y8 P t)with
   |false=>simp_all
   |true=>simp_all
   cases e
  split at c;exact⟨key _ c,info_of_underlying (by assumption)⟩;exact⟨key _ c,info_of_underlying (by assumption)⟩;simp at c;cases c
 cases b
theorem wd{l:List AA}{ag:AG}(b:pD P ty l k=Td ag)(m:All2 (DenA γ) l us)(h:za):∃v,DenG γ ag v/\QExec P (part ty us.toArray k) h v:=by
 unfold pD at b;split at b;rename_i s j;split at b;rename_i r p;obtain⟨rfl,t⟩:=Xc p;have c:=(m.drop k).take (lr s);have e:((us.drop k).take (lr s)).length=lr s:=by rw[<-c.length];exact t
 cases s with
 |none=>
  generalize f:(us.drop k).take (lr Te)=q at *
  match q,e,f with
  |[v],_,f=>
   generalize o:(l.drop k).take (lr Te)=r' at *
   match r',c with
   |[x],c=>
    simp only[lS,Tn]at b;subst b;refine⟨v,c.1,λB d=>?_⟩;have u:=EJ j h B d;have w:us[k]?=Td v:=by
     have:((us.drop k).take 1)[0]?=Td v:=by rw[show(us.drop k).take 1=[v]from f];rfl
     rw[Ud,zA (by omega),Ur]at this;simpa using this
    unfold part;simp_all
   |[],c=>exact c.elim
   |_::_::_,c=>exact c.2.elim
 |some n=>simp only[lS,Tn]at b;subst b;refine⟨.agg ((us.drop k).take n).toArray,⟨_,rfl,c⟩,λB d=>?_⟩;have u:=EJ j h B d;obtain⟨hz,i,hi⟩:=RD j;have y:=QExec.sizeOf (h:=h) hi B d;unfold part;simp_all
 cases b;cases b
end
section
variable {cs:CS} {γ:Gh} {h:za} {u:Value} {t el:TypeId} {a:Option Addr} {n:Int} {av:AV} {P:Program} {g:Option Bool} {σ:Operand -> Value} {b:Bool} {o:Oper}
variable {h0 : za} {W : Nat -> Prop} {M0 : Fr}
def rowOf(cs:CS):AA->Option ((t:Ty)×List (El t))
 |.d (.row t) xs=>Td ⟨t,xs⟩
 |.dc t xs=>Td ⟨t,xs⟩
 |.own c=>match Yb cs c with
  |some (.fz t xs)=>Td ⟨t,xs⟩
  |_=>Te
 |_=>Te
theorem qS(I:Inv h0 W M0 cs γ h){e:AA}{r:(t:Ty)×List (El t)}(b:rowOf cs e=Td r)(c:DenA γ e u):Rd γ.M (.row r.1) r.2 [u]:=by unfold rowOf at b;split at b;simp only[Tn]at b;subst b;exact c;simp only[Tn]at b;subst b;obtain⟨s,_,_,h⟩:=c;exact h;split at b;rename_i t xs f;simp only[Tn]at b;subst b;rw[show u=_ from c];exact I.den _ (zx f);cases b;cases b
theorem Rd.sub{M:Fr}{t:Ty}{xs:List (El t)}{n c:Nat}(H:Rd M (.row t) xs [.slice a n c]){l r m:Nat}(h1:l<=r)(w:r<=xs.length)(B:r<=m)(z:m<=c):
  Rd M (.row t) ((xs.take r).drop l) [.slice (io a (sz t) l m) (r-l) (m-l)]:=by
 obtain⟨v,e,y,x,j,C,H⟩:=H;cases e;simp only[Ua]at j;obtain⟨rfl,rfl,rfl⟩:=j;have f:((xs.take r).drop l).length=r-l:=by simp;omega
 refine⟨_,rfl,io a (sz t) l m,m-l,by rw[f],⟨by omega,by omega⟩,?_⟩;by_cases A:r=l;simp_all;rcases H with u|⟨b,o,cs,q,k,hi⟩;simp_all;right;have h:¬(m=l):=by omega
 refine⟨b,o+l*sz t,cs,?_,k,λi p=>?_⟩;unfold io;rw[zv h,q];simp[zd];grind
def qY:AV->Option Int
 |.g (.a (.v (.int _ n)))=>Td n
 |_=>Te
theorem Gc(h:qY av=Td n)(b:DenV γ av u):∃k,u=.int k n:=by unfold qY at h;split at h;simp only[Tn]at h;subst h;exact⟨_,b⟩;cases h
def oa(P:Program)(t:TypeId):Option TypeId:=match P.underlying t with
 |some (.slice el)=>bif qm P el then Td el else Te
 |_=>Te
theorem t7(h:oa P t=Td el):P.underlying t=Td (.slice el)/\qm P el=Ta:=by unfold oa at h;grind
def vI(P:Program)(cs:CS)(t:TypeId)(b:AA)(n:Int)(g:Option Bool)(K:AV->Prop):Prop:=
 match oa P t with
 |some el=>match rowOf cs b with
  |some r=>bif Nat.beq (y8 P el) (sz r.1)then ∃y:El r.1,req g (0<=n/\r.2[n.toNat]?=Td y)/\K (.g (.a (.elt r.1 y 0)))else False
  |none=>match b with
   |.own c=>match Yb cs c with
    |some (.row e ty xs)=>bif Nat.beq (y8 P el) (sz ty)then req g (0<=n/\n.toNat<xs.length)/\K (.g (.a (.oelt c (sz ty) n.toNat 0)))else False
    |_=>False
   |_=>False
 |none=>False
theorem AQ(f:P.underlying t=Td (.slice el))(l:qm P el=Ta){a:Addr}{len cap:Nat}{k:IntKind}(h1:0<=n)(c:n<(len:Int))(h:za):
  QExec P (V2 t (.slice (Td a) len cap) (.int k n)) h (.pointer (Td (a.add (n.toNat*y8 P el)))):=by
 have:=xt (P:=P) (t:=t) (x:=.slice (Td a) len cap) (i:=.int k n) (g:=Te) (K:=λv=>v=.pointer (Td (a.add (n.toNat*y8 P el)))) (λj e=>by simp_all[y9]) (by unfold qW;rw[f];exact⟨a,⟨rfl,h1,c⟩,rfl⟩);obtain⟨v,rfl,b⟩:=this;exact b trivial h
theorem LH{F:AA}{K:AV->Prop}(H:vI P cs t F n g K):
  ∃av,K av/\(fK g->∀γ h u k,Inv h0 W M0 cs γ h->DenA γ F u->∃v,DenV γ av v/\QExec P (V2 t u (.int k n)) h v):=by
 unfold vI at H;split at H;rename_i el x;obtain⟨E,D⟩:=t7 x;split at H;rename_i r S;cases hz:Nat.beq (y8 P el) (sz r.1)with
 |false=>simp_all
 |true=>rw[hz]at H;obtain⟨y,A,z⟩:=H;refine⟨_,z,λq γ h u k I p=>?_⟩;obtain⟨i,l⟩:=A.out q;have j:=TL hz;obtain⟨v,e,a,c,N,Z,H⟩:=qS I S p;cases e;subst N;have hi:n.toNat<r.2.length:=(T5.1 l).1;have T:r.2[n.toNat]=y:=(T5.1 l).2;rcases H with Y|⟨b,o,J,U,L,w⟩;simp_all;subst U;refine⟨_,?_,AQ E D i (by omega) h⟩;have:=w n.toNat hi;rw[T]at this;rw[zd,j];exact⟨b,o+n.toNat*sz r.1,J,rfl,L,this⟩
 split at H;rename_i c _;split at H;rename_i e ty xs V;cases hz:Nat.beq (y8 P el) (sz ty)with
 |false=>simp_all
 |true=>rw[hz]at H;obtain⟨A,z⟩:=H;refine⟨_,z,λq γ h u k I p=>?_⟩;obtain⟨i,hi⟩:=A.out q;have j:=TL hz;obtain⟨cells,f,G,_,Q⟩:=I.den _ (zx V);simp only at Q f;rcases f.2 with⟨m,h1⟩|⟨g',cap,O,m,_,M,_,_,_,B⟩;omega;simp only[Ua]at m;have C:u=aK (γ.σ c):=p;subst C;unfold aK;rw[m.1];refine⟨_,?_,AQ E D i (by omega) h⟩;rw[zd,j,TJ];exact⟨g',m.1,rfl⟩
 exact H.elim;exact H.elim;exact H.elim
def pf(ρ:Operand->Option AV)(d:Int):Option Operand->Option Int
 |none=>Td d
 |some x=>match ρ x with
  |some av=>qY av
  |none=>Te
theorem Ye{ρ:Operand->Option AV}(c:∀x av,ρ x=Td av->DenV γ av (σ x)){d n:Int}{x:Option Operand}(h:pf ρ d x=Td n):q9 (x.map σ) d=Td n:=by unfold pf at h;split at h;exact h;rename_i y;split at h;rename_i av b;obtain⟨k,e⟩:=Gc h (c _ _ b);simp[q9,e];cases h
def vS(P:Program)(cs:CS)(ρ:Operand->Option AV)(t:TypeId)(b:AA)(lo hi mx:Option Operand)(g:Option Bool)(K:AV->Prop):Prop:=
 match oa P t with
 |some el=>match rowOf cs b with
  |some r=>bif Nat.beq (y8 P el) (sz r.1)then(match pf ρ 0 lo,pf ρ (r.2.length:Int) hi with
   |some l,some h=>match mx with
    |none=>req g (0<=l/\l<=h/\h<=(r.2.length:Int))/\K (.g (.a (.d (.row r.1) ((r.2.take h.toNat).drop l.toNat))))
    |some m=>match pf ρ 0 (Td m),hi with
     |some m,some _=>req g (0<=l/\l<=h/\h<=(r.2.length:Int)/\m=h)/\K (.g (.a (.dc r.1 ((r.2.take h.toNat).drop l.toNat))))
     |_,_=>False
   |_,_=>False)else False
  |none=>False
 |none=>False
theorem DT(f:P.underlying t=Td (.slice el))(q:qm P el=Ta){len cap:Nat}{lo hi mx:Option Value}{l r m:Int}(b:q9 lo 0=Td l)(e:q9 hi (len:Int)=Td r)(j:q9 mx (cap:Int)=Td m) (h0:mx=Te\/∃v,hi=Td v) (h1:0<=l) (c:l<=r) (i:r<=m) (o:m<=(cap:Int)) (h:za):
  QExec P (VQ t (.slice a len cap) lo hi mx) h (.slice (io a (y8 P el) l.toNat m.toNat) (r.toNat-l.toNat) (m.toNat-l.toNat)):=by
 have:=Qj (P:=P) (t:=t) (x:=.slice a len cap) (lo:=lo) (hi:=hi) (mx:=mx) (g:=Te) (K:=λv=>v=.slice (io a (y8 P el) l.toNat m.toNat) (r.toNat-l.toNat) (m.toNat-l.toNat)) (λp n=>by simp_all[y9]) (by unfold tu;rw[f];simp only[b,e,j];exact⟨h0,⟨h1,c,i,o⟩,trivial⟩);obtain⟨v,rfl,k⟩:=this;exact k trivial h
theorem Mr{ρ:Operand->Option AV}{G:AA}{lo hi mx:Option Operand}{K:AV->Prop}(H:vS P cs ρ t G lo hi mx g K):
  ∃av,K av/\(fK g->∀γ h u σ,Inv h0 W M0 cs γ h->(∀x av,ρ x=Td av->DenV γ av (σ x))->DenA γ G u->∃v,DenV γ av v/\QExec P (VQ t u (lo.map σ) (hi.map σ) (mx.map σ)) h v):=by
 unfold vS at H;split at H;rename_i el w;obtain⟨F,C⟩:=t7 w;split at H;rename_i r E;cases hz:Nat.beq (y8 P el) (sz r.1)with
 |false=>simp_all
 |true=>
  rw[hz]at H;have n:=TL hz;simp only[zK]at H;split at H;rename_i l O D k;split at H;obtain⟨B,y⟩:=H;refine⟨_,y,λq γ h u σ I j o=>?_⟩;obtain⟨h1,p,L⟩:=B.out q;have f:=qS I E o;have b:=f;obtain⟨v,e,a,c,z,M,_⟩:=b;cases e;subst z;refine⟨_,?_,DT F C (Ye j D) (Ye j k) (m:=(c:Int)) rfl (.inl rfl) h1 p (by omega) (Int.le_refl _) h⟩;rw[n];exact f.sub (by omega) (by omega) (by omega) (by omega);rename_i m;split at H;rename_i m' Q N;obtain⟨B,y⟩:=H;refine⟨_,y,λq γ h u σ I j o=>?_⟩;obtain⟨h1,p,L,J⟩:=B.out q;subst J;have f:=qS I E o;have b:=f;obtain⟨v,e,a,c,z,M,_⟩:=b;cases e;subst z;have i:=Ye j N;have A:q9 ((Td m).map σ) (c:Int)=Td m':=by unfold q9 at i ⊢;simp only[VU]at i ⊢;split at i <;> simp_all
  refine⟨_,?_,DT F C (Ye j D) (Ye j k) A (.inr ⟨_,rfl⟩) h1 p (Int.le_refl _) (by omega) h⟩;rw[n];refine⟨⟨_,_,_⟩,rfl,rfl,f.sub (by omega) (by omega) (by omega) (by omega)⟩;exact H.elim;exact H.elim
 exact H.elim;exact H.elim
def yt(cs:CS):AA->Option Nat
 |.d (.row _) xs=>Td xs.length
 |.dc _ xs=>Td xs.length
 |.own c=>match Yb cs c with
  |some (.fz _ xs)=>Td xs.length
  |some (.row _ _ xs)=>Td xs.length
  |_=>Te
 |_=>Te
theorem OY(I:Inv h0 W M0 cs γ h){k:AA}{n:Nat}(b:yt cs k=Td n)(f:DenA γ k u):∃a c,u=.slice a n c:=by
 have key:∀{t:Ty} {xs:List (El t)},Rd γ.M (.row t) xs [u]->∃a c,u=.slice a xs.length c:=by rintro t xs ⟨v,e,a,c,l,_⟩;cases e;exact⟨a,c,l⟩
 unfold yt at b;split at b;simp only[Tn]at b;subst b;exact key f;simp only[Tn]at b;subst b;obtain⟨s,_,_,f⟩:=f;exact key f;split at b;rename_i c t xs i;simp only[Tn]at b;subst b;rw[show u=_ from f]at key ⊢;exact key (I.den _ (zx i));rename_i c e t xs i;simp only[Tn]at b;subst b;obtain⟨cells,_,_,_,j⟩:=I.den _ (zx i);simp only at j;rw[show u=_ from f];exact⟨_,_,by unfold aK;rw[j]⟩;cases b;cases b
def Aj:AA->List AA
 |.v x=>x.cells.toList.map .v
 |x=>[x]
def pY:AV->Option (List AA)
 |.g (.a x)=>Td (Aj x)
 |.g (.agg l)=>Td l
 |_=>Te
theorem Kj(h:u.oneCell'=Ta):u.cells.toList=[u]:=by cases u <;> first|rfl|simp[Value.oneCell']at h
theorem Yf(γ:Gh):∀l:List Value,All2 (DenA γ) (l.map .v) l
 |[]=>trivial
 |_::l=>⟨rfl,Yf γ l⟩
theorem Mm{x:AA}(j:DenA γ x u):All2 (DenA γ) (Aj x) u.cells.toList:=by
 have key:u.oneCell'=Ta->All2 (DenA γ) [x] u.cells.toList:=λh=>by rw[Kj h];exact⟨j,trivial⟩
 cases x with
 |v y=>rw[show u=y from j];exact Yf γ _
 |d t y=>exact key (Rd.one (show Rd γ.M t y [u]from j) u (by simp))
 |box c o=>exact key (by rw[show u=_ from j];rfl)
 |own c=>exact key (by rw[show u=_ from j];rfl)
 |oelt c z i o=>obtain⟨g,_,e⟩:=j;exact key (by rw[e];rfl)
 |elt t y o=>obtain⟨b,f,cs,e,_⟩:=j;exact key (by rw[e];rfl)
 |dc t xs=>obtain⟨s,e,_⟩:=j;exact key (by rw[e];rfl)
theorem zO{l:List AA}(h:pY av=Td l)(b:DenV γ av u):All2 (DenA γ) l u.cells.toList:=by unfold pY at h;split at h;simp only[Tn]at h;subst h;exact Mm b;simp only[Tn]at h;subst h;obtain⟨us,rfl,c⟩:=b;simpa[Value.cells]using c;cases h
def nL(b:Nat->Option (Nat×Nat))(cells:List AA):List (Nat×AV)->Option (List AA)
 |[]=>Td cells
 |(i,av)::rest=>match b i,pY av with
  |some (off,size),some l=>bif Nat.beq l.length size then(bif Nat.ble (off+l.length) cells.length then nL b (cells.take off++l++cells.drop (off+l.length)) rest else Te)else Te
  |_,_=>Te
theorem HU(vs:List Value):∀(k off:Nat) (cs:Array Value),off+k+vs.length<=cs.size ->
  ((vs.zipIdx k).foldl (λcs (x:Value×Nat)=>cs.setIfInBounds (off+x.2) x.1) cs).toList=cs.toList.take (off+k)++vs++cs.toList.drop (off+k+vs.length):=by
 induction vs with
 |nil=>simp
 |cons v vs b=>
  intro k off cs h;simp only[TI]at h;rw[List.zipIdx_cons,List.foldl_cons];refine(b (k+1) off (cs.setIfInBounds (off+k) v) (by grind)).trans ?_;simp only[Array.toList_setIfInBounds,TI];have hi:off+k<cs.toList.length:=by simp;omega
  rw[<-Nat.add_assoc,List.drop_set_of_lt (by omega)];have c:(cs.toList.set (off+k) v).take (off+k+1)=cs.toList.take (off+k)++[v]:=by
   rw[List.take_set,Tu hi,List.set_append_right _ _ (by simp;omega)];have:off+k-(cs.toList.take (off+k)).length=0:=by simp;omega
   rw[this];rfl
  grind
theorem xO{b:Nat->Option (Nat×Nat)}{γ:Gh}:∀{c:List (Nat×AV)} {cells r:List AA} {us:List Value} {ps:List (Nat×Value)},nL b cells c=Td r->All2 (DenA γ) cells us->All2 (λ(x:Nat×AV) (y:Nat×Value)=>x.1=y.1/\DenV γ x.2 y.2) c ps ->
  ∃ws:List Value,Instr.fill b us.toArray ps=Td ws.toArray/\All2 (DenA γ) r ws
 |[],cells,r,us,[],h,hc,_=>by simp only[nL,Tn]at h;subst h;exact⟨us,rfl,hc⟩
 |[],_,_,_,_::_,_,_,e=>e.elim
 |_::_,_,_,_,[],_,_,e=>e.elim
 |(i,av)::rest,cells,r,us,(j,v)::ps,h,hc,e=>by
  obtain⟨⟨f,t⟩,e⟩:=e;simp only at f t;subst f;simp only[nL]at h;split at h;rename_i off size l p w;cases hb:Nat.beq l.length size with
  |false=>simp_all
  |true=>
   rw[hb]at h;simp only[zK]at h;cases hb2:Nat.ble (off+l.length) cells.length with
   |false=>simp_all
   |true=>
    rw[hb2]at h;simp only[zK]at h;have m:=zO w t;have o:=m.length;have A:=hc.length;have h1:=TL hb;have B:=UU hb2;have q:v.cells.size=size:=by rw[<-h1,o];simp
    have k:All2 (DenA γ) (cells.take off++l++cells.drop (off+l.length)) (us.take off++v.cells.toList++us.drop (off+l.length)):=((hc.take off).append m).append (hc.drop _);obtain⟨ws,z,u⟩:=xO h k e;refine⟨ws,?_,u⟩;simp only[Instr.fill,p];have n:¬((decide (v.cells.size≠size)||decide (off+v.cells.size>us.toArray.size))=Ta):=by rw[q];simp;omega
    rw[zv n];rw[<-z];congr 1;apply Array.ext';have:=HU v.cells.toList 0 off us.toArray (by simp;omega);grind [Array.toList_zipIdx,trans]
  cases h
def pK(P:Program):List Field->Bool
 |[]=>Ta
 |f::l=>bif qm P f.type then pK P l else Tc
theorem CV{P:Program}{h:za}:∀{l:List Field},pK P l=Ta->QExec P (l.mapM λf=>do pure (f.offset,<-Go.sizeOf f.type)) h (l.map λf=>(f.offset,y8 P f.type))
 |[],_=>λ_ _=>rfl
 |f::l,H=>by
  simp only[pK]at H;cases ho:qm P f.type with
  |false=>simp_all
  |true=>rw[ho]at H;obtain⟨i,hi⟩:=y9 ho;rw[VZ];exact QExec.bind (QExec.bind (QExec.sizeOf hi) (QExec.pure _)) (QExec.bind (CV H) (QExec.pure _))
def placeOf(P:Program)(b:Array Field)(i:Nat):Option (Nat×Nat):=match b[i]? with
 |some f=>Td (f.offset,y8 P f.type)
 |none=>Te
def mR(ρ:Operand->Option AV):List (Nat×Operand)->Option (List (Nat×AV))
 |[]=>Td []
 |(i,x)::l=>match ρ x,mR ρ l with
  |some av,some r=>Td ((i,av)::r)
  |_,_=>Te
theorem vt{γ:Gh}{ρ:Operand->Option AV}{σ:Operand->Value}(b:∀x av,ρ x=Td av->DenV γ av (σ x)):∀{l:List (Nat×Operand)} {r:List (Nat×AV)},mR ρ l=Td r ->
  All2 (λ(x:Nat×AV) (y:Nat×Value)=>x.1=y.1/\DenV γ x.2 y.2) r (l.map λx=>(x.1,σ x.2))
 |[],r,h=>by simp only[mR,Tn]at h;subst h;trivial
 |(i,x)::l,r,h=>by simp only[mR]at h;split at h;rename_i av e h1 c;simp only[Tn]at h;subst h;exact⟨⟨rfl,b _ _ h1⟩,vt b c⟩;cases h
def zeroOf(P:Program)(t:TypeId):Option Value:=match P.info? t with
 |some i=>i.zero
 |none=>Te
theorem vT{z:Value}(h:zeroOf P t=Td z)(b:za):QExec P (zeroValue t) b z:=by unfold zeroOf at h;split at h;rename_i i hi;intro B d;simp[zeroValue,typeInfo,program,hi,Sem.run,h];cases h
def uW(P:Program)(t:TypeId)(b:List (Nat×AV)):Option (List AA):=match P.underlying t,zeroOf P t with
 |some (.struct fs),some z=>bif pK P fs.toList then nL (placeOf P fs) (z.cells.toList.map .v) b else Te
 |_,_=>Te
theorem Pp{b:List (Nat×AV)}{r:List AA}(h:uW P t b=Td r){ps:List (Nat×Value)}(l:All2 (λ(x:Nat×AV) (y:Nat×Value)=>x.1=y.1/\DenV γ x.2 y.2) b ps)(c:za):
  ∃ws:List Value,QExec P (Instr.build t ps.toArray) c (.agg ws.toArray)/\All2 (DenA γ) r ws:=by
 unfold uW at h;split at h;rename_i e z m hz;cases hof:pK P e.toList with
 |false=>simp_all
 |true=>
  rw[hof]at h;simp only[zK]at h;obtain⟨ws,p,o⟩:=xO h (Yf γ _) l;refine⟨ws,?_,o⟩;intro B d;have n:=QExec.underlying (h:=c) m B d;have j:=vT hz c B d;have k:=CV (P:=P) (h:=c) hof B d;unfold Instr.build;rw[Sem.run_bind,j];simp only[Result.andThen_ok];rw[Sem.run_bind,n];simp only[Result.andThen_ok];rw[Sem.run_bind,Array.mapM_eq_mapM_toList,Sem.run_map,k];simp only[Result.andThen_ok];have q:(λi=>((e.toList.map λf=>(f.offset,y8 P f.type)).toArray)[i]?)=placeOf P e:=by funext i;unfold placeOf;cases hi:e[i]? <;> simp[hi]
  simp_all
 cases h
def uK(P:Program)(t:TypeId)(a b:Value):Option Bool:=match P.underlying t,a,b with
 |some (.int _),.int k x,.int k' y=>if k=k' then Td (x==y)else Te
 |some .string,.string x,.string y=>Td (x.toList==y.toList)
 |some .bool,.bool x,.bool y=>Td (x==y)
 |_,_,_=>Te
def mQ(P:Program)(xs ys:List AA):List Field->Option Bool
 |[]=>Td Ta
 | f :: fs => if f.name = "_" then none else match pD P f.type xs f.offset, pD P f.type ys f.offset with
  |some (.a (.v a)),Td (.a (.v b))=>match uK P f.type a b,mQ P xs ys fs with
   |some p,some q=>Td (p&&q)
   |_,_=>Te
  |_,_=>Te
def y6(P:Program)(o:Oper)(ρ:Operand->Option AV):Option Bool:=match o.op with
 |.binOp .eql t x y _=>match ρ x,ρ y with
  |some (.g (.agg xs)),Td (.g (.agg ys))=>match P.underlying t with
   |some (.struct _)=>bif P.stoodInHeld t then Te else bif P.eqGuardType P.depth t then Te else mQ P xs ys (P.fieldsOf t).toList
   |_=>Te
  |_,_=>Te
 |.binOp .neq t x y _=>match ρ x,ρ y with
  |some (.g (.agg xs)),Td (.g (.agg ys))=>match P.underlying t with
   |some (.struct _)=>bif P.stoodInHeld t then Te else bif P.eqGuardType P.depth t then Te else(match mQ P xs ys (P.fieldsOf t).toList with
    |some b=>Td (!b)
    |none=>Te)
   |_=>Te
  |_,_=>Te
 |_=>Te
theorem JS{a b:Value}{r:Bool}(h:uK P t a b=Td r)(d:Nat)(w:World):(Op.equalIn (d+1) t a b).run P w=.ok r w:=by unfold uK at h;grind [Tn,run_equalIn_int,run_equalIn_string,run_equalIn_bool']
theorem AR{P:Program}{γ:Gh}{xs ys:List AA}{us vs:List Value}(n:All2 (DenA γ) xs us)(m:All2 (DenA γ) ys vs)(d:Nat)(h:za):∀(c:List Field) (b:Bool),mQ P xs ys c=Td b->QExec P (Op.eqFields (d+1) us.toArray vs.toArray c) h b
 |[],b,hb=>by simp only[mQ,Tn]at hb;subst hb;exact QExec.pure _
 |f::c,b,hb=>by
  unfold mQ at hb;split at hb;cases hb;rename_i y;split at hb;rename_i a b' k i;split at hb;rename_i p q w r;simp only[Tn]at hb;subst hb;obtain⟨t,A,o⟩:=wd k n h;obtain⟨x,u,z⟩:=wd i m h;have l:t=a:=A;have e:x=b':=u;subst l;subst e;intro B j;unfold Op.eqFields;rw[zA (by exact y)];rw[Sem.run_bind,o B j];simp only[Result.andThen_ok];rw[Sem.run_bind,z B j];simp only[Result.andThen_ok];rw[Sem.run_bind,JS w d];simp only[Result.andThen_ok];cases p with
  |false=>rfl
  |true=>simpa using AR n m d h c q r B j
  cases hb;cases hb
theorem Md{ρ:Operand->Option AV}(H:y6 P o ρ=Td b)(k:∀x av,ρ x=Td av->DenV γ av (σ x))(h:za):QExec P (execOp σ o) h (.value (.bool b)):=by
 have key:∀{t:TypeId} {xs ys:List AA} {us vs:List Value} {j:Array Field} {b:Bool},P.underlying t=Td (.struct j)->P.stoodInHeld t=Tc->All2 (DenA γ) xs us->All2 (DenA γ) ys vs->mQ P xs ys (P.fieldsOf t).toList=Td b->QExec P (Op.equalIn 10000 t (.agg us.toArray) (.agg vs.toArray)) h b:=by
  intro t xs ys us vs j b e c i f u B d;have r:P.underlying t=Td (.struct (P.fieldsOf t)):=by rw[e];simp[Program.fieldsOf,e]
  rw[run_equalIn_struct _ 9999 t us.toArray vs.toArray r c];exact AR i f 9998 h _ b u B d
 unfold y6 at H;split at H;rename_i t x y w l;split at H;rename_i xs ys i f;split at H;rename_i j e;cases c:P.stoodInHeld t with
 |true=>simp_all
 |false=>
  cases hg:P.eqGuardType P.depth t with
  |true=>simp_all
  |false=>rw[c,hg]at H;obtain⟨us,p,d1⟩:=k _ _ i;obtain⟨vs,q,d2⟩:=k _ _ f;have m:=key e c d1 d2 H;simp only[execOp,l,p,q];refine QExec.val λB d=>?_;rw[Sem.run_bind,run_eqGuard_agg _ _ _ _ _ _ _ hg];simp only[Result.andThen_ok];rw[run_eql_struct,m B d];rfl
 cases H;cases H;rename_i t x y w l;split at H;rename_i xs ys i f;split at H;rename_i j e;cases c:P.stoodInHeld t with
 |true=>simp_all
 |false=>
  cases hg:P.eqGuardType P.depth t with
  |true=>simp_all
  |false=>rw[c,hg]at H;simp only[zL]at H;split at H;rename_i b' n;simp only[Tn]at H;subst H;obtain⟨us,p,d1⟩:=k _ _ i;obtain⟨vs,q,d2⟩:=k _ _ f;have m:=key e c d1 d2 n;simp only[execOp,l,p,q];refine QExec.val λB d=>?_;rw[Sem.run_bind,run_eqGuard_agg _ _ _ _ _ _ _ hg];simp only[Result.andThen_ok];rw[run_neq_struct,m B d];rfl;cases H
 cases H;cases H;cases H
def wZ(P:Program)(o:Oper)(ρ:Operand->Option AV)(g:Option Bool)(cs:CS)(K:AV->Prop):Prop:=
 bif (bif me o then(bif l8 P o then(bif Yr o.op then ow ρ o.op.operands.toList else Tc)else Tc)else Tc)then J3 P o (tq ρ) g #[] (λv=>K (nQ v))else
 match o.op with
 |.move x=>match ρ x with
  |some av=>K av
  |none=>False
 |.assign x=>match ρ x with
  |some av=>K av
  |none=>False
 |.extract x i=>match ρ x with
  |some (.tup l)=>match l[i]? with
   |some ag=>K (.g ag)
   |none=>False
  |some (.nx b p c)=>match i with
   |0=>K (.g (.a (.v (.bool b))))
   |1=>req g (b=Ta)/\K (.g (.a (.v (.int .i64 p))))
   |2=>req g (b=Ta)/\K (.g (.a (.v (.int .i32 c))))
   |_=>False
  |_=>False
 |.field t x f=>match ρ x,pO P t f with
  |some (.g (.agg l)),Td (k,ty)=>match pD P ty l k with
   |some ag=>K (.g ag)
   |none=>False
  |_,_=>False
 |.fieldAddr t x f=>match ρ x,pO P t f with
  |some (.g (.a aa)),Td (k,_)=>match sL k aa with
   |some h=>K (.g (.a h))
   |none=>False
  |_,_=>False
 |.load t x=>match ρ x with
  |some (.g (.a aa))=>oA P cs t aa g K
  |_=>False
 |.indexAddr t x i=>match ρ x,ρ i with
  |some (.g (.a aa)),some iv=>match qY iv with
   |some n=>vI P cs t aa n g K
   |none=>False
  |_,_=>False
 |.slice t x lo hi mx=>match ρ x with
  |some (.g (.a aa))=>vS P cs ρ t aa lo hi mx g K
  |_=>False
 |.nilCheck x=>match ρ x with
  |some (.g (.a aa))=>match sL 0 aa with
   |some _=>K (.g (.a aa))
   |none=>False
  |_=>False
 |.build t e=>match mR ρ e.toList with
  |some ps=>match uW P t ps with
   |some r=>K (.g (.agg r))
   |none=>False
  |none=>False
 |.call c=>match c.callee with
  |.builtin .len=>match c.args.toList,c.argTypes.toList with
   |[x],[t]=>match ρ x,P.underlying t with
    |some (.g (.a (.v (.string s)))),Td .string=>K (.g (.a (.v (.int .i64 (s.size:Int)))))
    |some (.g (.a (.v (.slice _ n _)))),Td (.slice _)=>K (.g (.a (.v (.int .i64 (n:Int)))))
    |some (.g (.a aa)),Td (.slice _)=>match yt cs aa with
     |some n=>K (.g (.a (.v (.int .i64 (n:Int)))))
     |none=>False
    |_,_=>False
   |_,_=>False
  |_=>False
 |_=>False
theorem JG{ρ:Operand->Option AV}{K:AV->Prop}(H:wZ P o ρ g cs K):
  ∃av,K av/\(fK g->∀γ h σ,Inv h0 W M0 cs γ h->(∀x av,ρ x=Td av->DenV γ av (σ x))->∃v,DenV γ av v/\QExec P (execOp σ o) h (.value v)):=by
 unfold wZ at H;cases hb:(bif me o then(bif l8 P o then(bif Yr o.op then ow ρ o.op.operands.toList else Tc)else Tc)else Tc)with
 |true=>
  rw[hb]at H;cases hfam:me o with
  |false=>simp_all
  |true=>
   cases w:l8 P o with
   |false=>simp_all
   |true=>
    cases hns:Yr o.op with
    |false=>simp_all
    |true=>rw[hfam,w,hns]at hb;simp only[zK]at hb H;obtain⟨v,h1,z⟩:=wC hfam H;refine⟨_,h1,λA γ h σ I m=>⟨v,Wb γ v,?_⟩⟩;rw[P0 m hns hb];exact z A h ⟨by simp,λi hi=>absurd hi (by simp)⟩
 |false=>
  rw[hb]at H;simp only[zL]at H;have val:∀{s:Sem Value} {h:za} {v:Value},QExec P s h v->QExec P (s >>= λx=>(VD (VF x):Sem Next)) h (.value v):=λw=>QExec.val w;split at H;rename_i x q;split at H;rename_i av j;exact⟨av,H,λ_ γ h σ I m=>⟨_,m _ _ j,by simp only[execOp,q];exact QExec.pure _⟩⟩;exact H.elim;rename_i x q;split at H;rename_i av j;exact⟨av,H,λ_ γ h σ I m=>⟨_,m _ _ j,by simp only[execOp,q];exact QExec.pure _⟩⟩;exact H.elim;rename_i x i q;split at H;rename_i l j;split at H;rename_i ag G;refine⟨_,H,λ_ γ h σ I m=>?_⟩;obtain⟨us,e,z⟩:=m _ _ j;obtain⟨u,E,y⟩:=z.get G;refine⟨u,y,?_⟩;simp only[execOp,q,e];refine val λB d=>?_;unfold Instr.extract;simp[E];exact H.elim;rename_i b p c j;split at H;refine⟨_,H,λ_ γ h σ I m=>⟨_,rfl,?_⟩⟩;obtain⟨Q,e2⟩:=m _ _ j;simp only[execOp,q];refine val λB d=>?_;cases b with
  |true=>rw[Q rfl];rfl
  |false=>rw[e2 rfl];rfl
  refine⟨_,H.2,λA γ h σ I m=>⟨_,rfl,?_⟩⟩;obtain⟨Q,_⟩:=m _ _ j;simp only[execOp,q,Q (H.1.out A)];exact val λB d=>rfl;refine⟨_,H.2,λA γ h σ I m=>⟨_,rfl,?_⟩⟩;obtain⟨Q,_⟩:=m _ _ j;simp only[execOp,q,Q (H.1.out A)];exact val λB d=>rfl;exact H.elim;exact H.elim;rename_i t x f q;split at H;rename_i l k ty j C;split at H;rename_i ag G;refine⟨_,H,λ_ γ h σ I m=>?_⟩;obtain⟨us,e,z⟩:=m _ _ j;obtain⟨v,y,w⟩:=wd G z h;refine⟨v,y,?_⟩;simp only[execOp,q,e];refine val λB d=>?_;unfold pO at C;split at C;rename_i fs E;split at C;rename_i fl T;split at C;rename_i i hi;cases hz:Nat.beq i.size 0 with
  |true=>simp_all
  |false=>rw[hz]at C;simp only[zL,Tn,Uy]at C;obtain⟨rfl,rfl⟩:=C;have S:=QExec.underlying (h:=h) E B d;unfold Instr.field;rw[Sem.run_bind,S];simp only[Result.andThen_ok,T,asAgg,Sem.run_bind,Sem.run_pure];exact w B d
  cases C;cases C;cases C;exact H.elim;exact H.elim;rename_i t x f q;split at H;rename_i O k ty j C;split at H;rename_i ab L;refine⟨_,H,λ_ γ h σ I m=>?_⟩;obtain⟨b,o',e,y⟩:=GM L (m _ _ j);refine⟨_,y,?_⟩;simp only[execOp,q];simp_all[Kz];exact H.elim;exact H.elim;rename_i t x q;split at H;rename_i O j;obtain⟨av,h1,z⟩:=Ao (h0:=h0) (W:=W) (M0:=M0) H;refine⟨av,h1,λA γ h σ I m=>?_⟩;obtain⟨v,y,w⟩:=z A γ h _ I (m _ _ j);refine⟨v,y,?_⟩;simp only[execOp,q];exact val w;exact H.elim;rename_i t x i q;split at H;rename_i O iv j U;split at H;rename_i n V;obtain⟨av,h1,z⟩:=LH (h0:=h0) (W:=W) (M0:=M0) H;refine⟨av,h1,λA γ h σ I m=>?_⟩;obtain⟨k,e⟩:=Gc V (m _ _ U);obtain⟨v,y,w⟩:=z A γ h _ k I (m _ _ j);refine⟨v,y,?_⟩;simp only[execOp,q];simp_all;exact H.elim;exact H.elim;rename_i t x lo hi mx q;split at H;rename_i O j;obtain⟨av,h1,z⟩:=Mr (h0:=h0) (W:=W) (M0:=M0) H;refine⟨av,h1,λA γ h σ I m=>?_⟩;obtain⟨v,y,w⟩:=z A γ h _ σ I m (m _ _ j);refine⟨v,y,?_⟩;simp only[execOp,q];exact val w;exact H.elim;rename_i x q;split at H;rename_i O j;split at H;rename_i ab L;refine⟨_,H,λ_ γ h σ I m=>?_⟩;obtain⟨b,o',e,y⟩:=GM L (m _ _ j);have Z:=m _ _ j;refine⟨σ x,Z,?_⟩;simp only[execOp,q];rw[e];exact QExec.pure _;exact H.elim;exact H.elim;rename_i t D q;split at H;rename_i ps Y;split at H;rename_i r hr;refine⟨_,H,λ_ γ h σ I m=>?_⟩;obtain⟨ws,w,y⟩:=Pp hr (vt m Y) h;refine⟨.agg ws.toArray,⟨ws,rfl,y⟩,?_⟩;simp only[execOp,q];have e:(D.map λx=>(x.1,σ x.2))=(D.toList.map λx=>(x.1,σ x.2)).toArray:=by rw[<-Array.toList_map]
  simp_all;exact H.elim;exact H.elim;rename_i c q;split at H;rename_i hc;split at H;rename_i x t J N;have F:c.args=#[x]:=by have:=congrArg List.toArray J;simp at this;exact this
  have M:c.argTypes=#[t]:=by have:=congrArg List.toArray N;simp at this;exact this
  have key:∀(σ:Operand->Value) (h:za) (n:Int),(QExec P (Vh #[t] o.type #[σ x]) h (.int .i64 n))->QExec P (execOp σ o) h (.value (.int .i64 n)):=by
   intro σ h n w;have e:execOp σ o=(Vh c.argTypes o.type (c.args.map σ) >>= λx=>(VD (VF x):Sem Next)):=by simp only[execOp,q,resolve,hc];rfl
   rw[e,F,M];refine val ?_;simpa using w
  split at H;rename_i s j E;refine⟨_,H,λ_ γ h σ I m=>⟨_,rfl,key σ h _ λB d=>?_⟩⟩;have w:=QExec.underlying (h:=h) E B d;have e:σ x=.string s:=m _ _ j;unfold Vh;simp only[List.getElem?_toArray,List.getElem?_cons_zero,e,Sem.run_bind,w,Result.andThen_ok,Sem.run_pure];rfl;rename_i a n cp el j E;refine⟨_,H,λ_ γ h σ I m=>⟨_,rfl,key σ h _ λB d=>?_⟩⟩;have w:=QExec.underlying (h:=h) E B d;have e:σ x=.slice a n cp:=m _ _ j;unfold Vh;simp only[List.getElem?_toArray,List.getElem?_cons_zero,e,Sem.run_bind,w,Result.andThen_ok,Sem.run_pure];rfl;rename_i O el _ _ j E;split at H;rename_i n V;refine⟨_,H,λ_ γ h σ I m=>⟨_,rfl,key σ h _ λB d=>?_⟩⟩;have w:=QExec.underlying (h:=h) E B d;obtain⟨a,cp,e⟩:=OY I V (m _ _ j);unfold Vh;simp only[List.getElem?_toArray,List.getElem?_cons_zero,e,Sem.run_bind,w,Result.andThen_ok,Sem.run_pure];rfl;exact H.elim;exact H.elim;exact H.elim;exact H.elim;exact H.elim
def w3(P:Program)(o:Oper)(ρ:Operand->Option AV):Option Bool:=match o.op with
 |.binOp op t x (.const .nilIface) _=>match ρ x,ρ (.const .nilIface),P.underlying t with
  |some (.g (.a (.d .err b))),Td (.g (.a (.v .nilIface))),Td (.interface _)=>match op with
   |.eql=>Td b
   |.neq=>Td (!b)
   |_=>Te
  |_,_,_=>Te
 |_=>Te
theorem ID{ρ:Operand->Option AV}(H:w3 P o ρ=Td b)(n:∀x av,ρ x=Td av->DenV γ av (σ x))(h:za):QExec P (execOp σ o) h (.value (.bool b)):=by
 have key:∀{t:TypeId} {ms:Array (String×TypeId)} {b:Bool} {u:Value},P.underlying t=Td (.interface ms)->((b=Ta/\u=.nilIface)\/(b=Tc/\∃t k,u=.iface t k))->QExec P (V5 t u .nilIface) h b:=by intro t ms b u l i B d;have p:=QExec.underlying (h:=h) l B d;unfold V5 Op.maxDepth;rcases i with⟨rfl,rfl⟩|⟨rfl,t',k,rfl⟩;unfold Op.equalIn;rw[Sem.run_bind,p];rfl;unfold Op.equalIn;rw[Sem.run_bind,p];rfl
 unfold w3 at H;split at H;rename_i c t x C q;split at H;rename_i b0 ms y r l;have z:σ (.const .nilIface)=.nilIface:=n _ _ r;obtain⟨u,e,i⟩:=(show Rd γ.M .err b0 [σ x]from n _ _ y);have A:u=σ x:=by simpa using e.symm
 subst A;have m:=key l i;have w:∀c,QExec P (eqGuard c t x (.const .nilIface) (σ x) .nilIface) h ():=by intro c B d;unfold eqGuard;rcases i with⟨_,j⟩|⟨_,t',k,j⟩;simp_all;simp_all
 have f:∀c,(binOp c t (σ x) .nilIface=match c with | .eql=>(do pure (.bool (<-V5 t (σ x) .nilIface))) | .neq=>(do pure (.bool (!(<-V5 t (σ x) .nilIface))))|_=>binOp c t (σ x) .nilIface):=by intro c;rcases i with⟨_,j⟩|⟨_,t',k,j⟩;rw[j];cases c <;> rfl;rw[j];cases c <;> rfl
 simp only[execOp,q,z];refine QExec.val ((w c).bind ?_);split at H;simp only[Tn]at H;subst H;rw[f];exact m.bind (QExec.pure _);simp only[Tn]at H;subst H;rw[f];exact m.bind (QExec.pure _);cases H;cases H;cases H
def Cu(o:Oper)(ρ:Operand->Option AV):Option (TypeId×Nat×Nat):=match o.op with
 |.load t x=>match ρ x with
  |some (.g (.a (.v (.pointer (Td ⟨b,off,Te⟩)))))=>Td (t,b,off)
  |_=>Te
 |_=>Te
def o8(gl:Fr)(b off:Nat)(v:Value):Prop:=∃cs,gl b=Td cs/\cs[off]?=Td v
def nE(gl:Fr)(b:Nat)(g:Option Bool):List Atom->Nat->(List AA->Prop)->Prop
 |[],_,K=>K []
 |.int k::l,o,K=>∃x:Int,req g (o8 gl b o (.int k x))/\nE gl b g l (o+1) λr=>K (.v (.int k x)::r)
 |.str::l,o,K=>∃x:Bt,req g (o8 gl b o (.string x))/\nE gl b g l (o+1) λr=>K (.v (.string x)::r)
 |.bool::l,o,K=>∃x:Bool,req g (o8 gl b o (.bool x))/\nE gl b g l (o+1) λr=>K (.v (.bool x)::r)
 |_::_,_,_=>False
theorem xw{gl:Fr}{b:Nat}{g:Option Bool}:∀{l:List Atom} {o:Nat} {K:List AA->Prop},nE gl b g l o K->∃vs:List Value,vs.length=l.length/\K (vs.map .v)/\(fK g->∀(j:Nat) (v:Value),vs[j]?=Td v->o8 gl b (o+j) v)
 |[],o,K,H=>⟨[],rfl,H,λ_ j v h=>by simp at h⟩
 |.int k::l,o,K,⟨x,h1,h2⟩=>by
  obtain⟨vs,e,i,m⟩:=xw h2;refine⟨.int k x::vs,by simp[e],i,λf j v c=>?_⟩;cases j with
  |zero=>simp at c;subst c;exact h1.out f
  |succ j=>grind
 |.str::l,o,K,⟨x,h1,h2⟩=>by
  obtain⟨vs,e,i,m⟩:=xw h2;refine⟨.string x::vs,by simp[e],i,λf j v c=>?_⟩;cases j with
  |zero=>simp at c;subst c;exact h1.out f
  |succ j=>grind
 |.bool::l,o,K,⟨x,h1,h2⟩=>by
  obtain⟨vs,e,i,m⟩:=xw h2;refine⟨.bool x::vs,by simp[e],i,λf j v c=>?_⟩;cases j with
  |zero=>simp at c;subst c;exact h1.out f
  |succ j=>grind
 |.sl::_,_,_,H=>H.elim
 |.mp::_,_,_,H=>H.elim
 |.ptr::_,_,_,H=>H.elim
 |.raw::_,_,_,H=>H.elim
def CB(P:Program)(gl:Fr)(t:TypeId)(b off:Nat)(g:Option Bool)(K:AV->Prop):Prop:=match kc P t with
 |some (.one a)=>nE gl b g [a] off λr=>match r with
  |[x]=>K (.g (.a x))
  |_=>False
 |some (.agg l)=>nE gl b g l off λr=>K (.g (.agg r))
 |none=>False
def Dg(P:Program)(o:Oper)(ρ:Operand->Option AV):Option (Nat×Nat×Int×Nat×Nat):=match o.op with
 |.indexAddr t x i=>match ρ x,ρ i,P.underlying t with
  |some (.g (.a (.v (.pointer (Td ⟨b,off,Te⟩))))),Td (.g (.a (.v (.int _ n)))),Td (.array len el)=>bif qm P el then Td (b,off,n,len,y8 P el)else Te
  |_,_,_=>Te
 |_=>Te
def qA(P:Program)(gl:Fr)(o:Oper)(ρ:Operand->Option AV)(g:Option Bool)(cs:CS)(K:AV->Prop):Prop:=match y6 P o ρ with
 |some b=>K (.g (.a (.v (.bool b))))
 |none=>match w3 P o ρ with
  |some b=>K (.g (.a (.v (.bool b))))
  |none=>match Cu o ρ with
   |some (t,b,off)=>CB P gl t b off g K
   |none=>match Dg P o ρ with
    |some (b,off,n,len,z)=>req g (0<=n/\n<(len:Int))/\K (.g (.a (.v (.pointer (Td ⟨b,off+n.toNat*z,Te⟩)))))
    |none=>wZ P o ρ g cs K
theorem tT{gl:Fr}(L:Fr.le gl M0){ρ:Operand->Option AV}{K:AV->Prop}(H:qA P gl o ρ g cs K):
  ∃av,K av/\(fK g->∀γ h σ,Inv h0 W M0 cs γ h->(∀x av,ρ x=Td av->DenV γ av (σ x))->∃v,DenV γ av v/\QExec P (execOp σ o) h (.value v)):=by
 unfold qA at H;split at H;rename_i b y;exact⟨_,H,λ_ γ h σ _ f=>⟨_,rfl,Md y f h⟩⟩;split at H;rename_i b y;exact⟨_,H,λ_ γ h σ _ f=>⟨_,rfl,ID y f h⟩⟩;split at H;rename_i t b off e;unfold Cu at e;split at e;rename_i t' x D;split at e;rename_i b' c F;simp only[Tn,Uy]at e;obtain⟨rfl,rfl,rfl⟩:=e;have key:∀{s:Option Nat} {vs:List Value} {ag:AG},Wd P t'=Td s->vs.length=lr s->lS s (vs.map .v)=Td ag->(fK g->∀(j:Nat) (v:Value),vs[j]?=Td v->o8 gl b' (c+j) v)->fK g->∀γ h σ,Inv h0 W M0 cs γ h->(∀x av,ρ x=Td av->DenV γ av (σ x))->∃u,DenV γ (.g ag) u/\QExec P (execOp σ o) h (.value u):=by intro s vs ag V Y U Z e γ h σ I f;have E:σ x=.pointer (Td ⟨b',c,Te⟩):=f _ _ F;obtain⟨u,N,B⟩:=vB (γ:=γ) V (u:=σ x) (us:=vs) ⟨_,_,E,λj w T=>by obtain⟨cc,p,m⟩:=Z e j w T;exact I.ag.cell (I.le _ _ (L _ _ p)) m⟩ Y (Yf γ vs) U;exact⟨u,N,by simp only[execOp,D];exact QExec.val B⟩
 unfold CB at H;split at H;rename_i a G;obtain⟨vs,p,m,q⟩:=xw H
 match vs,p,m,q with
 |[v],p,m,q=>exact⟨_,m,key (s:=Te) (by unfold Wd;rw[G]) rfl rfl q⟩
 rename_i l G;obtain⟨vs,p,m,q⟩:=xw H;exact⟨_,m,key (s:=Td l.length) (by unfold Wd;rw[G]) p rfl q⟩;exact H.elim;cases e;cases e;split at H;rename_i b off n len z e;unfold Dg at e;split at e;rename_i t x i D;split at e;rename_i b' c k r M el F hi E;cases hok:qm P el with
 |false=>simp_all
 |true=>rw[hok]at e;simp only[zK,Tn,Uy]at e;obtain⟨rfl,rfl,rfl,rfl,rfl⟩:=e;refine⟨_,H.2,λC γ h σ I f=>⟨_,rfl,?_⟩⟩;have A:σ x=.pointer (Td ⟨b',c,Te⟩):=f _ _ F;have J:σ i=.int k r:=f _ _ hi;obtain⟨h1,O⟩:=H.1.out C;obtain⟨v,rfl,B⟩:=xt (P:=P) (t:=t) (x:=.pointer (Td ⟨b',c,Te⟩)) (i:=.int k r) (g:=Te) (K:=λv=>v=.pointer (Td (Tl ⟨b',c,Te⟩ (r.toNat*y8 P el)))) (λS Q=>by simp_all[y9]) (by unfold qW;rw[E];exact⟨_,⟨rfl,h1,O⟩,rfl⟩);have:=B trivial h;rw[zd]at this;simp only[execOp,D,A,J];exact QExec.val this
 cases e;cases e;exact JG H
end
end Go.X
end
