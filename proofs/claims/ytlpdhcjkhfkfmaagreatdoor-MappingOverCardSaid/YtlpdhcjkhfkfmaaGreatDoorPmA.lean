/- A part of the proof: nothing is stated here for its own sake. -/
import Derived.Deep.Quiet
import Derived.StillTail
import Derived.Laws.Strings
import Derived.Laws.Cover3
import Derived.Laws.Pointers
import Derived.Scope
import Derived.Laws.OwnMore
open _root_.Go.Addr renaming add->NG
open _root_.Array renaming getD_eq_getD_getElem?->OL,getElem?_append_left->Pu,getElem?_eq_getElem->Oy,getElem?_eq_some_iff->NK,getElem?_modify->QM,getElem?_push->OZ,getElem?_setIfInBounds_ne->NW,replicate->OV,size_setIfInBounds->O3
open _root_.Bool renaming and_eq_true->NP,eq_iff_iff->Om,false_eq_true->OS,not_eq_true'->PN,true_and->Pj
open _root_.Go.Builtin renaming append_->NX,firstCells->PI,len_->QQ
open _root_.Go.Code renaming cond->Rh,region->Rn
open _root_.Go.Deferred renaming ofValue->QR
open _root_.Go.Instr renaming entry->Rm,findNow->Ps,indexAt->Rj,keyThatStays->PV,loadAt->QP,lookup->QJ,makeSlice->Pt,mapUpdate->O8,next->QE,range->Rk,sameNow->QY,sliceAt->QX,storeAt->NR,sureAddr->QG
open _root_.Int renaming toNat_of_nonneg->QF
open _root_.Go.IntKind renaming bits->Oz,signed->Rv,wrap->NB
open _root_.List renaming all_eq_true->N3,cons_append->Ox,drop_drop->QO,drop_eq_nil_of_le->Pd,drop_zero->Pv,eq_nil_of_length_eq_zero->N5,getElem?_drop->Oj,getElem?_eq_getElem->NL,getElem?_eq_none->Ow,getElem?_eq_some_iff->Ou,getElem?_take->N4,getElem_cons_zero->PS,getElem_mem->Ot,length_append->NH,length_cons->NU,length_drop->ON,length_eq_zero_iff->Ov,length_nil->OE,length_range->P7,length_take->N8,mapM_cons->Re,map_cons->N2,mem_append->N0,mem_append_left->NT,mem_append_right->N1,mem_cons->NI,mem_cons_of_mem->NF,mem_cons_self->NQ,mem_filter->Pm,mem_range->Og,nil_append->OU,nodup_cons->OP,pairwise_append->Oh,pairwise_cons->Oi,pairwise_lt_range->PR,range->OB,replicate->Ph,size_toArray->P8,take_append_of_le_length->Pr,take_left->QN,take_length->N7,take_succ_eq_append_getElem->Oc
open _root_.List.cons renaming injEq->PE
open _root_.Nat renaming add_assoc->QZ,add_mul->O2,blt_eq->Pp,eq_of_beq_eq_true->NJ,eq_zero_or_pos->QK,le_of_ble_eq_true->OW,le_refl->ND,le_trans->OD,lt_of_lt_of_le->PU,lt_or_ge->Ob,min_eq_left->P5,mul_comm->QA,mul_le_mul_right->Oa,one_mul->Rc,succ_mul->QB,zero_add->NZ,zero_mul->QS
open _root_.Go.Next renaming value->QD
open _root_.Go.Op renaming equal->Rs
open _root_.Option renaming bind_some->PH,map_eq_some_iff->Pn
open _root_.Option.some renaming inj->NY,injEq->NC
open _root_.Prod.mk renaming injEq->OJ
open _root_.Pure renaming pure->PZ
open _root_.Go.Region renaming wanted->OY
open _root_.Go.Result.ok renaming injEq->Rp
open _root_.Go.Value renaming int->OH,string->OK
open _root_.Go.Value.slice renaming injEq->N6
set_option linter.unusedVariables false
set_option maxRecDepth 100000
namespace Go.X
end Go.X
namespace Go.Proofs
end Go.Proofs
open Go Go.X Go.Proofs
open _root_.Bool renaming true->Ta,false->Tc
open _root_.Option renaming some->Td,none->Te
section
namespace Go.X
section
theorem zv{c:Prop}{h:Decidable c}(n:¬c){α:Sort _}{t e:α}:@ite α c h t e=e:=if_neg n
theorem zz{c:Prop}{h:Decidable c}(n:c){α:Sort _}{t e:α}:@ite α c h t e=t:=if_pos n
theorem zC{p:Prop}[Decidable p]:(decide p=true)=p:=decide_eq_true_eq
theorem zD{p:Prop}[Decidable p](h:decide p=true):p:=of_decide_eq_true h
theorem zE{p:Prop}[Decidable p](h:decide p=false):¬p:=of_decide_eq_false h
theorem zG{p:Prop}[Decidable p](h:p):decide p=true:=decide_eq_true h
theorem zH{p:Prop}[Decidable p](h:¬p):decide p=false:=decide_eq_false h
theorem zI{α:Sort _}(a b:α):cond true a b=a:=rfl
theorem zJ{α:Sort _}(a b:α):cond false a b=b:=rfl
abbrev Bt:= ByteArray
variable {i n m:Nat} {v u:Value} {a:Act} {o:Oper}
abbrev za:=Array Obj
abbrev zq:=List (Nat×Bool)
abbrev cK:=List (Nat×zq×Value)
def mk(B:World)(d:Nat)(h:za):World:={ B with heap:=h,drawn:=d }
def look:cK->Nat->Option (zq×Value)
 |[],_=>Te
 |(j,c,v)::e,i=>bif Nat.beq i j then Td (c,v)else look e i
def valid(σ:Nat->Value):zq->Prop
 |[]=>True
 |(g,p)::c=>σ g=.bool p/\valid σ c
def zt(a:Act)(i:Nat):Value:=a.tmps.getD i undef
def fact(σ:Nat->Value)(x:Nat×zq×Value):Prop:=(valid σ x.2.1->σ x.1=x.2.2)/\(¬valid σ x.2.1->σ x.1=undef)
structure Sat (n:Nat) (e:cK) (a:Act):Prop where
 defers:a.defers=[]
 size:a.tmps.size=n
 all:∀x∈e,fact (zt a) x
def mentions:zq->Nat->Bool
 |[],_=>Tc
 |(g,_)::c,i=>bif Nat.beq i g then Ta else mentions c i
def lT:cK->Nat->cK
 |[],_=>[]
 |(j,c,v)::e,i=>bif (bif Nat.beq i j then Ta else mentions c i)then lT e i else(j,c,v)::lT e i
def put(e:cK)(i:Nat)(c:zq)(v:Value):cK:=(i,c,v)::lT e i
def putO(e:cK):Option Nat->zq->Value->cK
 |none,_,_=>e
 |some d,c,v=>put e d c v
def clean:cK->cK
 |[]=>[]
 |(j,[],v)::e=>(j,[],v)::clean e
 |(_,_::_,_)::e=>clean e
theorem Xy{e:cK}{c:zq}(h:look e i=Td (c,v)):(i,c,v)∈e:=by
 induction e with
 |nil=>cases h
 |cons x e f=>obtain⟨j,k,l⟩:=x;simp only[look]at h;by_cases b:Nat.beq i j=Ta;simp only[b,zI,NC,OJ]at h;obtain⟨rfl,rfl⟩:=h;rw[NJ b];exact NQ;simp only[b,zJ]at h;exact NF _ (f h)
theorem IY{e:cK}{x:Nat×zq×Value}(h:x∈lT e i):x∈e/\x.1≠i/\mentions x.2.1 i=Tc:=by
 induction e with
 |nil=>cases h
 |cons y e b=>
  obtain⟨j,m,o⟩:=y;simp only[lT]at h;by_cases k:Nat.beq i j=Ta;simp only[k,zI]at h;exact⟨NF _ (b h).1,(b h).2⟩;have l:Nat.beq i j=Tc:=Bool.eq_false_iff.2 k;simp only[l,zJ]at h;by_cases n:mentions m i=Ta;simp only[n,zI]at h;exact⟨NF _ (b h).1,(b h).2⟩;have f:mentions m i=Tc:=by simpa using n
  simp only[f,zJ]at h;rcases NI.1 h with rfl|h;refine⟨NQ,λc=>?_,f⟩;simp only at c;rw[c]at k;exact k (by simp);exact⟨NF _ (b h).1,(b h).2⟩
theorem K0{e:cK}{x:Nat×zq×Value}(h:x∈clean e):x∈e/\x.2.1=[]:=by
 induction e with
 |nil=>cases h
 |cons y e b=>
  obtain⟨j,f,i⟩:=y;cases f with
  |nil=>simp only[clean]at h;rcases NI.1 h with rfl|h;exact⟨NQ,rfl⟩;exact⟨NF _ (b h).1,(b h).2⟩
  |cons c cs=>simp only[clean]at h;exact⟨NF _ (b h).1,(b h).2⟩
theorem Sat.sub{e b:cK}(h:Sat n e a)(f:∀x∈b,x∈e):Sat n b a:=⟨h.defers,h.size,λx c=>h.all x (f x c)⟩
theorem Sat.clean{n:Nat}{e:cK}{a:Act}(h:Sat n e a):Sat n (clean e) a:=h.sub λ_ b=>(K0 b).1
theorem w8{σ τ:Nat->Value}{c:zq}(b:mentions c i=Tc)(h:∀j,j≠i->σ j=τ j):valid σ c↔valid τ c:=by
 induction c with
 |nil=>exact Iff.rfl
 |cons x c k=>obtain⟨g,p⟩:=x;simp only[mentions]at b;by_cases f:Nat.beq i g=Ta;simp[f]at b;simp only[f,zJ]at b;have l:g≠i:=λe=>f (by rw[e];simp);simp only[valid,h g l,k b]
theorem jo(hi:i<a.tmps.size):zt (a.put (Td i) u) i=u:=by simp[zt,Act.put,hi]
theorem qa{i j:Nat}(h:j≠i):zt (a.put (Td i) u) j=zt a j:=by simp[zt,Act.put,NW (Ne.symm h)]
theorem size_put(a:Act)(d:Option Nat)(u:Value):(a.put d u).tmps.size=a.tmps.size:=by cases d <;> simp[Act.put]
theorem jy(a:Act)(d:Option Nat)(u:Value):(a.put d u).defers=a.defers:=by cases d <;> simp[Act.put]
theorem Sat.put{n:Nat}{e:cK}{a:Act}(h:Sat n e a){i:Nat}{c:zq}{v u:Value}(hi:i<n)(w:mentions c i=Tc)
  (t:valid (zt a) c->u=v) (r:¬valid (zt a) c->u=undef):Sat n (put e i c v) (a.put (Td i) u):=by
 refine⟨by rw[jy];exact h.defers,by rw[size_put];exact h.size,λx o=>?_⟩;have l:i<a.tmps.size:=by rw[h.size];exact hi
 rcases NI.1 o with rfl|o;have k:=w8 (σ:=zt (a.put (Td i) u)) (τ:=zt a) w (λj m=>qa m);refine⟨λf=>?_,λf=>?_⟩;exact(jo l).trans (t (k.1 f));exact(jo l).trans (r (λb=>f (k.2 b)));obtain⟨y,q,s⟩:=IY o;have k:=w8 (σ:=zt (a.put (Td i) u)) (τ:=zt a) s (λj m=>qa m);have p:=h.all x y;refine⟨λf=>?_,λf=>?_⟩;exact(qa q).trans (p.1 (k.1 f));exact(qa q).trans (p.2 (λb=>f (k.2 b)))
def yr(n:Nat)(c:zq):Option Nat->Bool
 |none=>Ta
 |some d=>bif mentions c d then Tc else Nat.blt d n
theorem Sat.putO{n:Nat}{e:cK}{a:Act}(h:Sat n e a){d:Option Nat}{c:zq}{v u:Value}(f:yr n c d=Ta)
  (k:valid (zt a) c->u=v) (l:¬valid (zt a) c->u=undef):Sat n (putO e d c v) (a.put d u):=by
 cases d with
 |none=>exact h
 |some i=>
  simp only[yr]at f;by_cases j:mentions c i=Ta;simp[j]at f;have b:mentions c i=Tc:=by simpa using j
  simp only[b,zJ]at f;exact h.put (by simpa[Pp]using f) b k l
def w9:zq->zq->Bool
 |[],[]=>Ta
 |(g,p)::c,(g',p')::c'=>bif Nat.beq g g' then(bif p then(bif p' then w9 c c' else Tc)else(bif p' then Tc else w9 c c'))else Tc
 |_,_=>Tc
theorem Q2:∀{c b:zq},w9 c b=Ta->c=b
 |[],[],_=>rfl
 |[],_::_,h=>by simp[w9]at h
 |_::_,[],h=>by simp[w9]at h
 |(g,p)::c,(g',p')::b,h=>by simp only[w9]at h;by_cases e:Nat.beq g g'=Ta;simp only[e,zI]at h;have f:=NJ e;cases p <;> cases p' <;> simp at h <;> rw[f,Q2 h];simp[e]at h
def suf(cs:zq):zq->Bool
 |[]=>w9 cs []
 |x::c=>bif w9 cs (x::c)then Ta else suf cs c
theorem Q3{σ:Nat->Value}{cs:zq}:∀{c:zq},suf cs c=Ta->valid σ c->valid σ cs
 |[],h,_=>by rw[Q2 h];trivial
 |x::c,h,hv=>by simp only[suf]at h;by_cases b:w9 cs (x::c)=Ta;rw[Q2 b];exact hv;simp only[b,zJ]at h;exact Q3 h hv.2
def Wl(e:cK)(c:zq):Operand->Option Value
 |.tmp t=>match look e t with
  |some (cs,v)=>bif suf cs c then Td v else Te
  |none=>Te
 |.const v=>Td v
 |.global g=>Td (.pointer (Td ⟨g,0,Te⟩))
 |.func f=>Td (.func (.func f) #[] #[])
theorem qh{e:cK}(h:Sat n e a){c:zq}(k:valid (zt a) c){x:Operand}(b:Wl e c x=Td v):a.eval x=v:=by
 cases x with
 |tmp t=>simp only[Wl]at b;split at b;rename_i cs u j;by_cases i:suf cs c=Ta;simp only[i,zI,NC]at b;subst b;exact(h.all _ (Xy j)).1 (Q3 i k);simp[i]at b;cases b
 |const u=>simp only[Wl,NC]at b;exact b
 |global g=>simp only[Wl,NC]at b;exact b
 |func f=>simp only[Wl,NC]at b;exact b
def eS(e:cK)(c:zq)(x:Operand):Value:=match Wl e c x with
 |some v=>v
 |none=>undef
def known(e:cK)(c:zq):List Operand->Bool
 |[]=>Ta
 |x::l=>match Wl e c x with
  |some _=>known e c l
  |none=>Tc
theorem Yu{e:cK}(h:Sat n e a){c:zq}(k:valid (zt a) c){l:List Operand}(f:known e c l=Ta):∀x∈l,a.eval x=eS e c x:=by
 induction l with
 |nil=>intro x b;cases b
 |cons y l j=>intro x b;simp only[known]at f;split at f;rename_i v i;rcases NI.1 b with rfl|b;rw[qh h k i];simp[eS,i];exact j f x b;cases f
def Qb:Op->Bool
 |.select _ _=>Tc
 |_=>Ta
theorem m3{e:cK}(h:Sat n e a){c:zq}(l:valid (zt a) c)(f:Qb o.op=Ta)(j:known e c o.op.operands.toList=Ta):
  execOp a.eval o=execOp (eS e c) o:=
 execOp_congr o (λcs b i=>by rw[i]at f;cases f) λx k=>Yu h l j x (by simpa using k)
def yd(ops:Array Oper)(j:Nat):Option Nat:=match ops[j]? with
 |some o=>o.dst
 |none=>Te
def Yv(ops:Array Oper)(e:cK):Option (Nat×Bool)->Option zq
 |none=>Td []
 |some (j,p)=>match yd ops j with
  |some g=>match look e g with
   |some (cg,.bool _)=>Td ((g,p)::cg)
   |_=>Te
  |none=>Te
def mS(e:cK):zq->Option Bool
 |[]=>Td Ta
 |(g,p)::c=>match look e g with
  |some (cg,.bool b)=>bif w9 cg c then(match mS e c with
    |some f=>Td (f&&(bif p then b else !b))
    |none=>Te)else Te
  |_=>Te
theorem yG{b:Bool}:undef≠.bool b:=by simp[undef]
theorem sY{n:Nat}{e:cK}{a:Act}(h:Sat n e a):∀{c:zq} {b:Bool},mS e c=Td b->(b=Ta↔valid (zt a) c)
 |[],b,hb=>by simp only[mS,NC]at hb;simp[<-hb,valid]
 |(g,p)::c,b,hb=>by
  simp only[mS]at hb;split at hb;rename_i r o t;by_cases j:w9 r c=Ta;simp only[j,zI]at hb;split at hb;rename_i q i;simp only[NC]at hb;have l:=sY h i;have m:=h.all _ (Xy t);rw[Q2 j]at m;by_cases f:valid (zt a) c;have k:zt a g=.bool o:=m.1 f;have s:=l.2 f;subst hb;simp only[valid,k,f,s,Pj,and_true,Value.bool.injEq];cases p <;> cases o <;> simp;have k:q=Tc:=by cases q with|false=>rfl|true=>exact absurd (l.1 rfl) f
  subst hb;simp[valid,f,k];cases hb;simp[j]at hb;cases hb
theorem Wm{ops:Array Oper}{e:cK}(h:Sat n e a){c:zq}(f:Yv ops e o.guard=Td c):
  OY o (yielded ops a.tmps)=Ta↔valid (zt a) c:=by
 unfold OY;cases hg:o.guard with
 |none=>rw[hg]at f;simp only[Yv,NC]at f;simp[<-f,valid]
 |some t=>
  obtain⟨j,p⟩:=t;rw[hg]at f;simp only[Yv]at f;split at f;rename_i g i;split at f;rename_i u b w;simp only[NC]at f;subst f;have m:((ops[j]?).bind (·.dst))=Td g:=by simp only[yd]at i;split at i;rename_i x l;simp[l,i];cases i
  have r:=h.all _ (Xy w);have s:yielded ops a.tmps j=Td p↔zt a g=.bool p:=by
   unfold yielded zt;rw[m];simp only[PH];cases ht:a.tmps[g]? with
   |none=>simp[OL,ht,undef]
   |some v=>cases v <;> simp[OL,ht]
  simp only[beq_iff_eq,s,valid];constructor;intro k;refine⟨k,?_⟩;by_cases q:valid (zt a) u;exact q;have:=r.2 q;simp only at this;rw[k]at this;exact absurd this.symm yG;exact λk=>k.1;cases f;cases f
structure Keep (n:Nat) (h h':za):Prop where
 size:h.size<=h'.size
 get:∀i,i<n->h'[i]?=h[i]?
theorem Keep.refl(n:Nat)(h:za):Keep n h h:=⟨ND _,λ_ _=>rfl⟩
theorem Keep.trans{a b c:za}(h:Keep n a b)(k:Keep m b c)(e:n<=m):Keep n a c:= ⟨OD h.size k.size,λi hi=>(k.get i (PU hi e)).trans (h.get i hi)⟩
theorem Keep.mono{a b:za}(h:Keep n a b)(c:m<=n):Keep m a b:=⟨h.size,λi hi=>h.get i (PU hi c)⟩
theorem Keep.push(h:za)(o:Obj)(b:n<=h.size):Keep n h (h.push o):= ⟨by simp,λi hi=>by rw[OZ,zv (by omega)]⟩
end
section
variable {P:Program} {α:Type} {h:za} {v x i:Value} {t:TypeId} {g:Option Bool} {n l r:Int}
def zb(h:za)(a:Addr):Option Value:=
 match h[a.block]? with
 |some (.cells c _ _)=>if a.spot.isSome then Te else c[a.off]?
 |_=>Te
theorem rU(B:World)(d:Nat)(h:za)(a:Addr):(mk B d h).cell? a=zb h a:=rfl
def Qi(P:Program){α:Type}:Sem α->Option α
 |.pure a=>Td a
 |.program k=>Qi P (k P)
 |.mark _ k=>Qi P k
 |_=>Te
def QExec(P:Program){α:Type}(s:Sem α)(h:za)(x:α):Prop:=∀B d,s.run P (mk B d h)=.ok x (mk B d h)
theorem yX{s:Sem α}{x:α}(h:Qi P s=Td x)(w:World):s.run P w=.ok x w:=by
 induction s with
 |pure a=>simp only[Qi,NC]at h;subst h;rfl
 |program k b=>exact b P h
 |mark m k b=>exact b h
 |_=>simp[Qi]at h
theorem KX{s:Sem α}{x:α}(h:Qi P s=Td x)(b:za):QExec P s b x:=λ_ _=>yX h _
theorem QExec.bind{α β:Type}{s:Sem α}{f:α->Sem β}{x:α}{y:β}(c:QExec P s h x)(b:QExec P (f x) h y):QExec P (s >>= f) h y:=by intro B d;rw[Sem.run_bind,c B d];exact b B d
theorem QExec.pure(x:α):QExec P (PZ x) h x:=λ_ _=>rfl
theorem QExec.val{s:Sem Value}(b:QExec P s h v):QExec P (s >>= λx=>PZ (QD x)) h (QD v):=b.bind (QExec.pure _)
theorem QExec.underlying{d:TypeDesc}(b:P.underlying t=Td d):QExec P (Go.underlying t) h d:=by intro B e;simp[Go.underlying,program,b,Sem.run]
def qj(P:Program)(t:TypeId):Nat:=match P.info? t with
 |some i=>i.size
 |none=>0
theorem QExec.sizeOf{i:TypeInfo}(hi:P.info? t=Td i):QExec P (Go.sizeOf t) h (qj P t):=by intro B d;simp[Go.sizeOf,typeInfo,program,hi,Sem.run,qj]
theorem info_of_underlying{d:TypeDesc}(b:P.underlying t=Td d):∃i,P.info? t=Td i:=by
 unfold Program.underlying at b;cases h:P.info? t with
 |none=>rw[h]at b;cases b
 |some i=>exact⟨i,rfl⟩
inductive Atom where
 |int (k:IntKind)|bool|str|sl|mp|ptr|raw|ad
structure Sl where
 a:Option Addr
 len:Nat
 cap:Nat
@[reducible] def Atom.den:Atom->Type
 |.int _=>Int | .bool=>Bool | .str=>Bt | .sl=>Sl | .mp=>Option Nat | .ptr=>Option Addr | .raw=>Value | .ad=>Addr
def Atom.enc:(t:Atom)->t.den->Value
 |.int k,n=>.int k n
 |.bool,b=>.bool b
 |.str,s=>.string s
 |.sl,s=>.slice s.a s.len s.cap
 |.mp,m=>.map m
 |.ptr,p=>.pointer p
 |.raw,v=>v
 |.ad,p=>.pointer (Td p)
def Atom.dec:(t:Atom)->Value->Option t.den
 |.int k,.int k' n=>if k=k' then Td n else Te
 |.bool,.bool b=>Td b
 |.str,.string s=>Td s
 |.sl,.slice a l c=>Td ⟨a,l,c⟩
 |.mp,.map m=>Td m
 |.ptr,.pointer p=>Td p
 |.raw,v=>Td v
 |.ad,.pointer (Td p)=>Td p
 |_,_=>Te
theorem Atom.enc_of_dec{t:Atom}{x:t.den}(h:t.dec v=Td x):t.enc x=v:=by
 cases t with
 |ad=>
  cases v with
  |pointer p=>
   cases p with
   |none=>simp[Atom.dec]at h
   |some a=>simp[Atom.dec]at h;rw[h];rfl
  |_=>simp[Atom.dec]at h
 |_=>cases v <;> simp_all[Atom.dec,Atom.enc] <;> (subst h;first|rfl|exact⟨rfl,rfl,rfl⟩)
inductive VT where
 |one (t:Atom)
 |agg (l:List Atom)
inductive RT where
 |one (v:VT)
 |tup (l:List VT)
def m9:List Atom->(List Value->Prop)->Prop
 |[],F=>F []
 |t::l,F=>∃x:t.den,m9 l λvs=>F (t.enc x::vs)
def rF:VT->(Value->Prop)->Prop
 |.one t,F=>∃x:t.den,F (t.enc x)
 |.agg l,F=>m9 l λvs=>F (.agg vs.toArray)
def sc:List VT->(List Value->Prop)->Prop
 |[],F=>F []
 |t::l,F=>rF t λv=>sc l λvs=>F (v::vs)
def iq:RT->(Value->Prop)->Prop
 |.one v,F=>rF v F
 |.tup l,F=>sc l λvs=>F (.tuple vs.toArray)
def mH:List Atom->(List Value->Prop)->Prop
 |[],F=>F []
 |t::l,F=>∀x:t.den,mH l λvs=>F (t.enc x::vs)
def lj:VT->(Value->Prop)->Prop
 |.one t,F=>∀x:t.den,F (t.enc x)
 |.agg l,F=>mH l λvs=>F (.agg vs.toArray)
def ku:List VT->(List Value->Prop)->Prop
 |[],F=>F []
 |t::l,F=>lj t λv=>ku l λvs=>F (v::vs)
def uZ:RT->(Value->Prop)->Prop
 |.one v,F=>lj v F
 |.tup l,F=>ku l λvs=>F (.tuple vs.toArray)
theorem Q4:∀{l:List Atom} {F G:List Value->Prop},m9 l F->mH l G->∃vs,vs.length=l.length/\F vs/\G vs
 |[],_,_,h,g=>⟨[],rfl,h,g⟩
 |_::_,_,_,⟨x,h⟩,g=>let ⟨vs,h0,h1,h2⟩:=Q4 h (g x);⟨_,by simp[h0],h1,h2⟩
theorem jg:∀(l:List Atom),mH l λ_=>True
 |[]=>trivial
 |_::l=>λ_=>jg l
theorem sR{v:VT}{F G:Value->Prop}(h:rF v F)(g:lj v G):∃u,F u/\G u:=by
 cases v with
 |one t=>obtain⟨x,h⟩:=h;exact⟨_,h,g x⟩
 |agg l=>obtain⟨vs,_,c,b⟩:=Q4 h g;exact⟨_,c,b⟩
theorem JN(v:VT):lj v λ_=>True:=by
 cases v with
 |one t=>exact λ_=>trivial
 |agg l=>exact jg l
theorem sZ:∀{l:List VT} {F G:List Value->Prop},sc l F->ku l G->∃vs,F vs/\G vs
 |[],_,_,h,g=>⟨[],h,g⟩
 |_::_,_,_,h,g=>let ⟨_,h1,h2⟩:=sR h g;let ⟨_,h3,h4⟩:=sZ h1 h2;⟨_,h3,h4⟩
theorem y6:∀(l:List VT),ku l λ_=>True
 |[]=>trivial
 |v::l=>by
  have h:=y6 l;simp only[ku];cases v with
  |one t=>exact λ_=>h
  |agg b=>
   simp only[lj];have key:∀(b:List Atom) (f:List Value->List Value),mH b λ_=>ku l λ_=>True:=λb _=>by
    induction b with
    |nil=>exact h
    |cons t b c=>exact λ_=>c
   exact key b id
theorem uH{r:RT}{F G:Value->Prop}(h:iq r F)(g:uZ r G):∃v,F v/\G v:=by
 cases r with
 |one v=>exact sR h g
 |tup l=>obtain⟨vs,c,b⟩:=sZ h g;exact⟨_,c,b⟩
theorem nv{r:RT}{F:Value->Prop}(h:iq r F):∃v,F v:=by
 cases r with
 |one v=>obtain⟨u,b,_⟩:=sR h (JN v);exact⟨u,b⟩
 |tup l=>obtain⟨vs,b,_⟩:=sZ h (y6 l);exact⟨_,b⟩
def Ct:TypeDesc->Atom
 |.int k=>.int k
 |.bool=>.bool
 |.string=>.str
 |.slice _=>.sl
 |.map _ _=>.mp
 |.pointer _=>.ptr
 |_=>.raw
def oW(P:Program):Nat->TypeId->Option (List Atom)
 |0,_=>Te
 |n+1,t=>match P.underlying t with
  |some (.struct fs)=>fs.toList.foldr (λf l=>match oW P n f.type,l with
    |some x,some y=>Td (x++y)
    |_,_=>Te) (Td [])
  |some (.array m e)=>match oW P n e with
    |some x=>Td (Ph m x).flatten
    |none=>Te
  |some d=>Td [Ct d]
  |none=>Te
def fM(P:Program)(t:TypeId):Option VT:=match P.underlying t with
 |some (.struct _)|some (.array _ _)=>match oW P 8 t with
  |some l=>bif Nat.beq l.length (qj P t)then Td (.agg l)else Te
  |none=>Te
 |some d=>Td (.one (Ct d))
 |none=>Te
def yF(P:Program):List TypeId->Option (List VT)
 |[]=>Td []
 |t::l=>match fM P t,yF P l with
  |some x,some y=>Td (x::y)
  |_,_=>Te
def l9(P:Program)(t:TypeId):Option RT:=match P.underlying t with
 |some (.tuple ts)=>match yF P ts.toList with
  |some l=>Td (.tup l)
  |none=>Te
 |_=>match fM P t with
  |some v=>Td (.one v)
  |none=>Te
def req:Option Bool->Prop->Prop
 |none,p=>p
 |some b,p=>b=Ta->p
def dN:Option Bool->Prop
 |none=>True
 |some b=>b=Ta
theorem req.out{p:Prop}(h:req g p)(c:dN g):p:=by
 cases g with
 |none=>exact h
 |some b=>exact h c
def ze(h:za)(p:Addr):Nat->List Value->Prop
 |_,[]=>True
 |i,v::vs=>zb h (p.add i)=Td v/\ze h p (i+1) vs
def ic(P:Program)(h:za)(t:TypeId)(p:Value)(g:Option Bool)(K:Value->Prop):Prop:=
 match p,fM P t with
 |.pointer (Td p),Td (.one a)=>∃x:a.den,req g (zb h p=Td (a.enc x))/\K (a.enc x)
 |.pointer (Td p),Td (.agg l)=>m9 l λvs=>req g (ze h p 0 vs)/\K (.agg vs.toArray)
 |_,_=>False
theorem Wn{P:Program}{h:za}{p:Addr}:∀(vs:List Value) (i:Nat) (b:Array Value),ze h p i vs->QExec P (loadCellsFrom p i vs.length b) h (b++vs.toArray)
 |[],i,b,_=>by intro B d;simp[loadCellsFrom]
 |v::vs,i,b,⟨h1,h2⟩=>by have c:=Wn (P:=P) vs (i+1) (b.push v) h2;intro B d;simp only[NU,loadCellsFrom,Sem.run_bind,run_load];rw[rU,h1];simp only[Result.andThen_ok];rw[c B d];simp
theorem nD{a:Atom}{p:Addr}(c:fM P t=Td (.one a))(i:zb h p=Td v):QExec P (loadVar t p) h v:=by
 unfold fM at c;cases hu:P.underlying t with
 |none=>rw[hu]at c;cases c
 |some d=>
  rw[hu]at c;intro B e;have f:=QExec.underlying (h:=h) hu B e;have b:(isAgg t).run P (mk B e h)=.ok Tc (mk B e h):=by unfold isAgg;rw[Sem.run_bind,f];cases d <;> first|rfl|(exfalso;revert c;dsimp only;split <;> first|(intro h;cases h;done)|(cases j:Nat.beq _ _ <;> intro h <;> cases h))
  unfold loadVar;rw[Sem.run_bind,b];simp only[Result.andThen_ok,OS,if_false,run_load];rw[rU,i]
theorem nQ{l:List Atom}{p:Addr}{vs:List Value}(f:fM P t=Td (.agg l))(s:vs.length=l.length)(u:ze h p 0 vs):QExec P (loadVar t p) h (.agg vs.toArray):=by
 unfold fM at f;cases hu:P.underlying t with
 |none=>rw[hu]at f;cases f
 |some d=>
  rw[hu]at f;obtain⟨i,hi⟩:=info_of_underlying hu;have b:(∃j,d=.struct j)\/(∃n e,d=.array n e):=by cases d <;> first|exact Or.inl ⟨_,rfl⟩|exact Or.inr ⟨_,_,rfl⟩|(simp at f)
  have k:qj P t=l.length:=by
   have c:(match oW P 8 t with
     |some l=>bif Nat.beq l.length (qj P t)then Td (VT.agg l)else Te
     |none=>Te)=Td (.agg l):=by
    rcases b with⟨j,rfl⟩|⟨n,e,rfl⟩ <;> exact f
   split at c;rename_i q _;cases hb:Nat.beq q.length (qj P t)with
   |false=>rw[hb]at c;cases c
   |true=>rw[hb]at c;simp only[zI,NC,VT.agg.injEq]at c;rw[<-c];exact(NJ hb).symm
   cases c
  intro B e;have r:=QExec.underlying (h:=h) hu B e;have hA:(isAgg t).run P (mk B e h)=.ok Ta (mk B e h):=by unfold isAgg;rw[Sem.run_bind,r];rcases b with⟨j,rfl⟩|⟨n,w,rfl⟩ <;> rfl
  have o:=QExec.sizeOf (h:=h) hi B e;unfold loadVar;rw[Sem.run_bind,hA];simp only[Result.andThen_ok,if_true];rw[Sem.run_bind,o];simp only[Result.andThen_ok];have m:=Wn (P:=P) vs 0 #[] u B e;unfold loadCells;rw[Sem.run_bind,k,<-s,m];simp
theorem Bi{p:Value}{K:Value->Prop}(H:ic P h t p g K):
  ∃v,K v/\(dN g->QExec P (QP t p) h v):=by
 unfold ic at H;split at H;rename_i q a b;obtain⟨x,e,c⟩:=H;exact⟨_,c,λf=>nD b (e.out f)⟩;rename_i q l b;obtain⟨vs,h0,⟨e,c⟩,_⟩:=Q4 H (jg l);exact⟨_,c,λf=>nQ b h0 (e.out f)⟩;exact H.elim
def kZ(P:Program)(t:TypeId)(x i:Value)(g:Option Bool)(K:Value->Prop):Prop:=
 match P.underlying t with
 |some (.slice el)=>match x,i with
  |.slice base len _,.int _ n=>∃a:Addr,req g (base=Td a/\0<=n/\n<(len:Int))/\K (.pointer (Td (a.add (n.toNat*qj P el))))
  |_,_=>False
 |some (.array len el)=>match x,i with
  |.pointer base,.int _ n=>∃a:Addr,req g (base=Td a/\0<=n/\n<(len:Int))/\K (.pointer (Td (a.add (n.toNat*qj P el))))
  |_,_=>False
 |_=>False
def qy(P:Program)(t:TypeId):Bool:=match P.info? t with
 |some _=>Ta
 |none=>Tc
theorem q9(h:qy P t=Ta):∃i,P.info? t=Td i:=by unfold qy at h;split at h;exact⟨_,by assumption⟩;cases h
theorem jq(t:TypeId)(B:World)(d:Nat):(∃i,P.info? t=Td i)->(Go.sizeOf t).run P (mk B d h)=.ok (qj P t) (mk B d h):=λ⟨_,hi⟩=>QExec.sizeOf hi B d
theorem xp{K:Value->Prop} (c:∀el,(P.underlying t=Td (.slice el)\/∃n,P.underlying t=Td (.array n el))->∃i,P.info? el=Td i) (H:kZ P t x i g K):
  ∃v,K v/\(dN g->∀h:za,QExec P (Rj t x i) h v):=by
 unfold kZ at H;split at H;rename_i el b;split at H;rename_i base len cap k n;obtain⟨a,p,o⟩:=H;refine⟨_,o,λj=>?_⟩;obtain⟨rfl,l,e⟩:=p.out j;intro h B d;have m:=QExec.underlying (h:=h) b B d;have f:=jq (h:=h) el B d (c el (Or.inl b));unfold Rj;simp[asIntOf,Sem.run_bind,m,f,l,e];exact H.elim;rename_i len el b;split at H;rename_i base k n;obtain⟨a,p,o⟩:=H;refine⟨_,o,λj=>?_⟩;obtain⟨rfl,l,e⟩:=p.out j;intro h B d;have m:=QExec.underlying (h:=h) b B d;have f:=jq (h:=h) el B d (c el (Or.inr ⟨_,b⟩));unfold Rj;simp[asIntOf,Sem.run_bind,m,f,l,e,QG];exact H.elim;exact H.elim
def y0(s:Bt)(i:Nat):Int:=((s.data[i]?.getD 0).toNat:Int)
def qW(x i:Value)(g:Option Bool)(K:Value->Prop):Prop:=
 match x,i with
 |.string s,.int _ n=>req g (0<=n/\n<(s.size:Int))/\K (.int .u8 (y0 s n.toNat))
 |_,_=>False
theorem Ip(s:Bt)(i:Nat)(h:i<s.size):s[i]?=Td (s.data[i]?.getD 0):=by have h':i<s.data.size:=h;rw[getElem?_pos s i h];simp[Oy h'];rfl
theorem Wo{K:Value->Prop}(f:P.underlying t=Td .string)(H:qW x i g K):
  ∃v,K v/\(dN g->∀h:za,QExec P (Instr.index t x i) h v):=by
 unfold qW at H;split at H;rename_i s k n;obtain⟨j,e⟩:=H;refine⟨_,e,λl=>?_⟩;obtain⟨m,o⟩:=j.out l;intro h B d;have c:=QExec.underlying (h:=h) f B d;unfold Instr.index;have b:=Ip s n.toNat (by omega);simp only[asIntOf,Sem.run_bind,c,Sem.run_pure,Result.andThen_ok,m,if_true,b,y0];exact H.elim
def dP(a:Option Addr)(sz l m:Nat):Option Addr:=if m=l then a else a.map (·.add (l*sz))
def ya:Option Value->Int->Option Int
 |none,d=>Td d
 |some (.int _ n),_=>Td n
 |some _,_=>Te
def nY(P:Program)(t:TypeId)(x:Value)(lo hi mx:Option Value)(g:Option Bool)(K:Value->Prop):Prop:=
 match P.underlying t with
 |some .string=>match x,mx with
  |.string s,none=>match ya lo 0,ya hi (s.size:Int)with
   |some l,some r=>req g (0<=l/\l<=r/\r<=(s.size:Int))/\K (.string (s.extract l.toNat r.toNat))
   |_,_=>False
  |_,_=>False
 |some (.slice el)=>match x with
  |.slice a len cap=>match ya lo 0,ya hi (len:Int),ya mx (cap:Int)with
   |some l,Td r,some m=>(mx=Te\/∃v,hi=Td v)/\req g (0<=l/\l<=r/\r<=m/\m<=(cap:Int))/\K (.slice (dP a (qj P el) l.toNat m.toNat) (r.toNat-l.toNat) (m.toNat-l.toNat))
   |_,_,_=>False
  |_=>False
 |some (.array n el)=>match x,mx with
  |.pointer (Td a),none=>match ya lo 0,ya hi (n:Int)with
   |some l,some r=>req g (0<=l/\l<=r/\r<=(n:Int))/\K (.slice (dP (Td a) (qj P el) l.toNat n) (r.toNat-l.toNat) (n-l.toNat))
   |_,_=>False
  |_,_=>False
 |_=>False
theorem yl{v:Option Value}{d n:Int}(h:ya v d=Td n):(v=Te/\n=d)\/∃k,v=Td (.int k n):=by unfold ya at h;split at h;exact Or.inl ⟨rfl,by simpa using h.symm⟩;simp only[NC]at h;exact Or.inr ⟨_,by rw[h]⟩;cases h
theorem ye{k:IntKind}{y:Nat}{c:BoundsCode}(h0:0<=n)(b:n<=(y:Int)):QExec P (Instr.sliceBound (.int k n) y c) h n.toNat:=by intro B d;simp[Instr.sliceBound,asIntOf,h0,b]
theorem xX{n:Nat}{lo hi:Option Value}(j:ya lo 0=Td l)(i:ya hi (n:Int)=Td r)(c:0<=l)(f:l<=r)(b:r<=(n:Int)):
  QExec P (Instr.sliceBounds Tc n n lo hi Te) h (l.toNat,r.toNat,n):=by
 have e:(r.toNat:Int)=r:=QF (by omega);rcases yl j with⟨rfl,rfl⟩|⟨k,rfl⟩ <;> rcases yl i with⟨rfl,rfl⟩|⟨k',rfl⟩;exact QExec.pure _;exact QExec.bind (QExec.pure n) (QExec.bind (ye (by omega) b) (QExec.pure _));exact QExec.bind (QExec.pure n) (QExec.bind (QExec.pure n) (QExec.bind (ye c f) (QExec.pure _)));exact QExec.bind (QExec.pure n) (QExec.bind (ye (by omega) b) (QExec.bind (ye c (by omega)) (QExec.pure _)))
theorem CN{len cap:Nat}{lo hi mx:Option Value}{l r m:Int}(n:ya lo 0=Td l)(f:ya hi (len:Int)=Td r)(q:ya mx (cap:Int)=Td m) (h0:mx=Te\/∃v,hi=Td v) (c:0<=l) (o:l<=r) (i:r<=m) (j:m<=(cap:Int)):
  QExec P (Instr.sliceBounds Ta len cap lo hi mx) h (l.toNat,r.toNat,m.toNat):=by
 have e:(r.toNat:Int)=r:=QF (by omega);have t:(m.toNat:Int)=m:=QF (by omega);rcases yl q with⟨rfl,rfl⟩|⟨s,rfl⟩;rcases yl n with⟨rfl,rfl⟩|⟨k,rfl⟩ <;> rcases yl f with⟨rfl,rfl⟩|⟨p,rfl⟩;exact QExec.pure _;exact QExec.bind (QExec.pure cap) (QExec.bind (ye (by omega) i) (QExec.pure _));exact QExec.bind (QExec.pure cap) (QExec.bind (QExec.pure len) (QExec.bind (ye c o) (QExec.pure _)));exact QExec.bind (QExec.pure cap) (QExec.bind (ye (by omega) i) (QExec.bind (ye c (by omega)) (QExec.pure _)));rcases h0 with h0|⟨v,rfl⟩;cases h0;rcases yl f with⟨b,_⟩|⟨p,b⟩;cases b;cases b;rcases yl n with⟨rfl,rfl⟩|⟨k,rfl⟩;exact QExec.bind (x:=m.toNat) (ye (by omega) j) (QExec.bind (ye (by omega) (by omega)) (QExec.pure _));exact QExec.bind (x:=m.toNat) (ye (by omega) j) (QExec.bind (ye (by omega) (by omega)) (QExec.bind (ye c (by omega)) (QExec.pure _)))
theorem Qj{lo hi mx:Option Value}{K:Value->Prop} (u:∀el,(P.underlying t=Td (.slice el)\/∃n,P.underlying t=Td (.array n el))->∃i,P.info? el=Td i) (H:nY P t x lo hi mx g K):
  ∃v,K v/\(dN g->∀h:za,QExec P (QX t x lo hi mx) h v):=by
 unfold nY at H;split at H;rename_i b;split at H;rename_i s;split at H;rename_i l r w j;obtain⟨y,q⟩:=H;refine⟨_,q,λk=>?_⟩;obtain⟨o,e,p⟩:=y.out k;intro h B d;have c:=QExec.underlying (h:=h) b B d;have f:=xX (P:=P) (h:=h) w j o e p B d;unfold QX;rw[Sem.run_bind,c];simp only[Result.andThen_ok];unfold Instr.slice;rw[Sem.run_bind,c];simp[f];exact H.elim;exact H.elim;rename_i el b;split at H;rename_i a len cap;split at H;rename_i l r m w j A;obtain⟨h0,y,q⟩:=H;refine⟨_,q,λk=>?_⟩;obtain⟨o,e,p,C⟩:=y.out k;intro h B d;have c:=QExec.underlying (h:=h) b B d;have z:=jq (h:=h) el B d (u el (.inl b));have f:=CN (P:=P) (h:=h) w j A h0 o e p C B d;unfold QX;rw[Sem.run_bind,c];simp only[Result.andThen_ok];unfold Instr.slice;rw[Sem.run_bind,c];simp[f,z,dP];exact H.elim;exact H.elim;rename_i n el b;split at H;rename_i a;split at H;rename_i l r w j;obtain⟨y,q⟩:=H;refine⟨_,q,λk=>?_⟩;obtain⟨o,e,p⟩:=y.out k;intro h B d;have c:=QExec.underlying (h:=h) b B d;have z:=jq (h:=h) el B d (u el (.inr ⟨n,b⟩));have f:=xX (P:=P) (h:=h) w j o e p B d;unfold QX;rw[Sem.run_bind,c];simp only[Result.andThen_ok,QG,Sem.run_bind,Sem.run_pure,f,z];unfold dP;split <;> rfl;exact H.elim;exact H.elim;exact H.elim
end
section
variable {P:Program} {f:FuncId} {h:za} {K:Value -> za -> Prop} {t ty t':TypeId} {g:Option Bool} {w w':World} {v:Value} {o:Oper} {ρ:Operand -> Value} {a:Act}
def XC(P:Program)(f:FuncId)(args:Array Value)(h:za)(R:Value->za->Prop):Prop:=
 ∀B d,Calls P f args (mk B d h) λe w'=>∃v b h',e=.returned v/\w'=mk B b h'/\R v h'
theorem XC.mono{args:Array Value}{R b:Value->za->Prop}(H:XC P f args h R)(j:∀v h',R v h'->b v h'):XC P f args h b:= λB d=>(H B d).mono λ_ _ ⟨v,c,h',i,e,r⟩=>⟨v,c,h',i,e,j _ _ r⟩
def jh(P:Program)(s:Sem Value)(h:za)(K:Value->za->Prop):Prop:=∀B d,∃v b h',s.run P (mk B d h)=.ok v (mk B b h')/\K v h'
def XRunU(P:Program)(s:Sem Unit)(h:za)(K:za->Prop):Prop:=∀B d,∃b h',s.run P (mk B d h)=.ok () (mk B b h')/\K h'
theorem XRunU.mono{s:Sem Unit}{K b:za->Prop}(H:XRunU P s h K)(c:∀h',K h'->b h'):XRunU P s h b:= λB d=>let ⟨d',h',e,k⟩:=H B d;⟨d',h',e,c _ k⟩
def ji(n:Nat):Prop:=n<=9223372036854775807
def fL(P:Program)(s:Sem Next)(K:Value->Prop):Prop:=match Qi P s with
 |some (.value v)=>K v
 |_=>False
def oh(P:Program)(ty:TypeId)(s:Sem Value)(g:Option Bool)(h:za)(K:Value->Prop):Prop:=match l9 P ty with
 |some b=>iq b λv=>req g (QExec P s h v)/\K v
 |none=>False
def kI(P:Program)(t:TypeId):Bool:=match P.underlying t with
 |some (.slice _)=>Ta
 |_=>Tc
def kH(P:Program)(t:TypeId):Bool:=match P.underlying t with
 |some (.pointer e)=>Nat.beq e (P.pointee t)
 |_=>Tc
theorem wV(h:kH P t=Ta):P.underlying t=Td (.pointer (P.pointee t)):=by unfold kH at h;split at h;rename_i e b;rw[b,NJ h];cases h
def oK(P:Program)(t:TypeId)(s:Sem Next)(c:BinOp)(x y:Value)(g:Option Bool)(K:Value->Prop):Prop:=
 match c,x,y with
 |.eql,.slice a _ _,.slice Te 0 0=>bif kI P t then K (.bool a.isNone)else fL P s K
 |.neq,.slice a _ _,.slice Te 0 0=>bif kI P t then K (.bool (!a.isNone))else fL P s K
 |.eql,.pointer a,.pointer none=>bif kH P t then K (.bool a.isNone)else fL P s K
 |.neq,.pointer a,.pointer none=>bif kH P t then K (.bool (!a.isNone))else fL P s K
 |.quo,.int k a,.int k' b=>k=k'/\req g (b≠0)/\K (.int k (k.wrap (a.tdiv b)))
 |.rem,.int k a,.int k' b=>k=k'/\req g (b≠0)/\K (.int k (a.tmod b))
 |.add,.string a,.string b=>req g (ji (a.size+b.size))/\K (.string (a++b))
 |_,_,_=>fL P s K
def rP(b:BinOp)(y:Operand):Bool:=match y with
 |.const _=>Tc
 |_=>match b with
  |.shl | .shr=>Ta
  |_=>Tc
def nu(c:BinOp)(x y:Value)(g:Option Bool)(K:Value->Prop):Prop:=
 match x,y with
 |.int k a,.int _ b=>match c with
  |.shl=>req g (0<=b)/\K (.int k (k.wrap (a*2 ^ (min b.toNat k.bits))))
  |.shr=>req g (0<=b)/\K (.int k (a.fdiv (2 ^ (min b.toNat k.bits))))
  |_=>False
 |_,_=>False
def mD(P:Program)(t:TypeId)(y:Operand):Bool:=match y with
 |.const .nilIface=>match P.underlying t with
  |some (.interface _)=>Ta
  |_=>Tc
 |_=>Tc
def mQ:Value->Bool
 |.nilIface=>Ta
 |.iface _ _=>Ta
 |_=>Tc
def rA:Value->Bool
 |.nilIface=>Ta
 |_=>Tc
def nm(b:BinOp)(x y:Value)(g:Option Bool)(K:Value->Prop):Prop:=match y with
 |.nilIface=>match b with
  |.eql=>req g (mQ x=Ta)/\K (.bool (rA x))
  |.neq=>req g (mQ x=Ta)/\K (.bool (!rA x))
  |_=>False
 |_=>False
def Ai(b:Builtin)(c:Array TypeId)(e:TypeId)(args:Array Value):Option (Sem Value):=
 match b with
 |.append=>Td (NX c e args)
 |.copy=>Td (Builtin.copy_ c e args)
 |.clear=>Td (Builtin.clear_ c e args)
 |.delete=>Td (Builtin.delete_ c e args)
 |.len=>Td (QQ c e args)
 |_=>Te
def rR(P:Program)(s:Sem Next)(ty:TypeId)(b:Array TypeId)(args:Array Value)(g:Option Bool)(h:za)(K:Value->Prop):Prop:=
 match (args[0]?:Option Value)with
 |some (Value.map _)=>oh P ty (QQ b ty args) g h K
 |_=>fL P s K
def gw(P:Program)(t:TypeId):Bool:=match P.underlying t with
 |some (.slice el)=>qy P el
 |some (.array _ el)=>qy P el
 |_=>Ta
theorem xa(h:gw P t=Ta):∀el,(P.underlying t=Td (.slice el)\/∃n,P.underlying t=Td (.array n el))->∃i,P.info? el=Td i:=by intro el b;unfold gw at h;rcases b with b|⟨n,b⟩ <;> rw[b]at h <;> exact q9 h
def mY(P:Program)(t:TypeId):Bool:=match P.underlying t with
 |some .string=>Ta
 |_=>Tc
theorem Cp(h:mY P t=Ta):P.underlying t=Td .string:=by unfold mY at h;split at h;assumption;cases h
def m7(P:Program)(s:Sem Next)(x:Value)(g:Option Bool)(K:Value->Prop):Prop:=match x with
 |.pointer p=>∃a:Addr,req g (p=Td a)/\K (.pointer (Td a))
 |_=>fL P s K
def Yw(P:Program)(o:Oper)(ρ:Operand->Value)(g:Option Bool)(h:za)(K:Value->Prop):Prop:=
 match o.op with
 |.load t a=>ic P h t (ρ a) g K
 |.indexAddr t x i=>bif gw P t then kZ P t (ρ x) (ρ i) g K else False
 |.index t x i=>bif mY P t then qW (ρ x) (ρ i) g K else fL P (execOp ρ o) K
 |.slice t x lo hi mx=>bif gw P t then nY P t (ρ x) (lo.map ρ) (hi.map ρ) (mx.map ρ) g K else False
 |.binOp b t x y _=>bif rP b y then nu b (ρ x) (ρ y) g K else bif mD P t y then nm b (ρ x) (ρ y) g K else oK P t (execOp ρ o) b (ρ x) (ρ y) g K
 |.lookup t m k ok=>oh P o.type (QJ t (ρ m) (ρ k) ok) g h K
 |.nilCheck x=>m7 P (execOp ρ o) (ρ x) g K
 |.call c=>match c.callee with
  |.builtin .len=>rR P (execOp ρ o) o.type c.argTypes (c.args.map ρ) g h K
  |_=>fL P (execOp ρ o) K
 |_=>fL P (execOp ρ o) K
theorem zm{s:Sem Next}{K:Value->Prop}(H:fL P s K)(g:Option Bool):∃v,K v/\(dN g->∀h:za,QExec P s h (.value v)):=by unfold fL at H;split at H;rename_i v b;exact⟨v,H,λ_ h=>KX b h⟩;exact H.elim
theorem BQ{s:Sem Value}{K:Value->Prop}(H:oh P ty s g h K):∃v,K v/\(dN g->QExec P s h v):=by unfold oh at H;split at H;obtain⟨v,c,b⟩:=nv H;exact⟨v,b,λe=>c.out e⟩;exact H.elim
theorem j6{c:BinOp}(t:TypeId)(x y:Operand)(a b:Value)(e:(c matches .eql | .neq)=Tc):eqGuard c t x y a b=pure ():=by unfold eqGuard;cases c <;> simp at e <;> rfl
theorem oc{s:Sem Value}(h:s.run P w=.ok v w'):(s >>= λx=>(PZ (QD x):Sem Next)).run P w=.ok (.value v) w':=by rw[Sem.run_bind,h];rfl
theorem jN{s:Sem Next}{K:Value->Prop}(h:za)(H:∃v,K v/\(dN g->∀h:za,QExec P s h (.value v))):∃v,K v/\(dN g->QExec P s h (.value v)):=
 let ⟨v,h1,h2⟩:=H;⟨v,h1,λb=>h2 b h⟩
theorem EJ{n:BinOp}{x y:Operand}(q:o.op=.binOp n t x y t'){K:Value->Prop}
  (H:oK P t (execOp ρ o) n (ρ x) (ρ y) g K):∃v,K v/\(dN g->∀h:za,QExec P (execOp ρ o) h (.value v)):=by
 have i:∀(n:BinOp) (x y:Operand) (a b:Option Addr) (l c A z:Nat) (w:World),(eqGuard n t x y (.slice a l c) (.slice b A z)).run P w=.ok () w:=λn x y a b l c A z w=>by unfold eqGuard;cases n <;> rfl
 have f:∀(n:BinOp) (x y:Operand) (a b:Option Addr) (w:World),(eqGuard n t x y (.pointer a) (.pointer b)).run P w=.ok () w:=λn x y a b w=>by unfold eqGuard;cases n <;> rfl
 unfold oK at H;split at H;rename_i a l c m j;cases hs:kI P t with
 |false=>rw[hs]at H;exact zm H g
 |true=>
  rw[hs,zI]at H;refine⟨_,H,λp h B d=>?_⟩;have e:∃el,P.underlying t=Td (.slice el):=by unfold kI at hs;split at hs;rename_i el e;exact⟨el,e⟩;cases hs
  obtain⟨el,e⟩:=e;simp only[execOp,q,m,j];refine oc ?_;rw[Sem.run_bind,i];simp only[Result.andThen_ok,binOp,Sem.run_bind,run_equal_slice_nil _ t _ _ _ _ e];rfl
 rename_i a l c m j;cases hs:kI P t with
 |false=>rw[hs]at H;exact zm H g
 |true=>
  rw[hs,zI]at H;refine⟨_,H,λp h B d=>?_⟩;have e:∃el,P.underlying t=Td (.slice el):=by unfold kI at hs;split at hs;rename_i el e;exact⟨el,e⟩;cases hs
  obtain⟨el,e⟩:=e;simp only[execOp,q,m,j];refine oc ?_;rw[Sem.run_bind,i];simp only[Result.andThen_ok,binOp,Sem.run_bind,run_equal_slice_nil _ t _ _ _ _ e];rfl
 rename_i a m j;cases hs:kH P t with
 |false=>rw[hs]at H;exact zm H g
 |true=>rw[hs,zI]at H;refine⟨_,H,λp h B d=>?_⟩;have e:=wV hs;simp only[execOp,q,m,j];refine oc ?_;rw[Sem.run_bind,f];simp only[Result.andThen_ok,binOp,Sem.run_bind,run_equal_pointer_nil _ t _ e];rfl
 rename_i a m j;cases hs:kH P t with
 |false=>rw[hs]at H;exact zm H g
 |true=>rw[hs,zI]at H;refine⟨_,H,λp h B d=>?_⟩;have e:=wV hs;simp only[execOp,q,m,j];refine oc ?_;rw[Sem.run_bind,f];simp only[Result.andThen_ok,binOp,Sem.run_bind,run_equal_pointer_nil _ t _ e];rfl
 rename_i k a C b m j;obtain⟨rfl,u,s⟩:=H;refine⟨_,s,λp=>?_⟩;have r:=u.out p;intro h B d;simp only[execOp,q,m,j];rw[j6 _ _ _ _ _ rfl];simp[binOp,Op.intDiv,r];rename_i k a C b m j;obtain⟨rfl,u,s⟩:=H;refine⟨_,s,λp=>?_⟩;have r:=u.out p;intro h B d;simp only[execOp,q,m,j];rw[j6 _ _ _ _ _ rfl];simp[binOp,Op.intDiv,r];rename_i a b m j;obtain⟨u,s⟩:=H;refine⟨_,s,λp=>?_⟩;have r:=u.out p;intro h B d;simp only[execOp,q,m,j];rw[j6 _ _ _ _ _ rfl];have D:¬((a.size+b.size:Nat):Int)>IntKind.i64.max:=by
  unfold ji at r;have:IntKind.i64.max=9223372036854775807:=by decide
  omega
 simp only[binOp,Op.stringOp,zv D];rfl;exact zm H g
theorem Ii{l:BinOp}{x y:Operand}(i:o.op=.binOp l t x y t'){K:Value->Prop}
  (H:nu l (ρ x) (ρ y) g K):∃v,K v/\(dN g->∀h:za,QExec P (execOp ρ o) h (.value v)):=by
 unfold nu at H;split at H;rename_i k a p b m j;split at H;obtain⟨f,e⟩:=H;refine⟨_,e,λc h B d=>?_⟩;have n:=f.out c;simp only[execOp,i,m,j];rw[j6 _ _ _ _ _ rfl];simp only[binOp,Op.shift,zv (show¬b<0 by omega)];rfl;obtain⟨f,e⟩:=H;refine⟨_,e,λc h B d=>?_⟩;have n:=f.out c;simp only[execOp,i,m,j];rw[j6 _ _ _ _ _ rfl];simp only[binOp,Op.shift,zv (show¬b<0 by omega)];rfl;exact H.elim;exact H.elim
theorem Ht{b:BinOp}{x y:Operand}(j:o.op=.binOp b t x y t'){K:Value->Prop}
  (f:mD P t y=Ta) (H:nm b (ρ x) (ρ y) g K):∃v,K v/\(dN g->∀h:za,QExec P (execOp ρ o) h (.value v)):=by
 have i:∃ms,P.underlying t=Td (.interface ms)/\y=.const .nilIface:=by unfold mD at f;split at f;split at f;rename_i ms i;exact⟨ms,i,rfl⟩;cases f;cases f
 obtain⟨ms,i,rfl⟩:=i;have key:∀{u:Value} (h:za),mQ u=Ta->QExec P (Rs t u .nilIface) h (rA u):=by intro u h hi B d;have m:=QExec.underlying (h:=h) i B d;unfold Rs Op.maxDepth;cases u <;> first|(cases hi;done)|(unfold Op.equalIn;rw[Sem.run_bind,m];rfl)
 have k:∀b u (h:za),mQ u=Ta->QExec P (eqGuard b t x (.const .nilIface) u .nilIface) h ():=by intro b u h hi B d;unfold eqGuard;cases u <;> first|(cases hi;done)|(cases b <;> simp)
 have c:∀b u,mQ u=Ta->(binOp b t u .nilIface=match b with | .eql=>(do pure (.bool (<-Rs t u .nilIface))) | .neq=>(do pure (.bool (!(<-Rs t u .nilIface))))|_=>binOp b t u .nilIface):=by intro b u hi;cases u <;> first|(cases hi;done)|(cases b <;> rfl)
 unfold nm at H;split at H;rename_i l;split at H;refine⟨_,H.2,λe h=>?_⟩;have hi:=H.1.out e;simp only[execOp,j,l];refine QExec.val ((k _ _ h hi).bind ?_);rw[c _ _ hi];exact(key h hi).bind (QExec.pure _);refine⟨_,H.2,λe h=>?_⟩;have hi:=H.1.out e;simp only[execOp,j,l];refine QExec.val ((k _ _ h hi).bind ?_);rw[c _ _ hi];exact(key h hi).bind (QExec.pure _);exact H.elim;exact H.elim
theorem sK{b:BinOp}{x y:Operand}(c:o.op=.binOp b t x y t'){K:Value->Prop}
  (H:bif rP b y then nu b (ρ x) (ρ y) g K else bif mD P t y then nm b (ρ x) (ρ y) g K else oK P t (execOp ρ o) b (ρ x) (ρ y) g K):∃v,K v/\(dN g->∀h:za,QExec P (execOp ρ o) h (.value v)):=by
 cases hb:rP b y with
 |true=>rw[hb]at H;exact Ii c H
 |false=>
  rw[hb]at H;cases hn:mD P t y with
  |true=>rw[hn]at H;exact Ht c hn H
  |false=>rw[hn]at H;exact EJ c H
theorem FZ{c:Call}(e:o.op=.call c)(j:c.callee=.builtin .len){K:Value->Prop}
  (H:rR P (execOp ρ o) o.type c.argTypes (c.args.map ρ) g h K):∃v,K v/\(dN g->QExec P (execOp ρ o) h (.value v)):=by
 unfold rR at H;split at H;obtain⟨v,f,b⟩:=BQ H;refine⟨v,f,λi=>?_⟩;have:=b i;intro B d;simp only[execOp,e,resolve,j,Sem.run_bind,Sem.run_pure,Result.andThen_ok,invoke,builtin];rw[this B d];rfl;exact jN h (zm H g)
theorem s7{K:Value->Prop}(H:Yw P o ρ g h K):∃v,K v/\(dN g->QExec P (execOp ρ o) h (.value v)):=by
 unfold Yw at H;split at H;rename_i t a b;obtain⟨v,j,f⟩:=Bi H;refine⟨v,j,λe=>?_⟩;simp only[execOp,b];exact(f e).val;rename_i t x i b;cases he:gw P t with
 |false=>rw[he]at H;exact H.elim
 |true=>rw[he]at H;obtain⟨v,j,f⟩:=xp (xa he) H;refine⟨v,j,λe=>?_⟩;simp only[execOp,b];exact(f e h).val
 rename_i t x i b;cases he:mY P t with
 |false=>rw[he]at H;exact jN h (zm H g)
 |true=>rw[he]at H;obtain⟨v,j,f⟩:=Wo (Cp he) H;refine⟨v,j,λe=>?_⟩;simp only[execOp,b];exact(f e h).val
 rename_i t x lo hi mx b;cases he:gw P t with
 |false=>rw[he]at H;exact H.elim
 |true=>rw[he]at H;obtain⟨v,j,f⟩:=Qj (xa he) H;refine⟨v,j,λe=>?_⟩;simp only[execOp,b];exact(f e h).val
 rename_i r t x y t' b;exact jN h (sK b H);rename_i t m k ok b;obtain⟨v,j,f⟩:=BQ H;refine⟨v,j,λe=>?_⟩;simp only[execOp,b];exact(f e).val;rename_i x b;unfold m7 at H;split at H;rename_i p q;obtain⟨a,j,f⟩:=H;refine⟨_,f,λe=>?_⟩;have n:=j.out e;subst n;intro B d;simp only[execOp,b,q];rfl;exact jN h (zm H g);rename_i c b;split at H;rename_i l;exact FZ b l H;exact jN h (zm H g);exact jN h (zm H g)
def gp(o:Oper):Bool:=match o.op with
 |.lookup .. => Tc
 |.call c=>match c.callee with
  |.builtin .len=>Tc
  |_=>Ta
 |_=>Ta
theorem rp{p:Addr}(H:zb h p=Td v):p.block<h.size:=by
 unfold zb at H;cases e:h[p.block]? with
 |none=>simp[e]at H
 |some o=>exact(NK.1 e).1
theorem Au{h h':za}(k:Keep h.size h h'){p:Addr}(H:zb h p=Td v):zb h' p=Td v:=by have:=rp H;unfold zb at H ⊢;rw[k.get _ this];exact H
theorem BV{h h':za}(k:Keep h.size h h'){p:Addr}:∀{vs:List Value} {i:Nat},ze h p i vs->ze h' p i vs
 |[],_,_=>trivial
 |_::_,_,⟨h1,h2⟩=>⟨Au k h1,BV k h2⟩
theorem tJ{K:Value->Prop}(w:gp o=Ta)(H:Yw P o ρ g h K):∃v,K v/\(dN g->∀h',Keep h.size h h'->QExec P (execOp ρ o) h' (.value v)):=by
 unfold Yw at H;split at H;rename_i t a n;unfold ic at H;split at H;rename_i q b r s;obtain⟨x,j,f⟩:=H;refine⟨_,f,λe h' u=>?_⟩;simp only[execOp,n,r];exact(nD s (Au u (j.out e))).val;rename_i q l r s;obtain⟨vs,h0,⟨j,f⟩,_⟩:=Q4 H (jg l);refine⟨_,f,λe h' u=>?_⟩;simp only[execOp,n,r];exact(nQ s h0 (BV u (j.out e))).val;exact H.elim;rename_i t x i n;cases he:gw P t with
 |false=>rw[he]at H;exact H.elim
 |true=>rw[he]at H;obtain⟨v,j,f⟩:=xp (xa he) H;refine⟨v,j,λe h' _=>?_⟩;simp only[execOp,n];exact(f e h').val
 rename_i t x i n;cases he:mY P t with
 |false=>rw[he]at H;obtain⟨v,j,f⟩:=zm H g;exact⟨v,j,λe h' _=>f e h'⟩
 |true=>rw[he]at H;obtain⟨v,j,f⟩:=Wo (Cp he) H;refine⟨v,j,λe h' _=>?_⟩;simp only[execOp,n];exact(f e h').val
 rename_i t x lo hi mx n;cases he:gw P t with
 |false=>rw[he]at H;exact H.elim
 |true=>rw[he]at H;obtain⟨v,j,f⟩:=Qj (xa he) H;refine⟨v,j,λe h' _=>?_⟩;simp only[execOp,n];exact(f e h').val
 rename_i C t x y t' n;obtain⟨v,j,f⟩:=sK n H;exact⟨v,j,λe h' _=>f e h'⟩;rename_i t m k ok n;simp[gp,n]at w;rename_i x n;unfold m7 at H;split at H;rename_i p A;obtain⟨a,j,f⟩:=H;refine⟨_,f,λe h' _=>?_⟩;have r:=j.out e;subst r;intro B d;simp only[execOp,n,A];rfl;obtain⟨v,j,f⟩:=zm H g;exact⟨v,j,λe h' _=>f e h'⟩;rename_i c n;split at H;rename_i z;simp[gp,n,z]at w;obtain⟨v,j,f⟩:=zm H g;exact⟨v,j,λe h' _=>f e h'⟩;obtain⟨v,j,f⟩:=zm H g;exact⟨v,j,λe h' _=>f e h'⟩
def ie(P:Program){α:Type}:Sem α->za->(α->za->Prop)->Prop
 |.pure a,h,K=>K a h
 |.program k,h,K=>ie P (k P) h K
 |.mark _ k,h,K=>ie P k h K
 |.new o k,h,K=>ie P (k h.size) (h.push o) K
 |_,_,_=>False
theorem tS{α:Type}{s:Sem α}{K:α->za->Prop}(H:ie P s h K)(B:World)(d:Nat):∃x h',s.run P (mk B d h)=.ok x (mk B d h')/\K x h':=by
 induction s generalizing h with
 |pure a=>exact⟨a,h,rfl,H⟩
 |program k b=>exact b P H
 |mark m k b=>exact b H
 |new o k b=>obtain⟨x,h',e,c⟩:=b h.size H;exact⟨x,h',e,c⟩
 |_=>exact H.elim
def typed(P:Program)(ty:TypeId)(v:Value)(K:Value->Prop):Prop:=match l9 P ty with
 |some c=>iq c λb=>v=b/\K b
 |none=>False
theorem j7{K:Value->Prop}(H:typed P ty v K):K v:=by unfold typed at H;split at H;obtain⟨e,c,b⟩:=nv H;rw[c];exact b;exact H.elim
def zr(P:Program)(f:FuncId):Bool:=match P.funcs[f]? with
 |some fn=>(match fn.body with
  |some _=>Ta
  | none => false) && !(fn.name == "runtime.NumGoroutine")
 |none=>Tc
theorem Wp(h:zr P f=Ta)(args:Array Value)(w:World):(callFunc f args).run P w=.ok (.enter f args) w:=by unfold zr at h;split at h;rename_i fn i;simp only[NP,PN]at h;obtain⟨c,j⟩:=h;unfold callFunc;simp only[program,Sem.run_bind,Sem.run,Result.andThen_ok,i];split at c;rename_i b e;simp[j,e];cases c;cases h
def lZ(P:Program)(v:Value)(args:Array Value)(K:FuncId->Array Value->Prop):Prop:=match v with
 |.func (.func f) first cap=>zr P f=Ta/\K f (first++args++cap)
 |_=>False
theorem wx{c:Call}{x:Operand}(h:o.op=.call c)(j:c.callee=.value x){K:FuncId->Array Value->Prop}(H:lZ P (ρ x) (c.args.map ρ) K):
  ∃f args,K f args/\∀w,(execOp ρ o).run P w=.ok (.enter f args) w:=by
 unfold lZ at H;split at H;rename_i f first cap b
 obtain⟨i,e⟩:=H;refine⟨_,_,e,λw=>?_⟩;simp only[execOp,h,resolve,j,b,QR,Sem.run_bind,Sem.run_pure,Result.andThen_ok,invoke];exact Wp i _ w;exact H.elim
def kY:Operand->Bool
 |.func _=>Ta
 |_=>Tc
def LD(P:Program)(f:FuncId):Bool:=match P.funcs[f]? with
 |some fn=>(match fn.body with
  |some _=>Tc
  |none=>Ta)
 |none=>Tc
def Kh(P:Program)(f:FuncId)(args:Array Value)(h:za)(K:Value->za->Prop):Prop:=∀B d,∃v b h',(callFunc f args).run P (mk B d h)=.ok (.value v) (mk B b h')/\K v h'
def vF(P:Program):Operand->Bool
 |.func f=>LD P f
 |_=>Tc
def sr(P:Program)(v:Value)(args:Array Value)(h:za)(K:Value->za->Prop):Prop:=match v with
 |.func (.func f) first cap=>Kh P f (first++args++cap) h K
 |_=>False
theorem Gz{c:Call}{x:Operand}(j:o.op=.call c)(l:c.callee=.value x)(H:sr P (ρ x) (c.args.map ρ) h K)(B:World)(d:Nat):
  ∃v b h',(execOp ρ o).run P (mk B d h)=.ok (.value v) (mk B b h')/\K v h':=by
 unfold sr at H;split at H;rename_i f first cap e
 obtain⟨v,b,h',k,i⟩:=H B d;refine⟨v,b,h',?_,i⟩;simp only[execOp,j,resolve,l,e,QR,Sem.run_bind,Sem.run_pure,Result.andThen_ok,invoke];exact k;exact H.elim
def u6(P:Program)(t:TypeId):Bool:=match P.underlying t with
 |some (.map _ _)=>Ta
 |_=>Tc
def nk(P:Program)(o:Oper)(ρ:Operand->Value)(h:za)(K:Value->za->Prop):Prop:=
 match o.op with
 |.store t a x=>XRunU P (NR t (ρ a) (ρ x)) h λh'=>K undef h'
 |.mapUpdate t m k x=>XRunU P (O8 t (ρ m) (ρ k) (ρ x)) h λh'=>K undef h'
 |.insert t m k x=>XRunU P (O8 t (ρ m) (ρ k) (ρ x)) h λh'=>K undef h'
 |.entryStore t m s x=>XRunU P (Instr.entryStore t (ρ m) (ρ s) (ρ x)) h λh'=>K undef h'
 |.mapEntry t m k=>jh P (Instr.mapEntry t (ρ m) (ρ k)) h λv h'=>typed P o.type v λe=>K e h'
 |.makeSlice t l c=>jh P (Pt t (ρ l) (ρ c)) h λv h'=>typed P o.type v λe=>K e h'
 |.convert s t x=>jh P (convert s t (ρ x)) h λv h'=>typed P o.type v λe=>K e h'
 |.typeAssert x t t' ok=>jh P (Instr.typeAssert (ρ x) t t' ok) h λv h'=>typed P o.type v λe=>K e h'
 |.range t x=>bif u6 P t then jh P (Rk t (ρ x)) h λv h'=>∃q:Option Addr,v=.pointer q/\K (.pointer q) h' else ie P (execOp ρ o) h λi h'=>match i with
   |.value v=>K v h'
   |.skip=>K undef h'
   |_=>False
 |.next x s=>bif s then jh P (QE (ρ x) s o.type) h λv h'=>(v=.tuple #[.bool Tc]/\K (.tuple #[.bool Tc]) h')\/∃k u:Int,v=.tuple #[.bool Ta,.int .i64 k,.int .i32 u]/\K (.tuple #[.bool Ta,.int .i64 k,.int .i32 u]) h'
  else jh P (QE (ρ x) s o.type) h λv h'=>(v=.tuple #[.bool Tc]/\K (.tuple #[.bool Tc]) h')\/∃k u:Value,v=.tuple #[.bool Ta,k,u]/\K (.tuple #[.bool Ta,k,u]) h'
 |.entry x=>jh P (Rm (ρ x)) h λv h'=>∃k u:Value,v=.tuple #[k,u]/\K (.tuple #[k,u]) h'
 |.call c=>match c.callee with
  |.builtin b=>match Ai b c.argTypes o.type (c.args.map ρ)with
   |some s=>jh P s h λv h'=>typed P o.type v λe=>K e h'
   |none=>False
  |.value x=>bif vF P x then sr P (ρ x) (c.args.map ρ) h (λv h'=>typed P o.type v λe=>K e h')else bif kY x then(ie P (execOp ρ o) h λi h'=>match i with
   |.enter f args=>XC P f args h' λv h''=>typed P o.type v λe=>K e h''
   |.value v=>K v h'
   |_=>False)else lZ P (ρ x) (c.args.map ρ) λf args=>XC P f args h λv h''=>typed P o.type v λe=>K e h''
  |_=>False
 |_=>ie P (execOp ρ o) h λi h'=>match i with
   |.value v=>K v h'
   |.skip=>K undef h'
   |_=>False
def Na:Builtin->Bool
 |.append | .copy | .clear | .delete=>Ta
 |_=>Tc
def Ic(P:Program)(s t:TypeId):Bool:=match P.underlying s,P.underlying t with
 |some (.int _),Td (.int _)=>Ta
 |some .string,Td .string=>Ta
 |_,_=>Tc
def gA(P:Program)(o:Oper):Bool:=
 match o.op with
 |.load _ _ | .indexAddr _ _ _ | .index _ _ _ | .slice _ _ _ _ _ | .binOp _ _ _ _ _ | .lookup _ _ _ _ | .nilCheck _=>Ta
 |.move _ | .assign _ | .unOp _ _ _ | .build _ _ | .makeFunc _ _ _ | .makeInterface _ _ | .extract _ _ | .field _ _ _ | .fieldAddr _ _ _=>Ta
 |.convert s t _=>Ic P s t
 |.call c=>match c.callee with
  |.builtin b=>!Na b
  |_=>Tc
 |_=>Tc
def pS(P:Program)(o:Oper)(ρ:Operand->Value)(b:Bool)(h:za)(K:Value->za->Prop):Prop:=
 match l9 P o.type with
 |some c=>∃J:Value->za->Prop,(b=Ta->nk P o ρ h J)/\(b=Tc->iq c λv=>J v h)/\(b=Ta->∀v h',J v h'->iq c λe=>v=e)/\uZ c λv=>∀h',J v h'->K v h'
 |none=>False
def stepW(P:Program)(o:Oper)(ρ:Operand->Value)(g:Option Bool)(h:za)(K:Value->za->Prop):Prop:=
 bif gA P o then Yw P o ρ g h (λv=>K v h)else match g with
  |none=>nk P o ρ h K
  |some b=>pS P o ρ b h K
theorem upon_value{next:Act->World->Prop}{Q:Exit->Act->World->Prop}{s:Sem Next}(h:s.run P w=.ok (.value v) w')(b:next (a.put o.dst v) w'): o.upon P a next Q (s.run P w):=by rw[h];exact b
theorem upon_skip{next:Act->World->Prop}{Q:Exit->Act->World->Prop}{s:Sem Next}(h:s.run P w=.ok .skip w')(b:next (a.put o.dst undef) w'): o.upon P a next Q (s.run P w):=by rw[h];exact b
theorem Qc{s:Sem Value}(h:s.run P w=.ok v w'):(s >>= λx=>(PZ (QD x):Sem Next)).run P w=.ok (.value v) w':=by rw[Sem.run_bind,h];rfl
theorem kE{s:Sem Unit}(h:s.run P w=.ok () w'):(s >>= λ_=>(PZ Next.skip:Sem Next)).run P w=.ok .skip w':=by rw[Sem.run_bind,h];rfl
theorem Cx(H:nk P o ρ h K)(B:World)(d:Nat){next:Act->World->Prop}{Q:Exit->Act->World->Prop}
  (n:∀v p h',K v h'->next (a.put o.dst v) (mk B p h')):o.upon P a next Q ((execOp ρ o).run P (mk B d h)):=by
 unfold nk at H;split at H;case h_1 t x y ho=>obtain⟨p,h',j,i⟩:=H B d;exact upon_skip (by simp only[execOp,ho];exact kE j) (n _ _ _ i)
 case h_2 t m k x ho=>obtain⟨p,h',j,i⟩:=H B d;exact upon_skip (by simp only[execOp,ho];exact kE j) (n _ _ _ i)
 case h_3 t m k x ho=>obtain⟨p,h',j,i⟩:=H B d;exact upon_skip (by simp only[execOp,ho];exact kE j) (n _ _ _ i)
 case h_4 t m s x ho=>obtain⟨p,h',j,i⟩:=H B d;exact upon_skip (by simp only[execOp,ho];exact kE j) (n _ _ _ i)
 case h_5 t m k ho=>obtain⟨v,p,h',j,i⟩:=H B d;exact upon_value (by simp only[execOp,ho];exact Qc j) (n _ _ _ (j7 i))
 case h_6 t l c ho=>obtain⟨v,p,h',j,i⟩:=H B d;exact upon_value (by simp only[execOp,ho];exact Qc j) (n _ _ _ (j7 i))
 case h_7 s t x ho=>obtain⟨v,p,h',j,i⟩:=H B d;exact upon_value (by simp only[execOp,ho];exact Qc j) (n _ _ _ (j7 i))
 case h_8 x t t' ok ho=>obtain⟨v,p,h',j,i⟩:=H B d;exact upon_value (by simp only[execOp,ho];exact Qc j) (n _ _ _ (j7 i))
 case h_9 t x ho=>
  cases hm:u6 P t with
  |true=>rw[hm]at H;obtain⟨v,p,h',j,q,rfl,i⟩:=H B d;exact upon_value (by simp only[execOp,ho];exact Qc j) (n _ _ _ i)
  |false=>
   rw[hm]at H;obtain⟨r,h',j,i⟩:=tS H B d;cases r with
   |value v=>exact upon_value j (n _ _ _ i)
   |skip=>exact upon_skip j (n _ _ _ i)
   |_=>exact i.elim
 case h_10 x s ho=>
  cases s with
  |true=>simp only[zI]at H;obtain⟨v,p,h',j,i⟩:=H B d;refine upon_value (v:=v) (w':=mk B p h') (by simp only[execOp,ho];exact Qc j) (n _ _ _ ?_);rcases i with⟨rfl,i⟩|⟨k,u,rfl,i⟩ <;> exact i
  |false=>simp only[zJ]at H;obtain⟨v,p,h',j,i⟩:=H B d;refine upon_value (v:=v) (w':=mk B p h') (by simp only[execOp,ho];exact Qc j) (n _ _ _ ?_);rcases i with⟨rfl,i⟩|⟨k,u,rfl,i⟩ <;> exact i
 case h_11 x ho=>obtain⟨v,p,h',j,k,u,rfl,i⟩:=H B d;exact upon_value (by simp only[execOp,ho];exact Qc j) (n _ _ _ i)
 case h_12 c ho=>
  split at H;rename_i b C;split at H;rename_i s w;obtain⟨v,p,h',j,i⟩:=H B d;refine upon_value (w':=mk B p h') ?_ (n _ _ _ (j7 i));have key:execOp ρ o=s >>= λx=>(PZ (QD x):Sem Next):=by
   simp only[execOp,ho,resolve,C];unfold Ai at w;split at w <;> first
    |(simp only[NC]at w;subst w;rfl)
    |cases w
  rw[key];exact Qc j;exact H.elim
  ·rename_i x A;cases hex:vF P x with
   |true=>rw[hex]at H;obtain⟨v,p,h',j,i⟩:=Gz ho A H B d;exact upon_value j (n _ _ _ (j7 i))
   |false=>
   rw[hex]at H;simp only[zJ]at H;cases hst:kY x with
   |true=>
    rw[hst]at H;obtain⟨r,h',j,i⟩:=tS H B d;cases r with
    |enter f args=>rw[j];refine(i B d).mono ?_;rintro e w' ⟨v,p,h'',rfl,rfl,z⟩;exact n _ _ _ (j7 z)
    |value v=>exact upon_value j (n _ _ _ i)
    |_=>exact i.elim
   |false=>rw[hst]at H;simp only[zJ]at H;obtain⟨f,args,j,i⟩:=wx ho A H;rw[i];refine(j B d).mono ?_;rintro e w' ⟨v,p,h'',rfl,rfl,z⟩;exact n _ _ _ (j7 z)
  exact H.elim
 case h_13=>
  obtain⟨r,h',j,i⟩:=tS H B d;cases r with
  |value v=>exact upon_value j (n _ _ _ i)
  |skip=>exact upon_skip j (n _ _ _ i)
  |_=>exact i.elim
theorem Ir(H:stepW P o ρ g h K)(i:dN g)(B:World)(d:Nat){next:Act->World->Prop}{Q:Exit->Act->World->Prop}
  (c:∀v f h',K v h'->next (a.put o.dst v) (mk B f h')):o.upon P a next Q ((execOp ρ o).run P (mk B d h)):=by
 unfold stepW at H;cases hq:gA P o with
 |true=>rw[hq]at H;obtain⟨v,e,q⟩:=s7 H;exact upon_value (q i B d) (c _ _ _ e)
 |false=>
  rw[hq]at H;cases g with
  |none=>exact Cx H B d c
  |some b=>have n:b=Ta:=i;subst n;simp only[zJ]at H;unfold pS at H;split at H;rename_i t l;obtain⟨J,e,_,m,k⟩:=H;refine Cx (e rfl) B d λv f h' j=>?_;obtain⟨s,r,p⟩:=uH (m rfl v h' j) k;subst r;exact c _ _ _ (p _ j);exact H.elim
theorem KQ(H:stepW P o ρ (Td Tc) h K):∃v,K v h:=by
 unfold stepW at H;cases hq:gA P o with
 |true=>rw[hq]at H;obtain⟨v,i,_⟩:=s7 H;exact⟨v,i⟩
 |false=>rw[hq]at H;simp only[zJ]at H;unfold pS at H;split at H;obtain⟨J,_,e,_,b⟩:=H;obtain⟨v,f,c⟩:=uH (e rfl) b;exact⟨v,c _ f⟩;exact H.elim
end
section
variable {n:Nat} {e:cK} {a b:Act} {c:zq} {g:Option Bool} {P:Program} {o:Oper} {h:za} {K:Value -> za -> Prop} {ms:List Nat}
def jZ(e:cK):zq->Option (Option Bool)
 |[]=>Td Te
 |c=>match mS e c with
  |some b=>Td (Td b)
  |none=>Te
theorem rh(j:Sat n e a)(h:jZ e c=Td g)(i:valid (zt a) c):dN g:=by unfold jZ at h;split at h;simp only[NC]at h;subst h;trivial;split at h;rename_i b f;simp only[NC]at h;subst h;exact(sY j f).2 i;cases h
theorem Ei(j:Sat n e a)(h:jZ e c=Td g)(f:¬valid (zt a) c):g=Td Tc:=by
 unfold jZ at h;split at h;exact absurd trivial f;split at h;rename_i b i;simp only[NC]at h;subst h;cases b with
 |false=>rfl
 |true=>exact absurd ((sY j i).1 rfl) f
 cases h
def mj(b:Bool):Value->Value->Value
 |.bool x,.bool y=>.bool (bif b then x else y)
 |x,y=>bif b then x else y
theorem wN(b:Bool)(x y:Value):mj b x y=if b=Ta then x else y:=by unfold mj;split <;> cases b <;> rfl
def nK:Option Value->Option Value->Option Value
 |some v,_=>Td v
 |none,w=>w
def od(e:cK)(c:zq)(x a b:Operand)(K:Value->Prop):Prop:=
 match x with
 |.tmp s=>match look e s with
  |some (cs,.bool t)=>bif suf cs c then(match nK (Wl e c a) (Wl e ((s,Ta)::cs) a),nK (Wl e c b) (Wl e ((s,Tc)::cs) b)with
    |some va,some vb=>K (mj t va vb)
    |_,_=>False)else False
  |_=>False
 |_=>False
theorem qX{f:Act}(i:Sat n e f){x a b:Operand}{K:Value->Prop}(H:od e c x a b K):
  ∃v,K v/\(valid (zt f) c->∃t,f.eval x=.bool t/\(if t=Ta then f.eval a else f.eval b)=v):=by
 unfold od at H;split at H;rename_i s;split at H;rename_i cs t o;cases hsf:suf cs c with
 |false=>rw[hsf]at H;exact H.elim
 |true=>
  rw[hsf]at H;simp only[zI]at H;split at H;rename_i q r j k;refine⟨_,H,λl=>⟨t,?_,?_⟩⟩;exact(i.all _ (Xy o)).1 (Q3 hsf l);have h:=Q3 hsf l;have p:zt f s=.bool t:=(i.all _ (Xy o)).1 h;rw[wN];cases t with
  |true=>simp only[if_true];unfold nK at j;split at j;rename_i v _ m;simp only[NC]at j;subst j;exact qh i l m;exact qh i (c:=(s,Ta)::cs) ⟨p,h⟩ j
  |false=>simp only[OS,if_false];unfold nK at k;split at k;rename_i v _ m;simp only[NC]at k;subst k;exact qh i l m;exact qh i (c:=(s,Tc)::cs) ⟨p,h⟩ k
  exact H.elim
 exact H.elim;exact H.elim
def io(P:Program)(o:Oper)(e:cK)(c:zq)(h:za)(K:Value->za->Prop):Prop:=
 match o.op with
 |.pick x a b=>od e c x a b λv=>K v h
 |_=>bif Qb o.op then(bif known e c o.op.operands.toList then(match jZ e c with
   |some g=>stepW P o (eS e c) g h K
   |none=>False)else False)else False
def wR(P:Program)(n:Nat)(ops:Array Oper)(K:cK->za->Prop):List Oper->cK->za->Prop
 |[],e,h=>K (clean e) h
 |o::rest,e,h=>match Yv ops e o.guard with
  |some c=>bif yr n c o.dst then io P o e c h λv h'=>wR P n ops K rest (putO e o.dst c v) h' else False
  |none=>False
theorem vA(H:io P o e c h K)(f:Sat n e a)(b:valid (zt a) c)(B:World)(d:Nat)
  {next:Act->World->Prop} {Q:Exit->Act->World->Prop} (i:∀v j h',K v h'->next (a.put o.dst v) (mk B j h')):o.wp P a (mk B d h) next Q:=by
 unfold io at H;unfold Oper.wp;split at H;rename_i x y z l;obtain⟨v,r,q⟩:=qX f H;obtain⟨t,p,k⟩:=q b;refine upon_value (w':=mk B d h) (v:=v) ?_ (i _ _ _ r);simp only[execOp,l,p,asBool,Sem.run_bind,Sem.run_pure,Result.andThen_ok];rw[k];cases hns:Qb o.op with
 |false=>rw[hns]at H;exact H.elim
 |true=>
  rw[hns]at H;cases hk:known e c o.op.operands.toList with
  |false=>rw[hk]at H;exact H.elim
  |true=>rw[hk]at H;simp only[zI]at H;split at H;rename_i g m;rw[m3 f b hns hk];exact Ir H (rh f m b) B d i;exact H.elim
theorem Af(H:io P o e c h K)(b:Sat n e a)(f:¬valid (zt a) c):∃v,K v h:=by
 unfold io at H;split at H;obtain⟨v,i,_⟩:=qX b H;exact⟨v,i⟩;cases hns:Qb o.op with
 |false=>rw[hns]at H;exact H.elim
 |true=>
  rw[hns]at H;cases hk:known e c o.op.operands.toList with
  |false=>rw[hk]at H;exact H.elim
  |true=>rw[hk]at H;simp only[zI]at H;split at H;rename_i g j;rw[Ei b j f]at H;exact KQ H;exact H.elim
def js:List Oper->List Nat
 |[]=>[]
 |o::l=>match o.dst with
  |some d=>d::js l
  |none=>js l
def Same(ms:List Nat)(a b:Act):Prop:=∀i,i∉ms->zt b i=zt a i
theorem Same.refl(ms:List Nat)(a:Act):Same ms a a:=λ_ _=>rfl
theorem Same.trans{a b c:Act}(h:Same ms a b)(k:Same ms b c):Same ms a c:=λi hi=>(k i hi).trans (h i hi)
theorem Same.mono{ms c:List Nat}(h:Same ms a b)(f:∀x∈ms,x∈c):Same c a b:=λi hi=>h i λe=>hi (f i e)
theorem Same.put(a:Act)(d:Option Nat)(v:Value)(h:∀i,d=Td i->i∈ms):Same ms a (a.put d v):=by
 intro i hi;cases d with
 |none=>rfl
 |some j=>exact qa λe=>hi (e ▸ h j rfl)
theorem mB{P:Program}{n:Nat}{ops:Array Oper}{K:cK->za->Prop}{Q:Exit->Act->World->Prop}(B:World):
  ∀(l:List Oper) (e:cK) (h:za) (a:Act) (d:Nat),wR P n ops K l e h->Sat n e a->(∀r p m h',Sat n r p->Same (js l) a p->K r h'->Q .normal p (mk B m h'))->wpList P ops Q l a (mk B d h)
 |[],e,h,a,d,H,hs,hQ=>hQ _ _ _ _ hs.clean (Same.refl _ _) H
 |o::rest,e,h,a,d,H,hs,hQ=>by
  unfold wR at H;split at H;rename_i c D;cases hd:yr n c o.dst with
  |false=>rw[hd]at H;exact H.elim
  |true=>
   rw[hd]at H;simp only[zI]at H;have y:=Wm hs D;have q:∀i,o.dst=Td i->i∈js (o::rest):=λi hi=>by simp[js,hi]
   have j:∀x∈js rest,x∈js (o::rest):=λx s=>by unfold js;split;exact NF _ s;exact s
   have b:∀v u m h',(valid (zt a) c->u=v)->(¬valid (zt a) c->u=undef)->wR P n ops K rest (putO e o.dst c v) h'->wpList P ops Q rest (a.put o.dst u) (mk B m h'):=λv u m h' C G E=>
    mB B rest _ _ _ _ E (hs.putO hd C G) λr p w h'' z A F=>hQ r p w h'' z ((Same.put a o.dst u q).trans (A.mono j)) F
   unfold wpList;by_cases k:valid (zt a) c;rw[zz (y.2 k)];exact .inl (vA H hs k B d λv m h' t=>b v v m h' (λ_=>rfl) (λf=>absurd k f) t);rw[zv (λs=>k (y.1 s))];obtain⟨v,t⟩:=Af H hs k;exact b v undef d h (λf=>absurd f k) (λ_=>rfl) t
  exact H.elim
def sU(P:Program)(o:Oper)(ρ:Operand->Value)(g:Option Bool)(h:za)(K:Value->Prop):Prop:=
 match o.op with
 |.call c=>match c.callee with
  |.value x=>bif kY x then(match Qi P (execOp ρ o)with
    |some (.enter f args)=>match l9 P o.type with
     |some e=>iq e λv=>req g (XC P f args h λb h'=>b=v/\h'=h)/\K v
     |none=>False
    |_=>False)else(match l9 P o.type with
     |some e=>iq e λv=>req g (lZ P (ρ x) (c.args.map ρ) λf args=>XC P f args h λb h'=>b=v/\h'=h)/\K v
     |none=>False)
  |_=>False
 |_=>False
theorem Kn{ρ:Operand->Value}{K:Value->Prop}(H:sU P o ρ g h K):
  ∃v,K v/\(dN g->∃f args,(∀w,(execOp ρ o).run P w=.ok (.enter f args) w)/\XC P f args h λn h'=>n=v/\h'=h):=by
 unfold sU at H;split at H;rename_i c k;split at H;rename_i x p;cases hst:kY x with
 |true=>rw[hst]at H;simp only[zI]at H;split at H;rename_i f args m;split at H;obtain⟨v,i,e⟩:=nv H;exact⟨v,e,λb=>⟨f,args,λw=>yX m w,i.out b⟩⟩;exact H.elim;exact H.elim
 |false=>rw[hst]at H;simp only[zJ]at H;split at H;obtain⟨v,i,e⟩:=nv H;refine⟨v,e,λb=>?_⟩;obtain⟨f,args,l,j⟩:=wx k p (i.out b);exact⟨f,args,j,l⟩;exact H.elim
 exact H.elim;exact H.elim
def mL(o:Oper):Bool:=match o.op with
 |.call c=>match c.callee with
  |.builtin _=>Tc
  |_=>Ta
 |_=>Tc
def qK(P:Program)(o:Oper)(e:cK)(c:zq)(h:za)(f:Bool)(K:Value->Prop):Prop:=
 match o.op with
 |.pick x a b=>od e c x a b K
 |_=>bif Qb o.op then(bif known e c o.op.operands.toList then(match jZ e c with
   |some g=>bif mL o then(bif f then sU P o (eS e c) g h K else False)else Yw P o (eS e c) g h K
   |none=>False)else False)else False
def wQ(P:Program)(n:Nat)(ops:Array Oper)(h:za)(b:Bool)(K:cK->Prop):List Oper->cK->Prop
 |[],e=>K e
 |o::rest,e=>match Yv ops e o.guard with
  |some c=>bif yr n c o.dst then qK P o e c h b λv=>wQ P n ops h b K rest (putO e o.dst c v)else False
  |none=>False
def YQ(P:Program)(o:Oper)(a:Act)(B:World)(h:za)(b:Bool)(v:Value):Prop:=
 (∀d,(execOp a.eval o).run P (mk B d h)=.ok (.value v) (mk B d h)) \/
 (b=Ta/\∃f args,(∀d,(execOp a.eval o).run P (mk B d h)=.ok (.enter f args) (mk B d h))/\XC P f args h λc h'=>c=v/\h'=h)
theorem Mi{b:Bool}{K:Value->Prop}(H:qK P o e c h b K)(j:Sat n e a)(B:World):
  ∃v,K v/\(valid (zt a) c->YQ P o a B h b v):=by
 unfold qK at H;split at H;rename_i x y z r;obtain⟨v,l,k⟩:=qX j H;refine⟨v,l,λi=>?_⟩;obtain⟨t,p,m⟩:=k i;refine .inl λd=>?_;simp only[execOp,r,p,asBool,Sem.run_bind,Sem.run_pure,Result.andThen_ok];rw[m];cases hns:Qb o.op with
 |false=>rw[hns]at H;exact H.elim
 |true=>
  rw[hns]at H;cases hk:known e c o.op.operands.toList with
  |false=>rw[hk]at H;exact H.elim
  |true=>
   rw[hk]at H;simp only[zI]at H;split at H;rename_i g q;cases hc:mL o with
   |false=>rw[hc]at H;obtain⟨v,l,k⟩:=s7 H;refine⟨v,l,λi=>.inl λd=>?_⟩;rw[m3 j i hns hk];exact k (rh j q i) B d
   |true=>
    rw[hc]at H;cases b with
    |false=>exact H.elim
    |true=>simp only[zI]at H;obtain⟨v,l,k⟩:=Kn H;refine⟨v,l,λi=>?_⟩;obtain⟨f,args,p,m⟩:=k (rh j q i);refine .inr ⟨rfl,f,args,λd=>?_,m⟩;rw[m3 j i hns hk];exact p _
   exact H.elim
theorem uz{P:Program}{n:Nat}{ops:Array Oper}{h:za}{k:Bool}{K:cK->Prop}{Q:Act->Prop}(B:World):
  ∀(l:List Oper) (e:cK) (a:Act),wQ P n ops h k K l e->Sat n e a->(∀r q,Sat n r q->Same (js l) a q->K r->Q q)->wpQuiet P ops (λw=>∃d,w=mk B d h) Q l a
 |[],e,a,H,hs,hQ=>hQ _ _ hs (Same.refl _ _) H
 |o::rest,e,a,H,hs,hQ=>by
  unfold wQ at H;split at H;rename_i c F;cases hd:yr n c o.dst with
  |false=>rw[hd]at H;exact H.elim
  |true=>
   rw[hd]at H;simp only[zI]at H;have A:=Wm hs F;have t:∀i,o.dst=Td i->i∈js (o::rest):=λi hi=>by simp[js,hi]
   have m:∀x∈js rest,x∈js (o::rest):=λx y=>by unfold js;split;exact NF _ y;exact y
   obtain⟨v,I,D⟩:=Mi H hs B;have b:∀u,(valid (zt a) c->u=v)->(¬valid (zt a) c->u=undef)->wpQuiet P ops (λw=>∃d,w=mk B d h) Q rest (a.put o.dst u):=λu s z=>
    uz B rest _ _ I (hs.putO hd s z) λr q C E J=>hQ r q C ((Same.put a o.dst u t).trans (E.mono m)) J
   unfold wpQuiet;by_cases p:valid (zt a) c;rw[zz (A.2 p)];refine⟨v,?_,b v (λ_=>rfl) (λj=>absurd p j)⟩;rintro w ⟨d,rfl⟩;unfold Oper.quietAt;rcases D p with s|⟨_,f,args,s,z⟩;rw[s d];exact⟨rfl,rfl⟩;rw[s d];refine⟨rfl,(z B d).mono ?_⟩;rintro r w'' ⟨L,G,h',rfl,rfl,rfl,rfl⟩;exact⟨rfl,G,rfl⟩;rw[zv (λy=>p (A.1 y))];exact b undef (λj=>absurd j p) (λ_=>rfl)
  exact H.elim
end
section
variable {i:Nat} {a b:Act} {o:Oper} {h h':za} {P:Program} {ρ:Operand -> Value} {ops:Array Oper} {listed:Array Bool}
def memN:List Nat->Nat->Bool
 |[],_=>Tc
 |j::l,i=>bif Nat.beq i j then Ta else memN l i
theorem Zn{l:List Nat}(h:memN l i=Tc):i∉l:=by
 induction l with
 |nil=>simp
 |cons j l c=>simp only[memN]at h;by_cases b:Nat.beq i j=Ta;simp[b]at h;simp only[b,zJ]at h;simp only[NI,not_or];exact⟨λe=>b (by rw[e];simp),c h⟩
def tmpsOf:List Operand->List Nat
 |[]=>[]
 |.tmp t::l=>t::tmpsOf l
 |_::l=>tmpsOf l
def xc(ops:Array Oper)(o:Oper):List Nat:=(match o.guard with
 |some (j,_)=>match yd ops j with
  |some g=>[g]
  |none=>[]
 |none=>[])++tmpsOf o.op.operands.toList
def Zt(ops:Array Oper)(k:Nat)(S:List Nat):Nat->Bool
 |0=>Ta
 |p+1=>bif (match yd ops p with
  |some t=>bif memN S t then Region.waitsFor .any ops k p else Ta
  |none=>Ta)then Zt ops k S p else Tc
theorem Qk{ops:Array Oper}{k:Nat}{S:List Nat}:∀{m:Nat},Zt ops k S m=Ta->∀p t,p<m->yd ops p=Td t->t∈S->Region.waitsFor .any ops k p=Ta
 |0,_,p,t,hp,_,_=>by omega
 |m+1,h,p,t,hp,hd,ht=>by
  simp only[Zt]at h;cases hb:(match yd ops m with
   |some t=>bif memN S t then Region.waitsFor .any ops k m else Ta
   |none=>Ta)with
  |false=>rw[hb]at h;cases h
  |true=>
   rw[hb]at h;rcases Ob p m with b|b;exact Qk h p t b hd ht;have:p=m:=by omega
   subst this;rw[hd]at hb;simp only at hb;cases hm:memN S t with
   |false=>exact absurd ht (Zn hm)
   |true=>rw[hm]at hb;exact hb
def yu(ops:Array Oper):Nat->Bool
 |0=>Ta
 |j+1=>bif (match ops[j]? with
  |some o=>o.after.toList.all λe=>!(Region.binds .any e)||Nat.blt e.on j
  |none=>Ta)then yu ops j else Tc
theorem yb{ops:Array Oper}:∀{n:Nat},yu ops n=Ta->∀j o,j<n->ops[j]?=Td o->∀e∈o.after,Region.binds .any e=Ta->e.on<j
 |0,_,j,_,hj,_,_,_,_=>by omega
 |n+1,h,j,o,hj,ho,e,he,hb=>by
  simp only[yu]at h;cases hc:(match ops[n]? with
   |some o=>o.after.toList.all λe=>!(Region.binds .any e)||Nat.blt e.on n
   |none=>Ta)with
  |false=>rw[hc]at h;cases h
  |true=>
   rw[hc]at h;rcases Ob j n with b|b;exact yb h j o b ho e he hb;have:j=n:=by omega
   subst this;rw[ho]at hc;have:=N3.1 hc e (by simpa using he);rw[hb]at this;simpa[Pp]using this
def mO(ops:Array Oper)(d:Nat):Nat->Bool
 |0=>Tc
 |p+1=>bif (match yd ops p with
  |some t=>Nat.beq t d
  |none=>Tc)then Ta else mO ops d p
def Ql(ops:Array Oper):Nat->Bool
 |0=>Ta
 |p+1=>bif (match yd ops p with
  |some t=>!(mO ops t p)
  |none=>Ta)then Ql ops p else Tc
theorem pz{ops:Array Oper}{d:Nat}:∀{m:Nat},mO ops d m=Tc->∀p,p<m->yd ops p≠Td d
 |0,_,p,hp=>by omega
 |m+1,h,p,hp=>by
  simp only[mO]at h;cases hb:(match yd ops m with
   |some t=>Nat.beq t d
   |none=>Tc)with
  |true=>rw[hb]at h;cases h
  |false=>
   rw[hb]at h;rcases Ob p m with b|b;exact pz h p b;have:p=m:=by omega
   subst this;intro e;rw[e]at hb;simp at hb
theorem jb{ops:Array Oper}:∀{m:Nat},Ql ops m=Ta->∀p q t,p<m->q<m->yd ops p=Td t->yd ops q=Td t->p=q
 |0,_,p,q,t,hp,_,_,_=>by omega
 |m+1,h,p,q,t,hp,hq,e1,e2=>by
  simp only[Ql]at h;cases hb:(match yd ops m with
   |some t=>!(mO ops t m)
   |none=>Ta)with
  |false=>rw[hb]at h;cases h
  |true=>
   rw[hb]at h;rcases Ob p m with b|b <;> rcases Ob q m with h2|h2;exact jb h p q t b h2 e1 e2;have:q=m:=by omega
   subst this;rw[e2]at hb;simp only[PN]at hb;exact absurd e1 (pz hb p b);have:p=m:=by omega
   subst this;rw[e1]at hb;simp only[PN]at hb;exact absurd e2 (pz hb q h2);omega
def iN(o:Oper):Option Bool:=match o.op with
 |.fieldAddr _ _ _=>Td Ta
 |.indexAddr _ _ _=>Td Ta
 |.move _=>Td Ta
 |.assign _=>match o.after.toList with
  |[]=>Td Ta
  |_=>Te
 |.nilCheck _=>Td Ta
 |.slice _ _ _ _ _=>Td Ta
 |.binOp _ _ _ _ _=>Td Ta
 |.load _ _=>Td Tc
 |_=>Te
def lY(o:Oper):Bool:=match iN o with
 |some _=>Ta
 |none=>Tc
def yf(o:Oper):Bool:=match iN o with
 |some b=>!b
 |none=>Tc
theorem Xz{a b:Act}:∀{l:List Operand},(∀t∈tmpsOf l,zt a t=zt b t)->∀x∈l,a.eval x=b.eval x
 |[],_,x,c=>by cases c
 |y::l,h,x,c=>by
  rcases NI.1 c with rfl|c;cases x with
  |tmp t=>exact h t (by simp[tmpsOf])
  |const v=>rfl
  |global g=>rfl
  |func f=>rfl
  refine Xz (l:=l) (λt e=>h t ?_) x c;cases y <;> simp[tmpsOf,e]
theorem sE(c:Qb o.op=Ta)(h:∀t∈tmpsOf o.op.operands.toList,zt a t=zt b t):execOp a.eval o=execOp b.eval o:= execOp_congr o (λcs b e=>by rw[e]at c;cases c) λx f=>Xz h x (by simpa using f)
theorem Kd{p:Addr}(e:h'[p.block]?=h[p.block]?)(i:Nat):zb h' (p.add i)=zb h (p.add i):=by
 have b:(p.add i).block=p.block:=by unfold NG;split <;> rfl
 unfold zb;rw[b,e]
theorem Bm{h h':za}{p:Addr}(e:h'[p.block]?=h[p.block]?):∀{vs:List Value} {i:Nat},ze h p i vs->ze h' p i vs
 |[],_,_=>trivial
 |v::vs,i,⟨h1,h2⟩=>⟨(Kd e i).trans h1,Bm e h2⟩
theorem Ib{t:TypeId}{x:Value}{K:Value->Prop}(H:ic P h t x Te K):∃v p,x=.pointer (Td p)/\K v/\∀h',h'[p.block]?=h[p.block]?->QExec P (QP t x) h' v:=by unfold ic at H;split at H;rename_i q a c;obtain⟨x,b,f⟩:=H;refine⟨_,q,rfl,f,λh' e=>nD c ?_⟩;have b:zb h q=Td _:=b;unfold zb at b ⊢;rw[e];exact b;rename_i q l c;obtain⟨vs,h0,⟨b,f⟩,_⟩:=Q4 H (jg l);exact⟨_,q,rfl,f,λh' e=>nQ c h0 (Bm e b)⟩;exact H.elim
def LdOK(o:Oper)(ρ:Operand->Value)(h h':za):Prop:=yf o=Tc\/Keep h.size h h'\/∀t a p,o.op=.load t a->ρ a=.pointer (Td p)->h'[p.block]?=h[p.block]?
theorem LdOK.congr{ρ c:Operand->Value}(e:∀x∈o.op.operands.toList,c x=ρ x)(H:LdOK o ρ h h'):LdOK o c h h':=by rcases H with H|H|H;exact .inl H;exact .inr (.inl H);refine .inr (.inr λt a p b f=>H t a p b ?_);rw[<-e a (by rw[b];simp[Op.operands])];exact f
theorem Iy(j:lY o=Ta){K:Value->Prop}(H:Yw P o ρ Te h K):
  ∃v,K v/\∀h',LdOK o ρ h h'->QExec P (execOp ρ o) h' (.value v):=by
 cases ho:o.op with
 |load t x=>
  have f:gp o=Ta:=by unfold gp;rw[ho]
  obtain⟨l,q,k2⟩:=tJ f H;unfold Yw at H;rw[ho]at H;simp only at H;obtain⟨v,p,k,c,b⟩:=Ib H;have m:l=v:=by
   have a1:=k2 trivial h (Keep.refl _ _) default 0;have a2:QExec P (execOp ρ o) h (.value v):=by simp only[execOp,ho];exact(b h rfl).val
   have a2:=a2 default 0;rw[a1]at a2;injection a2 with a2 _;injection a2
  subst m;refine⟨l,q,λh' e=>?_⟩;rcases e with e|e|e;unfold yf iN at e;rw[ho]at e;cases e;exact k2 trivial h' e;have:=b h' (e t x p ho k);simp only[execOp,ho];exact this.val
 |fieldAddr t x i=>unfold Yw at H;rw[ho]at H;obtain⟨v,c,b⟩:=zm H Te;exact⟨v,c,λh' _=>b trivial h'⟩
 |indexAddr t x i=>
  unfold Yw at H;rw[ho]at H;simp only at H;cases he:gw P t with
  |false=>rw[he]at H;exact H.elim
  |true=>rw[he]at H;obtain⟨v,c,b⟩:=xp (xa he) H;refine⟨v,c,λh' _=>?_⟩;simp only[execOp,ho];exact(b trivial h').val
 |move x=>unfold Yw at H;rw[ho]at H;obtain⟨v,c,b⟩:=zm H Te;exact⟨v,c,λh' _=>b trivial h'⟩
 |assign x=>unfold Yw at H;rw[ho]at H;obtain⟨v,c,b⟩:=zm H Te;exact⟨v,c,λh' _=>b trivial h'⟩
 |slice t x lo hi mx=>
  unfold Yw at H;rw[ho]at H;simp only at H;cases he:gw P t with
  |false=>rw[he]at H;exact H.elim
  |true=>rw[he]at H;obtain⟨v,c,b⟩:=Qj (xa he) H;refine⟨v,c,λh' _=>?_⟩;simp only[execOp,ho];exact(b (show dN Te from trivial) h').val
 |binOp r t x y t'=>unfold Yw at H;rw[ho]at H;obtain⟨v,c,b⟩:=sK ho H;exact⟨v,c,λh' _=>b trivial h'⟩
 |nilCheck x=>unfold Yw at H;rw[ho]at H;simp only at H;unfold m7 at H;split at H;rename_i p k;obtain⟨a,c,b⟩:=H;have n:=c.out (g:=Te) trivial;subst n;refine⟨_,b,λh' _ B d=>?_⟩;simp only[execOp,ho,k];rfl;obtain⟨v,c,b⟩:=zm H Te;exact⟨v,c,λh' _=>b trivial h'⟩
 |_=>unfold lY iN at j;rw[ho]at j;cases j
theorem pf(σ:Nat->Value):valid σ []:=by unfold valid;trivial
theorem jz{d:Option Nat}{u:Value}{s:Nat}(h:d≠Td s):zt (a.put d u) s=zt a s:=by
 cases d with
 |none=>rfl
 |some t=>exact qa λe=>h (by rw[e])
theorem No{next:Act->World->Prop}{Q:Exit->Act->World->Prop}{r:Result Next}(j:b.defers=[])
  (H:o.upon P b (λc w=>c.defers=[]/\∀v,c=b.put o.dst v->next (a.put o.dst v) w) (λ_ _ _=>False) r):o.upon P a next Q r:=by
 have lo:¬LetsOut (λ(_:Exit) (_:Act) (_:World)=>False):=λh=>by obtain⟨_,_,h⟩:=h;exact h
 cases r with
 |ok x w=>
  cases x with
  |value v=>exact H.2 v rfl
  |skip=>exact H.2 undef rfl
  |defer d=>have:=H.1;rw[jy]at this;cases this
  |enter f args=>
   refine Calls.mono (show Calls P f args w _ from H) λe w' i=>?_;cases e with
   |returned v=>exact i.2 v rfl
   |panicked c=>exact i.elim
   |outgrown=>exact absurd i lo
  |row row args=>exact Rows.mono (show Rows P row args w _ from H) λv w' i=>i.2 v rfl
  |_=>exact H
 |halt x w=>cases x <;> first|exact H.elim|exact H
theorem X0{i p:Nat}(hi:i∈Region.ready .any ops listed)(k:Region.waitsFor .any ops i p=Ta):listed.getD p Tc=Ta:=by obtain⟨l,f,e,h,j,c⟩:=Region.waitsFor_spec k;obtain⟨_,o,m,b⟩:=mem_ready.1 hi;have:l=o:=NY (f.symm.trans m);subst this;rw[<-c];exact b e h j
theorem Qm{n:Nat}(inv:HeadInv .any ops n listed){i p:Nat}(hi:listed.getD i Tc=Ta)(j:Region.waitsFor .any ops i p=Ta):listed.getD p Tc=Ta:=by obtain⟨k,c,e,f,h,b⟩:=Region.waitsFor_spec j;rw[<-b];exact inv.closed i k c hi e f h
theorem Ge{p:Nat->Bool}{N:Nat}(h:∃k,k<N/\p k=Tc):∃k,k<N/\p k=Tc/\∀j,j<k->p j=Ta:=by
 obtain⟨k,l,f⟩:=h;induction k using Nat.strongRecOn with
 |_ k c=>
  by_cases b:∃j,j<k/\p j=Tc;obtain⟨j,m,e⟩:=b;exact c j m (by omega) e;exact⟨k,l,f,λj i=>by
   cases hb:p j with
   |true=>rfl
   |false=>exact absurd ⟨j,i,hb⟩ b⟩
theorem vX{o:Oper}:∀{l:List Oper},o∈l->∀i,o.dst=Td i->i∈js l
 |[],h,_,_=>by cases h
 |x::l,h,i,hi=>by unfold js;rcases NI.1 h with rfl|h;rw[hi];exact NQ;have:=vX h i hi;split;exact NF _ this;exact this
theorem yx{k:Nat}(h:ops[k]?=Td o):yd ops k=o.dst:=by simp[yd,h]
def eD(j:Nat):List Nat->List Nat
 |[]=>[]
 |k::l=>bif Nat.beq k j then eD j l else k::eD j l
theorem lx{j x:Nat}:∀{l:List Nat},x∈eD j l↔x∈l/\x≠j
 |[]=>by simp[eD]
 |k::l=>by
  simp only[eD];cases hb:Nat.beq k j with
  |true=>have:=NJ hb;subst this;rw[zI,lx,NI];exact⟨λh=>⟨.inr h.1,h.2⟩,λh=>⟨h.1.resolve_left h.2,h.2⟩⟩
  |false=>
   have b:k≠j:=λe=>by rw[e]at hb;simp at hb
   rw[zJ,NI,NI,lx];constructor;rintro(rfl|h);exact⟨.inl rfl,b⟩;exact⟨.inr h.1,h.2⟩;rintro⟨rfl|h,c⟩;exact .inl rfl;exact .inr ⟨h,c⟩
theorem sO{j:Nat}:∀{l:List Nat},l.Nodup->(eD j l).Nodup
 |[],h=>h
 |k::l,h=>by
  simp only[eD];rw[OP]at h;cases Nat.beq k j with
  |true=>exact sO h.2
  |false=>rw[zJ,OP];exact⟨λb=>h.1 (lx.1 b).1,sO h.2⟩
theorem yQ{j:Nat}:∀{l:List Nat},(eD j l).length<=l.length
 |[]=>ND _
 |k::l=>by
  simp only[eD];have:=yQ (j:=j) (l:=l);cases Nat.beq k j with
  |true=>rw[zI,NU];omega
  |false=>rw[zJ,NU,NU];omega
theorem Bv{j:Nat}:∀{l:List Nat},j∈l->(eD j l).length+1<=l.length
 |[],h=>by cases h
 |k::l,h=>by
  simp only[eD];cases hb:Nat.beq k j with
  |true=>have:=yQ (j:=j) (l:=l);rw[zI,NU];omega
  |false=>
   have b:k≠j:=λe=>by rw[e]at hb;simp at hb
   have:=Bv (j:=j) (l:=l) (by rcases NI.1 h with rfl|h;exact absurd rfl b;exact h);rw[zJ,NU,NU];omega
def sq(p:Nat->Prop):List Nat->Prop
 |[]=>True
 |[j]=>p j
 |j::k::l=>p j/\sq p (k::l)
theorem vP{p:Nat->Prop}:∀{l:List Nat},sq p l->∀j∈l,p j
 |[],_,j,h=>by cases h
 |[k],H,j,h=>by simp at h;subst h;exact H
 |k::k2::l,H,j,h=>by rcases NI.1 h with rfl|h;exact H.1;exact vP H.2 j h
def lQ(p:Nat->Bool):List Nat->List Nat
 |[]=>[]
 |j::l=>bif p j then j::lQ p l else lQ p l
theorem rJ{p:Nat->Bool}{j:Nat}:∀{l:List Nat},j∈l->p j=Ta->j∈lQ p l
 |[],h,_=>by cases h
 |k::l,h,hp=>by
  simp only[lQ];rcases NI.1 h with rfl|h;rw[hp];exact NQ;cases p k with
  |true=>exact NF _ (rJ h hp)
  |false=>exact rJ h hp
end
section
variable {l:List Nat} {i m n:Nat} {ops:Array Oper} {P:Program} {o:Oper} {h h0:za} {md:Bool} {e:cK} {a b:Act}
def Ag(o:Oper):Bool:=match o.op with
 |.extract _ _=>Ta
 |_=>Tc
def iz(o:Oper):Bool:=bif lY o then Ta else Ag o
def gv(ops:Array Oper):Nat->List Nat->List Nat
 |0,S=>S
 |k+1,S=>gv ops k (bif S.any λp=>Region.waitsFor .any ops p k then k::S else S)
theorem rX{ops:Array Oper}{listed:Array Bool}(c:∀i p,listed.getD i Tc=Ta->Region.waitsFor .any ops i p=Ta->listed.getD p Tc=Ta):∀{m:Nat} {S:List Nat},(∀j∈S,listed.getD j Tc=Ta)->∀k∈gv ops m S,listed.getD k Tc=Ta
 |0,S,h,k,hk=>h k hk
 |m+1,S,h,k,hk=>by
  unfold gv at hk;refine rX c (m:=m) (λj b=>?_) k hk;cases ha:(S.any λp=>Region.waitsFor .any ops p m)with
  |false=>rw[ha]at b;exact h j b
  |true=>rw[ha,zI]at b;rcases NI.1 b with rfl|b;obtain⟨p,f,e⟩:=List.any_eq_true.1 ha;exact c p _ (h p f) e;exact h j b
theorem Yx(h:memN l i=Ta):i∈l:=by
 induction l with
 |nil=>cases h
 |cons j l b=>
  simp only[memN]at h;cases hb:Nat.beq i j with
  |true=>rw[NJ hb];exact NQ
  |false=>rw[hb]at h;exact NF _ (b h)
theorem lV(h:i∈l):memN l i=Ta:=by
 cases hm:memN l i with
 |true=>rfl
 |false=>exact absurd h (Zn hm)
def Ew(ops:Array Oper)(k:Nat):Bool:=match ops[k]? with
 |some o=>!(iz o)
 |none=>Tc
def Hj(ops:Array Oper)(i:Nat):Bool:=(gv ops ops.size [i]).any (Ew ops)
def nV(o:Oper):Bool:=match o.guard with
 |none=>Tc
 |some _=>Ta
def AU(ops:Array Oper)(t:Nat):Nat->Bool
 |0=>Tc
 |k+1=>bif (match ops[k]? with
  |some o=>memN (tmpsOf o.op.operands.toList) t
  |none=>Tc)then Ta else AU ops t k
def Hr(ops:Array Oper)(i:Nat)(o:Oper):Bool:=match o.op with
 |.assign _=>(match o.dst with
  |some t=>AU ops t i
  |none=>Tc)
 |_=>Tc
def Q5(ops:Array Oper)(i:Nat):Bool:=match ops[i]? with
 |some o=>bif nV o then Ta else bif iz o then(bif yf o then Hj ops i else Hr ops i o)else Ta
 |none=>Ta
def eH(ops:Array Oper):List Nat:=(OB ops.size).filter (Q5 ops)
theorem mc{j:Nat}:j∈eH ops↔j<ops.size/\Q5 ops j=Ta:=by unfold eH;rw[Pm,Og]
theorem GF(ops:Array Oper):(eH ops).Nodup:=List.nodup_range.filter _
def gV(ops:Array Oper)(done S:List Nat)(k:Nat):Nat->Bool
 |0=>Ta
 |p+1=>bif Region.waitsFor .any ops k p then(bif (bif Q5 ops p then memN done p else memN S p)then gV ops done S k p else Tc)else gV ops done S k p
theorem oX{ops:Array Oper}{done S:List Nat}{k:Nat}:∀{m:Nat},gV ops done S k m=Ta↔∀p,p<m->Region.waitsFor .any ops k p=Ta->(Q5 ops p=Ta->p∈done)/\(Q5 ops p=Tc->p∈S)
 |0=>⟨λ_ p j=>by omega,λ_=>rfl⟩
 |m+1=>by
  unfold gV;have i:=oX (ops:=ops) (done:=done) (S:=S) (k:=k) (m:=m);constructor
  ·intro h p j c;rcases Ob p m with e|e
   ·refine i.1 ?_ p e c;revert h;cases Region.waitsFor .any ops k m with
    |false=>exact id
    |true=>
     cases(bif Q5 ops m then memN done m else memN S m)with
     |false=>intro h;cases h
     |true=>exact id
   ·have:p=m:=by omega
    subst this;rw[c,zI]at h;cases hi:Q5 ops p with
    |true=>
     rw[hi,zI]at h;cases hm:memN done p with
     |false=>rw[hm]at h;cases h
     |true=>exact⟨λ_=>Yx hm,(λf=>by cases f)⟩
    |false=>
     rw[hi,zJ]at h;cases hm:memN S p with
     |false=>rw[hm]at h;cases h
     |true=>exact⟨(λf=>by cases f),λ_=>Yx hm⟩
  intro h;have e:=i.2 λp j c=>h p (by omega) c;cases c:Region.waitsFor .any ops k m with
  |false=>exact e
  |true=>
   obtain⟨a,b⟩:=h m (by omega) c;rw[zI];cases hi:Q5 ops m with
   |true=>rw[zI,lV (a hi)];exact e
   |false=>rw[zJ,lV (b hi)];exact e
def oV(ops:Array Oper)(done S:List Nat)(k:Nat):List Nat:=bif Q5 ops k then S else(bif gV ops done S k k then k::S else S)
def Q6(ops:Array Oper)(done:List Nat):Nat->List Nat
 |0=>[]
 |k+1=>oV ops done (Q6 ops done k) k
theorem ju{ops:Array Oper}{done:List Nat}:∀{m i:Nat},i∈Q6 ops done m->i<m/\Q5 ops i=Tc/\gV ops done (Q6 ops done i) i i=Ta
 |0,i,h=>by cases h
 |m+1,i,h=>by
  unfold Q6 oV at h;cases hi:Q5 ops m with
  |true=>rw[hi,zI]at h;have:=ju h;exact⟨by omega,this.2⟩
  |false=>
   rw[hi,zJ]at h;cases ho:gV ops done (Q6 ops done m) m m with
   |false=>rw[ho,zJ]at h;have:=ju h;exact⟨by omega,this.2⟩
   |true=>rw[ho,zI]at h;rcases NI.1 h with rfl|h;exact⟨by omega,hi,ho⟩;have:=ju h;exact⟨by omega,this.2⟩
theorem tG{ops:Array Oper}{done:List Nat}{m:Nat}:∀{m' i:Nat},m<=m'->i∈Q6 ops done m->i∈Q6 ops done m'
 |0,i,h,hi=>by(have:m=0:=by omega);subst this;exact hi
 |m'+1,i,h,hi=>by
  rcases Nat.eq_or_lt_of_le h with e|e;rw[<-e];exact hi
  ·have:=tG (m':=m') (by omega) hi;unfold Q6 oV;cases Q5 ops m' with
   |true=>exact this
   |false=>
    rw[zJ];cases gV ops done (Q6 ops done m') m' m' with
    |true=>exact NF _ this
    |false=>exact this
theorem oG{done:List Nat}(c:i<m)(e:Q5 ops i=Tc)(b:gV ops done (Q6 ops done i) i i=Ta):i∈Q6 ops done m:=by refine tG (m:=i+1) c ?_;unfold Q6 oV;rw[e,b];exact NQ
theorem xI{done:List Nat}{m i p:Nat}(h:i∈Q6 ops done m)(e:p<i)(c:Region.waitsFor .any ops i p=Ta):(Q5 ops p=Ta->p∈done)/\(Q5 ops p=Tc->p∈Q6 ops done m):=by obtain⟨k,j,f⟩:=ju h;obtain⟨a,b⟩:=oX.1 f p e c;exact⟨a,λhi=>tG (by omega) (b hi)⟩
def Q7(b c:List Nat)(n:Nat):List Nat:=(OB n).filter λi=>bif memN c i then !(memN b i)else Tc
theorem xM{b c:List Nat}:i∈Q7 b c n↔i<n/\i∈c/\i∉b:=by
 unfold Q7;rw[Pm,Og];constructor;rintro⟨f,e⟩;cases hn:memN c i with
 |false=>rw[hn]at e;cases e
 |true=>rw[hn,zI]at e;exact⟨f,Yx hn,λh=>by rw[lV h]at e;cases e⟩
 rintro⟨f,e,j⟩;refine⟨f,?_⟩;rw[lV e,zI];cases hw:memN b i with
 |false=>rfl
 |true=>exact absurd (Yx hw) j
theorem Bl(b c:List Nat)(n:Nat):(Q7 b c n).Pairwise (· < ·):=PR.filter _
def wI(P:Program)(n:Nat)(h:za)(ld:Bool)(ops:Array Oper)(K:cK->Prop):List Nat->cK->Prop
 |[],e=>K e
 |i::l,e=>match ops[i]? with
  |some o=>bif iz o then(bif (bif ld then Ta else !(yf o))then(bif yr n [] o.dst then(bif Qb o.op then(bif known e [] o.op.operands.toList then Yw P o (eS e []) Te h λv=>wI P n h ld ops K l (putO e o.dst [] v)else False)else False)else False)else False)else False
  |none=>False
def yj(ops:Array Oper)(f:Nat->Value):List Nat->Act->Act
 |[],a=>a
 |i::l,a=>yj ops f l (a.put (yd ops i) (f i))
theorem Mv(b:iz o=Ta){ρ:Operand->Value}{K:Value->Prop}(H:Yw P o ρ Te h K):
  ∃v,K v/\∀h',LdOK o ρ h h'->QExec P (execOp ρ o) h' (.value v):=by
 unfold iz at b;cases hb:lY o with
 |true=>exact Iy hb H
 |false=>rw[hb,zJ]at b;unfold Ag at b;split at b;rename_i x i c;unfold Yw at H;rw[c]at H;obtain⟨v,f,e⟩:=zm H Te;exact⟨v,f,λh' _=>e trivial h'⟩;cases b
theorem Ca{ops:Array Oper}{f:Nat->Value}:∀{l:List Nat} {a:Act},(yj ops f l a).tmps.size=a.tmps.size/\(yj ops f l a).defers=a.defers
 |[],_=>⟨rfl,rfl⟩
 |i::l,a=>by unfold yj;have:=Ca (ops:=ops) (f:=f) (l:=l) (a:=a.put (yd ops i) (f i));rw[this.1,this.2];exact⟨size_put _ _ _,jy _ _ _⟩
theorem jv{ops:Array Oper}{f:Nat->Value}{s:Nat}:∀{l:List Nat} {a:Act},(∀i∈l,yd ops i≠Td s)->zt (yj ops f l a) s=zt a s
 |[],_,_=>rfl
 |i::l,a,h=>by unfold yj;rw[jv λj b=>h j (NF _ b)];exact jz (h i NQ)
theorem qL{ops:Array Oper}{f:Nat->Value}:∀{l m:List Nat} {a:Act},yj ops f (l++m) a=yj ops f m (yj ops f l a)
 |[],_,_=>rfl
 |i::l,m,a=>by rw[Ox];show yj ops f (l++m) _=yj ops f m (yj ops f l _);exact qL
theorem qR{P:Program}{n:Nat}{h:za}{ld:Bool}{ops:Array Oper}{K:cK->Prop}(u:Nat->Value):∀{l:List Nat} {e:cK} {a:Act},l.Nodup->wI P n h ld ops K l e->Sat n e a->∃(f:Nat->Value) (r:cK),K r/\Sat n r (yj ops f l a)/\(∀i,i∉l->f i=u i) /\
  ∀b i t,l=b++i::t->∃o,ops[i]?=Td o/\iz o=Ta/\(ld=Tc->yf o=Tc)/\Qb o.op=Ta/\yr n [] o.dst=Ta/\∀h',LdOK o (yj ops f b a).eval h h'->QExec P (execOp (yj ops f b a).eval o) h' (.value (f i))
 |[],e,a,_,H,hs=>⟨u,e,H,hs,λ_ _=>rfl,λb i t h=>by simp at h⟩
 |i::l,e,a,hnd,H,hs=>by
  unfold wI at H;cases ho:ops[i]? with
  |none=>rw[ho]at H;exact H.elim
  |some o=>
   rw[ho]at H;simp only at H;cases hq:iz o with
   |false=>rw[hq]at H;exact H.elim
   |true=>
    rw[hq,zI]at H;cases hld:(bif ld then Ta else !(yf o))with
    |false=>rw[hld]at H;exact H.elim
    |true=>
     rw[hld,zI]at H;cases hd:yr n [] o.dst with
     |false=>rw[hd]at H;exact H.elim
     |true=>
      rw[hd,zI]at H;cases hns:Qb o.op with
      |false=>rw[hns]at H;exact H.elim
      |true=>
       rw[hns,zI]at H;cases hk:known e [] o.op.operands.toList with
       |false=>rw[hk]at H;exact H.elim
       |true=>
        rw[hk,zI]at H;rw[OP]at hnd;obtain⟨v,L,E⟩:=Mv hq H;have c:yd ops i=o.dst:=yx ho;obtain⟨f,r,g1,M,y,G⟩:=qR (λx=>if x=i then v else u x) (a:=a.put o.dst v) hnd.2 L (hs.putO hd (λ_=>rfl) λA=>absurd (pf _) A);have m:f i=v:=by rw[y i hnd.1,zz rfl]
        have q:yj ops f (i::l) a=yj ops f l (a.put o.dst v):=by show yj ops f l (a.put (yd ops i) (f i))=_;rw[c,m]
        refine⟨f,r,g1,by rw[q];exact M,λj w=>?_,λb j t p=>?_⟩;simp only[NI,not_or]at w;rw[y j w.2,zv w.1];cases b with
        |nil=>simp only[OU,PE]at p;obtain⟨rfl,rfl⟩:=p;refine⟨o,ho,hq,λp=>by rw[p]at hld;simpa using hld,hns,hd,λh' s=>?_⟩;show QExec P (execOp a.eval o) h' _;rw[m3 hs (pf _) hns hk,m];exact E h' (LdOK.congr (λx J=>(Yu hs (pf _) hk x J).symm) s)
        |cons O b=>
         simp only[Ox,PE]at p;obtain⟨rfl,rfl⟩:=p;obtain⟨C,z,D,N,I,B,F⟩:=G b j t rfl;have k:yj ops f (i::b) a=yj ops f b (a.put o.dst v):=by show yj ops f b (a.put (yd ops i) (f i))=_;rw[c,m]
         refine⟨C,z,D,N,I,B,λh' s=>?_⟩;rw[k]at s ⊢;exact F h' s
def mn(ops:Array Oper)(U:List Nat):Nat->Bool
 |0=>Tc
 |k+1=>bif (match ops[k]? with
  |some o=>bif yf o then(bif Q5 ops k then Tc else !(memN U k))else Tc
  |none=>Tc)then Ta else mn ops U k
theorem AX{ops:Array Oper}{U:List Nat}:∀{m:Nat},mn ops U m=Tc->∀k o,k<m->ops[k]?=Td o->yf o=Ta->Q5 ops k=Tc->k∈U
 |0,_,k,o,hk,_,_,_=>by omega
 |m+1,h,k,o,hk,ho,hl,hi=>by
  unfold mn at h;cases hb:(match ops[m]? with
   |some o=>bif yf o then(bif Q5 ops m then Tc else !(memN U m))else Tc
   |none=>Tc)with
  |true=>rw[hb]at h;cases h
  |false=>
   rw[hb,zJ]at h;rcases Ob k m with b|b;exact AX h k o b ho hl hi;have:k=m:=by omega
   subst this;rw[ho]at hb;simp only[hl,hi,zI,zJ]at hb;exact Yx (by simpa using hb)
def i0(ops:Array Oper)(U:List Nat)(e:cK)(h0 h':za)(K:Prop):Nat->Prop
 |0=>K
 |k+1=>match ops[k]? with
  |some o=>bif (bif yf o then(bif Q5 ops k then Tc else !(memN U k))else Tc)then(match o.op with
   |.load _ a=>bif known e [] [a]then(match eS e [] a with
    |.pointer (Td p)=>h'[p.block]?=h0[p.block]?/\i0 ops U e h0 h' K k
    |_=>False)else False
   |_=>False)else i0 ops U e h0 h' K k
  |none=>i0 ops U e h0 h' K k
theorem A0{ops:Array Oper}{U:List Nat}{e:cK}{h0 h':za}{K:Prop}:∀{m:Nat},i0 ops U e h0 h' K m->K/\∀k o,k<m->ops[k]?=Td o->yf o=Ta->Q5 ops k=Tc->k∉U ->
  ∃t a p,o.op=.load t a/\known e [] [a]=Ta/\eS e [] a=.pointer (Td p)/\h'[p.block]?=h0[p.block]?
 |0,H=>⟨H,λk o i=>by omega⟩
 |m+1,H=>by
  unfold i0 at H;have step:i0 ops U e h0 h' K m->(∀o,ops[m]?=Td o->yf o=Ta->Q5 ops m=Tc->m∉U->∃t a p,o.op=.load t a/\known e [] [a]=Ta/\eS e [] a=.pointer (Td p)/\h'[p.block]?=h0[p.block]?) ->
    K/\∀k o,k<m+1->ops[k]?=Td o->yf o=Ta->Q5 ops k=Tc->k∉U->∃t a p,o.op=.load t a/\known e [] [a]=Ta/\eS e [] a=.pointer (Td p)/\h'[p.block]?=h0[p.block]?:=λu w=>by
   obtain⟨b,j⟩:=A0 u;refine⟨b,λk o i c r hi q=>?_⟩;rcases Ob k m with h|h;exact j k o h c r hi q;have:k=m:=by omega
   subst this;exact w o c r hi q
  cases c:ops[m]? with
  |none=>rw[c]at H;exact step H λo b=>by rw[c]at b;cases b
  |some o=>
   rw[c]at H;simp only at H;have same:∀f,ops[m]?=Td f->f=o:=λf b=>NY (b.symm.trans c);cases hc:(bif yf o then(bif Q5 ops m then Tc else !(memN U m))else Tc)with
   |false=>rw[hc]at H;refine step H λf b j h n=>?_;rw[same f b]at j;rw[j,h,zI,zJ]at hc;exact absurd (Yx (by simpa using hc)) n
   |true=>
    rw[hc,zI]at H;split at H;rename_i t a l;cases i:known e [] [a]with
    |false=>rw[i]at H;exact H.elim
    |true=>rw[i,zI]at H;split at H;rename_i p s;exact step H.2 λf b j h n=>⟨t,a,p,by rw[same f b];exact l,i,s,H.1⟩;exact H.elim
    exact H.elim
def mG(md:Bool)(ops:Array Oper)(T:List Nat)(e:cK)(h0 h':za)(K:Prop):Prop:=bif mn ops (gv ops ops.size T) ops.size then(bif md then i0 ops (gv ops ops.size T) e h0 h' K ops.size else Keep h0.size h0 h'/\K)else K
def oo(ops:Array Oper)(todo:List Nat)(j:Nat):Bool:=todo.all λk=>bif Nat.beq k j then Ta else !(memN (gv ops ops.size [j]) k)
def ge(P:Program)(n:Nat)(ops:Array Oper)(h0:za)(K:cK->za->Prop)(md:Bool):Nat->List Nat->List Nat->cK->za->Prop
 |_,_,[],e,h=>K (clean e) h
 |0,_,_::_,_,_=>False
 |f+1,T,b::l0,e,h=>sq (λj=>match ops[j]? with
  |some o=>(match Yv ops e o.guard with|some c=>bif yr n c o.dst then io P o e c h λv h'=>wI P n h' Tc ops (λi=>mG md ops (j::T) i h0 h' (ge P n ops h0 K md f (j::T) (eD j (b::l0)) i h')) (Q7 (Q6 ops T ops.size) (Q6 ops (j::T) ops.size) ops.size) (putO e o.dst c v)else False|none=>False)
  |none=>False) (lQ (oo ops (b::l0)) (b::l0))
theorem MY{K:cK->za->Prop}{f:Nat}{T todo:List Nat}(H:ge P n ops h0 K md (f+1) T todo e h){j:Nat}(i:j∈todo)(k:oo ops todo j=Ta):match ops[j]? with
  |some o=>(match Yv ops e o.guard with|some c=>bif yr n c o.dst then io P o e c h λv h'=>wI P n h' Tc ops (λb=>mG md ops (j::T) b h0 h' (ge P n ops h0 K md f (j::T) (eD j todo) b h')) (Q7 (Q6 ops T ops.size) (Q6 ops (j::T) ops.size) ops.size) (putO e o.dst c v)else False|none=>False)
  |none=>False:=by
 cases todo with
 |nil=>cases i
 |cons l m=>exact vP H j (rJ i k)
def X1(ops:Array Oper)(k:Nat)(S:List Nat):Nat->Bool
 |0=>Ta
 |p+1=>bif (match yd ops p with
  |some t=>bif memN S t then(bif Region.waitsFor .any ops k p then Ta else bif Q5 ops p then Region.waitsFor .any ops p k else Tc)else Ta
  |none=>Ta)then X1 ops k S p else Tc
theorem Yy{ops:Array Oper}{k:Nat}{S:List Nat}:∀{m:Nat},X1 ops k S m=Ta->∀p t,p<m->yd ops p=Td t->t∈S->Region.waitsFor .any ops k p=Ta\/(Q5 ops p=Ta/\Region.waitsFor .any ops p k=Ta)
 |0,_,p,t,hp,_,_=>by omega
 |m+1,h,p,t,hp,hd,ht=>by
  simp only[X1]at h;cases hb:(match yd ops m with
   |some t=>bif memN S t then(bif Region.waitsFor .any ops k m then Ta else bif Q5 ops m then Region.waitsFor .any ops m k else Tc)else Ta
   |none=>Ta)with
  |false=>rw[hb]at h;cases h
  |true=>
   rw[hb]at h;rcases Ob p m with b|b;exact Yy h p t b hd ht;have:p=m:=by omega
   subst this;rw[hd]at hb;simp only at hb;rw[lV ht,zI]at hb;cases hw:Region.waitsFor .any ops k p with
   |true=>exact .inl rfl
   |false=>
    rw[hw,zJ]at hb;cases hh:Q5 ops p with
    |false=>rw[hh]at hb;cases hb
    |true=>rw[hh,zI]at hb;exact .inr ⟨rfl,hb⟩
def X3(ops:Array Oper):Nat->Bool
 |0=>Ta
 |k+1=>bif (match ops[k]? with
  |some o=>X1 ops k (tmpsOf o.op.operands.toList) ops.size
  |none=>Ta)then X3 ops k else Tc
theorem Yz{ops:Array Oper}:∀{m:Nat},X3 ops m=Ta->∀k o,k<m->ops[k]?=Td o->X1 ops k (tmpsOf o.op.operands.toList) ops.size=Ta
 |0,_,k,o,hk,_=>by omega
 |m+1,h,k,o,hk,ho=>by
  unfold X3 at h;cases hb:(match ops[m]? with
   |some o=>X1 ops m (tmpsOf o.op.operands.toList) ops.size
   |none=>Ta)with
  |false=>rw[hb]at h;cases h
  |true=>
   rw[hb,zI]at h;rcases Ob k m with b|b;exact Yz h k o b ho;have:k=m:=by omega
   subst this;rw[ho]at hb;exact hb
def kk(ops:Array Oper)(o:Oper):List Nat:=match o.guard with
 |none=>[]
 |some (j,_)=>match yd ops j with
  |some t=>[t]
  |none=>[]
def kP(ops:Array Oper):Nat->Bool
 |0=>Ta
 |k+1=>bif (match ops[k]? with
  |some o=>bif Qb o.op then Zt ops k (kk ops o) ops.size else Tc
  |none=>Ta)then kP ops k else Tc
theorem uE{ops:Array Oper}:∀{m:Nat},kP ops m=Ta->∀k o,k<m->ops[k]?=Td o->Qb o.op=Ta/\Zt ops k (kk ops o) ops.size=Ta
 |0,_,k,o,hk,_=>by omega
 |m+1,h,k,o,hk,ho=>by
  unfold kP at h;cases hb:(match ops[m]? with
   |some o=>bif Qb o.op then Zt ops m (kk ops o) ops.size else Tc
   |none=>Ta)with
  |false=>rw[hb]at h;cases h
  |true=>
   rw[hb,zI]at h;rcases Ob k m with b|b;exact uE h k o b ho;have:k=m:=by omega
   subst this;rw[ho]at hb;simp only at hb;cases h2:Qb o.op with
   |false=>rw[h2]at hb;cases hb
   |true=>rw[h2,zI]at hb;exact⟨rfl,hb⟩
theorem LO(h:∀t∈kk ops o,zt a t=zt b t):OY o (yielded ops a.tmps)=OY o (yielded ops b.tmps):=by
 unfold OY;cases hg:o.guard with
 |none=>rfl
 |some f=>
  obtain⟨j,p⟩:=f;have:yielded ops a.tmps j=yielded ops b.tmps j:=by
   unfold yielded;cases hd:(ops[j]?).bind (·.dst)with
   |none=>rfl
   |some t=>
    have e:yd ops j=Td t:=by
     unfold yd;cases hoj:ops[j]? with
     |none=>rw[hoj]at hd;simp at hd
     |some i=>rw[hoj]at hd;simpa using hd
    have c:=h t (by unfold kk;rw[hg];simp only;rw[e];simp);unfold zt at c;simp only[OL]at c;simp only[PH];cases h1:a.tmps[t]? <;> cases h2:b.tmps[t]? <;> rw[h1,h2]at c <;> simp at c <;> first|rfl|(subst c;rfl)|(rw[<-c];rfl)|(rw[c];rfl)
  simp only[this]
theorem CO(h:nV o=Tc):o.guard=Te:=by
 unfold nV at h;cases hg:o.guard with
 |none=>rfl
 |some g=>rw[hg]at h;cases h
theorem Nl(b:ops[i]?=Td o)(h:Q5 ops i=Tc):o.guard=Te:=by
 unfold Q5 at h;rw[b]at h;simp only at h;cases hg:nV o with
 |true=>rw[hg]at h;cases h
 |false=>exact CO hg
def iE(ops:Array Oper):Bool:=bif kP ops ops.size then(bif yu ops ops.size then(bif Ql ops ops.size then X3 ops ops.size else Tc)else Tc)else Tc
theorem uL(h:iE ops=Ta):kP ops ops.size=Ta/\yu ops ops.size=Ta/\Ql ops ops.size=Ta/\X3 ops ops.size=Ta:=by unfold iE at h;cases h1:kP ops ops.size <;> cases h2:yu ops ops.size <;> cases h3:Ql ops ops.size <;> simp[h1,h2,h3]at h ⊢;exact h
structure St7 (P:Program) (n:Nat) (ops:Array Oper) (h0:za) (K:cK->za->Prop) (md:Bool) (f:Nat->Value) (a0:Act) (listed:Array Bool) (a b:Act) (e:cK) (h:za) (done todo:List Nat):Prop where
 inv:HeadInv .any ops ops.size listed
 ag:∀s,(∀i o,ops[i]?=Td o->Q5 ops i=Tc->listed.getD i Tc=Tc->o.dst≠Td s)->zt a s=zt b s
 sz:a.tmps.size=n
 ad:a.defers=[]
 sb:Sat n e b
 qv:∀i o t,ops[i]?=Td o->i∈Q6 ops done ops.size->o.dst=Td t->zt b t=f i/\t<n
 qx:∀i o,ops[i]?=Td o->i∈Q6 ops done ops.size->listed.getD i Tc=Tc->∀h',LdOK o b.eval h0 h'->QExec P (execOp b.eval o) h' (.value (f i))
 tt:∀j,j∈eH ops->(j∈todo↔listed.getD j Tc=Tc)
 ch:∀j,j∈eH ops->(listed.getD j Tc=Ta↔j∈done)
 dn:∀j∈done,j∈eH ops
 th:∀j∈todo,j∈eH ops
 nd:todo.Nodup
 wt:∃fu,todo.length<=fu/\ge P n ops h0 K md fu done todo e h
 kp:∀i o,ops[i]?=Td o->yf o=Ta->Q5 ops i=Tc->listed.getD i Tc=Tc->LdOK o b.eval h0 h
 sm:Same (js ops.toList) a0 a
theorem zP{ld:Bool}(u:yu ops ops.size=Ta)(E:Ql ops ops.size=Ta)(J:X3 ops ops.size=Ta){f:Nat->Value}(C:b.tmps.size=n)(r:∀i∈l,i<ops.size)(L:∀i∈l,Q5 ops i=Tc)(e:l.Pairwise (· < ·)) (H:∀c i p,l=c++i::p->∃o,ops[i]?=Td o/\iz o=Ta/\(ld=Tc->yf o=Tc)/\Qb o.op=Ta/\yr n [] o.dst=Ta/\∀h',LdOK o (yj ops f c b).eval h h'->QExec P (execOp (yj ops f c b).eval o) h' (.value (f i))):
  ∀i o,ops[i]?=Td o->i∈l->(∀t,o.dst=Td t->zt (yj ops f l b) t=f i/\t<n)/\(ld=Tc->yf o=Tc)/\∀h',LdOK o (yj ops f l b).eval h h'->QExec P (execOp (yj ops f l b).eval o) h' (.value (f i)):=by
 intro i o M hi;obtain⟨c,p,rfl⟩:=List.append_of_mem hi;obtain⟨B,O,q2,q3,S,A,Q⟩:=H c i p rfl;have:B=o:=NY (O.symm.trans M);subst this;have s:i<ops.size:=r i (by simp);have N:∀j∈p,i<j:=λj k=>by rw[Oh]at e;exact(Oi.1 e.2.1).1 j k
 have m:yj ops f (c++i::p) b=yj ops f p ((yj ops f c b).put (yd ops i) (f i)):=by rw[qL];rfl
 have q:yd ops i=B.dst:=yx M;refine⟨λt w=>?_,q3,λh' hh=>?_⟩;have y:t<n:=by rw[w]at A;unfold yr at A;simp at A;exact A.2
 refine⟨?_,y⟩;rw[m,jv λj k G=>?_,q,w,jo (by rw[Ca.1,C];exact y)];have:=jb E i j t s (r j (by simp[k])) (by rw[q,w]) G;have:=N j k;omega;have z:∀t∈tmpsOf B.op.operands.toList,zt (yj ops f (c++i::p) b) t=zt (yj ops f c b) t:=λt w=>by
  have Z:yj ops f (c++i::p) b=yj ops f (i::p) (yj ops f c b):=qL;rw[Z];refine jv λj k G=>?_;have I:j<ops.size:=r j (by simp[k]);have T:Region.waitsFor .any ops i j=Ta:=by rcases Yy (Yz J i B s M) j t I G w with h|h;exact h;have:=L j (by simp[k]);rw[h.1]at this;cases this
  obtain⟨V,D,x,F,U,Y⟩:=Region.waitsFor_spec T;have h1:=yb u i V s D x F U;rcases NI.1 k with rfl|k;omega;have:=N j k;omega
 rw[sE S z];exact Q h' (LdOK.congr (λx F=>(Xz z x F).symm) hh)
theorem GU{K:cK->za->Prop}{Q:Exit->Act->World->Prop}(B:World)(hmix:iE ops=Ta){a0:Act}
    (hQ:∀e' a' d' h',Sat n e' a'->Same (js ops.toList) a0 a'->K e' h'->Q .normal a' (mk B d' h')):
    ∀(N:Nat) (U:List Nat) (listed:Array Bool) (f:Nat->Value) (a b:Act) (e:cK) (h:za) (d:Nat) (done todo:List Nat),U.length=N->U.Nodup->(∀k,k∈U↔k<ops.size/\listed.getD k Tc=Tc) ->
      St7 P n ops h0 K md f a0 listed a b e h done todo->wpAny P .any ops Q N listed a (mk B d h):=by
  obtain⟨hng,hback,hnd,hsl⟩:=uL hmix
  have hgd:∀(i:Nat) (o:Oper),ops[i]?=Td o->Qb o.op=Ta/\Zt ops i (kk ops o) ops.size=Ta:=λi o ho=>uE hng i o (NK.1 ho).1 ho
  have hslot0:∀k o,ops[k]?=Td o->∀p t,p<ops.size->yd ops p=Td t->t∈tmpsOf o.op.operands.toList->Region.waitsFor .any ops k p=Ta\/(Q5 ops p=Ta/\Region.waitsFor .any ops p k=Ta):=λk o ho p t hp hd ht=>
    Yy (Yz hsl k o (NK.1 ho).1 ho) p t hp hd ht
  have hbk:∀k p,Region.waitsFor .any ops k p=Ta->p<k:=λk p hw=>by
    obtain⟨oj,hoj,x,hx,hb,hon⟩:=Region.waitsFor_spec hw
    have:=yb hback k oj (NK.1 hoj).1 hoj x hx hb
    omega
  have fin:∀{listed:Array Bool} {f:Nat->Value} {a b:Act} {e:cK} {h:za} {d:Nat} {done todo:List Nat},(∀k,k<ops.size->listed.getD k Tc=Ta)->St7 P n ops h0 K md f a0 listed a b e h done todo->Q .normal a (mk B d h):=by
    intro listed f a b e h d done todo hall S
    have htodo:todo=[]:=by
      cases htd:todo with
      |nil=>rfl
      |cons j l=>
        have hm:j∈todo:=by rw[htd];simp
        have hj:=S.th j hm
        have:=(S.tt j hj).1 hm
        rw[hall j (mc.1 hj).1]at this;cases this
    obtain⟨fu,_,hw⟩:=S.wt
    rw[htodo]at hw
    have hw:K (clean e) h:=by cases fu <;> exact hw
    have hv:∀s,zt a s=zt b s:=λs=>S.ag s λi o ho hq hl=>by
      rw[hall i (NK.1 ho).1]at hl;cases hl
    have hs:Sat n e a:=⟨S.ad,S.sz,λx hx=>by
      have:=S.sb.all x hx
      have e1:zt a=zt b:=funext hv
      rw[e1];exact this⟩
    exact hQ _ _ _ _ hs.clean S.sm hw
  intro N
  induction N with
  |zero=>
    intro U listed f a b e h d done todo hU _ hmem S
    have hUn:U=[]:=Ov.1 hU
    subst hUn
    have hall:∀k,k<ops.size->listed.getD k Tc=Ta:=λk hk=>by
      cases hb:listed.getD k Tc with
      |true=>rfl
      |false=>exact absurd ((hmem k).2 ⟨hk,hb⟩) (by simp)
    refine⟨?_,fin hall S⟩
    rw[List.eq_nil_iff_forall_not_mem]
    intro j hj
    obtain⟨h1,o,ho,_⟩:=mem_ready.1 hj
    have hlt:=(NK.1 ho).1
    have:=hall j hlt
    have h2:=getD_both h1
    rw[this]at h2;cases h2
  |succ N ih=>
    intro U listed f a b e h d done todo hU hdup hmem S
    have hex:∃k,k<ops.size/\listed.getD k Tc=Tc:=by
      cases U with
      |nil=>cases hU
      |cons k U=>exact⟨k,(hmem k).1 NQ⟩
    refine⟨λhr=>?_,λi hi=>?_⟩
    · exfalso
      obtain⟨k,hk1,hk2,hk3⟩:=Ge hex
      have:k∈Region.ready .any ops listed:=mem_ready.2 ⟨by rw[<-hk2];simp[S.inv.size,hk1],ops[k],Oy hk1,λx hx hb=>hk3 _ (yb hback k ops[k] hk1 (Oy hk1) x hx hb)⟩
      rw[hr]at this;cases this
    · obtain⟨hun1,o,ho,hall⟩:=mem_ready.1 hi
      have hun:listed.getD i Tc=Tc:=getD_both hun1
      have hlt:i<ops.size:=(NK.1 ho).1
      obtain⟨hns,hgs⟩:=hgd i o ho
      have hils:i<listed.size:=by rw[S.inv.size];exact hlt
      have hU':(U.erase i).length=N:=by rw[List.length_erase_of_mem ((hmem i).2 ⟨hlt,hun⟩),hU];rfl
      have hdup':(U.erase i).Nodup:=hdup.erase i
      have hmem':∀k,k∈U.erase i↔k<ops.size/\(listed.setIfInBounds i Ta).getD k Tc=Tc:=λk=>by
        rw[hdup.mem_erase_iff,hmem k]
        by_cases hk:i=k
        · subst hk;simp[hils]
        · rw[getD_set_ne Tc hk];exact⟨λhx=>hx.2,λhx=>⟨λe=>hk e.symm,hx⟩⟩
      have inv':=S.inv.set hi hlt
      have hset:∀k,k≠i->(listed.setIfInBounds i Ta).getD k Tc=listed.getD k Tc:=λk hk=>getD_set_ne Tc (Ne.symm hk)
      have hsetI:(listed.setIfInBounds i Ta).getD i Tc=Ta:=by simp[hils]
      have hops:∀t∈tmpsOf o.op.operands.toList,zt a t=zt b t:=λt ht=>S.ag t λk ok hok hq hl hd=>by
        rcases hslot0 i o ho k t (NK.1 hok).1 (by rw[yx hok,hd]) ht with hw|hw
        · rw[X0 hi hw]at hl;cases hl
        · rw[hw.1]at hq;cases hq
      have hexec:=sE hns hops
      have hsame:∀v,Same (js ops.toList) a0 (a.put o.dst v):=λv=>S.sm.trans (Same.put a o.dst _ λt ht=>vX (by
          obtain⟨hl2,e2⟩:=NK.1 ho
          rw[<-e2];simp) t ht)
      unfold wpOp
      rw[ho]
      simp only
      have hwab:OY o (yielded ops a.tmps)=OY o (yielded ops b.tmps):=LO λt ht=>S.ag t λk ok hok hq hl hd=>by
        have hw:=Qk hgs k t (NK.1 hok).1 (by rw[yx hok,hd]) ht
        rw[X0 hi hw]at hl;cases hl
      cases hq:Q5 ops i with
      |false=>
        have hwant:OY o (yielded ops a.tmps)=Ta:=by unfold OY;rw[Nl ho hq]
        rw[zz hwant]
        left
        unfold Oper.wp
        rw[hexec]
        have hrdyG:∀m k ok,k<m->ops[k]?=Td ok->Q5 ops k=Tc->(∀p,Region.waitsFor .any ops k p=Ta->listed.getD p Tc=Ta)->k∈Q6 ops done ops.size:=by
          intro m
          induction m with
          |zero=>intro k ok hk;omega
          |succ m ihm=>
            intro k ok hk hok hkh hkw
            refine oG (NK.1 hok).1 hkh (oX.2 λp hp hw=>⟨λhph=>?_,λhph=>?_⟩)
            · have hpl:=hkw p hw
              exact(S.ch p (mc.2 ⟨by have:=(NK.1 hok).1;omega,hph⟩)).1 hpl
            · have hps:p<ops.size:=by have:=(NK.1 hok).1;omega
              have hin:=ihm p ops[p] (by omega) (Oy hps) hph λq hq2=>Qm S.inv (hkw p hw) hq2
              obtain⟨_,g2,g3⟩:=ju hin
              exact oG hp g2 g3
        have hrdy:=hrdyG (i+1) i o (by omega) ho hq λp hw=>X0 hi hw
        have hx:=S.qx i o ho hrdy hun h (by
          cases hl:yf o with
          |false=>exact .inl hl
          |true=>exact S.kp i o ho hl hq hun) B d
        rw[hx,Oper.upon_value]
        have hnot:i∉eH ops:=λhm=>by rw[(mc.1 hm).2]at hq;cases hq
        have hunset:∀k,(listed.setIfInBounds i Ta).getD k Tc=Tc->listed.getD k Tc=Tc:=λk hu=>by
          by_cases hki:k=i
          · subst hki;exact hun
          · rw[<-hset k hki];exact hu
        refine ih _ _ f _ b e h d done todo hU' hdup' hmem' { S with inv:=inv',ag:=λs hs=>?_,sz:=by rw[size_put];exact S.sz,ad:=by rw[jy];exact S.ad,tt:=λj hj=>(by have:j≠i:=λe=>hnot (e ▸ hj);rw[hset j this];exact S.tt j hj),ch:=λj hj=>?_,qx:=λk ok hok hk hu=>S.qx k ok hok hk (hunset k hu),kp:=λk ok hok hl hkh hk=>?_,sm:=hsame _ }
        · by_cases hd:o.dst=Td s
          · obtain⟨hv,hsn⟩:=S.qv i o s ho hrdy hd
            rw[hd,jo (by rw[S.sz];exact hsn),hv]
          · rw[jz hd]
            refine S.ag s λk ok hok hqk hlk=>?_
            by_cases hki:k=i
            · subst hki
              have:ok=o:=NY (hok.symm.trans ho)
              subst this;exact hd
            · exact hs k ok hok hqk (by rw[hset k hki];exact hlk)
        · have:j≠i:=λe=>hnot (e ▸ hj)
          rw[hset j this];exact S.ch j hj
        · by_cases hki:k=i
          · subst hki;rw[hsetI]at hk;cases hk
          · rw[hset k hki]at hk;exact S.kp k ok hok hl hkh hk
      |true=>
        have hin:i∈eH ops:=mc.2 ⟨hlt,hq⟩
        have hit:i∈todo:=(S.tt i hin).2 hun
        obtain⟨fu,hfu,hW0⟩:=S.wt
        have hcl:∀p q,(listed.setIfInBounds i Ta).getD p Tc=Ta->Region.waitsFor .any ops p q=Ta->(listed.setIfInBounds i Ta).getD q Tc=Ta:=λp q h1 h2=>Qm inv' h1 h2
        have hcand:oo ops todo i=Ta:=by
          unfold oo
          rw[N3]
          intro k hk
          cases hki:Nat.beq k i with
          |true=>rfl
          |false=>
            have hne:k≠i:=λe=>by rw[e]at hki;simp at hki
            cases hr:memN (gv ops ops.size [i]) k with
            |false=>rfl
            |true=>
              exfalso
              have:=rX hcl (m:=ops.size) (S:=[i]) (λj hj=>by simp at hj;subst hj;exact hsetI) k (Yx hr)
              rw[hset k hne]at this
              have h2:=(S.tt k (S.th k hk)).1 hk
              rw[this]at h2;cases h2
        have hW:match ops[i]? with
            |some o=>(match Yv ops e o.guard with|some c=>bif yr n c o.dst then io P o e c h λv h'=>wI P n h' Tc ops (λe'=>mG md ops (i::done) e' h0 h' (ge P n ops h0 K md (fu-1) (i::done) (eD i todo) e' h')) (Q7 (Q6 ops done ops.size) (Q6 ops (i::done) ops.size) ops.size) (putO e o.dst c v)else False|none=>False)
            |none=>False:=by
          cases fu with
          |zero=>(have:todo.length=0:=by omega);rw[Ov.1 this]at hit;cases hit
          |succ fu=>
            have:=MY (show ge P n ops h0 K md (fu+1) done todo e h from hW0) hit hcand
            exact this
        rw[ho]at hW
        simp only at hW
        cases hch:Yv ops e o.guard with
        |none=>rw[hch]at hW;exact hW.elim
        |some c=>
        rw[hch]at hW
        simp only at hW
        cases hd:yr n c o.dst with
        |false=>rw[hd]at hW;exact hW.elim
        |true=>
          rw[hd,zI]at hW
          have hwv:=Wm S.sb hch
          have key:∀(v u:Value) (d':Nat) (h':za),(valid (zt b) c->u=v)->(¬valid (zt b) c->u=undef)->wI P n h' Tc ops (λe'=>mG md ops (i::done) e' h0 h' (ge P n ops h0 K md (fu-1) (i::done) (eD i todo) e' h')) (Q7 (Q6 ops done ops.size) (Q6 ops (i::done) ops.size) ops.size) (putO e o.dst c v)->wpAny P .any ops Q N (listed.setIfInBounds i Ta) (a.put o.dst u) (mk B d' h'):=by
           intro v v2 d' h' hv1 hv0 hK
           have sb1:Sat n (putO e o.dst c v) (b.put o.dst v2):=S.sb.putO hd hv1 hv0
           generalize hbl:Q7 (Q6 ops done ops.size) (Q6 ops (i::done) ops.size) ops.size=bl at hK
           have hbm:∀k,k∈bl↔k<ops.size/\k∈Q6 ops (i::done) ops.size/\k∉Q6 ops done ops.size:=λk=>by rw[<-hbl];exact xM
           have hbsort:bl.Pairwise (· < ·):=by rw[<-hbl];exact Bl _ _ _
           have hbnd:bl.Nodup:=hbsort.imp λh=>by omega
           obtain⟨f',e2,HK,sb2,hf0,hfx⟩:=qR f hbnd hK sb1
           have hbf:=zP hback hnd hsl (f:=f') (l:=bl) (b:=b.put o.dst v2) sb1.size (λk hk=>((hbm k).1 hk).1) (λk hk=>(ju ((hbm k).1 hk).2.1).2.1) hbsort hfx
           have hbnh:∀k∈bl,Q5 ops k=Tc:=λk hk=>(ju ((hbm k).1 hk).2.1).2.1
           have hlist':∀j,j∈eH ops->((listed.setIfInBounds i Ta).getD j Tc=Ta↔j∈i::done):=λj hj=>by
             by_cases hji:j=i
             · subst hji;rw[hsetI];simp
             · rw[hset j hji,S.ch j hj];simp[hji]
           have hjl:∀j∈i::done,(listed.setIfInBounds i Ta).getD j Tc=Ta:=λj hj=>by
             rcases NI.1 hj with rfl|hj
             · exact hsetI
             · exact getD_set_true ((S.ch j (S.dn j hj)).2 hj)
           have hup:∀k,k∈gv ops ops.size (i::done)->(listed.setIfInBounds i Ta).getD k Tc=Ta:=λk hk=>rX hcl hjl k hk
           have hundone:i∉done:=λhm=>by rw[(S.ch i hin).2 hm]at hun;cases hun
           have hslot1:∀k ok,ops[k]?=Td ok->k∈Q6 ops done ops.size->listed.getD k Tc=Tc->∀t∈tmpsOf ok.op.operands.toList,zt (b.put o.dst v2) t=zt b t:=λk ok hok hk hu t ht=>jz λhdo=>by
             rcases hslot0 k ok hok i t hlt (by rw[yx ho,hdo]) ht with hw|hw
             · exact hundone ((xI hk (hbk k i hw) hw).1 hq)
             · rw[X0 hi hw.2]at hu;cases hu
           have hslot2:∀k ok,ops[k]?=Td ok->k∈Q6 ops done ops.size->listed.getD k Tc=Tc->∀t∈tmpsOf ok.op.operands.toList,zt (yj ops f' bl (b.put o.dst v2)) t=zt b t:=λk ok hok hk hu t ht=>by
             rw[jv λp hp hdp=>?_]
             · exact hslot1 k ok hok hk hu t ht
             · rcases hslot0 k ok hok p t ((hbm p).1 hp).1 hdp ht with hw|hw
               · exact((hbm p).1 hp).2.2 ((xI hk (hbk k p hw) hw).2 (hbnh p hp))
               · have:=hbnh p hp
                 rw[hw.1]at this;cases this
           have hdist:∀k ok t,ops[k]?=Td ok->k≠i->ok.dst=Td t->o.dst≠Td t:=λk ok t hok hki hdk hdo=>by
             have:=jb hnd k i t (NK.1 hok).1 hlt (by rw[yx hok,hdk]) (by rw[yx ho,hdo])
             exact hki this
           have hne_i:∀k,Q5 ops k=Tc->k≠i:=λk hk e=>by rw[e,hq]at hk;cases hk
           have hQK:ge P n ops h0 K md (fu-1) (i::done) (eD i todo) e2 h'/\(∀k ok,ops[k]?=Td ok->yf ok=Ta->Q5 ops k=Tc->(listed.setIfInBounds i Ta).getD k Tc=Tc->LdOK ok (yj ops f' bl (b.put o.dst v2)).eval h0 h'):=by
             unfold mG at HK
             cases hl:mn ops (gv ops ops.size (i::done)) ops.size with
             |false=>
               rw[hl,zJ]at HK
               exact⟨HK,λk ok hok hlo hkh hf=>by rw[hup k (AX hl k ok (NK.1 hok).1 hok hlo hkh)]at hf;cases hf⟩
             |true=>
               rw[hl,zI]at HK
               cases md with
               |false=>exact⟨HK.2,λ_ _ _ _ _ _=>.inr (.inl HK.1)⟩
               |true=>
                 rw[zI]at HK
                 obtain⟨g1,g2⟩:=A0 HK
                 refine⟨g1,λk ok hok hlo hkh hf=>.inr (.inr λt a p hop hp=>?_)⟩
                 obtain⟨t',a',p',e1,e2',e3,e4⟩:=g2 k ok (NK.1 hok).1 hok hlo hkh (λhm=>by rw[hup k hm]at hf;cases hf)
                 rw[hop]at e1
                 injection e1 with _ e1
                 subst e1
                 have eb:(yj ops f' bl (b.put o.dst v2)).eval a=eS e2 [] a:=Yu sb2 (pf _) e2' a (by simp)
                 rw[eb,e3]at hp
                 injection hp with hp
                 injection hp with hp
                 rw[<-hp];exact e4
           have htt:∀j,j∈eH ops->(j∈eD i todo↔(listed.setIfInBounds i Ta).getD j Tc=Tc):=λj hj=>by
             rw[lx]
             by_cases hji:j=i
             · subst hji;rw[hsetI];simp
             · rw[hset j hji,<-S.tt j hj];exact⟨λhx=>hx.1,λhx=>⟨hx,hji⟩⟩
           refine ih _ _ f' _ (yj ops f' bl (b.put o.dst v2)) e2 h' d' (i::done) (eD i todo) hU' hdup' hmem' ⟨inv',λs hs=>?_,by rw[size_put];exact S.sz,by rw[jy];exact S.ad,sb2,λk ok t hok hk hdk=>?_,λk ok hok hk hu h'' hh=>?_,htt,hlist',(λj hj=>by
             rcases NI.1 hj with rfl|hj
             · exact hin
             · exact S.dn j hj),(λj hj=>S.th j (lx.1 hj).1),sO S.nd,⟨fu-1,by have:=Bv hit;omega,hQK.1⟩,hQK.2,hsame _⟩
           · -- slots
             have hs':∀k ok,ops[k]?=Td ok->Q5 ops k=Tc->listed.getD k Tc=Tc->ok.dst≠Td s:=λk ok hok hqk hlk=>hs k ok hok hqk (by rw[hset k (hne_i k hqk)];exact hlk)
             have hbl:∀p∈bl,yd ops p≠Td s:=λp hp hdp=>by
               have hps:=((hbm p).1 hp).1
               have hok:ops[p]?=Td ops[p]:=Oy hps
               have hph:=hbnh p hp
               refine hs p _ hok hph ?_ (by rw[<-yx hok];exact hdp)
               cases hlp:(listed.setIfInBounds i Ta).getD p Tc with
               |false=>rfl
               |true=>
                 exfalso
                 rw[hset p (hne_i p hph)]at hlp
                 have:∀m q,q<m->q<ops.size->Q5 ops q=Tc->listed.getD q Tc=Ta->q∈Q6 ops done ops.size:=by
                   intro m
                   induction m with
                   |zero=>intro q hq;omega
                   |succ m ihm=>
                     intro q hqm hqs hqh hql
                     refine oG hqs hqh (oX.2 λp2 hp2 hw2=>⟨λhph2=>?_,λhph2=>?_⟩)
                     · exact(S.ch p2 (mc.2 ⟨by omega,hph2⟩)).1 (Qm S.inv hql hw2)
                     · have hin2:=ihm p2 (by omega) (by omega) hph2 (Qm S.inv hql hw2)
                       obtain⟨_,g2,g3⟩:=ju hin2
                       exact oG hp2 g2 g3
                 exact((hbm p).1 hp).2.2 (this (p+1) p (by omega) hps hph hlp)
             rw[jv hbl]
             by_cases hds:o.dst=Td s
             · rw[hds]
               have hsn:s<n:=by
                 rw[hds]at hd
                 unfold yr at hd
                 simp at hd;exact hd.2
               rw[jo (by rw[S.sz];exact hsn),jo (by rw[S.sb.size];exact hsn)]
             · rw[jz hds,jz hds];exact S.ag s hs'
           · by_cases hkb:k∈bl
             · exact(hbf k ok hok hkb).1 t hdk
             · have hk0:k∈Q6 ops done ops.size:=Classical.byContradiction λhc=>hkb ((hbm k).2 ⟨(NK.1 hok).1,hk,hc⟩)
               have hkh:=(ju hk0).2.1
               obtain⟨q1,q2⟩:=S.qv k ok t hok hk0 hdk
               refine⟨?_,q2⟩
               rw[jv λp hp hdp=>?_,jz (hdist k ok t hok (hne_i k hkh) hdk),q1,hf0 k hkb]
               have:=jb hnd p k t ((hbm p).1 hp).1 (NK.1 hok).1 hdp (by rw[yx hok,hdk])
               subst this;exact hkb hp
           · by_cases hkb:k∈bl
             · obtain⟨_,q2,q3⟩:=hbf k ok hok hkb
               exact q3 h'' (.inl (q2 rfl))
             · have hk0:k∈Q6 ops done ops.size:=Classical.byContradiction λhc=>hkb ((hbm k).2 ⟨(NK.1 hok).1,hk,hc⟩)
               have hu0:listed.getD k Tc=Tc:=by rw[<-hset k (hne_i k (ju hk0).2.1)];exact hu
               rw[sE (b:=b) (hgd k ok hok).1 (hslot2 k ok hok hk0 hu0),hf0 k hkb]
               exact S.qx k ok hok hk0 hu0 h'' (LdOK.congr (λx hx=>(Xz (hslot2 k ok hok hk0 hu0) x hx).symm) hh)
          by_cases hv:valid (zt b) c
          · rw[zz (by rw[hwab];exact hwv.2 hv)]
            left
            unfold Oper.wp
            rw[hexec]
            refine No (b:=b) S.sb.defers ?_
            refine vA hW S.sb hv B d λv d' h' hK=>⟨by rw[jy];exact S.sb.defers,λv2 hv2=>?_⟩
            have hbv:b.put o.dst v2=b.put o.dst v:=hv2.symm
            by_cases hds:∃t,o.dst=Td t
            · obtain⟨t,ht⟩:=hds
              have htn:t<n:=by
                have hd2:=hd
                rw[ht]at hd2
                unfold yr at hd2
                simp at hd2;exact hd2.2
              have:v2=v:=by
                have e1:zt (b.put o.dst v2) t=zt (b.put o.dst v) t:=by rw[hbv]
                rw[ht,jo (by rw[S.sb.size];exact htn),jo (by rw[S.sb.size];exact htn)]at e1
                exact e1
              subst this
              exact key v2 v2 d' h' (λ_=>rfl) (λhx=>absurd hv hx) hK
            · have hdn:o.dst=Te:=by
                cases hdx:o.dst with
                |none=>rfl
                |some t=>exact absurd ⟨t,hdx⟩ hds
              have e1:a.put o.dst v2=a.put o.dst v:=by rw[hdn];rfl
              rw[e1]
              exact key v v d' h' (λ_=>rfl) (λhx=>absurd hv hx) hK
          · rw[zv (by rw[hwab];exact λhx=>hv (hwv.1 hx))]
            obtain⟨v,hK⟩:=Af hW S.sb hv
            exact key v undef d h (λhx=>absurd hx hv) (λ_=>rfl) hK
theorem BY{K:cK->za->Prop}{Q:Exit->Act->World->Prop}(B:World)(q:iE ops=Ta) (H:wI P n h Ta ops (λA=>ge P n ops h K md (eH ops).length [] (eH ops) A h) (Q7 [] (Q6 ops [] ops.size) ops.size) e) (C:Sat n e a)
  (hQ:∀A D d' h',Sat n A D->Same (js ops.toList) a D->K A h'->Q .normal D (mk B d' h')) (d:Nat):wpAny P .any ops Q ops.size (OV ops.size Tc) a (mk B d h):=by
 obtain⟨U,r,J,M⟩:=uL q;have m:∀k,k∈Q7 [] (Q6 ops [] ops.size) ops.size↔k∈Q6 ops [] ops.size:=λk=>by rw[xM];exact⟨λh=>h.2.1,λh=>⟨(ju h).1,h,by simp⟩⟩
 have c:=Bl [] (Q6 ops [] ops.size) ops.size;generalize Q7 [] (Q6 ops [] ops.size) ops.size=bl at H m c;have y:bl.Nodup:=c.imp λh=>by omega
 obtain⟨f,e2,V,F,_,N⟩:=qR (λ_=>undef) y H C;have w:=zP r J M (f:=f) (l:=bl) (b:=a) C.size (λk I=>(ju ((m k).1 I)).1) (λk I=>(ju ((m k).1 I)).2.1) c N;have x:∀s,(∀i o,ops[i]?=Td o->Q5 ops i=Tc->(OV ops.size Tc).getD i Tc=Tc->o.dst≠Td s)->zt a s=zt (yj ops f bl a) s:=λs L=>(jv λp S E=>by have G:=(ju ((m p).1 S)).1;have z:ops[p]?=Td ops[p]:=Oy G;exact L p _ z (ju ((m p).1 S)).2.1 (getD_replicate_false _ _) (by rw[<-yx z];exact E)).symm;refine GU B q hQ ops.size (OB ops.size) _ f a (yj ops f bl a) e2 h d [] (eH ops) P7 List.nodup_range (λk=>by rw[Og,getD_replicate_false];simp) ⟨⟨by simp,λj oj _ T=>(by rw[getD_replicate_false]at T;cases T),λt ht Z=>by omega⟩,x,C.size,C.defers,F,λi o t O hi Y=>(w i o O ((m i).2 hi)).1 t Y,λi o O hi _=>(w i o O ((m i).2 hi)).2.2,(λj u=>by rw[getD_replicate_false];simp[u]),(λj u=>by rw[getD_replicate_false];simp),(λj u=>by cases u),(λj u=>u),GF ops,⟨_,ND _,V⟩,λ_ _ _ _ _ _=>.inr (.inl (Keep.refl _ _)),Same.refl _ _⟩
def tg:List (Nat×Nat)->Nat->Option Nat
 |[],_=>Te
 |(j,m)::l,i=>bif Nat.beq i j then Td m else tg l i
def regionF(P:Program)(n:Nat)(f:List (Nat×Nat))(id:Nat)(ops:Array Oper)(b:Bool)(K:cK->za->Prop)(e:cK)(h:za):Prop:=
 bif b then(match tg f id with
  |none=>bif Region.lexB .any ops then wQ P n ops h Ta (λc=>K (clean c) h) ops.toList e else False
  |some _=>bif iE ops then wI P n h Ta ops (λc=>ge P n ops h K Ta (eH ops).length [] (eH ops) c h) (Q7 [] (Q6 ops [] ops.size) ops.size) e else False)
 else wR P n ops K ops.toList e h
theorem Zu(l m:List Oper):js (l++m)=js l++js m:=by
 induction l with
 |nil=>rfl
 |cons o l b=>simp only[Ox,js];split <;> simp[b]
theorem xU(l:P.follows .mixedOrders=Ta){o:List (Nat×Nat)}{id:Nat}{b:Bool}{K:cK->za->Prop} (H:regionF P n o id ops b K e h) (B:World) (d:Nat) (f:Sat n e a) {Q:Exit->Act->World->Prop}
  (j:∀i c k h',Sat n i c->Same (js ops.toList) a c->K i h'->Q .normal c (mk B k h')):(Rn id ops b).wp P Q a (mk B d h):=by
 unfold regionF at H;cases b with
 |false=>exact wp_region_list (mB B _ _ _ _ _ H f j)
 |true=>
  simp only[zI]at H;split at H;cases hB:Region.lexB .any ops with
  |false=>rw[hB]at H;exact H.elim
  |true=>rw[hB]at H;refine wp_region_quiet (C:=λw=>∃d,w=mk B d h) l hB ⟨d+1,rfl⟩ ?_;refine uz B _ _ _ H f λi c m p q=>?_;rintro w' ⟨k,rfl⟩;exact j _ _ _ _ m.clean p q
  cases hB:iE ops with
  |false=>rw[hB]at H;exact H.elim
  |true=>rw[hB]at H;exact wp_region_any l (BY B hB H f j (d+1))
end
section
variable {n:Nat} {e:cK} {a:Act} {ms:List Nat} {P:Program} {h:za} {R:Value -> za -> Prop} {f:FuncId}
@[reducible] def fE:List Atom->Type->Type
 |[],X=>X
 |t::l,X=>t.den->fE l X
def mU{X:Type}:(l:List Atom)->fE l X->(List Value->X->Prop)->Prop
 |[],f,k=>k [] f
 |t::l,f,k=>∀x:t.den,mU l (f x) λvs y=>k (t.enc x::vs) y
def eJ{X:Type}:(l:List Atom)->List Value->fE l X->Option X
 |[],[],f=>Td f
 |t::l,v::vs,f=>match t.dec v with
  |some x=>eJ l vs (f x)
  |none=>Te
 |_,_,_=>Te
def iQ{X:Type}:(l:List Atom)->(List Value->X)->fE l X
 |[],f=>f []
 |t::l,f=>λx=>iQ l λvs=>f (t.enc x::vs)
def jV{X Y:Type}:(l:List Atom)->fE l X->fE l Y->fE l (X×Y)
 |[],f,g=>(f,g)
 |_::l,f,g=>λx=>jV l (f x) (g x)
theorem qU{X:Type}:∀{l:List Atom} {vs:List Value} {f:fE l X} {x:X} {k:List Value->X->Prop},eJ l vs f=Td x->mU l f k->k vs x
 |[],[],f,x,k,h,g=>by simp only[eJ,NC]at h;subst h;exact g
 |[],_::_,f,x,k,h,g=>by simp[eJ]at h
 |_::_,[],f,x,k,h,g=>by simp[eJ]at h
 |t::l,v::vs,f,x,k,h,g=>by simp only[eJ]at h;split at h;rename_i y b;have:=qU h (g y);rw[Atom.enc_of_dec b]at this;exact this;cases h
theorem rE{X:Type}:∀{l:List Atom} {vs:List Value} {f:List Value->X} {x:X},eJ l vs (iQ l f)=Td x->x=f vs
 |[],[],f,x,h=>by simp only[eJ,iQ,NC]at h;exact h.symm
 |[],_::_,f,x,h=>by simp[eJ]at h
 |_::_,[],f,x,h=>by simp[eJ]at h
 |t::l,v::vs,f,x,h=>by simp only[eJ,iQ]at h;split at h;rename_i y b;have:=rE h;rw[Atom.enc_of_dec b]at this;exact this;cases h
theorem pr{X:Type}:∀{l:List Atom} {f:List Value->X} {k:List Value->X->Prop},(∀vs,k vs (f vs))->mU l (iQ l f) k
 |[],_,_,h=>h []
 |_::_,_,_,h=>λ_=>pr λ_=>h _
abbrev eL:=List (Nat×VT)
def jf:eL->List Atom
 |[]=>[]
 |(_,.one t)::J=>t::jf J
 |(_,.agg l)::J=>l++jf J
def eM(σ:Nat->Option Value):eL->Option (List Value)
 |[]=>Td []
 |(i,.one _)::J=>match σ i,eM σ J with
  |some v,some vs=>Td (v::vs)
  |_,_=>Te
 |(i,.agg l)::J=>match σ i,eM σ J with
  |some (.agg cs),some vs=>bif Nat.beq cs.toList.length l.length then Td (cs.toList++vs)else Te
  |_,_=>Te
def Qo:eL->List Value->cK
 |[],_=>[]
 |(i,.one _)::J,v::vs=>(i,[],v)::Qo J vs
 |(_,.one _)::_,[]=>[]
 |(i,.agg l)::J,vs=>(i,[],.agg (vs.take l.length).toArray)::Qo J (vs.drop l.length)
def jI(e:cK)(i:Nat):Option Value:=match look e i with
 |some ([],v)=>Td v
 |_=>Te
theorem Y0(h:Sat n e a){i:Nat}{v:Value}(b:jI e i=Td v):zt a i=v:=by unfold jI at b;split at b;rename_i u c;simp only[NC]at b;subst b;exact(h.all _ (Xy c)).1 trivial;cases b
theorem yy{n:Nat}{e:cK}{a:Act}(h:Sat n e a):∀{J:eL} {vs:List Value},eM (jI e) J=Td vs->eM (λi=>Td (zt a i)) J=Td vs
 |[],vs,hv=>hv
 |(i,.one t)::J,vs,hv=>by simp only[eM]at hv ⊢;split at hv;rename_i v us c b;simp only[yy h b,Y0 h c];exact hv;cases hv
 |(i,.agg l)::J,vs,hv=>by simp only[eM]at hv ⊢;split at hv;rename_i cs us c b;simp only[yy h b,Y0 h c];exact hv;cases hv
theorem Wq{σ:Nat->Value}:∀{J:eL} {vs:List Value},eM (λi=>Td (σ i)) J=Td vs->∀x∈Qo J vs,fact σ x
 |[],vs,_,x,b=>by cases b
 |(i,.one t)::J,vs,hv,x,b=>by simp only[eM]at hv;split at hv;rename_i v us e h;simp only[NC]at e hv;subst hv;simp only[Qo,NI]at b;rcases b with rfl|b;exact⟨λ_=>e,λf=>absurd trivial f⟩;exact Wq h x b;cases hv
 |(i,.agg l)::J,vs,hv,x,b=>by
  simp only[eM]at hv;split at hv;rename_i cs us e h;simp only[NC]at e;cases hb:Nat.beq cs.toList.length l.length with
  |false=>rw[hb]at hv;cases hv
  |true=>rw[hb]at hv;simp only[zI,NC]at hv;subst hv;have c:cs.toList.length=l.length:=NJ hb;simp only[Qo,NI]at b;rcases b with rfl|b;refine⟨λ_=>?_,λf=>absurd trivial f⟩;simp only;rw[e,<-c,QN];rw[<-c,List.drop_left]at b;exact Wq h x b
  cases hv
def Wr(ms:List Nat):cK->cK
 |[]=>[]
 |(i,[],v)::e=>bif memN ms i then Wr ms e else(i,[],v)::Wr ms e
 |(_,_::_,_)::e=>Wr ms e
theorem DZ{x:Nat×zq×Value}(h:x∈Wr ms e):x∈e/\x.2.1=[]/\x.1∉ms:=by
 induction e with
 |nil=>cases h
 |cons y e b=>
  obtain⟨i,c,v⟩:=y;cases c with
  |nil=>
   simp only[Wr]at h;cases hm:memN ms i with
   |true=>rw[hm]at h;exact⟨NF _ (b h).1,(b h).2⟩
   |false=>rw[hm]at h;simp only[zJ]at h;rcases NI.1 h with rfl|h;exact⟨NQ,rfl,Zn hm⟩;exact⟨NF _ (b h).1,(b h).2⟩
  |cons g c=>simp only[Wr]at h;exact⟨NF _ (b h).1,(b h).2⟩
theorem oP{a a1:Act}(k:Sat n e a)(m:a1.defers=[])(p:a1.tmps.size=n)(b:Same ms a a1){J:eL}{vs:List Value}
  (h:eM (λi=>Td (zt a1 i)) J=Td vs):Sat n (Qo J vs++Wr ms e) a1:=by
 refine⟨m,p,λx c=>?_⟩;rcases N0.1 c with c|c;exact Wq h x c;obtain⟨q,f,o⟩:=DZ c;have j:=k.all x q;refine⟨λ_=>?_,λl=>absurd (by rw[f];trivial) l⟩;rw[b _ o];exact j.1 (by rw[f];trivial)
def ym:Code->Option Nat
 |.region id _ _=>Td id
 |.seq a b=>match ym a with
  |some i=>Td i
  |none=>ym b
 |.cond _ a b=>match ym a with
  |some i=>Td i
  |none=>ym b
 |.block _ b=>ym b
 |.loop b=>ym b
 |.scope b=>ym b
 |_=>Te
def x9:Code->List Nat
 |.region _ ops _=>js ops.toList
 |.seq a b=>x9 a++x9 b
 |.cond _ a b=>x9 a++x9 b
 |.block _ b=>x9 b
 |.loop b=>x9 b
 |.scope b=>x9 b
 |_=>[]
structure Plan where
 tails:List (Nat×Nat)
 loops:List (Nat×eL)
 joins:List (Nat×eL)
def AQ:List (Nat×eL)->Nat->Option eL
 |[],_=>Te
 |(j,m)::l,i=>bif Nat.beq i j then Td m else AQ l i
def nc(l:List (Nat×eL)):Option Nat->Option eL
 |some i=>AQ l i
 |none=>Te
abbrev Ws:=Exit->cK->za->Prop
def jp(K:cK->za->Prop)(Q:Ws):Ws
 |.normal,e,h=>K e h
 |x,e,h=>Q x e h
def jt(id:Nat)(Q:Ws):Ws
 |.exit i,e,h=>bif Nat.beq i id then Q .normal e h else Q (.exit i) e h
 |x,e,h=>Q x e h
def Iz(Q:Ws):Ws
 |.goto _,_,_=>False
 |x,e,h=>Q x e h
def lh{X:Type}(J:eL)(F:fE (jf J) X)(e:cK)(k:X->Prop):Prop:=
 match eM (jI e) J with
 |some vs=>match eJ (jf J) vs F with
  |some q=>k q
  |none=>False
 |none=>False
def Ab(J:eL)(rest:cK->za->Prop)(F:(cK->za->Prop)->Prop)(b:cK):Prop:=
 ∀K:fE (jf J) (za->Prop),mU (jf J) K (λvs q=>∀h,rest (Qo J vs++b) h->q h)->F λe h=>lh J K e λq=>q h
def Cu(J:eL)(body:(cK->za->Prop)->cK->za->Prop)(b e:cK)(h:za):Prop:=
 ∃(I:fE (jf J) (za->Prop)) (μ:fE (jf J) (za->Nat)),(lh J (jV (jf J) I μ) e λp=>p.1 h) /\
  mU (jf J) (jV (jf J) I μ) λvs p=>∀h,p.1 h->body (λc h'=>lh J (jV (jf J) I μ) c λq=>q.1 h'/\q.2 h'<p.2 h) (Qo J vs++b) h
def W(P:Program)(n:Nat)(pl:Plan):Code->Ws->cK->za->Prop
 |.skip,Q,e,h=>Q .normal e h
 |.ret,Q,e,h=>Q .ret e h
 |.exit id,Q,e,h=>Q (.exit id) e h
 |.label _,Q,e,h=>Q .normal e h
 |.goto l,Q,e,h=>Q (.goto l) e h
 |.region id ops draw,Q,e,h=>regionF P n pl.tails id ops draw (λe h=>Q .normal e h) e h
 |.seq x y,Q,e,h=>match nc pl.joins (ym y)with
  |none=>W P n pl x (jp (λe h=>W P n pl y Q e h) Q) e h
  |some J=>Ab J (λe h=>W P n pl y Q e h) (λK=>W P n pl x (jp K Q) e h) (Wr (x9 x) e)
 |.cond c x y,Q,e,h=>match Wl e [] c with
  |some (.bool b)=>(b=Ta->W P n pl x Q e h)/\(b=Tc->W P n pl y Q e h)
  |_=>False
 |.block id x,Q,e,h=>W P n pl x (jt id Q) e h
 |.loop x,Q,e,h=>match nc pl.loops (ym x)with
  |some J=>Cu J (λf e h=>W P n pl x (jp f Q) e h) (Wr (x9 x) e) e h
  |none=>False
 |.scope x,Q,e,h=>W P n pl x (Iz Q) e h
 |_,_,_,_=>False
def yE(n:Nat)(B:World)(ms:List Nat)(a0:Act)(Q:Ws):Exit->Act->World->Prop:=
 λx a w=>∃e d h,w=mk B d h/\Sat n e a/\Same ms a0 a/\Q x e h
theorem kM{X:Type}{J:eL}{F:fE (jf J) X}{k:X->Prop}(h:lh J F e k):∃vs q,eM (jI e) J=Td vs/\eJ (jf J) vs F=Td q/\k q:=by unfold lh at h;split at h;rename_i vs b;split at h;rename_i q c;exact⟨vs,q,b,c,h⟩;exact h.elim;exact h.elim
theorem IV(hm:P.follows .mixedOrders=Ta){pl:Plan}:∀(c:Code) (Q:Ws) (e:cK) (h:za),W P n pl c Q e h ->
  ∀(B:World) (d:Nat) (a:Act),Sat n e a->c.wp P (yE n B (x9 c) a Q) a (mk B d h):=by
 intro c;induction c with
 |skip=>exact λQ e h H B d a f=>wp_skip ⟨e,d,h,rfl,f,Same.refl _ _,H⟩
 |ret=>exact λQ e h H B d a f=>wp_ret ⟨e,d,h,rfl,f,Same.refl _ _,H⟩
 |exit id=>exact λQ e h H B d a f=>wp_exit ⟨e,d,h,rfl,f,Same.refl _ _,H⟩
 |label l=>exact λQ e h H B d a f=>wp_label ⟨e,d,h,rfl,f,Same.refl _ _,H⟩
 |goto l=>exact λQ e h H B d a f=>wp_goto ⟨e,d,h,rfl,f,Same.refl _ _,H⟩
 |region id ops al=>exact λQ e h H B d a f=>xU hm H B d f λe' a' d' h' j r q3=>⟨e',d',h',rfl,j,r,q3⟩
 |seq x y D C=>
  intro Q e h H B d a f;simp only[W]at H;have M:∀i∈x9 x,i∈x9 (x.seq y):=λi hi=>NT _ hi;have T:∀i∈x9 y,i∈x9 (x.seq y):=λi hi=>N1 _ hi;split at H;refine wp_seq (wp_mono (D _ _ _ H B d a f) ?_);rintro ex a1 w1 ⟨t,m,o,rfl,s1,s,j⟩;cases ex with
  |normal=>refine wp_mono (C _ _ _ j B m a1 s1) ?_;rintro ex a2 w2 ⟨u,w,A,rfl,s2,z,r⟩;exact⟨u,w,A,rfl,s2,(s.mono M).trans (z.mono T),r⟩
  |_=>exact⟨t,m,o,rfl,s1,s.mono M,j⟩
  rename_i J hJ;have H':=H (iQ (jf J) λvs=>λh=>W P n pl y Q (Qo J vs++Wr (x9 x) e) h) (pr λvs h L=>L);refine wp_seq (wp_mono (D _ _ _ H' B d a f) ?_);rintro ex a1 w1 ⟨t,m,o,rfl,s1,s,j⟩;cases ex with
  |normal=>obtain⟨vs,q,S,L,hk⟩:=kM j;have Y:=rE L;subst Y;have ac:Sat n (Qo J vs++Wr (x9 x) e) a1:=oP f s1.defers s1.size s (yy s1 S);refine wp_mono (C _ _ _ hk B m a1 ac) ?_;rintro ex a2 w2 ⟨u,w,A,rfl,s2,z,r⟩;exact⟨u,w,A,rfl,s2,(s.mono M).trans (z.mono T),r⟩
  |_=>exact⟨t,m,o,rfl,s1,s.mono M,j⟩
 |cond c x y D C=>intro Q e h H B d a f;simp only[W]at H;have M:∀i∈x9 x,i∈x9 (Rh c x y):=λi hi=>NT _ hi;have T:∀i∈x9 y,i∈x9 (Rh c x y):=λi hi=>N1 _ hi;split at H;rename_i b E;refine wp_cond_split (qh f (c:=[]) trivial E) (λah=>?_) (λZ=>?_);refine wp_mono (D _ _ _ (H.1 ah) B d a f) ?_;rintro ex a2 w2 ⟨u,w,A,rfl,s2,z,r⟩;exact⟨u,w,A,rfl,s2,z.mono M,r⟩;refine wp_mono (C _ _ _ (H.2 Z) B d a f) ?_;rintro ex a2 w2 ⟨u,w,A,rfl,s2,z,r⟩;exact⟨u,w,A,rfl,s2,z.mono T,r⟩;exact H.elim
 |block id x N=>
  intro Q e h H B d a f;refine wp_block (wp_mono (N _ _ _ H B d a f) ?_);rintro ex a1 w1 ⟨t,m,o,rfl,s1,s,j⟩;cases ex with
  |exit i=>simp only[jt]at j;simp only[Exit.inBlock];by_cases E:Nat.beq i id=Ta;rw[zz (NJ E)];simp only[E,zI]at j;exact⟨t,m,o,rfl,s1,s,j⟩;rw[zv (λhe=>E (by rw[he];simp))];simp only[E,zJ]at j;exact⟨t,m,o,rfl,s1,s,j⟩
  |_=>exact⟨t,m,o,rfl,s1,s,j⟩
 |loop x N=>
  intro Q e h H B d a f;simp only[W]at H;split at H;rename_i J hJ;obtain⟨I,μ,h0,G⟩:=H;obtain⟨af,p0,aj,V,ai⟩:=kM h0;let F:=jV (jf J) I μ;let at_:Act->Option ((za->Prop)×(za->Nat)):=λa1=>(eM (λi=>Td (zt a1 i)) J).bind λvs=>eJ (jf J) vs F;refine wp_loop (λa1 w1=>∃m o vs p,w1=mk B m o/\a1.defers=[]/\a1.tmps.size=n/\Same (x9 x) a a1/\eM (λi=>Td (zt a1 i)) J=Td vs/\eJ (jf J) vs F=Td p/\p.1 o) (λa1 w1=>match at_ a1 with|some p=>p.2 w1.heap|none=>0) ⟨d,h,af,p0,rfl,f.defers,f.size,Same.refl _ _,yy f aj,V,ai⟩ ?_;rintro a1 w1 ⟨m,o,vs,p,rfl,aa,U,k,S,hp,hI⟩;have s1:Sat n (Qo J vs++Wr (x9 x) e) a1:=oP f aa U k S;have E:=qU hp G o hI;refine wp_mono (N _ _ _ E B m a1 s1) ?_;rintro ex a2 w2 ⟨u,w,A,rfl,s2,z,r⟩;cases ex with
  |normal=>
   obtain⟨ak,q,O,L,ae,ab⟩:=kM r;refine⟨⟨w,A,ak,q,rfl,s2.defers,s2.size,k.trans z,yy s2 O,L,ae⟩,?_⟩;have t:at_ a1=Td p:=by simp only[at_,S,PH];exact hp
   have u:at_ a2=Td q:=by simp only[at_,yy s2 O,PH];exact L
   rw[t,u];exact ab
  |_=>exact⟨u,w,A,rfl,s2,k.trans z,r⟩
  exact H.elim
 |scope x N=>
  intro Q e h H B d a f;refine wp_scope_straight (wp_mono (N _ _ _ H B d a f) ?_);rintro ex a1 w1 ⟨t,m,o,rfl,s1,s,j⟩;cases ex with
  |goto l=>exact j
  |_=>exact⟨t,m,o,rfl,s1,s,j⟩
 |_=>exact λQ e h H=>H.elim
def gb:Nat->List Value->cK
 |_,[]=>[]
 |i,v::vs=>(i,[],v)::gb (i+1) vs
def fW(P:Program)(h:za)(e:cK):List ResultVar->(List Value->Prop)->Prop
 |[],K=>K []
 |.tmp t::l,K=>match jI e t with
  |some v=>fW P h e l λvs=>K (v::vs)
  |none=>False
 |.cell a t::l,K=>match jI e a with
  |some p=>ic P h t p Te λv=>fW P h e l λvs=>K (v::vs)
  |none=>False
def fU:List Value->Value
 |[v]=>v
 |vs=>.tuple vs.toArray
def nZ(P:Program)(rs:List ResultVar)(R:Value->za->Prop):Ws
 |.normal,e,h=>fW P h e rs λvs=>R (fU vs) h
 |.ret,e,h=>fW P h e rs λvs=>R (fU vs) h
 |_,_,_=>False
def jA(tmps:Array Value):ResultVar->Sem Value
 |.tmp t=>pure (tmps.getD t undef)
 |.cell a t=>do loadVar t (<-asAddr (tmps.getD a undef))
theorem sP{P:Program}{n:Nat}{h:za}{e:cK}{a:Act}(c:Sat n e a):∀{l:List ResultVar} {K:List Value->Prop},fW P h e l K->∃vs,K vs/\vs.length=l.length/\QExec P (l.mapM (jA a.tmps)) h vs
 |[],K,H=>⟨[],H,rfl,λ_ _=>by simp⟩
 |.tmp t::l,K,H=>by simp only[fW]at H;split at H;rename_i v k;obtain⟨vs,j,i,f⟩:=sP c H;refine⟨v::vs,j,by simp[i],?_⟩;rw[Re];refine QExec.bind (x:=v) ?_ (f.bind (QExec.pure _));rw[<-Y0 c k];exact QExec.pure _;exact H.elim
 |.cell x t::l,K,H=>by simp only[fW]at H;split at H;rename_i p m;obtain⟨v,o,q⟩:=Bi H;obtain⟨vs,j,i,f⟩:=sP c o;refine⟨v::vs,j,by simp[i],?_⟩;rw[Re];refine QExec.bind (x:=v) ?_ (f.bind (QExec.pure _));have r:a.tmps.getD x undef=p:=Y0 c m;simp only[jA,r];have b:=q trivial;unfold QP at b;unfold ic at H;split at H;exact b;exact b;exact H.elim;exact H.elim
theorem Zv{fn:Func}(b:Sat n e a){rs:List ResultVar}(c:fn.results.toList=rs)(H:fW P h e rs λvs=>R (fU vs) h):
  ∃v,R v h/\QExec P (results fn a.tmps) h v:=by
 obtain⟨vs,j,f,k⟩:=sP b H;refine⟨_,j,?_⟩;intro B d;have i:results fn a.tmps=(fn.results.mapM (jA a.tmps) >>= λvs=>PZ (if h:vs.size=1 then vs[0]else .tuple vs)):=by unfold results;congr 1
 rw[i,Array.mapM_eq_mapM_toList,c,Sem.run_bind,Sem.run_map,k B d];simp only[Result.andThen_ok,Sem.run_pure]
 match vs,f with
 |[],_=>rfl
 |[v],_=>rfl
 |v::u::vs,_=>simp[fU]
theorem X4(args:Array Value)(k:Nat):∀(vs:List Value) (i:Nat),(∀j v,vs[j]?=Td v->(args++OV k undef).getD (i+j) undef=v) ->
  ∀x∈gb i vs,fact (λi=>(args++OV k undef).getD i undef) x
 |[],_,_,x,b=>by cases b
 |v::vs,i,h,x,b=>by simp only[gb,NI]at b;rcases b with rfl|b;exact⟨λ_=>h 0 v rfl,λc=>absurd trivial c⟩;exact X4 args k vs (i+1) (λj u e=>by have:=h (j+1) u (by simpa using e);rwa[show i+(j+1)=i+1+j by omega]at this) x b
theorem MI(y:P.follows .mixedOrders=Ta){fn:Func}{c:Code}(pl:Plan)(vs:List Value){rs:List ResultVar}(r:P.funcs[f]?=Td fn)(u:fn.body=Td c)(o:fn.results.toList=rs)(x:fn.ntmps=n)
  (t:Nat.ble vs.length n=Ta) (H:W P n pl c (nZ P rs R) (gb 0 vs) h):XC P f vs.toArray h R:=by
 intro B d;subst x;refine calls_of_wp r u ?_;have q:vs.length<=fn.ntmps:=OW t;have s:Sat fn.ntmps (gb 0 vs) { tmps:=vs.toArray++OV (fn.ntmps-vs.toArray.size) undef,defers:=[] }:=by
  refine⟨rfl,by simp;omega,?_⟩;refine X4 vs.toArray _ vs 0 λj v l=>?_;have m:j<vs.length:=by rcases Ob j vs.length with h|h;exact h;rw[Ow h]at l;cases l
  simp only[NZ,OL];rw[Pu (by simpa using m)];simp[l]
 refine wp_mono (IV y c _ _ _ H B d _ s) ?_;rintro ex a w ⟨A,b,p,rfl,s1,z,e⟩;cases ex with
 |normal=>obtain⟨v,i,k⟩:=Zv s1 o e;exact⟨s1.defers,v,k B b,v,b,p,rfl,rfl,i⟩
 |ret=>obtain⟨v,i,k⟩:=Zv s1 o e;exact⟨s1.defers,v,k B b,v,b,p,rfl,rfl,i⟩
 |_=>exact e.elim
def codeOf(fn:Func):Code:=match fn.body with
 |some c=>c
 |none=>.skip
def Zw(fn:Func):Bool:=match fn.body with
 |some _=>Ta
 |none=>Tc
theorem EP(l:P.follows .mixedOrders=Ta)(pl:Plan)(vs:List Value){fn:Func}{rs:List ResultVar}(j:P.funcs[f]?=Td fn)(e:Zw fn=Ta)(k:fn.results.toList=rs)(m:fn.ntmps=n)
  (i:Nat.ble vs.length n=Ta) (H:W P n pl (codeOf fn) (nZ P rs R) (gb 0 vs) h):XC P f vs.toArray h R:=by
 have b:fn.body=Td (codeOf fn):=by unfold Zw at e;unfold codeOf;split at e;rename_i c o;rw[o];cases e
 exact MI l pl vs j b k m i H
end
section
variable {n:Nat} {h h':za} {a:Addr} {e t ty:TypeId} {s:Sl} {xs news:List Value} {P:Program} {z:Value}
theorem qq(h:za)(o:Obj):(h.push o)[h.size]?=Td o:=by simp
theorem Hf(k:Keep n h h')(b:a.block<n):zb h' a=zb h a:=by unfold zb;rw[k.get _ b]
theorem Cq(e:h'[a.block]?=h[a.block]?):zb h' a=zb h a:=by unfold zb;rw[e]
def Arr(n:Nat)(h:za)(a:Option Addr)(cs:List Value):Prop:=
 cs=[]\/∃b o,a=Td ⟨b,o,Te⟩/\b<n/\∀i v,cs[i]?=Td v->zb h ⟨b,o+i,Te⟩=Td v
theorem Arr.keep{a:Option Addr}{cs:List Value}(H:Arr n h a cs)(k:Keep n h h'):Arr n h' a cs:=by rcases H with e|⟨b,o,e,c,f⟩;exact .inl e;exact .inr ⟨b,o,e,c,λi v hi=>(Hf k (a:=⟨b,o+i,Te⟩) c).trans (f i v hi)⟩
theorem zj(b o i:Nat):(⟨b,o,Te⟩:Addr).add i=⟨b,o+i,Te⟩:=by unfold NG;split;rename_i h;rw[h];rfl;rfl
theorem Cd(a:Option Addr)(sz m:Nat):dP a sz 0 m=a:=by
 unfold dP;split;rfl;cases a with
 |none=>rfl
 |some p=>simp[NG]
theorem wrap64{n:Int}(h:-9223372036854775808<=n)(f:n<=9223372036854775807):NB .i64 n=n:=by
 unfold NB;have e:(2:Int) ^ Oz .i64=18446744073709551616:=by decide
 have b:(2:Int) ^ (Oz .i64-1)=9223372036854775808:=by decide
 simp only[e,b];have c:Rv .i64=Ta:=rfl;simp only[c,Pj,zC];split <;> omega
theorem zf{k:Nat}(h:k<9223372036854775807):NB .i64 ((k:Int)+1)=((k+1:Nat):Int):=by rw[wrap64 (by omega) (by omega)];omega
def Owns(h:za)(base:Nat)(e:TypeId)(sz:Nat)(s:Sl)(xs:List Value):Prop:=
 (mk default 0 h).ownsRow base e sz (.slice s.a s.len s.cap) s.len xs
theorem Owns.nil(h:za)(base:Nat)(e:TypeId)(sz:Nat):Owns h base e sz ⟨Te,0,0⟩ []:=World.ownsRow_nil _ _ _ _
theorem Owns.length{base:Nat}{sz:Nat}(H:Owns h base e sz s xs):xs.length=s.len*sz:=H.1
theorem Owns.arr{base:Nat}{sz:Nat}(H:Owns h base e sz s xs):Arr h.size h s.a xs:=by rcases H.2 with⟨c,h0⟩|⟨g,cap,f,c,p,k,o,q,n,m⟩;have l:=H.1;rw[h0]at l;exact .inl (by simpa using l);simp only[N6]at c;have b:g<h.size:=(NK.1 k).1;refine .inr ⟨g,0,c.1,b,λi v hi=>?_⟩;have j:h[g]?=Td (.cells f e (0,0)):=k;unfold zb;simp only[j,NZ,Option.isSome_none,OS,if_false];rw[<-m,N4]at hi;split at hi;simpa using hi;cases hi
theorem Owns.base_le{base:Nat}{sz:Nat}(H:Owns h base e sz s xs):∀p,s.a=Td p->base<=p.block/\p.block<h.size:=by intro p b;exact World.ownsRow.lt H p.block (by simp[Value.ownBlock,b])
theorem Owns.keep{base:Nat}{sz:Nat}(H:Owns h base e sz s xs)(k:∀p,s.a=Td p->h'[p.block]?=h[p.block]?):Owns h' base e sz s xs:=by refine⟨H.1,?_⟩;rcases H.2 with i|⟨g,cap,c,b,f,j,rest⟩;exact .inl i;simp only[N6]at b;refine .inr ⟨g,cap,c,by simp[b],f,?_,rest⟩;have:=k _ b.1;exact this.trans j
theorem Owns.keepN{base:Nat}{sz:Nat}(H:Owns h base e sz s xs)(k:Keep h.size h h'):Owns h' base e sz s xs:= H.keep λp b=>k.get _ (H.base_le p b).2
structure ElemT (P:Program) (t e:TypeId) (z:Value) (sz bytes:Nat):Prop where
 slice:P.underlying t=Td (.slice e)
 info:∃i,P.info? e=Td i/\i.zero=Td z/\i.size=sz/\i.bytes=bytes
 zero:z.cells.size=sz
 pos:0<sz
theorem A7{w:World}{i:TypeInfo}{sz bytes base:Nat}(B:P.underlying t=Td (.slice e))(hi:P.info? e=Td i)(H:i.zero=Td z)(G:i.size=sz)(E:i.bytes=bytes) {v:Value} (o:w.ownsRow base e sz v n xs) {m c:Nat} (y:news.length=m*sz) (f:∀j u,news[j]?=Td u->w.cell? (a.add j)=Td u) (Q:∀u∈news,u.oneCell'=Ta) (U:n+m<=4611686018427387904) (h:(n+m)*bytes<=140737488355328) {J:Value} {w':World} (k:(NX #[t,t] ty #[v,.slice (Td a) m c]).run P w=.ok J w'):
  ∀C l I,J=.slice (Td C) l I->(∃p S L,v=.slice (Td p) S L/\C.block=p.block)\/C.block=w.heap.size:=by
 subst G E;intro C l I b;rcases o.2 with⟨rfl,rfl⟩|⟨g,cap,x,rfl,Y,N,Z,M,F,D⟩;by_cases V:m=0;subst V;have T:news=[]:=N5 (by simpa using y);subst T;have r:(NX #[t,t] ty #[.slice Te 0 0,.slice (Td a) 0 c]).run P w=.ok (.slice Te 0 0) w:=by simp[NX,run_underlying B,sizeOf,typeInfo,hi,Builtin.lenOf,PI,loadCells,loadCellsFrom]
 rw[r]at k;simp only[Rp]at k;rw[<-k.1]at b;cases b;have r:=run_append_nil (P:=P) (ty:=ty) w t e i z B hi H a m c news y f (by omega) (by omega) (by have O:=h;simp only[NZ]at O;omega);rw[r]at k;simp only[Rp]at k;rw[<-k.1]at b;simp only[N6,NC]at b;exact .inr (by rw[<-b.1]);by_cases q:n+m<=cap;have A:n*i.size+news.length<=x.size:=by rw[y,F,<-O2];exact Oa _ q
 have r:=run_append_room (P:=P) (ty:=ty) w t e i B hi g n cap x N a m c news y f Q q A;rw[r]at k;simp only[Rp]at k;rw[<-k.1]at b;simp only[N6,NC]at b;exact .inl ⟨_,_,_,rfl,by rw[<-b.1]⟩;have s:∀j u,xs[j]?=Td u->w.cell? ((⟨g,0,Te⟩:Addr).add j)=Td u:=o.cells (g:=g) rfl;have r:=run_append_grow (P:=P) (ty:=ty) w t e i z B hi H ⟨g,0,Te⟩ n cap xs o.1 s a m c news y f (by omega) (by omega) (growslice_fits (by omega) h);rw[r]at k;simp only[Rp]at k;rw[<-k.1]at b;simp only[N6,NC]at b;exact .inr (by rw[<-b.1])
theorem j3{sz bytes:Nat}(T:ElemT P t e z sz bytes){base:Nat}(H:Owns h base e sz s xs) {src:Sl} (hs:Arr n h src.a news) (hl:news.length=src.len*sz) (h1:∀u∈news,u.oneCell'=Ta) (c:(s.len+src.len)*bytes<=140737488355328) (y:s.len+src.len<=4611686018427387904) (x:base<=h.size) {K:Value->za->Prop} (hK:∀(k:Sl) (h':za),k.len=s.len+src.len->Owns h' base e sz k (xs++news)->(∀i,i<h.size->(∀p,s.a=Td p->i≠p.block)->h'[i]?=h[i]?)->h.size<=h'.size->(∀m,k.a=Td m->(∃p,s.a=Td p/\m.block=p.block)\/m.block=h.size)->K (.slice k.a k.len k.cap) h'):
  jh P (NX #[t,t] ty #[.slice s.a s.len s.cap,.slice src.a src.len src.cap]) h K:=by
 intro B d;obtain⟨i,hi,S,D,C⟩:=T.info;have key:∃A w',(NX #[t,t] ty #[.slice s.a s.len s.cap,.slice src.a src.len src.cap]).run P (mk B d h)=.ok A w'/\w'.ownsRow base e sz A (s.len+src.len) (xs++news)/\(mk B d h).grownBy w' (Value.ownBlock (.slice s.a s.len s.cap)) /\
   ∀m l N,A=.slice (Td m) l N->(∃p,s.a=Td p/\m.block=p.block)\/m.block=h.size:=by
  have f:(mk B d h).ownsRow base e sz (.slice s.a s.len s.cap) s.len xs:=H;rcases hs with e0|⟨b,o,e0,U,hc⟩;subst e0;have h0:src.len=0:=by rcases QK src.len with h0|h0;exact h0;have:=Nat.mul_pos h0 T.pos;simp at hl;omega
  rw[h0];have O:∃q,q=src.a:=⟨_,rfl⟩;obtain⟨q,M⟩:=O;rw[<-M];cases q with
  |none=>
   refine⟨_,mk B d h,?_,by simpa using f,⟨rfl,rfl,rfl,ND _,λ_ _ _=>rfl⟩,λm l N r=>.inl ⟨m,by simp only[N6]at r;exact r.1,rfl⟩⟩;have hT:=T.slice;have ab:s.len<=s.cap:=by rcases f.2 with⟨G,V⟩|⟨g,cap,Y,G,_,_,ac,_⟩;omega;simp only[N6]at G;omega
   generalize s.a=sa at *;cases sa <;> simp[NX,run_underlying hT,sizeOf,typeInfo,hi,Builtin.lenOf,PI,ab,storeCells]
  |some p=>obtain⟨A,w',F,J,E,_⟩:=run_append_own (P:=P) (w:=mk B d h) base t ty e i z sz bytes T.slice hi S D C T.zero T.pos (.slice s.a s.len s.cap) s.len xs f p 0 src.cap [] (by simp) (by simp) (by simp) (by unfold maxLen;omega) (by rw[h0]at c;exact c) x;refine⟨A,w',F,J,E,λm l N r=>?_⟩;rcases A7 T.slice hi S D C f (news:=[]) (by simp) (by simp) (by simp) (by rw[h0]at y;exact y) (by rw[h0]at c;exact c) F m l N r with⟨q,l0,c0,M,U⟩|U;simp only[N6]at M;exact .inl ⟨q,M.1,U⟩;exact .inr U
  rw[e0];obtain⟨A,w',F,J,E,_⟩:=run_append_own (P:=P) (w:=mk B d h) base t ty e i z sz bytes T.slice hi S D C T.zero T.pos (.slice s.a s.len s.cap) s.len xs f ⟨b,o,Te⟩ src.len src.cap news hl (λj u hu=>by rw[zj];exact hc j u hu) h1 (by unfold maxLen;omega) c x;refine⟨A,w',F,J,E,λm l N r=>?_⟩;rcases A7 T.slice hi S D C f hl (λj u hu=>by rw[zj];exact hc j u hu) h1 y c F m l N r with⟨q,l0,c0,M,L⟩|L;simp only[N6]at M;exact .inl ⟨q,M.1,L⟩;exact .inr L
 obtain⟨A,w',F,J,E,r4⟩:=key;have hw:w'=mk B w'.drawn w'.heap:=by have G:=E.os;have V:=E.tape;have e3:=E.output;cases w';simp only[mk]at *;subst G;subst V;subst e3;rfl
 rw[hw]at F;have hv:∃k:Sl,A=.slice k.a k.len k.cap/\k.len=s.len+src.len:=by rcases J.2 with⟨G,V⟩|⟨g,cap,Y,G,_⟩;exact⟨⟨Te,0,0⟩,G,V.symm⟩;exact⟨⟨Td ⟨g,0,Te⟩,s.len+src.len,cap⟩,G,rfl⟩
 obtain⟨k,rfl,I⟩:=hv;refine⟨_,_,_,F,hK k w'.heap I ?_ ?_ E.size λm Z=>r4 m k.len k.cap (by rw[Z])⟩;rw[<-I]at J;exact J;intro j hj aa;refine E.block j hj λQ=>?_;cases O:s.a with
 |none=>rw[O]at Q;cases Q
 |some p=>rw[O]at Q;simp only[Value.ownBlock,NC]at Q;exact aa p O Q
end
section
variable {h:za} {m:Nat} {P:Program} {kt t et:TypeId} {z:Value}
def ep(l:List (Bt×Value))(k:Bt):Option Value:=match l with
 |[]=>Te
 |p::l=>if p.1=k then Td p.2 else ep l k
def gd(l:List (Bt×Value))(k:Bt)(v:Value):List (Bt×Value):=match l with
 |[]=>[(k,v)]
 |p::l=>if p.1=k then(k,v)::l else p::gd l k v
theorem Hd(l:List (Bt×Value))(k b:Bt)(v:Value):ep (gd l k v) b=if k=b then Td v else ep l b:=by
 induction l with
 |nil=>simp[gd,ep]
 |cons p l f=>simp only[gd];split;rename_i h;simp only[ep];split <;> rename_i c;rfl;rw[h];simp[c];rename_i h;simp only[ep,f];split <;> rename_i c;rw[zv (λe=>h (c.trans e.symm))];rfl
def MapAt(h:za)(m:Nat)(l:List (Bt×Value)):Prop:=∃c b,h[m]?=Td (.map c b)/\c.toList.map (λe=>(e.key,e.val))=l.map λp=>(OK p.1,p.2)
theorem MapAt.keep{h h':za}{l:List (Bt×Value)}(H:MapAt h m l)(k:h'[m]?=h[m]?):MapAt h' m l:=by obtain⟨b,c,f,e⟩:=H;exact⟨b,c,k.trans f,e⟩
theorem MapAt.lt{l:List (Bt×Value)}(H:MapAt h m l):m<h.size:=by obtain⟨f,c,b,e⟩:=H;exact(NK.1 b).1
theorem MapAt.new(h:za):MapAt (h.push (.map #[] 0)) h.size []:=⟨#[],0,qq _ _,rfl⟩
structure MapT (P:Program) (t kt et:TypeId) (z:Value):Prop where
 map:P.underlying t=Td (.map kt et)
 key:P.underlying kt=Td .string
 zero:∃i,P.info? et=Td i/\i.zero=Td z
theorem kV(a b:Bt):(a==b)=decide (a=b):=by show ByteArray.beq a b=_;cases a;cases b;rw[Om];simp[ByteArray.beq]
instance lawfulBA:LawfulBEq Bt where
 eq_of_beq:=λ {a b} h=>by rw[kV]at h;simpa using h
 rfl:=λ {a}=>by rw[kV];simp
theorem Y1(k:Bt):∀(f:List MapEntry) (l:List (Bt×Value)) (i:Nat),f.map (λe=>(e.key,e.val))=l.map (λp=>(OK p.1,p.2)) ->
  (ep l k=Te/\Ps .string (.string k) f i=Td Te)\/(∃j v e,ep l k=Td v/\f[j]?=Td e/\e.key=.string k/\e.val=v/\Ps .string (.string k) f i=Td (Td (i+j,v)) /\ ∀w,(f.modify j λe=>{ e with key:=.string k,val:=w }).map (λe=>(e.key,e.val))=(gd l k w).map λp=>(OK p.1,p.2))
 |[],l,i,h=>by
  have:l=[]:=by cases l <;> simp_all
  subst this;exact .inl ⟨rfl,rfl⟩
 |e::f,l,i,h=>by
  cases l with
  |nil=>simp at h
  |cons p l=>
   simp only[N2,PE,OJ]at h;obtain⟨⟨m,o⟩,q⟩:=h;by_cases c:p.1=k;refine .inr ⟨0,p.2,e,by simp[ep,c],rfl,by rw[m,c],o,?_,λw=>?_⟩;have b:(k==p.1)=Ta:=by rw[kV];simpa using c.symm
   simp[Ps,QY,m,o,b];simp[gd,c,q];have b:(k==p.1)=Tc:=by rw[kV];simpa using λe=>c e.symm
   rcases Y1 k f l (i+1) q with⟨g1,n⟩|⟨j,v,s,g1,n,u,x,r,t⟩;refine .inl ⟨by simp[ep,c,g1],?_⟩;simp[Ps,QY,m,b,n];refine .inr ⟨j+1,v,s,by simp[ep,c,g1],by simpa using n,u,x,?_,λw=>?_⟩;simp[Ps,QY,m,b,r];omega;simp[gd,c,m,o,t w]
theorem Wt(e:P.underlying kt=Td .string)(b:Bool)(k:Bt)(h:za):QExec P (Instr.checkKey b 10000 kt (.string k)) h ():=by intro B d;have c:=QExec.underlying (h:=h) e B d;unfold Instr.checkKey;rw[Sem.run_bind,c];rfl
theorem xd(e:P.underlying kt=Td .string)(k:Bt)(b:List MapEntry)(r:Option (Nat×Value))(h:za)(c:Ps .string (.string k) b 0=Td r):
  QExec P (Instr.findKey kt (.string k) b) h r:=by
 intro B d;have f:=QExec.underlying (h:=h) e B d;unfold Instr.findKey;rw[Sem.run_bind,f];simp only[Result.andThen_ok,c];rfl
theorem Zo{b:Array MapEntry}{c:Nat}(e:h[m]?=Td (.map b c)):QExec P (getObj m) h (.map b c):=by intro B d;have:(mk B d h).heap[m]?=Td (.map b c):=e;simp[getObj,Sem.run,this]
theorem uP(b:∃i,P.info? t=Td i/\i.zero=Td z):QExec P (zeroValue t) h z:=by obtain⟨i,e,c⟩:=b;intro B d;simp[zeroValue,typeInfo,program,e,c,Sem.run]
def hY(l:List (Bt×Value))(k:Bt)(z:Value):Value:=(ep l k).getD z
theorem wD(T:MapT P t kt et z){l:List (Bt×Value)}(H:MapAt h m l)(k:Bt)(ok:Bool):
  QExec P (QJ t (.map (Td m)) (.string k) ok) h (if ok then .tuple #[hY l k z,.bool (ep l k).isSome]else hY l k z):=by
 obtain⟨b,c,r,p⟩:=H;intro B d;have q:=QExec.underlying (h:=h) T.map B d;have n:=Zo (P:=P) r B d;have s:=Wt T.key b.isEmpty k h B d;unfold QJ;rw[Sem.run_bind,q];simp only[Result.andThen_ok,Sem.run_bind,n,Sem.run_pure,s];rcases Y1 k b.toList l 0 p with⟨g1,f⟩|⟨j,v,e,g1,f,u,w,i,_⟩;rw[xd T.key k b.toList Te h f B d];have o:=uP (h:=h) T.zero B d;simp only[Result.andThen_ok,Sem.run_bind,o,Sem.run_pure,hY,g1];cases ok <;> rfl;rw[xd T.key k b.toList _ h i B d];simp only[Result.andThen_ok,hY,g1];cases ok <;> rfl
theorem qH{l:List (Bt×Value)}{k:Bt}{v:Value}(g:ep l k=Te):gd l k v=l++[(k,v)]:=by
 induction l with
 |nil=>rfl
 |cons p l c=>simp only[ep]at g;split at g;cases g;rename_i b;simp[gd,b,c g]
theorem JW(T:MapT P t kt et z){l:List (Bt×Value)}(H:MapAt h m l)(k:Bt)(v:Value){K:za->Prop}
  (s:∀h':za,MapAt h' m (gd l k v)->h'.size=h.size->(∀i,i≠m->h'[i]?=h[i]?)->K h'):XRunU P (O8 t (.map (Td m)) (.string k) v) h K:=by
 have n:=H.lt;obtain⟨f,c,y,w⟩:=H;intro B d;have x:=QExec.underlying (h:=h) T.map B d;have r:=Zo (P:=P) y B d;have A:=Wt T.key Tc k h B d;have b:∀o:Obj,(setObj m o).run P (mk B d h)=.ok () (mk B d (h.setIfInBounds m o)):=by intro o;have:(mk B d h).heap[m]?=Td (.map f c):=y;simp[setObj,Sem.run,this];rfl
 unfold O8;rcases Y1 k f.toList l 0 w with⟨g1,q⟩|⟨j,G,e,g1,q,F,I,D,E⟩;refine⟨d,h.setIfInBounds m (.map (f.push { key:=.string k,val:=v,born:=c }) (c+1)),?_,s _ ⟨f.push { key:=.string k,val:=v,born:=c },c+1,by simp[n],?_⟩ (by simp) (λi hi=>by rw[NW (Ne.symm hi)])⟩;rw[Sem.run_bind,x];simp only[Result.andThen_ok,Sem.run_bind,r,A];rw[xd T.key k f.toList Te h q B d];simp only[Result.andThen_ok];exact b _;rw[qH g1];simp[w];have u:j<f.size:=by have:=(Ou.1 q).1;simpa using this
 refine⟨d,_,?_,s (h.setIfInBounds m (.map (f.modify j λe=>{ e with key:=.string k,val:=v }) c)) ⟨f.modify j λe=>{ e with key:=.string k,val:=v },c,by simp[n],?_⟩ (by simp) (λi hi=>by rw[NW (Ne.symm hi)])⟩;rw[Sem.run_bind,x];simp only[Result.andThen_ok,Sem.run_bind,r,A];rw[xd T.key k f.toList _ h D B d];simp only[Result.andThen_ok,NZ];have p:((f[j]?).map (·.key)).getD (.string k)=.string k:=by
  have:f[j]?=Td e:=by simpa using q
  rw[this];exact F
 rw[p];have C:PV (.string k) (.string k)=pure (.string k):=by unfold PV;rw[zz (by show(k==k)=Ta;rw[kV];simp)]
 rw[C];exact b _;have:=E v;simpa using this
end
section
variable {h h':za} {b n o:Nat} {cs:Array Value} {v:Value} {P:Program} {t:TypeId} {K:za -> Prop}
def Blk(h:za)(b:Nat)(cs:Array Value):Prop:=∃T,h[b]?=Td (.cells cs T (0,0))
theorem Blk.keep(H:Blk h b cs)(k:h'[b]?=h[b]?):Blk h' b cs:=by obtain⟨T,e⟩:=H;exact⟨T,k.trans e⟩
theorem Blk.keepN(H:Blk h b cs)(k:Keep n h h')(c:b<n):Blk h' b cs:=H.keep (k.get b c)
theorem Blk.new(h:za)(cs:Array Value)(T:TypeId):Blk (h.push (.cells cs T)) h.size cs:=⟨T,qq _ _⟩
theorem Blk.lt(H:Blk h b cs):b<h.size:=by obtain⟨T,e⟩:=H;exact(NK.1 e).1
theorem Blk.cell(H:Blk h b cs)(c:cs[o]?=Td v):zb h ⟨b,o,Te⟩=Td v:=by obtain⟨T,e⟩:=H;unfold zb;simp[e,c]
theorem Blk.cellAdd{b o k:Nat}(H:Blk h b cs)(c:cs[o+k]?=Td v):zb h ((⟨b,o,Te⟩:Addr).add k)=Td v:=by rw[zj];exact H.cell c
theorem Blk.ld{cs:List Value}(H:Blk h b cs.toArray):ze h ⟨b,0,Te⟩ 0 cs:=by
 have key:∀(l:List Value) (i:Nat),(∀j v,l[j]?=Td v->cs[i+j]?=Td v)->ze h ⟨b,0,Te⟩ i l:=by
  intro l;induction l with
  |nil=>intro i _;trivial
  |cons v l c=>intro i hi;refine⟨?_,c (i+1) λj u f=>?_⟩;rw[zj,NZ];exact H.cell (by have:=hi 0 v rfl;simpa using this);have:=hi (j+1) u (by simpa using f);rwa[show i+(j+1)=i+1+j by omega]at this
 exact key cs 0 λj v e=>by simpa using e
theorem Keep.setBlk(o:Obj)(c:n<=b):Keep n h (h.setIfInBounds b o):= ⟨by simp,λi hi=>by rw[NW (by omega)]⟩
theorem qJ(H:Blk h b cs)(B:World)(d:Nat):(mk B d h).frozen? ⟨b,o,Te⟩=Tc:=by obtain⟨T,e⟩:=H;have:(mk B d h).heap[b]?=Td (.cells cs T (0,0)):=e;simp[World.frozen?,this]
theorem v8{T:TypeId}(e:h[b]?=Td (.cells cs T (0,0)))(m:o<cs.size)(j:v.oneCell'=Ta)(B:World)(d:Nat):
  (store ⟨b,o,Te⟩ v).run P (mk B d h)=.ok () (mk B d (h.setIfInBounds b (.cells (cs.setIfInBounds o v) T (0,0)))):=by
 have n:(mk B d h).cell? ⟨b,o,Te⟩=Td cs[o]:=Blk.cell (h:=h) ⟨T,e⟩ (by simp[m]);have k:=qJ (o:=o) (⟨T,e⟩:Blk h b cs) B d;have c:(mk B d h).setCell ⟨b,o,Te⟩ v=mk B d (h.setIfInBounds b (.cells (cs.setIfInBounds o v) T (0,0))):=by
  unfold World.setCell mk;simp only;congr 1;have f:b<h.size:=(NK.1 e).1;apply Array.ext_getElem?;intro i;rw[QM];by_cases hi:i=b;subst hi;have l:h[i]=.cells cs T (0,0):=by have:=Oy f;rw[e]at this;exact(NY this).symm
  simp[f,l];rw[zv (Ne.symm hi),NW (Ne.symm hi)]
 cases v with
 |agg x=>simp[Value.oneCell']at j
 |tuple x=>simp[Value.oneCell']at j
 |_=>simp only[store,Sem.run,n,k,OS,if_false,c]
theorem cells_one(b:v.oneCell'=Ta):v.cells=#[v]:=by cases v <;> first|rfl|simp[Value.oneCell']at b
theorem Wu(hi:qy P t=Ta)(j:qj P t=1)(H:Blk h b cs)(k:o<cs.size)(c:v.oneCell'=Ta)
  (n:∀h':za,Blk h' b (cs.setIfInBounds o v)->h'.size=h.size->(∀i,i≠b->h'[i]?=h[i]?)->K h'):XRunU P (NR t (.pointer (Td ⟨b,o,Te⟩)) v) h K:=by
 obtain⟨T,e⟩:=H;have m:b<h.size:=(NK.1 e).1;intro B d;refine⟨d,_,?_,n (h.setIfInBounds b (.cells (cs.setIfInBounds o v) T (0,0))) ⟨T,by simp[m]⟩ (by simp) λi hi=>by rw[NW (Ne.symm hi)]⟩;have l:=QExec.sizeOf (P:=P) (h:=h) (q9 hi).choose_spec B d;unfold NR QG;simp only[Sem.run_bind,Sem.run_pure,Result.andThen_ok];unfold storeVar;rw[Sem.run_bind,l];simp only[Result.andThen_ok];rw[j,cells_one c];simp only[P8,NU,OE,NZ,ne_eq,not_true_eq_false,if_false];show Sem.run P (storeCells ⟨b,o,Te⟩ [v]) _=_;unfold storeCells;rw[Sem.run_bind];have f:(⟨b,o,Te⟩:Addr).add 0=⟨b,o,Te⟩:=by rw[zj];rfl
 rw[f,v8 e k c B d];rfl
theorem xl{P:Program}{b:Nat}{T:TypeId}(B:World)(d:Nat):∀(vs:List Value) (i:Nat) (h:za) (cs:Array Value),h[b]?=Td (.cells cs T (0,0))->i+vs.length<=cs.size->(∀v∈vs,v.oneCell'=Ta) ->
  ∃h',(storeCells ⟨b,0,Te⟩ vs i).run P (mk B d h)=.ok () (mk B d h')/\h'[b]?=Td (.cells (cs.toList.take i++vs++cs.toList.drop (i+vs.length)).toArray T (0,0))/\h'.size=h.size/\∀j,j≠b->h'[j]?=h[j]?
 |[],i,h,cs,e,_,_=>⟨h,rfl,by simpa using e,rfl,λ_ _=>rfl⟩
 |v::vs,i,h,cs,e,hl,hv=>by
  have n:b<h.size:=(NK.1 e).1;simp only[NU]at hl;have s:=v8 (P:=P) e (o:=i) (by omega) (hv v NQ) B d;have l:(h.setIfInBounds b (.cells (cs.setIfInBounds i v) T (0,0)))[b]?=Td (.cells (cs.setIfInBounds i v) T (0,0)):=by simp[n]
  have c:i+1+vs.length<=(cs.setIfInBounds i v).size:=by rw[O3];omega
  obtain⟨h',m,k,t,p⟩:=xl (P:=P) B d vs (i+1) (h.setIfInBounds b (.cells (cs.setIfInBounds i v) T (0,0))) (cs.setIfInBounds i v) l c λu r=>hv u (NF _ r);refine⟨h',?_,?_,by rw[t];simp,λj f=>by rw[p j f,NW (Ne.symm f)]⟩;unfold storeCells;rw[Sem.run_bind,zj,NZ,s];simp only[Result.andThen_ok];exact m;rw[k];congr 3;have hi:i<cs.toList.length:=by simp;omega
  simp only[Array.toList_setIfInBounds,NU];rw[List.take_set,List.drop_set_of_lt (by omega)];have q:(cs.toList.take (i+1)).set i v=cs.toList.take i++[v]:=by
   rw[Oc hi,List.set_append_right _ _ (by simp;omega)];have:i-(cs.toList.take i).length=0:=by simp;omega
   rw[this];rfl
  rw[q,show i+(vs.length+1)=i+1+vs.length by omega];simp
theorem storeAll(hi:qy P t=Ta)(H:Blk h b cs){vs:List Value}(j:qj P t=vs.length)(p:cs.size=vs.length)(f:∀v∈vs,v.oneCell'=Ta)
  (n:∀h':za,Blk h' b vs.toArray->h'.size=h.size->(∀i,i≠b->h'[i]?=h[i]?)->K h'):XRunU P (NR t (.pointer (Td ⟨b,0,Te⟩)) (.agg vs.toArray)) h K:=by
 obtain⟨T,e⟩:=H;intro B d;obtain⟨h',k,c,o,m⟩:=xl (P:=P) B d vs 0 h cs e (by omega) f;refine⟨d,h',?_,n h' ⟨T,by rw[c];congr 2;simp;omega⟩ o m⟩;have l:=QExec.sizeOf (P:=P) (h:=h) (q9 hi).choose_spec B d;unfold NR QG;simp only[Sem.run_bind,Sem.run_pure,Result.andThen_ok];unfold storeVar;rw[Sem.run_bind,l];simp only[Result.andThen_ok];rw[j];simp only[Value.cells,P8,ne_eq,not_true_eq_false,if_false];exact k
theorem Owns.base{h:za}{base b:Nat}{e:TypeId}{sz:Nat}{s:Sl}{xs:List Value}(H:Owns h base e sz s xs)(k:b<=base):Owns h b e sz s xs:=by refine⟨H.1,?_⟩;rcases H.2 with i|⟨g,cap,c,f,j,rest⟩;exact .inl i;exact .inr ⟨g,cap,c,f,by omega,rest⟩
end
end Go.X
end
section
namespace Go.X
variable {cs:List Value}
inductive Tr where
 |mk (kind:Int) (text:Bt) (keys:List Bt) (items:List Tr)
namespace Tr
@[reducible] def kind:Tr->Int|mk k _ _ _=>k
@[reducible] def text:Tr->Bt|mk _ s _ _=>s
@[reducible] def keys:Tr->List Bt|mk _ _ ks _=>ks
@[reducible] def items:Tr->List Tr|mk _ _ _ xs=>xs
@[simp] theorem NA(t:Tr):mk t.kind t.text t.keys t.items=t:=by cases t;rfl
instance:Inhabited Tr:=⟨mk 0 ⟨#[]⟩ [] []⟩
end Tr
inductive Ty where
 |int (k:IntKind)|bool|str|row (t:Ty)|tree|unit|pair (a b:Ty)|ptr (t:Ty)|iter|err
 deriving DecidableEq
@[reducible] def El:Ty->Type
 |.int _=>Int
 |.bool=>Bool
 |.str=>Bt
 |.row t=>List (El t)
 |.tree=>Tr
 |.unit=>Unit
 |.pair a b=>El a×El b
 |.ptr t=>El t
 |.iter=>Bt×Nat
 |.err=>Bool
def mT:(t:Ty)->El t
 |.int _=>(0:Int)
 |.bool=>Tc
 |.str=>(⟨#[]⟩:Bt)
 |.row _=>[]
 |.tree=>default
 |.unit=>()
 |.pair a b=>(mT a,mT b)
 |.ptr t=>mT t
 |.iter=>(⟨#[]⟩,0)
 |.err=>Ta
def sz:Ty->Nat
 |.tree=>4
 |.unit=>0
 |.pair a b=>sz a+sz b
 |_=>1
abbrev Fr:=Nat->Option (Array Value)
def Fr.le(M M':Fr):Prop:=∀b cs,M b=Td cs->M' b=Td cs
theorem Fr.le.refl(M:Fr):Fr.le M M:=λ_ _ h=>h
theorem Fr.le.trans{a b c:Fr}(h:Fr.le a b)(k:Fr.le b c):Fr.le a c:=λ_ _ e=>k _ _ (h _ _ e)
def cut(cs:Array Value)(o n:Nat):List Value:=(cs.toList.drop o).take n
def RowAt(M:Fr){α:Type}(R:α->List Value->Prop)(z:Nat)(xs:List α)(v:Value):Prop:=
 ∃a c,v=.slice a xs.length c/\(xs.length<=140737488355328/\xs.length<=c)/\(xs=[]\/∃b o cs,a=Td ⟨b,o,Te⟩/\M b=Td cs/\∀i (h:i<xs.length),R xs[i] (cut cs (o+i*z) z))
inductive TrRd (M:Fr):Tr->List Value->Prop where
 |mk {k:Int} {s:Bt} {ks:List Bt} {xs:List Tr} {vk:Value} {a:Option Addr} {c b o:Nat} {cs:Array Value}
  (hk:RowAt M (λs cs=>cs=[.string s]) 1 ks vk) (hn:xs.length<=140737488355328/\xs.length<=c) (hz:xs=[]\/(a=Td ⟨b,o,Te⟩/\M b=Td cs))
  (hi:∀i (h:i<xs.length),TrRd M xs[i] (cut cs (o+i*4) 4)):TrRd M (.mk k s ks xs) [.int .i64 k,.string s,vk,.slice a xs.length c]
def xe(s:Bt)(p:Nat):Value:=.iface 0 (.agg #[.string s,.int .i64 p])
def Rd(M:Fr):(t:Ty)->El t->List Value->Prop
 |.int k,i,cs=>cs=[.int k i]
 |.bool,b,cs=>cs=[.bool b]
 |.str,s,cs=>cs=[.string s]
 |.row t,xs,cs=>∃v,cs=[v]/\RowAt M (Rd M t) (sz t) xs v
 |.tree,t,cs=>TrRd M t cs
 |.unit,_,cs=>cs=[]
 |.pair a b,x,cs=>∃c1 c2,cs=c1++c2/\Rd M a x.1 c1/\Rd M b x.2 c2
 |.ptr t,x,cs=>∃b o c,cs=[.pointer (Td ⟨b,o,Te⟩)]/\M b=Td c/\Rd M t x (cut c o (sz t))
 |.iter,x,cs=>cs=[xe x.1 x.2]
 |.err,b,cs=>∃v,cs=[v]/\((b=Ta/\v=.nilIface)\/(b=Tc/\∃t u,v=.iface t u))
theorem RowAt.mono{M M':Fr}(k:Fr.le M M'){α:Type}{R f:α->List Value->Prop}{z:Nat}{xs:List α}{v:Value}(H:RowAt M R z xs v)(p:∀x∈xs,∀cs,R x cs->f x cs):RowAt M' f z xs v:=by obtain⟨a,c,e,j,h⟩:=H;refine⟨a,c,e,j,h.imp id ?_⟩;rintro⟨b,o,cs,n,m,l⟩;exact⟨b,o,cs,n,k _ _ m,λi h=>p _ (Ot _) _ (l i h)⟩
theorem TrRd.mono{M M':Fr}(b:Fr.le M M'){t:Tr}(H:TrRd M t cs):TrRd M' t cs:=by
 induction H with
 |mk f i c _ e=>exact .mk (f.mono b λ_ _ _ h=>h) i (c.imp id λh=>⟨h.1,b _ _ h.2⟩) e
theorem Rd.mono{M M':Fr}(c:Fr.le M M'):∀{t:Ty} {x:El t} {cs:List Value},Rd M t x cs->Rd M' t x cs
 |.int _,_,_,h=>h
 |.bool,_,_,h=>h
 |.str,_,_,h=>h
 |.row _,_,_,⟨v,e,h⟩=>⟨v,e,h.mono c λ_ _ _ h=>Rd.mono c h⟩
 |.tree,_,_,h=>TrRd.mono c h
 |.unit,_,_,h=>h
 |.pair _ _,_,_,⟨c1,c2,e,h1,h2⟩=>⟨c1,c2,e,Rd.mono c h1,Rd.mono c h2⟩
 |.ptr _,_,_,⟨b,o,cc,e,h1,h2⟩=>⟨b,o,cc,e,c _ _ h1,Rd.mono c h2⟩
 |.iter,_,_,h=>h
 |.err,_,_,h=>h
theorem Rd.len{M:Fr}:∀{t:Ty} {x:El t} {cs:List Value},Rd M t x cs->cs.length=sz t
 |.int _,_,_,h=>by rw[h];rfl
 |.bool,_,_,h=>by rw[h];rfl
 |.str,_,_,h=>by rw[h];rfl
 |.row t,_,_,⟨v,e,_⟩=>by rw[e];rfl
 |.tree,_,_,h=>by cases h;rfl
 |.unit,_,_,h=>by rw[h];rfl
 |.pair _ _,_,_,⟨c1,c2,e,h1,h2⟩=>by rw[e,NH,Rd.len h1,Rd.len h2];rfl
 |.ptr _,_,_,⟨b,o,cc,e,_⟩=>by rw[e];rfl
 |.iter,_,_,h=>by rw[h];rfl
 |.err,_,_,⟨v,e,_⟩=>by rw[e];rfl
theorem Rd.one{M:Fr}:∀{t:Ty} {x:El t} {cs:List Value},Rd M t x cs->∀v∈cs,v.oneCell'=Ta
 |.int _,_,_,h=>by rw[h];simp[Value.oneCell']
 |.bool,_,_,h=>by rw[h];simp[Value.oneCell']
 |.str,_,_,h=>by rw[h];simp[Value.oneCell']
 |.row t,_,_,⟨v,e,a,c,e2,_⟩=>by rw[e,e2];simp[Value.oneCell']
 |.tree,_,_,h=>by
  cases h with
  |mk i _ _ _=>obtain⟨a,c,e,_⟩:=i;rw[e];simp[Value.oneCell']
 |.unit,_,_,h=>by rw[h];simp
 |.pair _ _,_,_,⟨c1,c2,e,h1,h2⟩=>by intro v f;rw[e]at f;rcases N0.1 f with f|f;exact Rd.one h1 v f;exact Rd.one h2 v f
 |.ptr _,_,_,⟨b,o,cc,e,_⟩=>by rw[e];simp[Value.oneCell']
 |.iter,_,_,h=>by rw[h];simp[Value.oneCell',xe]
 |.err,_,_,⟨v,e,h⟩=>by rw[e];rcases h with⟨_,rfl⟩|⟨_,t,u,rfl⟩ <;> simp[Value.oneCell']
theorem TrRd.keys{M:Fr}{t:Tr}(H:TrRd M t cs):∃e f,cs=[.int .i64 t.kind,.string t.text,e,f]/\Rd M (.row .str) t.keys [e]/\Rd M (.row .tree) t.items [f]:=by
 cases H with
 | @mk k s ks xs e a c b o cs hk hn hz hi=>exact⟨e,_,rfl,⟨e,rfl,hk⟩,⟨_,rfl,a,c,rfl,hn,hz.imp id λh=>⟨b,o,cs,h.1,h.2,hi⟩⟩⟩
theorem TrRd.of{M:Fr}{k:Int}{s:Bt}{ks:List Bt}{xs:List Tr}{p n:Value}(f:Rd M (.row .str) ks [p])(l:Rd M (.row .tree) xs [n]):TrRd M (.mk k s ks xs) [.int .i64 k,.string s,p,n]:=by
 obtain⟨v,e,f⟩:=f;obtain⟨u,q,a,c,j,m,l⟩:=l;cases e;cases q;subst j;rcases l with rfl|⟨b,o,cs,t,j,r⟩;exact .mk (b:=0) (o:=0) (cs:=#[]) f m (.inl rfl) λi h=>absurd h (by simp)
 exact .mk f m (.inr ⟨t,j⟩) r
inductive AA where
 |v (x:Value)
 |d (t:Ty) (x:El t)
 |box (c o:Nat)
 |own (c:Nat)
 |oelt (c z:Nat) (i:Nat) (o:Nat)
 |elt (t:Ty) (x:El t) (o:Nat)
 |dc (t:Ty) (xs:List (El t))
inductive AG where
 |a (x:AA)
 |agg (l:List AA)
inductive AV where
 |g (x:AG)
 |tup (l:List AG)
 |nx (b:Bool) (p:Int) (c:Int)
structure Gh where
 M:Fr
 β:Nat->Nat
 σ:Nat->Sl
def All2{α β:Type}(R:α->β->Prop):List α->List β->Prop
 |[],[]=>True
 |x::xs,y::ys=>R x y/\All2 R xs ys
 |_,_=>False
def aK(s:Sl):Value:=.slice s.a s.len s.cap
abbrev iV(x : Int): Value := .int .i64 x
abbrev tA(a : Int)(b : Bt)(c d : Sl): Value := .agg #[.int .i64 a, .string b, aK c, aK d]
abbrev tL(a : Int)(b : Bt)(c d : Sl): List Value := [.int .i64 a, .string b, aK c, aK d]
abbrev tC: Array Value := #[.int .i64 0, .string ⟨#[]⟩, .slice Te 0 0, .slice Te 0 0]
abbrev tZ: Value := .agg tC
def DenA(γ:Gh):AA->Value->Prop
 |.v x,u=>u=x
 |.d t x,u=>Rd γ.M t x [u]
 |.box c o,u=>u=.pointer (Td ⟨γ.β c,o,Te⟩)
 |.own c,u=>u=aK (γ.σ c)
 |.oelt c z i o,u=>∃g,(γ.σ c).a=Td ⟨g,0,Te⟩/\u=.pointer (Td ⟨g,i*z+o,Te⟩)
 |.elt t x o,u=>∃b f cs,u=.pointer (Td ⟨b,f+o,Te⟩)/\γ.M b=Td cs/\Rd γ.M t x (cut cs f (sz t))
 |.dc t xs,u=>∃s:Sl,u=aK s/\s.cap=s.len/\Rd γ.M (.row t) xs [u]
def DenG(γ:Gh):AG->Value->Prop
 |.a x,u=>DenA γ x u
 |.agg l,u=>∃us,u=.agg us.toArray/\All2 (DenA γ) l us
def DenV(γ:Gh):AV->Value->Prop
 |.g x,u=>DenG γ x u
 |.tup l,u=>∃us,u=.tuple us.toArray/\All2 (DenG γ) l us
 |.nx b p c,u=>(b=Ta->u=.tuple #[.bool Ta,.int .i64 p,.int .i32 c])/\(b=Tc->u=.tuple #[.bool Tc])
theorem All2.length{α β:Type}{R:α->β->Prop}:∀{l:List α} {m:List β},All2 R l m->l.length=m.length
 |[],[],_=>rfl
 |[],_::_,h=>h.elim
 |_::_,[],h=>h.elim
 |_::_,_::_,h=>by simp[All2.length h.2]
theorem All2.imp{α β:Type}{R b:α->β->Prop}:∀{l:List α} {m:List β},All2 R l m->(∀x∈l,∀y,R x y->b x y)->All2 b l m
 |[],[],_,_=>trivial
 |[],_::_,h,_=>h.elim
 |_::_,[],h,_=>h.elim
 |_::_,_::_,h,k=>⟨k _ NQ _ h.1,All2.imp h.2 λx e y c=>k x (NF _ e) y c⟩
theorem All2.append{α β:Type}{R:α->β->Prop}:∀{l b:List α} {m m':List β},All2 R l m->All2 R b m'->All2 R (l++b) (m++m')
 |[],_,[],_,_,h=>h
 |[],_,_::_,_,h,_=>h.elim
 |_::_,_,[],_,h,_=>h.elim
 |_::_,_,_::_,_,h,k=>⟨h.1,All2.append h.2 k⟩
theorem All2.take{α β:Type}{R:α->β->Prop}:∀(n:Nat) {l:List α} {m:List β},All2 R l m->All2 R (l.take n) (m.take n)
 |0,_,_,_=>by simp[All2]
 |_+1,[],[],_=>trivial
 |_+1,[],_::_,h=>h.elim
 |_+1,_::_,[],h=>h.elim
 |n+1,_::_,_::_,h=>⟨h.1,All2.take n h.2⟩
theorem All2.drop{α β:Type}{R:α->β->Prop}:∀(n:Nat) {l:List α} {m:List β},All2 R l m->All2 R (l.drop n) (m.drop n)
 |0,_,_,h=>by simpa using h
 |_+1,[],[],_=>trivial
 |_+1,[],_::_,h=>h.elim
 |_+1,_::_,[],h=>h.elim
 |n+1,_::_,_::_,h=>by simpa using All2.drop n h.2
theorem All2.get{α β:Type}{R:α->β->Prop}:∀{l:List α} {m:List β} {i:Nat} {x:α},All2 R l m->l[i]?=Td x->∃y,m[i]?=Td y/\R x y
 |[],[],_,_,_,h=>by simp at h
 |[],_::_,_,_,h,_=>h.elim
 |_::_,[],_,_,h,_=>h.elim
 |_::_,y::_,0,_,h,e=>by simp at e;subst e;exact⟨y,rfl,h.1⟩
 |_::_,_::_,i+1,_,h,e=>by simpa using All2.get h.2 (by simpa using e)
def Q8:(t:Ty)->El t->List AA
 |.int k,i=>[.v (.int k i)]
 |.bool,b=>[.v (.bool b)]
 |.str,s=>[.v (.string s)]
 |.row t,xs=>[.d (.row t) xs]
 |.tree,t=>[.v (.int .i64 t.kind),.v (.string t.text),.d (.row .str) t.keys,.d (.row .tree) t.items]
 |.unit,_=>[]
 |.pair a b,x=>Q8 a x.1++Q8 b x.2
 |.ptr t,x=>[.elt t x 0]
 |.iter,x=>[.d .iter x]
 |.err,x=>[.d .err x]
theorem j4{γ:Gh}:∀{t:Ty} {x:El t} {cs:List Value},Rd γ.M t x cs->All2 (DenA γ) (Q8 t x) cs
 |.int _,_,_,h=>by rw[h];exact⟨rfl,trivial⟩
 |.bool,_,_,h=>by rw[h];exact⟨rfl,trivial⟩
 |.str,_,_,h=>by rw[h];exact⟨rfl,trivial⟩
 |.row t,_,_,⟨v,e,h⟩=>by rw[e];exact⟨⟨v,rfl,h⟩,trivial⟩
 |.tree,_,_,h=>by obtain⟨j,i,e,f,c⟩:=TrRd.keys h;rw[e];exact⟨rfl,rfl,f,c,trivial⟩
 |.unit,_,_,h=>by rw[h];trivial
 |.pair _ _,_,_,⟨c1,c2,e,f,c⟩=>by rw[e];exact(j4 f).append (j4 c)
 |.ptr t,x,_,⟨b,o,cc,e,f,c⟩=>by rw[e];exact⟨⟨b,o,cc,rfl,f,c⟩,trivial⟩
 |.iter,x,_,h=>by rw[h];exact⟨rfl,trivial⟩
 |.err,x,_,⟨v,e,h⟩=>by rw[e];exact⟨⟨v,rfl,h⟩,trivial⟩
def iL:Ty->Bool
 |.iter=>Ta
 |.err=>Ta
 |.pair a b=>bif iL a then Ta else iL b
 |_=>Tc
theorem Rd.noIt{M:Fr}:∀{t:Ty} {x:El t} {cs:List Value},iL t=Tc->Rd M t x cs->∀s p,xe s p∉cs
 |.int _,_,_,_,h,s,p=>by rw[h];simp[xe]
 |.bool,_,_,_,h,s,p=>by rw[h];simp[xe]
 |.str,_,_,_,h,s,p=>by rw[h];simp[xe]
 |.row t,_,_,_,⟨v,e,a,c,e2,_⟩,s,p=>by rw[e,e2];simp[xe]
 |.tree,_,_,_,h,s,p=>by
  cases h with
  |mk i _ _ _=>obtain⟨a,c,e,_⟩:=i;rw[e];simp[xe]
 |.unit,_,_,_,h,s,p=>by rw[h];simp
 |.pair a b,_,_,hi,⟨c1,c2,e,h1,h2⟩,s,p=>by
  simp only[iL]at hi;cases ha:iL a with
  |true=>rw[ha]at hi;cases hi
  |false=>rw[ha]at hi;rw[e];intro f;rcases N0.1 f with f|f;exact Rd.noIt ha h1 s p f;exact Rd.noIt hi h2 s p f
 |.ptr _,_,_,_,⟨b,o,cc,e,_⟩,s,p=>by rw[e];simp[xe]
 |.iter,_,_,hi,_,_,_=>by cases hi
 |.err,_,_,hi,_,_,_=>by cases hi
def eC:List AA->Bool
 |[.d t _]=>iL t
 |[.v (.iface _ _)]=>Ta
 |_=>Tc
theorem oF{γ:Gh}{l:List AA}{us:List Value}(h:eC l=Tc)(j:All2 (DenA γ) l us)(s:Bt)(p:Nat):us≠[xe s p]:=by
 intro e;subst e
 match l,j with
 |[x],j=>
  cases x with
  |v y=>rw[<-show xe s p=y from j.1]at h;simp[eC,xe]at h
  |d t y=>exact Rd.noIt (show iL t=Tc from h) (show Rd γ.M t y [xe s p]from j.1) s p (by simp)
  |box c o=>have:xe s p=_:=j.1;simp[xe]at this
  |own c=>have:xe s p=_:=j.1;simp[xe,aK]at this
  |oelt c z i o=>obtain⟨g,_,e⟩:=j.1;simp[xe]at e
  |elt t y o=>obtain⟨b,f,cs,e,_⟩:=j.1;simp[xe]at e
  |dc t xs=>obtain⟨k,e,_⟩:=j.1;simp[xe,aK]at e
 |[],j=>exact j.elim
 |_::_::_,j=>exact j.2.elim
inductive Ch where
 |box (l:List AA)
 |row (e:TypeId) (t:Ty) (xs:List (El t))
 |fz (t:Ty) (xs:List (El t))
abbrev CS:=List (Nat×Ch)
def Zx:CS->Nat->Option Ch
 |[],_=>Te
 |(j,k)::l,i=>bif Nat.beq i j then Td k else Zx l i
theorem zu{l:CS}{i:Nat}{k:Ch}(h:Zx l i=Td k):(i,k)∈l:=by
 induction l with
 |nil=>cases h
 |cons x l c=>obtain⟨j,e⟩:=x;simp only[Zx]at h;by_cases b:Nat.beq i j=Ta;simp only[b,zI,NC]at h;subst h;rw[NJ b];exact NQ;simp only[b,zJ]at h;exact NF _ (c h)
def Za(t t':Ty)(x:El t):Option (El t'):=if h:t=t' then Td (h ▸ x)else Te
theorem Y2{M:Fr}{t t':Ty}{x:El t}{y:El t'}(h:Za t t' x=Td y)(r:Rd M t x cs):Rd M t' y cs:=by unfold Za at h;split at h;rename_i e;subst e;simp only[NC]at h;subst h;exact r;cases h
def gm(cs:CS):(t:Ty)->AA->Option (El t)
 |.int k,.v (.int k' i)=>if k=k' then Td i else Te
 |.bool,.v (.bool b)=>Td b
 |.str,.v (.string s)=>Td s
 |.row t,.v (.slice Te 0 0)=>Td ([]:List (El t))
 |.row t,.d t' x=>Za t' (.row t) x
 |.row t,.dc t' x=>Za (.row t') (.row t) x
 |.row t,.own c=>match Zx cs c with
  |some (.fz t' xs)=>Za (.row t') (.row t) xs
  |_=>Te
 |.ptr t,.elt t' x 0=>Za t' t x
 |.ptr t,.d t' x=>Za t' (.ptr t) x
 |.iter,.d t' x=>Za t' .iter x
 |.err,.d t' x=>Za t' .err x
 |.err,.v .nilIface=>Td Ta
 |.err,.v (.iface _ _)=>Td Tc
 |_,_=>Te
def collect(cs:CS):(t:Ty)->List AA->Option (El t×List AA)
 |.unit,l=>Td ((),l)
 |.pair a b,l=>match collect cs a l with
  |some (x,l')=>match collect cs b l' with
   |some (y,l'')=>Td ((x,y),l'')
   |none=>Te
  |none=>Te
 |.tree,k::s::ks::xs::l=>match gm cs (.int .i64) k,gm cs .str s,gm cs (.row .str) ks,gm cs (.row .tree) xs with
  |some k,Td s,Td ks,some xs=>Td (Tr.mk k s ks xs,l)
  |_,_,_,_=>Te
 |.tree,_=>Te
 |t,x::l=>match gm cs t x with
  |some y=>Td (y,l)
  |none=>Te
 |_,[]=>Te
def gy(γ:Gh)(cs:CS):Prop:=∀c t xs,(c,Ch.fz t xs)∈cs->Rd γ.M (.row t) xs [aK (γ.σ c)]
theorem y8{γ:Gh}{cs:CS}(j:gy γ cs){t:Ty}{x:AA}{y:El t}(h:gm cs t x=Td y){u:Value}(c:DenA γ x u):Rd γ.M t y [u]:=by unfold gm at h;split at h;split at h;rename_i k;simp only[NC]at h;subst h;subst k;exact congrArg (λu=>[u]) c;cases h;simp only[NC]at h;subst h;exact congrArg (λu=>[u]) c;simp only[NC]at h;subst h;exact congrArg (λu=>[u]) c;simp only[NC]at h;subst h;exact⟨u,rfl,Te,0,c,by simp,.inl rfl⟩;exact Y2 h c;obtain⟨s,_,_,c⟩:=c;exact Y2 h c;split at h;rename_i t' xs i;rw[show u=_ from c];exact Y2 h (j _ _ _ (zu i));cases h;rename_i t t' x;obtain⟨b,f,cs',e,m,l⟩:=c;exact⟨b,f,cs',by rw[e];rfl,m,by unfold Za at h;split at h;rename_i e;subst e;simp only[NC]at h;subst h;exact l;cases h⟩;exact Y2 h c;exact Y2 h c;exact Y2 h c;simp only[NC]at h;subst h;exact⟨u,rfl,.inl ⟨rfl,c⟩⟩;rename_i t' n;simp only[NC]at h;subst h;exact⟨u,rfl,.inr ⟨rfl,_,_,c⟩⟩;cases h
theorem Q9{γ:Gh}{cs:CS}(c:gy γ cs):∀{t:Ty} {l f:List AA} {y:El t},collect cs t l=Td (y,f)->∀{us:List Value},All2 (DenA γ) l us->∃c1 c2,us=c1++c2/\Rd γ.M t y c1/\All2 (DenA γ) f c2
 |.unit,l,f,y,h,us,hu=>by simp only[collect,NC,OJ]at h;obtain⟨_,rfl⟩:=h;exact⟨[],us,rfl,rfl,hu⟩
 |.pair a b,l,f,y,h,us,hu=>by simp only[collect]at h;split at h;rename_i x O m;split at h;rename_i z P o;simp only[NC,OJ]at h;obtain⟨rfl,rfl⟩:=h;obtain⟨c1,c2,rfl,j,i⟩:=Q9 c m hu;obtain⟨q,F,rfl,p,n⟩:=Q9 c o i;exact⟨c1++q,F,by simp,⟨c1,q,rfl,j,p⟩,n⟩;cases h;cases h
 |.tree,l,f,y,h,us,hu=>by
  match l,us,hu,h with
  |k::s::ks::xs::l,u1::u2::u3::u4::us,hu,h=>simp only[collect]at h;split at h;rename_i H A N D m o J G;simp only[NC,OJ]at h;obtain⟨rfl,rfl⟩:=h;obtain⟨E,r,I,B,w⟩:=hu;have j:=y8 c m E;have i:=y8 c o r;have p:=y8 c J I;have n:=y8 c G B;refine⟨[u1,u2,u3,u4],us,rfl,?_,w⟩;have C:[u1]=[OH .i64 H]:=j;have L:[u2]=[OK A]:=i;cases C;cases L;exact TrRd.of p n;cases h
  |[],_,_,h=>simp[collect]at h
  |[_],_,_,h=>simp[collect]at h
  |[_,_],_,_,h=>simp[collect]at h
  |[_,_,_],_,_,h=>simp[collect]at h
  |_::_::_::_::_,[],hu,_=>exact hu.elim
  |_::_::_::_::_,[_],hu,_=>exact hu.2.elim
  |_::_::_::_::_,[_,_],hu,_=>exact hu.2.2.elim
  |_::_::_::_::_,[_,_,_],hu,_=>exact hu.2.2.2.elim
 |.int k,x::l,f,y,h,u::us,hu=>by simp only[collect]at h;split at h;rename_i z e;simp only[NC,OJ]at h;obtain⟨rfl,rfl⟩:=h;exact⟨[u],us,rfl,y8 c e hu.1,hu.2⟩;cases h
 |.bool,x::l,f,y,h,u::us,hu=>by simp only[collect]at h;split at h;rename_i z e;simp only[NC,OJ]at h;obtain⟨rfl,rfl⟩:=h;exact⟨[u],us,rfl,y8 c e hu.1,hu.2⟩;cases h
 |.str,x::l,f,y,h,u::us,hu=>by simp only[collect]at h;split at h;rename_i z e;simp only[NC,OJ]at h;obtain⟨rfl,rfl⟩:=h;exact⟨[u],us,rfl,y8 c e hu.1,hu.2⟩;cases h
 |.row _,x::l,f,y,h,u::us,hu=>by simp only[collect]at h;split at h;rename_i z e;simp only[NC,OJ]at h;obtain⟨rfl,rfl⟩:=h;exact⟨[u],us,rfl,y8 c e hu.1,hu.2⟩;cases h
 |.ptr _,x::l,f,y,h,u::us,hu=>by simp only[collect]at h;split at h;rename_i z e;simp only[NC,OJ]at h;obtain⟨rfl,rfl⟩:=h;exact⟨[u],us,rfl,y8 c e hu.1,hu.2⟩;cases h
 |.iter,x::l,f,y,h,u::us,hu=>by simp only[collect]at h;split at h;rename_i z e;simp only[NC,OJ]at h;obtain⟨rfl,rfl⟩:=h;exact⟨[u],us,rfl,y8 c e hu.1,hu.2⟩;cases h
 |.iter,_::_,_,_,_,[],hu=>hu.elim
 |.iter,[],_,_,h,_,_=>by simp[collect]at h
 |.err,x::l,f,y,h,u::us,hu=>by simp only[collect]at h;split at h;rename_i z e;simp only[NC,OJ]at h;obtain⟨rfl,rfl⟩:=h;exact⟨[u],us,rfl,y8 c e hu.1,hu.2⟩;cases h
 |.err,_::_,_,_,_,[],hu=>hu.elim
 |.err,[],_,_,h,_,_=>by simp[collect]at h
 |.int _,_::_,_,_,_,[],hu=>hu.elim
 |.bool,_::_,_,_,_,[],hu=>hu.elim
 |.str,_::_,_,_,_,[],hu=>hu.elim
 |.row _,_::_,_,_,_,[],hu=>hu.elim
 |.ptr _,_::_,_,_,_,[],hu=>hu.elim
 |.int _,[],_,_,h,_,_=>by simp[collect]at h
 |.bool,[],_,_,h,_,_=>by simp[collect]at h
 |.str,[],_,_,h,_,_=>by simp[collect]at h
 |.row _,[],_,_,h,_,_=>by simp[collect]at h
 |.ptr _,[],_,_,h,_,_=>by simp[collect]at h
end Go.X
end
section
namespace Go.X
section
variable {M M':Fr} {h h':za} {b c o n0:Nat} {γ γ':Gh} {us:List Value} {u:Value} {t:Ty} {cs C R:CS} {e:TypeId}
def AgM(M:Fr)(h:za):Prop:=∀b c,M b=Td c->∃T m,h[b]?=Td (.cells c T m)
theorem AgM.lt(H:AgM M h){c:Array Value}(e:M b=Td c):b<h.size:=by obtain⟨T,m,f⟩:=H b c e;exact(NK.1 f).1
theorem AgM.none{M:Fr}{h:za}(H:AgM M h){b:Nat}(f:h.size<=b):M b=Te:=by
 cases e:M b with
 |none=>rfl
 |some c=>have:=H.lt e;omega
theorem AgM.cell(H:AgM M h){c:Array Value}{v:Value}(e:M b=Td c)(i:c[o]?=Td v):zb h ⟨b,o,Option.none⟩=Td v:=by obtain⟨T,m,f⟩:=H b c e;unfold zb;simp[f,i]
def Gx(c:Option Nat)(γ γ':Gh):Prop:=Fr.le γ.M γ'.M/\∀i,c≠Td i->γ'.β i=γ.β i/\γ'.σ i=γ.σ i
theorem Gx.refl(c:Option Nat)(γ:Gh):Gx c γ γ:=⟨Fr.le.refl _,λ_ _=>⟨rfl,rfl⟩⟩
def fy(c:Nat):AA->Bool
 |.box j _=>Nat.beq j c
 |.own j=>Nat.beq j c
 |.oelt j _ _ _=>Nat.beq j c
 |_=>Tc
def eE(c:Nat):List AA->Bool
 |[]=>Tc
 |x::l=>bif fy c x then Ta else eE c l
def fB(c:Nat):Ch->Bool
 |.box l=>eE c l
 |_=>Tc
def mP(c:Nat):AG->Bool
 |.a x=>fy c x
 |.agg l=>eE c l
def oI(c:Nat):List AG->Bool
 |[]=>Tc
 |x::l=>bif mP c x then Ta else oI c l
def gg(c:Nat):AV->Bool
 |.g x=>mP c x
 |.tup l=>oI c l
 |.nx _ _ _=>Tc
def fS{α:Type}(f:Nat->α->Bool):Option Nat->α->Bool
 |none,_=>Tc
 |some c,x=>f c x
theorem mt{j c:Nat}(h:Nat.beq j c=Tc):Td c≠Td j:=by intro e;simp only[NC]at e;subst e;simp at h
theorem DenA.gx{c:Option Nat}(g:Gx c γ γ'):∀{x:AA} {u:Value},fS fy c x=Tc->DenA γ x u->DenA γ' x u
 |.v _,_,_,h=>h
 |.d _ _,_,_,h=>Rd.mono g.1 h
 |.box j o,u,hm,h=>by
  have:c≠Td j:=by cases c with|none=>simp|some c=>exact mt hm
  rw[show u=_ from h];simp only[DenA,(g.2 j this).1]
 |.own j,u,hm,h=>by
  have:c≠Td j:=by cases c with|none=>simp|some c=>exact mt hm
  rw[show u=_ from h];simp only[DenA,(g.2 j this).2]
 |.oelt j z i o,u,hm,h=>by
  have:c≠Td j:=by cases c with|none=>simp|some c=>exact mt hm
  obtain⟨b,l,k⟩:=h;exact⟨b,by rw[(g.2 j this).2];exact l,k⟩
 |.elt _ _ _,_,_,⟨b,f,cs,e,h1,h2⟩=>⟨b,f,cs,e,g.1 _ _ h1,Rd.mono g.1 h2⟩
 |.dc _ _,_,_,⟨s,l,k,h⟩=>⟨s,l,k,Rd.mono g.1 h⟩
theorem MR{l:List AA}(h:eE c l=Tc):∀x∈l,fy c x=Tc:=by
 induction l with
 |nil=>intro x b;cases b
 |cons y l e=>
  intro x b;simp only[eE]at h;cases hy:fy c y with
  |true=>simp[hy]at h
  |false=>simp only[hy,zJ]at h;rcases NI.1 b with rfl|b;exact hy;exact e h x b
theorem DenL.gx{c:Option Nat}(g:Gx c γ γ'){l:List AA}(b:fS eE c l=Tc)(h:All2 (DenA γ) l us):All2 (DenA γ') l us:= h.imp λx f u e=>DenA.gx g (by cases c with|none=>rfl|some c=>exact MR b x f) e
theorem DenG.gx{c:Option Nat}(g:Gx c γ γ'){x:AG}(b:fS mP c x=Tc)(h:DenG γ x u):DenG γ' x u:=by
 cases x with
 |a x=>exact DenA.gx g (by cases c <;> exact b) h
 |agg l=>obtain⟨us,e,h⟩:=h;exact⟨us,e,DenL.gx g (by cases c <;> exact b) h⟩
theorem Kj{l:List AG}(h:oI c l=Tc):∀x∈l,mP c x=Tc:=by
 induction l with
 |nil=>intro x b;cases b
 |cons y l e=>
  intro x b;simp only[oI]at h;cases hy:mP c y with
  |true=>simp[hy]at h
  |false=>simp only[hy,zJ]at h;rcases NI.1 b with rfl|b;exact hy;exact e h x b
theorem DenV.gx{c:Option Nat}(g:Gx c γ γ'){x:AV}(f:fS gg c x=Tc)(h:DenV γ x u):DenV γ' x u:=by
 cases x with
 |g x=>exact DenG.gx g (by cases c <;> exact f) h
 |tup l=>obtain⟨us,e,h⟩:=h;exact⟨us,e,h.imp λx j u i=>DenG.gx g (by cases c with|none=>rfl|some c=>exact Kj f x j) i⟩
 |nx b p c=>exact h
def RowC(M:Fr)(t:Ty)(xs:List (El t))(cells:List Value):Prop:=
 cells.length=xs.length*sz t/\∀i (h:i<xs.length),Rd M t xs[i] ((cells.drop (i*sz t)).take (sz t))
theorem RowC.mono(b:Fr.le M M'){xs:List (El t)}{cells:List Value}(H:RowC M t xs cells):RowC M' t xs cells:=⟨H.1,λi h=>Rd.mono b (H.2 i h)⟩
theorem RowC.nil(M:Fr)(t:Ty):RowC M t [] []:=⟨by simp,λi h=>absurd h (by simp)⟩
theorem RowC.single{x:El t}{cs:List Value}(h:Rd M t x cs):RowC M t [x] cs:=by
 have b:=h.len;refine⟨by simp[b],λi hi=>?_⟩;have:i=0:=by simpa using hi
 subst this;simp only[QS,Pv,PS,<-b,N7];exact h
theorem RowC.append{xs ys:List (El t)}{c1 c2:List Value}(f:RowC M t xs c1)(k:RowC M t ys c2):RowC M t (xs++ys) (c1++c2):=by
 refine⟨by rw[NH,NH,f.1,k.1,O2],λi hi=>?_⟩;by_cases b:i<xs.length;rw[List.getElem_append_left b];have j:(i+1)*sz t<=c1.length:=by rw[f.1];exact Oa _ b
 rw[O2,Rc]at j;rw[List.drop_append_of_le_length (by omega),Pr (by rw[ON];omega)];exact f.2 i b;have c:xs.length<=i:=by omega
 rw[List.getElem_append_right c];have h:i-xs.length<ys.length:=by rw[NH]at hi;omega
 have:=k.2 (i-xs.length) h;have e:(c1++c2).drop (i*sz t)=c2.drop ((i-xs.length)*sz t):=by
  rw[List.drop_append];have:c1.length<=i*sz t:=by rw[f.1];exact Oa _ c
  rw[Pd this,OU,f.1,<-Nat.sub_mul]
 rw[e];exact this
theorem RowC.one{xs:List (El t)}{cells:List Value}(H:RowC M t xs cells):∀v∈cells,v.oneCell'=Ta:=by
 intro v c;obtain⟨j,b,rfl⟩:=List.getElem_of_mem c;have e:0<sz t:=by rcases QK (sz t)with h|h;rw[H.1,h,Nat.mul_zero]at b;omega;exact h
 have hi:j / sz t<xs.length:=by rw[H.1]at b;exact Nat.div_lt_of_lt_mul (by rw[QA];exact b)
 refine Rd.one (H.2 _ hi) _ ?_;rw[List.mem_iff_getElem?];refine⟨j % sz t,?_⟩;rw[N4,zz (Nat.mod_lt _ e),Oj,QA,Nat.div_add_mod,NL b]
theorem RowC.rd{xs:List (El t)}{cells:List Value}(H:RowC M t xs cells){cs:Array Value}(j:M b=Td cs)(k:(cs.toList.drop o).take (xs.length*sz t)=cells)(h:xs.length<=140737488355328/\xs.length<=c):
  Rd M (.row t) xs [.slice (Td ⟨b,o,Te⟩) xs.length c]:=by
 refine⟨_,rfl,_,_,rfl,h,.inr ⟨b,o,cs,rfl,j,λi hi=>?_⟩⟩;have:=H.2 i hi;rw[<-k]at this;have f:(i+1)*sz t<=xs.length*sz t:=Oa _ hi;rw[O2,Rc]at f;have e:(((cs.toList.drop o).take (xs.length*sz t)).drop (i*sz t)).take (sz t)=cut cs (o+i*sz t) (sz t):=by unfold cut;rw[List.drop_take,List.take_take,QO,P5 (by omega)]
 rw[e]at this;exact this
theorem Rd.rowC(ag:AgM M h){xs:List (El t)}(H:Rd M (.row t) xs [u]):∃s:Sl,u=aK s/\s.len=xs.length/\(xs.length<=140737488355328/\xs.length<=s.cap)/\∃cells,RowC M t xs cells/\Arr h.size h s.a cells:=by
 obtain⟨v,e,a,c,rfl,p,H⟩:=H;cases e;refine⟨⟨a,xs.length,c⟩,rfl,rfl,p,?_⟩;rcases H with rfl|⟨b,o,cs,rfl,m,hi⟩;exact⟨[],RowC.nil _ _,.inl rfl⟩;have f:xs=[]\/xs.length*sz t<=(cs.toList.drop o).length:=by
  rcases QK xs.length with h0|h0;exact .inl (N5 h0);right;have:=(hi (xs.length-1) (by omega)).len;unfold cut at this;rw[N8,ON]at this;rw[ON];rcases QK (sz t)with n|n;rw[n];simp;have e:xs.length*sz t=(xs.length-1)*sz t+sz t:=by rw[<-QB];congr 1;omega
  rw[e];omega
 rcases f with rfl|f;exact⟨[],RowC.nil _ _,.inl rfl⟩;refine⟨(cs.toList.drop o).take (xs.length*sz t),⟨by rw[N8];omega,λi k=>?_⟩,.inr ⟨b,o,rfl,ag.lt m,λi v j=>?_⟩⟩;have:=hi i k;have l:(i+1)*sz t<=xs.length*sz t:=Oa _ k;rw[O2,Rc]at l;unfold cut at this;rw[List.drop_take,List.take_take,QO,P5 (by omega)];exact this;refine ag.cell m ?_;rw[N4]at j;split at j;rw[Oj]at j;simpa using j;cases j
def rG(o:Option Obj)(us:List Value):Prop:=((∃T,o=Td (.cells us.toArray T (0,0)))/\∀s p,us≠[xe s p])\/(∃s p,us=[xe s p]/\o=Td (.stringIter s p))
def DenC(n0:Nat)(γ:Gh)(h:za)(c:Nat):Ch->Prop
 |.box l=>∃us,rG h[γ.β c]? us/\All2 (DenA γ) l us
 |.row e t xs=>∃cells,Owns h n0 e (sz t) (γ.σ c) cells/\RowC γ.M t xs cells/\xs.length<=140737488355328/\(γ.σ c).len=xs.length
 |.fz t xs=>Rd γ.M (.row t) xs [aK (γ.σ c)]
def blk(γ:Gh)(c:Nat):Ch->Option Nat
 |.box _=>Td (γ.β c)
 |.row _ _ _=>(γ.σ c).a.map (·.block)
 |.fz _ _=>Te
structure Inv (h0:za) (W:Nat->Prop) (M0:Fr) (cs:CS) (γ:Gh) (h:za):Prop where
 ag:AgM γ.M h
 frame:∀i,i<h0.size->¬W i->h[i]?=h0[i]?
 size:h0.size<=h.size
 old:∀b,b<h0.size->γ.M b=M0 b
 le:Fr.le M0 γ.M
 den:∀x∈cs,DenC h0.size γ h x.1 x.2
 sep:∀x∈cs,∀b,blk γ x.1 x.2=Td b->(h0.size<=b\/W b)/\γ.M b=Te
 apart:cs.Pairwise λx y=>∀b,blk γ x.1 x.2=Td b->blk γ y.1 y.2≠Td b
variable {h0 : za} {W : Nat -> Prop} {M0 : Fr}
theorem DenC.lt{k:Ch}(H:DenC n0 γ h c k):∀b,blk γ c k=Td b->b<h.size:=by
 intro b f;cases k with
 |box l=>obtain⟨us,e,_⟩:=H;simp only[blk,NC]at f;subst f;rcases e with⟨⟨T,e⟩,_⟩|⟨s,p,_,e⟩;exact(NK.1 e).1;exact(NK.1 e).1
 |row e t xs=>obtain⟨cells,j,_⟩:=H;simp only[blk,Pn]at f;obtain⟨p,i,rfl⟩:=f;exact(j.base_le p i).2
 |fz t xs=>cases f
theorem DenC.gx{c:Option Nat}(g:Gx c γ γ'){j:Nat}{k:Ch}(u:c≠Td j)(w:fS fB c k=Tc)(H:DenC n0 γ h j k)(m:∀b,blk γ j k=Td b->h'[b]?=h[b]?):DenC n0 γ' h' j k:=by
 obtain⟨r,f⟩:=g.2 j u;cases k with
 |box l=>obtain⟨us,e,i⟩:=H;exact⟨us,by rw[r,m _ rfl];exact e,DenL.gx g (by cases c <;> exact w) i⟩
 |row e t xs=>obtain⟨cells,i,s,q,n⟩:=H;refine⟨cells,?_,s.mono g.1,q,by rw[f];exact n⟩;rw[f];exact i.keep λp o=>m _ (by simp[blk,o])
 |fz t xs=>simp only[DenC,f];exact Rd.mono g.1 H
theorem jR{c:Option Nat}(g:Gx c γ γ'){j:Nat}(k:Ch)(f:c≠Td j):blk γ' j k=blk γ j k:=by obtain⟨e,b⟩:=g.2 j f;cases k <;> simp[blk,e,b]
theorem Inv.rest{cs rest:CS}{γ γ':Gh}{h h':za}(I:Inv h0 W M0 cs γ h)(hsub:rest.Sublist cs){c:Option Nat}(g:Gx c γ γ') (hmen:∀x∈rest,c≠Td x.1/\fS fB c x.2=Tc) (hk:∀x∈rest,∀b,blk γ x.1 x.2=Td b->h'[b]?=h[b]?/\γ'.M b=Te)
  (ag:AgM γ'.M h') (hframe:∀i,i<h0.size->¬W i->h'[i]?=h[i]?) (hsize:h.size<=h'.size) (hold:∀b,b<h0.size->γ'.M b=γ.M b):Inv h0 W M0 rest γ' h' where
 ag:=ag
 frame:=λi hi hw=>(hframe i hi hw).trans (I.frame i hi hw)
 size:=OD I.size hsize
 old:=λb hb=>(hold b hb).trans (I.old b hb)
 le:=I.le.trans g.1
 den:=λx hx=>(I.den x (hsub.subset hx)).gx g (hmen x hx).1 (hmen x hx).2 λb hb=>(hk x hx b hb).1
 sep:=λx hx b hb=>by rw[jR g _ (hmen x hx).1]at hb;exact⟨(I.sep x (hsub.subset hx) b hb).1,(hk x hx b hb).2⟩
 apart:=by refine(I.apart.sublist hsub).imp_of_mem λ {x y} hx hy h=>?_;intro b hb;rw[jR g _ (hmen x hx).1]at hb;rw[jR g _ (hmen y hy).1];exact h b hb
theorem Inv.cons{rest:CS}(I:Inv h0 W M0 rest γ h){k:Ch}(hd:DenC h0.size γ h c k)(hs:∀b,blk γ c k=Td b->(h0.size<=b\/W b)/\γ.M b=Te)
  (ha:∀b,blk γ c k=Td b->∀x∈rest,blk γ x.1 x.2≠Td b):Inv h0 W M0 ((c,k)::rest) γ h where
 ag:=I.ag
 frame:=I.frame
 size:=I.size
 old:=I.old
 le:=I.le
 den:=λx hx=>by rcases NI.1 hx with rfl|hx;exact hd;exact I.den x hx
 sep:=λx hx=>by rcases NI.1 hx with rfl|hx;exact hs;exact I.sep x hx
 apart:=Oi.2 ⟨λy hy b hb=>ha b hb y hy,I.apart⟩
theorem Inv.sub{cs rest:CS}(I:Inv h0 W M0 cs γ h)(hsub:rest.Sublist cs):Inv h0 W M0 rest γ h where
 ag:=I.ag
 frame:=I.frame
 size:=I.size
 old:=I.old
 le:=I.le
 den:=λx hx=>I.den x (hsub.subset hx)
 sep:=λx hx=>I.sep x (hsub.subset hx)
 apart:=I.apart.sublist hsub
theorem Inv.fz(I:Inv h0 W M0 cs γ h):gy γ cs:=λc t xs b=>I.den _ b
theorem Inv.call(I:Inv h0 W M0 cs γ h)(k:Keep h.size h h')(m:Fr.le γ.M M')(e:∀b,b<h.size->M' b=γ.M b)(ag:AgM M' h'):Inv h0 W M0 cs { γ with M:=M' } h':= I.rest (List.Sublist.refl _) (c:=Te) ⟨m,λ_ _=>⟨rfl,rfl⟩⟩ (λx _=>⟨by simp,rfl⟩) (λx l b j=>by have f:=(I.den x l).lt b j;exact⟨k.get b f,(e b f).trans (I.sep x l b j).2⟩) ag (λi hi _=>k.get i (PU hi I.size)) k.size (λb j=>e b (PU j I.size))
def qe(c:Nat):CS->CS
 |[]=>[]
 |(j,k)::l=>bif (bif Nat.beq j c then Ta else fB c k)then qe c l else(j,k)::qe c l
def qd(c:Nat):CS->Bool
 |[]=>Ta
 |(j,k)::l=>bif (bif Nat.beq j c then Ta else fB c k)then Tc else qd c l
def Y3(c:Nat):CS->CS
 |[]=>[]
 |(j,k)::l=>bif Nat.beq j c then Y3 c l else(j,k)::Y3 c l
theorem je(c:Nat):∀l:CS,(qe c l).Sublist l
 |[]=>.slnil
 |(j,k)::l=>by
  simp only[qe];cases(bif Nat.beq j c then Ta else fB c k)with
  |true=>exact(je c l).cons _
  |false=>exact(je c l).cons_cons _
theorem jr(c:Nat):∀l:CS,(Y3 c l).Sublist l
 |[]=>.slnil
 |(j,k)::l=>by
  simp only[Y3];cases Nat.beq j c with
  |true=>exact(jr c l).cons _
  |false=>exact(jr c l).cons_cons _
theorem tT{c:Nat}:∀{l:CS} {x:Nat×Ch},x∈qe c l->Td c≠Td x.1/\fB c x.2=Tc
 |(j,k)::l,x,h=>by
  simp only[qe]at h;cases hb:(bif Nat.beq j c then Ta else fB c k)with
  |true=>rw[hb]at h;exact tT h
  |false=>
   rw[hb]at h;rcases NI.1 h with rfl|h;cases hj:Nat.beq j c with
   |true=>simp[hj]at hb
   |false=>simp only[hj,zJ]at hb;exact⟨mt hj,hb⟩
   exact tT h
theorem Zy{c:Nat}:∀{l:CS},qd c l=Ta->∀x∈l,Td c≠Td x.1/\fB c x.2=Tc
 |[],_,x,h=>by cases h
 |(j,k)::l,hn,x,h=>by
  simp only[qd]at hn;cases hb:(bif Nat.beq j c then Ta else fB c k)with
  |true=>rw[hb]at hn;cases hn
  |false=>
   rw[hb]at hn;rcases NI.1 h with rfl|h;cases hj:Nat.beq j c with
   |true=>simp[hj]at hb
   |false=>simp only[hj,zJ]at hb;exact⟨mt hj,hb⟩
   exact Zy hn x h
theorem Qp{c:Nat}:∀{l:CS} {x:Nat×Ch},x∈Y3 c l->x∈l/\x.1≠c
 |(j,k)::l,x,h=>by
  simp only[Y3]at h;cases hb:Nat.beq j c with
  |true=>rw[hb]at h;exact⟨NF _ (Qp h).1,(Qp h).2⟩
  |false=>rw[hb]at h;rcases NI.1 h with rfl|h;refine⟨NQ,λe=>?_⟩;simp only at e;subst e;simp at hb;exact⟨NF _ (Qp h).1,(Qp h).2⟩
def fK(γ:Gh)(c b:Nat):Gh:={ γ with β:=λi=>bif Nat.beq i c then b else γ.β i }
def eW(γ:Gh)(c:Nat)(s:Sl):Gh:={ γ with σ:=λi=>bif Nat.beq i c then s else γ.σ i }
theorem Wv(γ:Gh)(c b:Nat):Gx (Td c) γ (fK γ c b):=⟨Fr.le.refl _,λi hi=>by
 have:Nat.beq i c=Tc:=by
  cases h:Nat.beq i c with
  |false=>rfl
  |true=>exact absurd (congrArg Td (NJ h).symm) hi
 simp[fK,this]⟩
theorem Zb(γ:Gh)(c:Nat)(s:Sl):Gx (Td c) γ (eW γ c s):=⟨Fr.le.refl _,λi hi=>by
 have:Nat.beq i c=Tc:=by
  cases h:Nat.beq i c with
  |false=>rfl
  |true=>exact absurd (congrArg Td (NJ h).symm) hi
 simp[eW,this]⟩
theorem xt(γ:Gh)(c b:Nat):(fK γ c b).β c=b:=by simp[fK]
theorem qi(γ:Gh)(c:Nat)(s:Sl):(eW γ c s).σ c=s:=by simp[eW]
theorem iK(e:qd c R=Ta):∀x∈qe c C++R,Td c≠Td x.1/\fS fB (Td c) x.2=Tc:=by intro x b;rcases N0.1 b with b|b;exact tT b;exact Zy e x b
theorem Inv.newBoxO(I:Inv h0 W M0 (C++R) γ h)(p:qd c R=Ta){l:List AA}(t:All2 (DenA γ) l us)(s:eE c l=Tc){o:Obj}(n:rG (Td o) us):
  Inv h0 W M0 ((c,.box l)::qe c C++R) (fK γ c h.size) (h.push o):=by
 have k:∀x∈qe c C++R,∀b,blk γ x.1 x.2=Td b->b<h.size:=λx j b f=>(I.den x (((je c C).append_right R).subset j)).lt b f;have q:Inv h0 W M0 (qe c C++R) (fK γ c h.size) (h.push o):=by refine I.rest ((je c C).append_right R) (Wv γ c h.size) (iK p) (λx j b f=>?_) (λb w e=>?_) (λi hi _=>?_) (by simp) (λb f=>rfl);have:=k x j b f;exact⟨by rw[OZ,zv (by omega)],(I.sep x (((je c C).append_right R).subset j) b f).2⟩;have:=I.ag.lt e;obtain⟨u,m,r⟩:=I.ag b w e;exact⟨u,m,by rw[OZ,zv (by omega)];exact r⟩;have:=I.size;rw[OZ,zv (by omega)]
 refine q.cons ⟨us,by rw[xt,qq];exact n,DenL.gx (Wv γ c h.size) s t⟩ (λb f=>?_) (λb f x j e=>?_);simp only[blk,xt,NC]at f;subst f;exact⟨.inl I.size,I.ag.none (ND _)⟩;simp only[blk,xt,NC]at f;subst f;rw[jR (Wv γ c h.size) _ (iK p x j).1]at e;have:=k x j _ e;omega
theorem Inv.newBox(I:Inv h0 W M0 (C++R) γ h)(f:qd c R=Ta){l:List AA}(e:All2 (DenA γ) l us)(i:eE c l=Tc)(b:eC l=Tc)(T:TypeId):
  Inv h0 W M0 ((c,.box l)::qe c C++R) (fK γ c h.size) (h.push (.cells us.toArray T)):=
 Inv.newBoxO I f e i (.inl ⟨⟨T,rfl⟩,λs p=>oF b e s p⟩)
theorem mX{α:Type}{R:α->α->Prop}(e:∀x y,R x y->R y x):∀{l:List α},l.Pairwise R->∀{x y:α},x∈l->y∈l->x≠y->R x y
 |[],_,_,_,hx,_,_=>by cases hx
 |z::l,h,x,y,hx,hy,hne=>by rw[Oi]at h;rcases NI.1 hx with f|i;rcases NI.1 hy with b|c;exact absurd (f.trans b.symm) hne;rw[f];exact h.1 _ c;rcases NI.1 hy with b|c;rw[b];exact e _ _ (h.1 _ i);exact mX e h.2 i c hne
theorem Inv.setBox(I:Inv h0 W M0 (C++R) γ h){l w:List AA}(B:(c,Ch.box l)∈C)(e:rG h'[γ.β c]? us)
  (r:∀i,i≠γ.β c->h'[i]?=h[i]?) (M:h'.size=h.size) (F:All2 (DenA γ) w us) (L:∀x∈R,x.1≠c):Inv h0 W M0 ((c,.box w)::Y3 c C++R) γ h':=by
 have j:=I.sep _ (NT R B) _ rfl;have n:∀x∈Y3 c C++R,blk γ x.1 x.2≠Td (γ.β c):=by
  intro x k;have t:x≠(c,Ch.box l):=by rintro rfl;rcases N0.1 k with k|k;exact(Qp k).2 rfl;exact L _ k rfl
  have q:x∈C++R:=((jr c C).append_right R).subset k;have D:=@mX _ (λ(x y:Nat×Ch)=>∀b,blk γ x.1 x.2=Td b->blk γ y.1 y.2≠Td b) (λx y h b f s=>h b s f) _ I.apart;intro f;exact D (NT R B) q (λe=>t e.symm) _ rfl f
 have E:Inv h0 W M0 (Y3 c C++R) γ h':=by refine I.rest ((jr c C).append_right R) (c:=Te) (Gx.refl _ _) (λx _=>⟨by simp,rfl⟩) (λx k b f=>?_) (λb H p=>?_) (λi hi u=>?_) (by omega) (λb f=>rfl);exact⟨r b λo=>n x k (o ▸ f),(I.sep x (((jr c C).append_right R).subset k) b f).2⟩;obtain⟨G,m,o⟩:=I.ag b H p;exact⟨G,m,by rw[r b λJ=>by rw[J,j.2]at p;cases p];exact o⟩;refine r i λo=>?_;have z:=j.1;simp only at z;rcases z with A|A;omega;rw[o]at u;exact u A
 refine E.cons ⟨us,e,F⟩ (λb f=>?_) (λb f x k=>?_);simp only[blk,NC]at f;subst f;exact j;simp only[blk,NC]at f;subst f;exact n x k
theorem Inv.newRow(I:Inv h0 W M0 (C++R) γ h)(E:qd c R=Ta)(F:h.size<=h'.size){p:Option Nat}(A:∀i,i<h.size->p≠Td i->h'[i]?=h[i]?) (r:∀b,p=Td b->h0.size<=b/\γ.M b=Te/\∀x∈C++R,blk γ x.1 x.2≠Td b) {s:Sl} {xs:List (El t)} {cells:List Value} (w:Owns h' h0.size e (sz t) s cells) (l:∀q,s.a=Td q->p=Td q.block\/q.block=h.size) (y:RowC γ.M t xs cells) (H:xs.length<=140737488355328) (J:s.len=xs.length):
  Inv h0 W M0 ((c,.row e t xs)::qe c C++R) (eW γ c s) h':=by
 have f:=(je c C).append_right R;have u:∀x∈qe c C++R,∀b,blk γ x.1 x.2=Td b->b<h.size:=λx n b l=>(I.den x (f.subset n)).lt b l;have G:Inv h0 W M0 (qe c C++R) (eW γ c s) h':=by refine I.rest f (Zb γ c s) (iK E) (λx n b l=>?_) (λb D z=>?_) (λi hi O=>?_) F (λb l=>rfl);exact⟨A b (u x n b l) λk=>(r b k).2.2 x (f.subset n) l,(I.sep x (f.subset n) b l).2⟩;obtain⟨L,m,k⟩:=I.ag b D z;exact⟨L,m,by rw[A b (I.ag.lt z) λN=>by have:=(r b N).2.1;rw[show γ.M b=Td D from z]at this;cases this];exact k⟩;have:=I.size;refine A i (by omega) λk=>?_;have:=(r i k).1;omega
 refine G.cons ⟨cells,by rw[qi];exact w,y,H,by rw[qi];exact J⟩ (λb j=>?_) (λb j x n k=>?_);simp only[blk,qi,Pn]at j;obtain⟨q,B,rfl⟩:=j;rcases l q B with o|o;exact⟨.inl (r _ o).1,(r _ o).2.1⟩;rw[o];exact⟨.inl I.size,I.ag.none (ND _)⟩;simp only[blk,qi,Pn]at j;obtain⟨q,B,rfl⟩:=j;rw[jR (Zb γ c s) _ (iK E x n).1]at k;rcases l q B with o|o;exact(r _ o).2.2 x (f.subset n) k;rw[o]at k;have:=u x n _ k;omega
def jJ(c:Nat):CS->CS
 |[]=>[]
 |(j,k)::l=>bif Nat.beq j c then(match k with
  |.row _ t xs=>(j,.fz t xs)::jJ c l
  |k=>(j,k)::jJ c l)else(j,k)::jJ c l
def dY(γ:Gh)(b:Nat)(cs:Array Value):Gh:={ γ with M:=λi=>bif Nat.beq i b then Td cs else γ.M i }
theorem Inv.freeze1{A C:CS}{xs:List (El t)}(I:Inv h0 W M0 (A++(c,.row e t xs)::C) γ h):∃γ',Inv h0 W M0 (A++(c,.fz t xs)::C) γ' h/\Gx Te γ γ':=by
 obtain⟨cells,B,q,Y,Q⟩:=I.den (c,.row e t xs) (by simp);have P:=q.1;rcases B.2 with⟨m,Z⟩|⟨g,cap,j,m,l,N,V,O,U,u⟩;refine⟨γ,?_,Gx.refl _ _⟩;have E:xs=[]:=N5 (by omega);have G:DenC h0.size γ h c (.fz t xs):=by subst E;simp only[N6]at m;exact⟨_,rfl,Te,0,by simp[aK,m],⟨by simp,by simp⟩,.inl rfl⟩
 have k:∀x,x∈A++(c,Ch.fz t xs)::C->x∈A++(c,Ch.row e t xs)::C\/x=(c,Ch.fz t xs):=by intro x f;simp only[N0,NI]at f ⊢;rcases f with h|h|h;exact .inl (.inl h);exact .inr h;exact .inl (.inr (.inr h))
 refine⟨I.ag,I.frame,I.size,I.old,I.le,λx f=>?_,λx f b i=>?_,?_⟩;rcases k x f with h|rfl;exact I.den x h;exact G;rcases k x f with h|rfl;exact I.sep x h b i;cases i;have:=I.apart;simp only[Oh,Oi]at this ⊢;obtain⟨a1,⟨a2,D⟩,w⟩:=this;refine⟨a1,⟨λy n b i=>(by simp[blk]at i),D⟩,λx f y n b i=>?_⟩;rcases NI.1 n with rfl|n;simp[blk];exact w x f y (NF _ n) b i;simp only[N6]at m;have H:γ.M g=Te:=(I.sep (c,.row e t xs) (by simp) g (by simp[blk,m.1])).2;have z:Fr.le γ.M (dY γ g j).M:=by
  intro b J r;have:Nat.beq b g=Tc:=by
   cases i:Nat.beq b g with
   |false=>rfl
   |true=>rw[NJ i,H]at r;cases r
  simp[dY,this,r]
 have gx:Gx Te γ (dY γ g j):=⟨z,λ_ _=>⟨rfl,rfl⟩⟩;have L:g<h.size:=(NK.1 N).1;have F:∀x,x∈A++C->blk γ x.1 x.2≠Td g:=by intro x f;have:=I.apart;simp only[Oh,Oi]at this;obtain⟨a1,⟨a2,D⟩,w⟩:=this;rcases N0.1 f with f|f;intro i;exact w x f (c,.row e t xs) NQ g i (by simp[blk,m.1]);exact a2 x f g (by simp[blk,m.1])
 have s:∀b,b≠g->(dY γ g j).M b=γ.M b:=by
  intro b i;have:Nat.beq b g=Tc:=by
   cases h:Nat.beq b g with
   |false=>rfl
   |true=>exact absurd (NJ h) i
  simp[dY,this]
 have p:Inv h0 W M0 (A++C) (dY γ g j) h:=by
  refine I.rest (by simp) gx (λx _=>⟨by simp,rfl⟩) (λx f b i=>?_) (λb J r=>?_) (λ_ _ _=>rfl) (ND _) (λb i=>s b (by omega));have l:b≠g:=λT=>F x f (T ▸ i);refine⟨rfl,(s b l).trans (I.sep x ?_ b i).2⟩;simp only[N0,NI]at f ⊢;rcases f with h|h;exact .inl h;exact .inr (.inr h);by_cases l:b=g;subst l;have:J=j:=by simp[dY]at r;exact r.symm
  subst this;exact⟨_,_,N⟩;rw[s b l]at r;exact I.ag b J r
 refine⟨dY γ g j,?_,gx⟩;have G:DenC h0.size (dY γ g j) h c (.fz t xs):=by
  have:=(q.mono z).rd (b:=g) (o:=0) (c:=cap) (cs:=j) (by simp[dY]) (by rw[Pv,<-Q];exact u) ⟨Y,by omega⟩;show Rd _ _ _ [aK (γ.σ c)];have S:aK (γ.σ c)=.slice (Td ⟨g,0,Te⟩) xs.length cap:=by unfold aK;rw[m.1,Q,m.2.2]
  rw[S];exact this
 have k:∀x,x∈A++(c,Ch.fz t xs)::C->x∈A++C\/x=(c,Ch.fz t xs):=by intro x f;simp only[N0,NI]at f ⊢;rcases f with h|h|h;exact .inl (.inl h);exact .inr h;exact .inl (.inr h)
 refine⟨p.ag,p.frame,p.size,p.old,p.le,λx f=>?_,λx f b i=>?_,?_⟩;rcases k x f with h|rfl;exact p.den x h;exact G;rcases k x f with h|rfl;exact p.sep x h b i;cases i;have:=p.apart;simp only[Oh,Oi]at this ⊢;obtain⟨a1,D,w⟩:=this;refine⟨a1,⟨λy n b i=>(by simp[blk]at i),D⟩,λx f y n b i=>?_⟩;rcases NI.1 n with rfl|n;simp[blk];exact w x f y n b i
theorem Inv.freeze{R:CS}{h:za}(c:Nat):∀(C A:CS) {γ:Gh},Inv h0 W M0 (A++C++R) γ h->∃γ',Inv h0 W M0 (A++jJ c C++R) γ' h/\Gx Te γ γ'
 |[],A,γ,I=>⟨γ,I,Gx.refl _ _⟩
 |(j,k)::l,A,γ,I=>by
  have go:∀(k:Ch) {γ:Gh},Inv h0 W M0 (A++(j,k)::l++R) γ h->∃γ',Inv h0 W M0 (A++(j,k)::jJ c l++R) γ' h/\Gx Te γ γ':=by intro k γ I;have:=Inv.freeze c l (A++[(j,k)]) (R:=R) (γ:=γ) (by simpa using I);simpa using this
  simp only[jJ];cases Nat.beq j c with
  |true=>
   cases k with
   |row e t xs=>obtain⟨o,n,g1⟩:=Inv.freeze1 (A:=A) (C:=l++R) (γ:=γ) (by simpa using I);obtain⟨m,f,b⟩:=go (.fz t xs) (γ:=o) (by simpa using n);exact⟨m,f,g1.1.trans b.1,λi hi=>⟨(b.2 i hi).1.trans (g1.2 i hi).1,(b.2 i hi).2.trans (g1.2 i hi).2⟩⟩
   |box p=>exact go _ I
   |fz t xs=>exact go _ I
  |false=>exact go _ I
end
section
variable {i n:Nat} {c:zq} {v:AV} {γ γ':Gh} {a:Act} {u:Value} {o:Oper} {g:Option Bool} {σ:Operand -> Value}
abbrev qc:=List (Nat×zq×AV)
def gT:qc->Nat->Option (zq×AV)
 |[],_=>Te
 |(j,c,v)::e,i=>bif Nat.beq i j then Td (c,v)else gT e i
def g8(γ:Gh)(σ:Nat->Value)(x:Nat×zq×AV):Prop:=(valid σ x.2.1->DenV γ x.2.2 (σ x.1))/\(¬valid σ x.2.1->σ x.1=undef)
structure SatA (n:Nat) (e:qc) (γ:Gh) (a:Act):Prop where
 defers:a.defers=[]
 size:a.tmps.size=n
 all:∀x∈e,g8 γ (zt a) x
def lu:qc->Nat->qc
 |[],_=>[]
 |(j,c,v)::e,i=>bif (bif Nat.beq i j then Ta else mentions c i)then lu e i else(j,c,v)::lu e i
def Ae(e:qc)(i:Nat)(c:zq)(v:AV):qc:=(i,c,v)::lu e i
def np(e:qc):Option Nat->zq->AV->qc
 |none,_,_=>e
 |some d,c,v=>Ae e d c v
def iB:qc->qc
 |[]=>[]
 |(j,[],v)::e=>(j,[],v)::iB e
 |(_,_::_,_)::e=>iB e
def lp(c:Nat):qc->qc
 |[]=>[]
 |(j,ch,v)::e=>bif gg c v then lp c e else(j,ch,v)::lp c e
def oq:Option Nat->qc->qc
 |none,e=>e
 |some c,e=>lp c e
theorem xu{e:qc}(h:gT e i=Td (c,v)):(i,c,v)∈e:=by
 induction e with
 |nil=>cases h
 |cons x e f=>obtain⟨j,k,l⟩:=x;simp only[gT]at h;by_cases b:Nat.beq i j=Ta;simp only[b,zI,NC,OJ]at h;obtain⟨rfl,rfl⟩:=h;rw[NJ b];exact NQ;simp only[b,zJ]at h;exact NF _ (f h)
theorem EC{e:qc}{x:Nat×zq×AV}(h:x∈lu e i):x∈e/\x.1≠i/\mentions x.2.1 i=Tc:=by
 induction e with
 |nil=>cases h
 |cons y e b=>
  obtain⟨j,m,o⟩:=y;simp only[lu]at h;by_cases k:Nat.beq i j=Ta;simp only[k,zI]at h;exact⟨NF _ (b h).1,(b h).2⟩;have l:Nat.beq i j=Tc:=Bool.eq_false_iff.2 k;simp only[l,zJ]at h;by_cases n:mentions m i=Ta;simp only[n,zI]at h;exact⟨NF _ (b h).1,(b h).2⟩;have f:mentions m i=Tc:=by simpa using n
  simp only[f,zJ]at h;rcases NI.1 h with rfl|h;refine⟨NQ,λc=>?_,f⟩;simp only at c;rw[c]at k;exact k (by simp);exact⟨NF _ (b h).1,(b h).2⟩
theorem FB{e:qc}{x:Nat×zq×AV}(h:x∈iB e):x∈e/\x.2.1=[]:=by
 induction e with
 |nil=>cases h
 |cons y e b=>
  obtain⟨j,f,i⟩:=y;cases f with
  |nil=>simp only[iB]at h;rcases NI.1 h with rfl|h;exact⟨NQ,rfl⟩;exact⟨NF _ (b h).1,(b h).2⟩
  |cons c cs=>simp only[iB]at h;exact⟨NF _ (b h).1,(b h).2⟩
theorem Ih{c:Option Nat}{e:qc}{x:Nat×zq×AV}(h:x∈oq c e):x∈e/\fS gg c x.2.2=Tc:=by
 cases c with
 |none=>exact⟨h,rfl⟩
 |some c=>
  have key:∀e:qc,x∈lp c e->x∈e/\gg c x.2.2=Tc:=by
   intro e;induction e with
   |nil=>intro h;cases h
   |cons y e b=>
    obtain⟨j,i,f⟩:=y;intro h;simp only[lp]at h;cases hm:gg c f with
    |true=>rw[hm]at h;exact⟨NF _ (b h).1,(b h).2⟩
    |false=>rw[hm]at h;rcases NI.1 h with rfl|h;exact⟨NQ,hm⟩;exact⟨NF _ (b h).1,(b h).2⟩
  exact key e h
theorem SatA.sub{e b:qc}(h:SatA n e γ a)(f:∀x∈b,x∈e):SatA n b γ a:=⟨h.defers,h.size,λx c=>h.all x (f x c)⟩
theorem SatA.clean{e:qc}(h:SatA n e γ a):SatA n (iB e) γ a:=h.sub λ_ b=>(FB b).1
theorem SatA.gx{e:qc}{c:Option Nat}(h:SatA n e γ a)(g:Gx c γ γ'):SatA n (oq c e) γ' a:= ⟨h.defers,h.size,λx j=>by obtain⟨b,i⟩:=Ih j;exact⟨λf=>((h.all x b).1 f).gx g i,(h.all x b).2⟩⟩
theorem SatA.gx0{e:qc}(h:SatA n e γ a)(g:Gx Te γ γ'):SatA n e γ' a:=h.gx g
theorem SatA.put{e:qc}(h:SatA n e γ a)(hi:i<n)(w:mentions c i=Tc)
  (t:valid (zt a) c->DenV γ v u) (r:¬valid (zt a) c->u=undef):SatA n (Ae e i c v) γ (a.put (Td i) u):=by
 refine⟨by rw[jy];exact h.defers,by rw[size_put];exact h.size,λx o=>?_⟩;have l:i<a.tmps.size:=by rw[h.size];exact hi
 rcases NI.1 o with rfl|o;have k:=w8 (σ:=zt (a.put (Td i) u)) (τ:=zt a) w (λj m=>qa m);refine⟨λf=>?_,λf=>?_⟩;simp only;rw[jo l];exact t (k.1 f);exact(jo l).trans (r (λb=>f (k.2 b)));obtain⟨y,q,s⟩:=EC o;have k:=w8 (σ:=zt (a.put (Td i) u)) (τ:=zt a) s (λj m=>qa m);have p:=h.all x y;refine⟨λf=>?_,λf=>?_⟩;rw[qa q];exact p.1 (k.1 f);exact(qa q).trans (p.2 (λb=>f (k.2 b)))
theorem SatA.putO{e:qc}(h:SatA n e γ a){d:Option Nat}(f:yr n c d=Ta)
  (k:valid (zt a) c->DenV γ v u) (l:¬valid (zt a) c->u=undef):SatA n (np e d c v) γ (a.put d u):=by
 cases d with
 |none=>exact h
 |some i=>
  simp only[yr]at f;by_cases j:mentions c i=Ta;simp[j]at f;have b:mentions c i=Tc:=by simpa using j
  simp only[b,zJ]at f;exact h.put (by simpa[Pp]using f) b k l
def pF:Value->AG
 |.agg cs=>.agg (cs.toList.map .v)
 |v=>.a (.v v)
def kT:Value->AV
 |.tuple vs=>.tup (vs.toList.map pF)
 |v=>.g (pF v)
theorem w3(γ:Gh)(v:Value):DenG γ (pF v) v:=by
 cases v with
 |agg cs=>
  refine⟨cs.toList,by simp,?_⟩;generalize cs.toList=l;induction l with
  |nil=>trivial
  |cons x l b=>exact⟨rfl,b⟩
 |_=>exact rfl
theorem Ya(γ:Gh)(v:Value):DenV γ (kT v) v:=by
 cases v with
 |tuple vs=>
  refine⟨vs.toList,by simp,?_⟩;generalize vs.toList=l;induction l with
  |nil=>trivial
  |cons x l b=>exact⟨w3 γ x,b⟩
 |agg cs=>exact w3 γ (.agg cs)
 |_=>exact rfl
def gh:List AA->Option (List Value)
 |[]=>Td []
 |.v x::l=>match gh l with
  |some vs=>Td (x::vs)
  |none=>Te
 |_::_=>Te
def kN:AV->Option Value
 |.g (.a (.v x))=>Td x
 |.g (.agg l)=>match gh l with
  |some vs=>Td (.agg vs.toArray)
  |none=>Te
 |_=>Te
theorem Av{γ:Gh}:∀{l:List AA} {vs us:List Value},gh l=Td vs->All2 (DenA γ) l us->us=vs
 |[],vs,[],h,_=>by simp only[gh,NC]at h;exact h
 |[],_,_::_,_,h=>h.elim
 |.v x::l,vs,u::us,h,hd=>by simp only[gh]at h;split at h;rename_i c b;simp only[NC]at h;subst h;rw[show u=x from hd.1,Av b hd.2];cases h
 |.v _::_,_,[],_,h=>h.elim
 |.d _ _::_,_,_,h,_=>by simp[gh]at h
 |.box _ _::_,_,_,h,_=>by simp[gh]at h
 |.own _::_,_,_,h,_=>by simp[gh]at h
 |.oelt _ _ _ _::_,_,_,h,_=>by simp[gh]at h
 |.elt _ _ _::_,_,_,h,_=>by simp[gh]at h
 |.dc _ _::_,_,_,h,_=>by simp[gh]at h
theorem rY{x:AV}{v u:Value}(h:kN x=Td v)(b:DenV γ x u):u=v:=by unfold kN at h;split at h;simp only[NC]at h;subst h;exact b;rename_i l;split at h;rename_i vs c;simp only[NC]at h;subst h;obtain⟨us,rfl,e⟩:=b;rw[Av c e];cases h;cases h
def dZ(e:qc)(c:zq):Operand->Option AV
 |.tmp t=>match gT e t with
  |some (cs,v)=>bif suf cs c then Td v else Te
  |none=>Te
 |.const v=>Td (kT v)
 |.global g=>Td (.g (.a (.v (.pointer (Td ⟨g,0,Te⟩)))))
 |.func f=>Td (.g (.a (.v (.func (.func f) #[] #[]))))
theorem zl{e:qc}(h:SatA n e γ a)(k:valid (zt a) c){x:Operand}(b:dZ e c x=Td v):DenV γ v (a.eval x):=by
 cases x with
 |tmp t=>simp only[dZ]at b;split at b;rename_i cs u j;by_cases i:suf cs c=Ta;simp only[i,zI,NC]at b;subst b;exact(h.all _ (xu j)).1 (Q3 i k);simp[i]at b;cases b
 |const u=>simp only[dZ,NC]at b;subst b;exact Ya γ u
 |global g=>simp only[dZ,NC]at b;subst b;exact rfl
 |func f=>simp only[dZ,NC]at b;subst b;exact rfl
def kA:AV->Option Bool
 |.g (.a (.v (.bool b)))=>Td b
 |_=>Te
theorem rZ{b:Bool}(h:kA v=Td b)(c:DenV γ v u):u=.bool b:=by unfold kA at h;split at h;simp only[NC]at h;subst h;exact c;cases h
def Qq(ops:Array Oper)(e:qc):Option (Nat×Bool)->Option zq
 |none=>Td []
 |some (j,p)=>match yd ops j with
  |some g=>match gT e g with
   |some (cg,v)=>match kA v with
    |some _=>Td ((g,p)::cg)
    |none=>Te
   |none=>Te
  |none=>Te
def mE(e:qc):zq->Option Bool
 |[]=>Td Ta
 |(g,p)::c=>match gT e g with
  |some (cg,v)=>match kA v with
   |some b=>bif w9 cg c then(match mE e c with
    |some f=>Td (f&&(bif p then b else !b))
    |none=>Te)else Te
   |none=>Te
  |none=>Te
theorem Ww{n:Nat}{e:qc}{γ:Gh}{a:Act}(h:SatA n e γ a):∀{c:zq} {b:Bool},mE e c=Td b->(b=Ta↔valid (zt a) c)
 |[],b,hb=>by simp only[mE,NC]at hb;simp[<-hb,valid]
 |(g,p)::c,b,hb=>by
  simp only[mE]at hb;split at hb;rename_i s v u;split at hb;rename_i q i;by_cases k:w9 s c=Ta;simp only[k,zI]at hb;split at hb;rename_i r j;simp only[NC]at hb;have m:=Ww h j;have o:=h.all _ (xu u);rw[Q2 k]at o;by_cases f:valid (zt a) c;have l:zt a g=.bool q:=rZ i (o.1 f);have t:=m.2 f;subst hb;simp only[valid,l,f,t,Pj,and_true,Value.bool.injEq];cases p <;> cases q <;> simp;have l:r=Tc:=by cases r with|false=>rfl|true=>exact absurd (m.1 rfl) f
  subst hb;simp[valid,f,l];cases hb;simp[k]at hb;cases hb;cases hb
theorem j8{ops:Array Oper}{e:qc}(h:SatA n e γ a)(f:Qq ops e o.guard=Td c):
  OY o (yielded ops a.tmps)=Ta↔valid (zt a) c:=by
 unfold OY;cases hg:o.guard with
 |none=>rw[hg]at f;simp only[Qq,NC]at f;simp[<-f,valid]
 |some t=>
  obtain⟨j,p⟩:=t;rw[hg]at f;simp only[Qq]at f;split at f;rename_i g i;split at f;rename_i u v w;split at f;rename_i b y;simp only[NC]at f;subst f;have m:((ops[j]?).bind (·.dst))=Td g:=by simp only[yd]at i;split at i;rename_i x l;simp[l,i];cases i
  have r:=h.all _ (xu w);have s:yielded ops a.tmps j=Td p↔zt a g=.bool p:=by
   unfold yielded zt;rw[m];simp only[PH];cases ht:a.tmps[g]? with
   |none=>simp[OL,ht,undef]
   |some v=>cases v <;> simp[OL,ht]
  simp only[beq_iff_eq,s,valid];constructor;intro k;refine⟨k,?_⟩;by_cases q:valid (zt a) u;exact q;have:=r.2 q;simp only at this;rw[k]at this;exact absurd this.symm yG;exact λk=>k.1;cases f;cases f;cases f
def Y4(e:qc):zq->Option (Option Bool)
 |[]=>Td Te
 |c=>match mE e c with
  |some b=>Td (Td b)
  |none=>Te
theorem j5{e:qc}(i:SatA n e γ a)(h:Y4 e c=Td g)(j:valid (zt a) c):dN g:=by unfold Y4 at h;split at h;simp only[NC]at h;subst h;trivial;split at h;rename_i b f;simp only[NC]at h;subst h;exact(Ww i f).2 j;cases h
theorem rV{e:qc}(j:SatA n e γ a)(h:Y4 e c=Td g)(f:¬valid (zt a) c):g=Td Tc:=by
 unfold Y4 at h;split at h;exact absurd trivial f;split at h;rename_i b i;simp only[NC]at h;subst h;cases b with
 |false=>rfl
 |true=>exact absurd ((Ww j i).1 rfl) f
 cases h
def nL(ρ:Operand->Option AV)(x:Operand):Value:=match ρ x with
 |some av=>match kN av with
  |some v=>v
  |none=>undef
 |none=>undef
def jE(ρ:Operand->Option AV):List Operand->Bool
 |[]=>Ta
 |x::l=>match ρ x with
  |some av=>match kN av with
   |some _=>jE ρ l
   |none=>Tc
  |none=>Tc
theorem E8{ρ:Operand->Option AV}(i:∀x av,ρ x=Td av->DenV γ av (σ x)){l:List Operand}(b:jE ρ l=Ta):∀x∈l,σ x=nL ρ x:=by
 induction l with
 |nil=>intro x e;cases e
 |cons y l h=>intro x e;simp only[jE]at b;split at b;rename_i av f;split at b;rename_i v c;rcases NI.1 e with rfl|e;rw[rY c (i _ _ f)];simp[nL,f,c];exact h b x e;cases b;cases b
theorem yU{ρ:Operand->Option AV}(f:∀x av,ρ x=Td av->DenV γ av (σ x))(c:Qb o.op=Ta)(h:jE ρ o.op.operands.toList=Ta):
  execOp σ o=execOp (nL ρ) o:=
 execOp_congr o (λcs b e=>by rw[e]at c;cases c) λx i=>E8 f h x (by simpa using i)
end
section
variable {o n f k:Nat} {h:za} {u:Value} {us:List Value} {cs:CS} {γ:Gh} {t ty:TypeId} {P:Program} {s:Option Nat}
variable {h0 : za} {W : Nat -> Prop} {M0 : Fr}
def takeN(l:List AA)(o n:Nat):Option (List AA):=bif Nat.beq ((l.drop o).take n).length n then Td ((l.drop o).take n)else Te
theorem X5{l r:List AA}(h:takeN l o n=Td r):r=(l.drop o).take n/\r.length=n:=by
 unfold takeN at h;cases hb:Nat.beq ((l.drop o).take n).length n with
 |false=>rw[hb]at h;cases h
 |true=>rw[hb]at h;simp only[zI,NC]at h;subst h;exact⟨rfl,NJ hb⟩
theorem wP{h:za}{p:Addr}:∀{us:List Value} {i:Nat},(∀j v,us[j]?=Td v->zb h (p.add (i+j))=Td v)->ze h p i us
 |[],_,_=>trivial
 |v::us,i,H=>⟨by have:=H 0 v rfl;simpa using this,wP λj u b=>by have:=H (j+1) u (by simpa using b);rwa[show i+(j+1)=i+1+j by omega]at this⟩
def Behind(h:za)(u:Value)(us:List Value):Prop:=∃b o,u=.pointer (Td ⟨b,o,Te⟩)/\∀j v,us[j]?=Td v->zb h ⟨b,o+j,Te⟩=Td v
theorem Behind.ld(H:Behind h u us):∃p:Addr,u=.pointer (Td p)/\ze h p 0 us/\∀v,us=[v]->zb h p=Td v:=by obtain⟨b,o,e,f⟩:=H;refine⟨_,e,wP λj v c=>?_,λv c=>?_⟩;rw[zj,NZ];exact f j v c;have:=f 0 v (by rw[c];rfl);simpa using this
theorem D8{cs:Array Value}{f n j:Nat}{v:Value}(h:(cut cs f n)[j]?=Td v):cs[f+j]?=Td v:=by unfold cut at h;rw[N4]at h;split at h;rw[Oj]at h;simpa using h;cases h
def nA(cs:CS)(n:Nat):AA->Option (List AA)
 |.box c o=>match Zx cs c with
  |some (.box l)=>bif eC l then Te else takeN l o n
  |_=>Te
 |.elt t x o=>takeN (Q8 t x) o n
 |_=>Te
theorem Ho(I:Inv h0 W M0 cs γ h){w:AA}{r:List AA}(k:nA cs n w=Td r)(y:DenA γ w u):
  ∃us,Behind h u us/\us.length=n/\All2 (DenA γ) r us:=by
 unfold nA at k;split at k
 ·rename_i c o;split at k
  ·rename_i l C;cases hit:eC l with
   |true=>rw[hit]at k;cases k
   |false=>
   rw[hit]at k;obtain⟨rfl,q⟩:=X5 k;obtain⟨us,e,z⟩:=I.den _ (zu C);rcases e with⟨⟨T,e⟩,_⟩|⟨s,p,e,_⟩;case inr=>exact absurd e (oF hit z s p)
   have m:=(z.drop o).take n;refine⟨(us.drop o).take n,⟨_,_,y,λj v i=>?_⟩,by rw[<-m.length];exact q,m⟩;rw[N4]at i;split at i;rw[Oj]at i;unfold zb;simp only[e];simp;exact i;cases i
  cases k
 rename_i t x o;obtain⟨rfl,q⟩:=X5 k;obtain⟨b,f,D,e,B,A⟩:=y;have m:=((j4 (γ:=γ) A).drop o).take n;refine⟨_,⟨_,_,e,λj v i=>?_⟩,by rw[<-m.length];exact q,m⟩;rw[N4]at i;split at i;rw[Oj]at i;have:=D8 i;exact I.ag.cell B (by rw[show f+o+j=f+(o+j)by omega];exact this);cases i;cases k
theorem GZ(I:Inv h0 W M0 cs γ h){c:Nat}{e:TypeId}{t:Ty}{xs:List (El t)}(E:Zx cs c=Td (.row e t xs)){i:Nat}{y:El t}(z:xs[i]?=Td y){r:List AA}(C:takeN (Q8 t y) o n=Td r)(D:DenA γ (.oelt c (sz t) i o) u):∃us,Behind h u us/\us.length=n/\All2 (DenA γ) r us:=by
 obtain⟨rfl,F⟩:=X5 C;obtain⟨g,x,rfl⟩:=D;obtain⟨cells,f,m,_,H⟩:=I.den _ (zu E);simp only at H f;rcases f.2 with⟨k,J⟩|⟨g',cap,p,k,_,s,_,_,_,l⟩;simp only[N6]at k;rw[x]at k;cases k.1;simp only[N6]at k;rw[x]at k;have q:g=g':=by have:=k.1;simp only[NC,Addr.mk.injEq]at this;exact this.1
 subst q;have hi:i<xs.length:=(Ou.1 z).1;have w:xs[i]=y:=(Ou.1 z).2;have A:=m.2 i hi;rw[w]at A;have B:=((j4 (γ:=γ) A).drop o).take n;refine⟨_,⟨_,_,rfl,λj v b=>?_⟩,by rw[<-B.length];exact F,B⟩;rw[N4]at b;split at b;rw[Oj,N4]at b;split at b;rw[Oj,<-l,N4]at b;split at b;have G:h[g]?=Td (.cells p e (0,0)):=s;unfold zb;simp only[G];simp;rw[show i*sz t+o+j=i*sz t+(o+j)by omega];simpa using b;cases b;cases b;cases b
def gO:Option Nat->List AA->Option AG
 |none,[x]=>Td (.a x)
 |some _,l=>Td (.agg l)
 |_,_=>Te
def Wx(P:Program)(t:TypeId):Option (Option Nat):=match fM P t with
 |some (.one _)=>Td Te
 |some (.agg l)=>Td (Td l.length)
 |none=>Te
def gD:Option Nat->Nat
 |none=>1
 |some n=>n
theorem qC(c:Wx P t=Td s)(m:Behind h u us)(k:us.length=gD s){r:List AA}(b:All2 (DenA γ) r us){ag:AG}(i:gO s r=Td ag):
  ∃v,DenG γ ag v/\QExec P (QP t u) h v:=by
 obtain⟨p,e,o,q⟩:=m.ld;subst e;have f:∀v,QExec P (loadVar t p) h v->QExec P (QP t (.pointer (Td p))) h v:=λv n B d=>by unfold QP QG;simp only[Sem.run_bind,Sem.run_pure,Result.andThen_ok];exact n B d
 unfold Wx at c;split at c;rename_i a j;simp only[NC]at c;subst c
 match us,k,r,b with
 |[v],_,[x],b=>simp only[gO,NC]at i;subst i;exact⟨v,b.1,f v (nD j (q v rfl))⟩
 |[v],_,[],b=>exact b.elim
 |[v],_,_::_::_,b=>exact b.2.elim
 rename_i l j;simp only[NC]at c;subst c;simp only[gO,NC]at i;subst i;exact⟨.agg us.toArray,⟨us,rfl,b⟩,f _ (nQ j k o)⟩;cases c
def kC(P:Program)(cs:CS)(t:TypeId)(b:AA)(g:Option Bool)(K:AV->Prop):Prop:=
 match Wx P t with
 |some s=>match b with
  |.oelt c z i o=>match Zx cs c with
   |some (.row e ty xs)=>bif Nat.beq z (sz ty)then(∃y:El ty,req g (xs[i]?=Td y)/\match takeN (Q8 ty y) o (gD s)with
    |some r=>match gO s r with
     |some ag=>K (.g ag)
     |none=>False
    |none=>False)else False
   |_=>False
  |b=>match nA cs (gD s) b with
   |some r=>match gO s r with
    |some ag=>K (.g ag)
    |none=>False
   |none=>False
 |none=>False
theorem zZ{n:AA}{g:Option Bool}{K:AV->Prop}(H:kC P cs t n g K):
  ∃av,K av/\(dN g->∀γ h u,Inv h0 W M0 cs γ h->DenA γ n u->∃v,DenV γ av v/\QExec P (QP t u) h v):=by
 unfold kC at H;split at H;rename_i s p;split at H;rename_i c z i o;split at H;rename_i e ty xs x;cases hz:Nat.beq z (sz ty)with
 |false=>rw[hz]at H;exact H.elim
 |true=>rw[hz]at H;obtain⟨y,w,H⟩:=H;split at H;rename_i r f;split at H;rename_i ag j;refine⟨_,H,λq γ h u I b=>?_⟩;rw[NJ hz]at b;obtain⟨us,m,l,k⟩:=GZ I x (w.out q) f b;exact qC p m l k j;exact H.elim;exact H.elim
 exact H.elim;split at H;rename_i r f;split at H;rename_i ag j;refine⟨_,H,λq γ h u I b=>?_⟩;obtain⟨us,m,l,k⟩:=Ho I f b;exact qC p m l k j;exact H.elim;exact H.elim;exact H.elim
def kW(P:Program)(t:TypeId)(f:Nat):Option (Nat×TypeId):=match P.underlying t with
 |some (.struct fs)=>match fs[f]? with
  |some b=>match P.info? b.type with
   |some i=>bif Nat.beq i.size 0 then Te else Td (b.offset,b.type)
   |none=>Te
  |none=>Te
 |_=>Te
def oO(k:Nat):AA->Option AA
 |.box c o=>Td (.box c (o+k))
 |.elt t x o=>Td (.elt t x (o+k))
 |.oelt c z i o=>Td (.oelt c z i (o+k))
 |_=>Te
theorem EN(c:kW P t f=Td (k,ty))(b o:Nat):QExec P (Instr.fieldAt t (.pointer (Td ⟨b,o,Te⟩)) f) h (.pointer (Td ⟨b,o+k,Te⟩)):=by
 unfold kW at c;split at c;rename_i r q;split at c;rename_i m l;split at c;rename_i i hi;cases hz:Nat.beq i.size 0 with
 |true=>rw[hz]at c;cases c
 |false=>
  rw[hz]at c;simp only[zJ,NC,OJ]at c;obtain⟨rfl,rfl⟩:=c;intro B d;have p:=QExec.underlying (h:=h) q B d;have n:=QExec.sizeOf (h:=h) hi B d;have j:¬(qj P m.type=0):=by unfold qj;rw[hi];intro e;simp only at e;rw[e]at hz;simp at hz
  unfold Instr.fieldAt QG fieldPlace;simp only[Sem.run_bind,p,Result.andThen_ok,l,Sem.run_pure,n,j,if_false,zj]
 cases c;cases c;cases c
theorem Cc{j c:AA}(h:oO k j=Td c)(i:DenA γ j u):∃b o,u=.pointer (Td ⟨b,o,Te⟩)/\DenA γ c (.pointer (Td ⟨b,o+k,Te⟩)):=by unfold oO at h;split at h;simp only[NC]at h;subst h;exact⟨_,_,i,rfl⟩;simp only[NC]at h;subst h;obtain⟨b,f,cs,e,p,m⟩:=i;exact⟨_,_,e,b,f,cs,by rw[QZ],p,m⟩;simp only[NC]at h;subst h;obtain⟨g,n,l⟩:=i;exact⟨_,_,l,g,n,by rw[QZ]⟩;cases h
def mM(P:Program)(ty:TypeId)(l:List AA)(k:Nat):Option AG:=match Wx P ty with
 |some s=>match takeN l k (gD s)with
  |some r=>gO s r
  |none=>Te
 |none=>Te
theorem yW(c:Wx P t=Td s)(h:za):QExec P (isAgg t) h s.isSome:=by
 unfold Wx at c;split at c
 ·rename_i a b;simp only[NC]at c;subst c;unfold fM at b;split at b
  ·exact absurd b (by split <;> (first|(intro h;cases h;done)|(cases Nat.beq _ _ <;> intro h <;> cases h)))
  ·exact absurd b (by split <;> (first|(intro h;cases h;done)|(cases Nat.beq _ _ <;> intro h <;> cases h)))
  rename_i d j i f;intro B e;have k:=QExec.underlying (h:=h) f B e;unfold isAgg;rw[Sem.run_bind,k];cases d <;> first|rfl|exact(j _ rfl).elim|exact(i _ _ rfl).elim
  cases b
 rename_i l b;simp only[NC]at c;subst c;unfold fM at b;have f:(∃o,P.underlying t=Td (.struct o))\/∃n e,P.underlying t=Td (.array n e):=by split at b;exact .inl ⟨_,by assumption⟩;exact .inr ⟨_,_,by assumption⟩;simp at b;cases b
 intro B e;rcases f with⟨o,f⟩|⟨m,p,f⟩;have k:=QExec.underlying (h:=h) f B e;unfold isAgg;rw[Sem.run_bind,k];rfl;have k:=QExec.underlying (h:=h) f B e;unfold isAgg;rw[Sem.run_bind,k];rfl;cases c
theorem K9(e:Wx P t=Td (Td n)):qj P t=n/\∃i,P.info? t=Td i:=by
 unfold Wx at e;split at e;cases e
 ·rename_i l c;simp only[NC]at e;subst e;unfold fM at c;have key:∀x:Option (List Atom),(match x with
    |some l=>bif Nat.beq l.length (qj P t)then Td (VT.agg l)else Te
    |none=>Te)=Td (.agg l)->qj P t=l.length:=by
   intro x b;split at b;rename_i f;cases hb:Nat.beq f.length (qj P t)with
   |false=>rw[hb]at b;cases b
   |true=>rw[hb]at b;simp only[zI,NC,VT.agg.injEq]at b;rw[<-b];exact(NJ hb).symm
   cases b
  split at c;exact⟨key _ c,info_of_underlying (by assumption)⟩;exact⟨key _ c,info_of_underlying (by assumption)⟩;simp at c;cases c
 cases e
theorem tF{l:List AA}{ag:AG}(b:mM P ty l k=Td ag)(t:All2 (DenA γ) l us)(h:za):∃v,DenG γ ag v/\QExec P (part ty us.toArray k) h v:=by
 unfold mM at b;split at b;rename_i s f;split at b;rename_i r p;obtain⟨rfl,y⟩:=X5 p;have c:=(t.drop k).take (gD s);have e:((us.drop k).take (gD s)).length=gD s:=by rw[<-c.length];exact y
 cases s with
 |none=>
  generalize j:(us.drop k).take (gD Te)=q at *
  match q,e,j with
  |[v],_,j=>
   generalize w:(l.drop k).take (gD Te)=r' at *
   match r',c with
   |[x],c=>
    simp only[gO,NC]at b;subst b;refine⟨v,c.1,λB d=>?_⟩;have m:=yW f h B d;have o:us[k]?=Td v:=by
     have:((us.drop k).take 1)[0]?=Td v:=by rw[show(us.drop k).take 1=[v]from j];rfl
     rw[N4,zz (by omega),Oj]at this;simpa using this
    unfold part;rw[Sem.run_bind,m];simp[o]
   |[],c=>exact c.elim
   |_::_::_,c=>exact c.2.elim
 |some n=>simp only[gO,NC]at b;subst b;refine⟨.agg ((us.drop k).take n).toArray,⟨_,rfl,c⟩,λB d=>?_⟩;have m:=yW f h B d;obtain⟨u,i,hi⟩:=K9 f;have z:=QExec.sizeOf (h:=h) hi B d;unfold part;rw[Sem.run_bind,m];simp only[Option.isSome_some,Result.andThen_ok,if_true];rw[Sem.run_bind,z,u];simp
 cases b;cases b
end
end Go.X
end
