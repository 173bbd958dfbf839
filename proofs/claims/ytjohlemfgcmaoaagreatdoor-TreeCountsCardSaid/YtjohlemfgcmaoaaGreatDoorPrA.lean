/- A part of the proof: nothing is stated here for its own sake. -/
import Derived.Deep.Quiet
import Derived.StillTail
import Derived.Laws.Strings
import Derived.Laws.Cover3
import Derived.Laws.Pointers
import Derived.Laws.OwnMore
open _root_.Go.Addr renaming add->Ad
open _root_.Array renaming getD_eq_getD_getElem?->BM,getElem?_append_left->CU,getElem?_eq_getElem->Bo,getElem?_eq_some_iff->An,getElem?_push->Cd,getElem?_setIfInBounds_ne->AB,replicate->BN,size_setIfInBounds->AW
open _root_.Bool renaming and_eq_true->Ap,eq_iff_iff->AM,false_eq_true->Bc,not_eq_true'->DL,true_and->Cs
open _root_.Go.Builtin renaming append_->Au,firstCells->C3,len_->C5
open _root_.Classical renaming byContradiction->C0
open _root_.Go.Code renaming cond->Ei,region->Ek
open _root_.Go.Deferred renaming ofValue->DX
open _root_.Go.Instr renaming entry->DO,findNow->CL,indexAt->Ej,keyThatStays->Dk,loadAt->DW,lookup->Dw,mapUpdate->Cv,next->Di,range->D9,sameNow->D6,sliceAt->D5,storeAt->Af,sureAddr->DN
open _root_.Go.IntKind renaming bits->Bj,signed->DT,wrap->Aa
open _root_.List renaming all_eq_true->Av,cons_append->AD,drop_drop->BU,drop_eq_nil_of_le->Br,drop_left->DR,drop_zero->BZ,eq_nil_of_length_eq_zero->AN,getElem?_drop->A9,getElem?_eq_getElem->Al,getElem?_eq_none->BL,getElem?_eq_some_iff->AY,getElem?_take->AJ,getElem_append_left->BS,getElem_append_right->Ce,getElem_mem->AE,length_append->Ag,length_cons->Aq,length_drop->AH,length_eq_zero_iff->Bi,length_nil->AR,length_range->Dp,length_take->AK,mapM_cons->Ea,map_cons->Ar,mem_append->Ay,mem_append_left->As,mem_append_right->AC,mem_cons->Ah,mem_cons_of_mem->Ae,mem_cons_self->Am,mem_filter->CM,mem_range->A1,nil_append->A5,nodup_cons->Ba,pairwise_append->CO,pairwise_cons->Be,pairwise_lt_range->Dx,range->Bl,replicate->BE,take_append_of_le_length->C8,take_left->CQ,take_length->A3,take_succ_eq_append_getElem->Aw,take_take->Ec
open _root_.List.cons renaming injEq->BV
open _root_.Nat renaming add_assoc->CP,add_mul->Cg,blt_eq->CG,eq_of_beq_eq_true->Ak,eq_zero_or_pos->Dj,le_of_ble_eq_true->Ca,le_refl->Ab,le_trans->Ck,lt_of_lt_of_le->Dh,lt_or_ge->A6,min_eq_left->CE,mul_comm->Dq,mul_le_mul_right->AP,one_mul->DU,strongRecOn->DF,succ_mul->C6,zero_add->AI,zero_mul->Eb
open _root_.Go.Next renaming value->Dr
open _root_.Go.Op renaming equal->Er
open _root_.Option renaming bind_some->C2,map_eq_some_iff->CF
open _root_.Option.some renaming inj->Az,injEq->Ac
open _root_.Prod.mk renaming injEq->Bh
open _root_.Pure renaming pure->Dn
open _root_.Go.Region renaming wanted->Cc
open _root_.Go.Result.ok renaming injEq->Eo
open _root_.Go.Value renaming int->Bm,string->AZ
open _root_.Go.Value.slice renaming injEq->AO
set_option linter.unusedVariables false
set_option maxRecDepth 100000
namespace Go.X
end Go.X
namespace Go.Proofs
end Go.Proofs
open Go Go.X Go.Proofs
open _root_.Bool renaming true->Ta,false->Tc
open _root_.Option renaming some->Td,none->Te
section
namespace Go.X
section
abbrev Bt:= ByteArray
variable {i n m:Nat} {v u:Value} {a:Act} {o:Oper}
abbrev zb:=Array Obj
abbrev zx:=List (Nat×Bool)
abbrev Env:=List (Nat×zx×Value)
def mk(B:World)(d:Nat)(h:zb):World:={ B with heap:=h,drawn:=d }
def look:Env->Nat->Option (zx×Value)
 |[],_=>Te
 |(j,c,v)::e,i=>bif Nat.beq i j then Td (c,v)else look e i
def valid(σ:Nat->Value):zx->Prop
 |[]=>True
 |(g,p)::c=>σ g=.bool p/\valid σ c
def zy(a:Act)(i:Nat):Value:=a.tmps.getD i undef
def fact(σ:Nat->Value)(x:Nat×zx×Value):Prop:=(valid σ x.2.1->σ x.1=x.2.2)/\(¬valid σ x.2.1->σ x.1=undef)
structure Sat (n:Nat) (e:Env) (a:Act):Prop where
 defers:a.defers=[]
 size:a.tmps.size=n
 all:∀x∈e,fact (zy a) x
def mentions:zx->Nat->Bool
 |[],_=>Tc
 |(g,_)::c,i=>bif Nat.beq i g then Ta else mentions c i
def del:Env->Nat->Env
 |[],_=>[]
 |(j,c,v)::e,i=>bif (bif Nat.beq i j then Ta else mentions c i)then del e i else(j,c,v)::del e i
def put(e:Env)(i:Nat)(c:zx)(v:Value):Env:=(i,c,v)::del e i
def putO(e:Env):Option Nat->zx->Value->Env
 |none,_,_=>e
 |some d,c,v=>put e d c v
def clean:Env->Env
 |[]=>[]
 |(j,[],v)::e=>(j,[],v)::clean e
 |(_,_::_,_)::e=>clean e
theorem zaw{e:Env}{c:zx}(h:look e i=Td (c,v)):(i,c,v)∈e:=by
 induction e with
 |nil=>cases h
 |cons x e f=>obtain⟨j,l,k⟩:=x;simp only[look]at h;by_cases b:Nat.beq i j=Ta;simp only[b,cond_true,Ac,Bh]at h;obtain⟨rfl,rfl⟩:=h;rw[Ak b];exact Am;simp only[b,cond_false]at h;exact Ae _ (f h)
theorem qdj{e:Env}{x:Nat×zx×Value}(h:x∈del e i):x∈e/\x.1≠i/\mentions x.2.1 i=Tc:=by
 induction e with
 |nil=>cases h
 |cons y e b=>
  obtain⟨j,m,o⟩:=y;simp only[del]at h;by_cases k:Nat.beq i j=Ta;simp only[k,cond_true]at h;exact⟨Ae _ (b h).1,(b h).2⟩;have l:Nat.beq i j=Tc:=Bool.eq_false_iff.2 k;simp only[l,cond_false]at h;by_cases n:mentions m i=Ta;simp only[n,cond_true]at h;exact⟨Ae _ (b h).1,(b h).2⟩;have f:mentions m i=Tc:=by simpa using n
  simp only[f,cond_false]at h;rcases Ah.1 h with rfl|h;refine⟨Am,λc=>?_,f⟩;simp only at c;rw[c]at k;exact k (by simp);exact⟨Ae _ (b h).1,(b h).2⟩
theorem z1a{e:Env}{x:Nat×zx×Value}(h:x∈clean e):x∈e/\x.2.1=[]:=by
 induction e with
 |nil=>cases h
 |cons y e b=>
  obtain⟨j,f,i⟩:=y;cases f with
  |nil=>simp only[clean]at h;rcases Ah.1 h with rfl|h;exact⟨Am,rfl⟩;exact⟨Ae _ (b h).1,(b h).2⟩
  |cons c cs=>simp only[clean]at h;exact⟨Ae _ (b h).1,(b h).2⟩
theorem Sat.sub{e e':Env}(h:Sat n e a)(c:∀x∈e',x∈e):Sat n e' a:=⟨h.defers,h.size,λx b=>h.all x (c x b)⟩
theorem Sat.clean{n:Nat}{e:Env}{a:Act}(h:Sat n e a):Sat n (clean e) a:=h.sub λ_ b=>(z1a b).1
theorem Zh{σ τ:Nat->Value}{c:zx}(b:mentions c i=Tc)(h:∀j,j≠i->σ j=τ j):valid σ c↔valid τ c:=by
 induction c with
 |nil=>exact Iff.rfl
 |cons x c l=>obtain⟨g,p⟩:=x;simp only[mentions]at b;by_cases f:Nat.beq i g=Ta;simp[f]at b;simp only[f,cond_false]at b;have k:g≠i:=λe=>f (by rw[e];simp);simp only[valid,h g k,l b]
theorem wv(hi:i<a.tmps.size):zy (a.put (Td i) u) i=u:=by simp[zy,Act.put,hi]
theorem qe{i j:Nat}(h:j≠i):zy (a.put (Td i) u) j=zy a j:=by simp[zy,Act.put,AB (Ne.symm h)]
theorem size_put(a:Act)(d:Option Nat)(u:Value):(a.put d u).tmps.size=a.tmps.size:=by cases d <;> simp[Act.put]
theorem xe(a:Act)(d:Option Nat)(u:Value):(a.put d u).defers=a.defers:=by cases d <;> simp[Act.put]
theorem Sat.put{n:Nat}{e:Env}{a:Act}(h:Sat n e a){i:Nat}{c:zx}{v u:Value}(hi:i<n)(w:mentions c i=Tc)
  (s:valid (zy a) c->u=v) (t:¬valid (zy a) c->u=undef):Sat n (put e i c v) (a.put (Td i) u):=by
 refine⟨by rw[xe];exact h.defers,by rw[size_put];exact h.size,λx m=>?_⟩;have k:i<a.tmps.size:=by rw[h.size];exact hi
 rcases Ah.1 m with rfl|m;have l:=Zh (σ:=zy (a.put (Td i) u)) (τ:=zy a) w (λj o=>qe o);refine⟨λf=>?_,λf=>?_⟩;exact(wv k).trans (s (l.1 f));exact(wv k).trans (t (λb=>f (l.2 b)));obtain⟨h1,q,r⟩:=qdj m;have l:=Zh (σ:=zy (a.put (Td i) u)) (τ:=zy a) r (λj o=>qe o);have p:=h.all x h1;refine⟨λf=>?_,λf=>?_⟩;exact(qe q).trans (p.1 (l.1 f));exact(qe q).trans (p.2 (λb=>f (l.2 b)))
def jh(n:Nat)(c:zx):Option Nat->Bool
 |none=>Ta
 |some d=>bif mentions c d then Tc else Nat.blt d n
theorem Sat.putO{n:Nat}{e:Env}{a:Act}(h:Sat n e a){d:Option Nat}{c:zx}{v u:Value}(f:jh n c d=Ta)
  (l:valid (zy a) c->u=v) (m:¬valid (zy a) c->u=undef):Sat n (putO e d c v) (a.put d u):=by
 cases d with
 |none=>exact h
 |some i=>
  simp only[jh]at f;by_cases k:mentions c i=Ta;simp[k]at f;have b:mentions c i=Tc:=by simpa using k
  simp only[b,cond_false]at f;exact h.put (by simpa[CG]using f) b l m
def Zi:zx->zx->Bool
 |[],[]=>Ta
 |(g,p)::c,(g',p')::c'=>bif Nat.beq g g' then(bif p then(bif p' then Zi c c' else Tc)else(bif p' then Tc else Zi c c'))else Tc
 |_,_=>Tc
theorem Y2:∀{c b:zx},Zi c b=Ta->c=b
 |[],[],_=>rfl
 |[],_::_,h=>by simp[Zi]at h
 |_::_,[],h=>by simp[Zi]at h
 |(g,p)::c,(g',p')::b,h=>by simp only[Zi]at h;by_cases e:Nat.beq g g'=Ta;simp only[e,cond_true]at h;have f:=Ak e;cases p <;> cases p' <;> simp at h <;> rw[f,Y2 h];simp[e]at h
def suf(cs:zx):zx->Bool
 |[]=>Zi cs []
 |x::c=>bif Zi cs (x::c)then Ta else suf cs c
theorem Y3{σ:Nat->Value}{cs:zx}:∀{c:zx},suf cs c=Ta->valid σ c->valid σ cs
 |[],h,_=>by rw[Y2 h];trivial
 |x::c,h,hv=>by simp only[suf]at h;by_cases b:Zi cs (x::c)=Ta;rw[Y2 b];exact hv;simp only[b,cond_false]at h;exact Y3 h hv.2
def Xt(e:Env)(c:zx):Operand->Option Value
 |.tmp t=>match look e t with
  |some (cs,v)=>bif suf cs c then Td v else Te
  |none=>Te
 |.const v=>Td v
 |.global g=>Td (.pointer (Td ⟨g,0,Te⟩))
 |.func f=>Td (.func (.func f) #[] #[])
theorem qn{e:Env}(h:Sat n e a){c:zx}(k:valid (zy a) c){x:Operand}(b:Xt e c x=Td v):a.eval x=v:=by
 cases x with
 |tmp t=>simp only[Xt]at b;split at b;rename_i cs u l;by_cases i:suf cs c=Ta;simp only[i,cond_true,Ac]at b;subst b;exact(h.all _ (zaw l)).1 (Y3 i k);simp[i]at b;cases b
 |const u=>simp only[Xt,Ac]at b;exact b
 |global g=>simp only[Xt,Ac]at b;exact b
 |func f=>simp only[Xt,Ac]at b;exact b
def rho(e:Env)(c:zx)(x:Operand):Value:=match Xt e c x with
 |some v=>v
 |none=>undef
def known(e:Env)(c:zx):List Operand->Bool
 |[]=>Ta
 |x::l=>match Xt e c x with
  |some _=>known e c l
  |none=>Tc
theorem Jy{e:Env}(h:Sat n e a){c:zx}(k:valid (zy a) c){l:List Operand}(f:known e c l=Ta):∀x∈l,a.eval x=rho e c x:=by
 induction l with
 |nil=>intro x b;cases b
 |cons y l m=>intro x b;simp only[known]at f;split at f;rename_i v i;rcases Ah.1 b with rfl|b;rw[qn h k i];simp[rho,i];exact m f x b;cases f
def Yb:Op->Bool
 |.select _ _=>Tc
 |_=>Ta
theorem zhi{e:Env}(h:Sat n e a){c:zx}(k:valid (zy a) c)(f:Yb o.op=Ta)(i:known e c o.op.operands.toList=Ta):
  execOp a.eval o=execOp (rho e c) o:=
 execOp_congr o (λcs b l=>by rw[l]at f;cases f) λx m=>Jy h k i x (by simpa using m)
def yv(ops:Array Oper)(j:Nat):Option Nat:=match ops[j]? with
 |some o=>o.dst
 |none=>Te
def Jz(ops:Array Oper)(e:Env):Option (Nat×Bool)->Option zx
 |none=>Td []
 |some (j,p)=>match yv ops j with
  |some g=>match look e g with
   |some (cg,.bool _)=>Td ((g,p)::cg)
   |_=>Te
  |none=>Te
def z1b(e:Env):zx->Option Bool
 |[]=>Td Ta
 |(g,p)::c=>match look e g with
  |some (cg,.bool b)=>bif Zi cg c then(match z1b e c with
    |some f=>Td (f&&(bif p then b else !b))
    |none=>Te)else Te
  |_=>Te
theorem zdg{b:Bool}:undef≠.bool b:=by simp[undef]
theorem zbw{n:Nat}{e:Env}{a:Act}(h:Sat n e a):∀{c:zx} {b:Bool},z1b e c=Td b->(b=Ta↔valid (zy a) c)
 |[],b,hb=>by simp only[z1b,Ac]at hb;simp[<-hb,valid]
 |(g,p)::c,b,hb=>by
  simp only[z1b]at hb;split at hb;rename_i r o s;by_cases i:Zi r c=Ta;simp only[i,cond_true]at hb;split at hb;rename_i l k;simp only[Ac]at hb;have q:=zbw h k;have m:=h.all _ (zaw s);rw[Y2 i]at m;by_cases f:valid (zy a) c;have h1:zy a g=.bool o:=m.1 f;have t:=q.2 f;subst hb;simp only[valid,h1,f,t,Cs,and_true,Value.bool.injEq];cases p <;> cases o <;> simp;have h1:l=Tc:=by cases l with|false=>rfl|true=>exact absurd (q.1 rfl) f
  subst hb;simp[valid,f,h1];cases hb;simp[i]at hb;cases hb
theorem Xu{ops:Array Oper}{e:Env}(h:Sat n e a){c:zx}(f:Jz ops e o.guard=Td c):
  Cc o (yielded ops a.tmps)=Ta↔valid (zy a) c:=by
 unfold Cc;cases hg:o.guard with
 |none=>rw[hg]at f;simp only[Jz,Ac]at f;simp[<-f,valid]
 |some r=>
  obtain⟨j,p⟩:=r;rw[hg]at f;simp only[Jz]at f;split at f;rename_i g i;split at f;rename_i t b u;simp only[Ac]at f;subst f;have l:((ops[j]?).bind (·.dst))=Td g:=by simp only[yv]at i;split at i;rename_i w k;simp[k,i];cases i
  have s:=h.all _ (zaw u);have q:yielded ops a.tmps j=Td p↔zy a g=.bool p:=by
   unfold yielded zy;rw[l];simp only[C2];cases ht:a.tmps[g]? with
   |none=>simp[BM,ht,undef]
   |some v=>cases v <;> simp[BM,ht]
  simp only[beq_iff_eq,q,valid];constructor;intro h1;refine⟨h1,?_⟩;by_cases m:valid (zy a) t;exact m;have:=s.2 m;simp only at this;rw[h1]at this;exact absurd this.symm zdg;exact λh1=>h1.1;cases f;cases f
structure Keep (n:Nat) (h h':zb):Prop where
 size:h.size<=h'.size
 get:∀i,i<n->h'[i]?=h[i]?
theorem Keep.refl(n:Nat)(h:zb):Keep n h h:=⟨Ab _,λ_ _=>rfl⟩
theorem Keep.trans{a b c:zb}(h:Keep n a b)(k:Keep m b c)(e:n<=m):Keep n a c:= ⟨Ck h.size k.size,λi hi=>(k.get i (Dh hi e)).trans (h.get i hi)⟩
theorem Keep.mono{a b:zb}(h:Keep n a b)(c:m<=n):Keep m a b:=⟨h.size,λi hi=>h.get i (Dh hi c)⟩
theorem Keep.push(h:zb)(o:Obj)(b:n<=h.size):Keep n h (h.push o):= ⟨by simp,λi hi=>by rw[Cd,if_neg (by omega)]⟩
end
section
variable {P:Program} {α:Type} {h:zb} {v x i:Value} {t:TypeId} {g:Option Bool} {n l r:Int}
def zc(h:zb)(a:Addr):Option Value:=
 match h[a.block]? with
 |some (.cells c _ _)=>if a.spot.isSome then Te else c[a.off]?
 |_=>Te
theorem zto(B:World)(d:Nat)(h:zb)(a:Addr):(mk B d h).cell? a=zc h a:=rfl
def Yg(P:Program){α:Type}:Sem α->Option α
 |.pure a=>Td a
 |.program k=>Yg P (k P)
 |.mark _ k=>Yg P k
 |_=>Te
def QExec(P:Program){α:Type}(s:Sem α)(h:zb)(x:α):Prop:=∀B d,s.run P (mk B d h)=.ok x (mk B d h)
theorem zgl{s:Sem α}{x:α}(h:Yg P s=Td x)(w:World):s.run P w=.ok x w:=by
 induction s with
 |pure a=>simp only[Yg,Ac]at h;subst h;rfl
 |program k b=>exact b P h
 |mark m k b=>exact b h
 |_=>simp[Yg]at h
theorem zkp{s:Sem α}{x:α}(h:Yg P s=Td x)(b:zb):QExec P s b x:=λ_ _=>zgl h _
theorem QExec.bind{α β:Type}{s:Sem α}{f:α->Sem β}{x:α}{y:β}(h1:QExec P s h x)(b:QExec P (f x) h y):QExec P (s >>= f) h y:=by intro B d;rw[Sem.run_bind,h1 B d];exact b B d
theorem QExec.pure(x:α):QExec P (Dn x) h x:=λ_ _=>rfl
theorem QExec.val{s:Sem Value}(h1:QExec P s h v):QExec P (s >>= λx=>Dn (Dr x)) h (Dr v):=h1.bind (QExec.pure _)
theorem QExec.underlying{d:TypeDesc}(b:P.underlying t=Td d):QExec P (Go.underlying t) h d:=by intro B e;simp[Go.underlying,program,b,Sem.run]
def qi(P:Program)(t:TypeId):Nat:=match P.info? t with
 |some i=>i.size
 |none=>0
theorem QExec.sizeOf{i:TypeInfo}(hi:P.info? t=Td i):QExec P (Go.sizeOf t) h (qi P t):=by intro B d;simp[Go.sizeOf,typeInfo,program,hi,Sem.run,qi]
theorem info_of_underlying{d:TypeDesc}(b:P.underlying t=Td d):∃i,P.info? t=Td i:=by
 unfold Program.underlying at b;cases h:P.info? t with
 |none=>rw[h]at b;cases b
 |some i=>exact⟨i,rfl⟩
inductive Atom where
 |int (k:IntKind)|bool|str|sl|mp|ptr|raw|ad
structure Sl where
 a:Option Addr
 len:Nat
 cap:Nat
@[reducible] def Atom.den:Atom->Type
 |.int _=>Int | .bool=>Bool | .str=>Bt | .sl=>Sl | .mp=>Option Nat | .ptr=>Option Addr | .raw=>Value | .ad=>Addr
def Atom.enc:(t:Atom)->t.den->Value
 |.int k,n=>.int k n
 |.bool,b=>.bool b
 |.str,s=>.string s
 |.sl,s=>.slice s.a s.len s.cap
 |.mp,m=>.map m
 |.ptr,p=>.pointer p
 |.raw,v=>v
 |.ad,p=>.pointer (Td p)
def Atom.dec:(t:Atom)->Value->Option t.den
 |.int k,.int k' n=>if k=k' then Td n else Te
 |.bool,.bool b=>Td b
 |.str,.string s=>Td s
 |.sl,.slice a l c=>Td ⟨a,l,c⟩
 |.mp,.map m=>Td m
 |.ptr,.pointer p=>Td p
 |.raw,v=>Td v
 |.ad,.pointer (Td p)=>Td p
 |_,_=>Te
theorem Atom.enc_of_dec{t:Atom}{x:t.den}(h:t.dec v=Td x):t.enc x=v:=by
 cases t with
 |ad=>
  cases v with
  |pointer p=>
   cases p with
   |none=>simp[Atom.dec]at h
   |some a=>simp[Atom.dec]at h;rw[h];rfl
  |_=>simp[Atom.dec]at h
 |_=>cases v <;> simp_all[Atom.dec,Atom.enc] <;> (subst h;first|rfl|exact⟨rfl,rfl,rfl⟩)
inductive VT where
 |one (t:Atom)
 |agg (l:List Atom)
inductive RT where
 |one (v:VT)
 |tup (l:List VT)
def zm1:List Atom->(List Value->Prop)->Prop
 |[],F=>F []
 |t::l,F=>∃x:t.den,zm1 l λvs=>F (t.enc x::vs)
def qj9:VT->(Value->Prop)->Prop
 |.one t,F=>∃x:t.den,F (t.enc x)
 |.agg l,F=>zm1 l λvs=>F (.agg vs.toArray)
def qdk:List VT->(List Value->Prop)->Prop
 |[],F=>F []
 |t::l,F=>qj9 t λv=>qdk l λvs=>F (v::vs)
def qb7:RT->(Value->Prop)->Prop
 |.one v,F=>qj9 v F
 |.tup l,F=>qdk l λvs=>F (.tuple vs.toArray)
def zdh:List Atom->(List Value->Prop)->Prop
 |[],F=>F []
 |t::l,F=>∀x:t.den,zdh l λvs=>F (t.enc x::vs)
def z1c:VT->(Value->Prop)->Prop
 |.one t,F=>∀x:t.den,F (t.enc x)
 |.agg l,F=>zdh l λvs=>F (.agg vs.toArray)
def zle:List VT->(List Value->Prop)->Prop
 |[],F=>F []
 |t::l,F=>z1c t λv=>zle l λvs=>F (v::vs)
def qgr:RT->(Value->Prop)->Prop
 |.one v,F=>z1c v F
 |.tup l,F=>zle l λvs=>F (.tuple vs.toArray)
theorem Y4:∀{l:List Atom} {F G:List Value->Prop},zm1 l F->zdh l G->∃vs,vs.length=l.length/\F vs/\G vs
 |[],_,_,h,g=>⟨[],rfl,h,g⟩
 |_::_,_,_,⟨x,h⟩,g=>let ⟨vs,h0,h1,h2⟩:=Y4 h (g x);⟨_,by simp[h0],h1,h2⟩
theorem wj:∀(l:List Atom),zdh l λ_=>True
 |[]=>trivial
 |_::l=>λ_=>wj l
theorem ztp{v:VT}{F G:Value->Prop}(h:qj9 v F)(g:z1c v G):∃u,F u/\G u:=by
 cases v with
 |one t=>obtain⟨x,h⟩:=h;exact⟨_,h,g x⟩
 |agg l=>obtain⟨vs,_,h1,b⟩:=Y4 h g;exact⟨_,h1,b⟩
theorem ztq(v:VT):z1c v λ_=>True:=by
 cases v with
 |one t=>exact λ_=>trivial
 |agg l=>exact wj l
theorem zm2:∀{l:List VT} {F G:List Value->Prop},qdk l F->zle l G->∃vs,F vs/\G vs
 |[],_,_,h,g=>⟨[],h,g⟩
 |_::_,_,_,h,g=>let ⟨_,h1,h2⟩:=ztp h g;let ⟨_,h3,h4⟩:=zm2 h1 h2;⟨_,h3,h4⟩
theorem zgm:∀(l:List VT),zle l λ_=>True
 |[]=>trivial
 |v::l=>by
  have h:=zgm l;simp only[zle];cases v with
  |one t=>exact λ_=>h
  |agg b=>
   simp only[z1c];have key:∀(b:List Atom) (f:List Value->List Value),zdh b λ_=>zle l λ_=>True:=λb _=>by
    induction b with
    |nil=>exact h
    |cons t b c=>exact λ_=>c
   exact key b id
theorem z1d{r:RT}{F G:Value->Prop}(h:qb7 r F)(g:qgr r G):∃v,F v/\G v:=by
 cases r with
 |one v=>exact ztp h g
 |tup l=>obtain⟨vs,h1,b⟩:=zm2 h g;exact⟨_,h1,b⟩
theorem zm3{r:RT}{F:Value->Prop}(h:qb7 r F):∃v,F v:=by
 cases r with
 |one v=>obtain⟨u,h1,_⟩:=ztp h (ztq v);exact⟨u,h1⟩
 |tup l=>obtain⟨vs,h1,_⟩:=zm2 h (zgm l);exact⟨_,h1⟩
def qb8:TypeDesc->Atom
 |.int k=>.int k
 |.bool=>.bool
 |.string=>.str
 |.slice _=>.sl
 |.map _ _=>.mp
 |.pointer _=>.ptr
 |_=>.raw
def zm4(P:Program):Nat->TypeId->Option (List Atom)
 |0,_=>Te
 |n+1,t=>match P.underlying t with
  |some (.struct fs)=>fs.toList.foldr (λf l=>match zm4 P n f.type,l with
    |some x,some y=>Td (x++y)
    |_,_=>Te) (Td [])
  |some (.array m e)=>match zm4 P n e with
    |some x=>Td (BE m x).flatten
    |none=>Te
  |some d=>Td [qb8 d]
  |none=>Te
def z06(P:Program)(t:TypeId):Option VT:=match P.underlying t with
 |some (.struct _)|some (.array _ _)=>match zm4 P 8 t with
  |some l=>bif Nat.beq l.length (qi P t)then Td (.agg l)else Te
  |none=>Te
 |some d=>Td (.one (qb8 d))
 |none=>Te
def qgs(P:Program):List TypeId->Option (List VT)
 |[]=>Td []
 |t::l=>match z06 P t,qgs P l with
  |some x,some y=>Td (x::y)
  |_,_=>Te
def qgt(P:Program)(t:TypeId):Option RT:=match P.underlying t with
 |some (.tuple ts)=>match qgs P ts.toList with
  |some l=>Td (.tup l)
  |none=>Te
 |_=>match z06 P t with
  |some v=>Td (.one v)
  |none=>Te
def req:Option Bool->Prop->Prop
 |none,p=>p
 |some b,p=>b=Ta->p
def gok:Option Bool->Prop
 |none=>True
 |some b=>b=Ta
theorem req.out{p:Prop}(h:req g p)(c:gok g):p:=by
 cases g with
 |none=>exact h
 |some b=>exact h c
def zd(h:zb)(p:Addr):Nat->List Value->Prop
 |_,[]=>True
 |i,v::vs=>zc h (p.add i)=Td v/\zd h p (i+1) vs
def zpy(P:Program)(h:zb)(t:TypeId)(p:Value)(g:Option Bool)(K:Value->Prop):Prop:=
 match p,z06 P t with
 |.pointer (Td p),Td (.one a)=>∃x:a.den,req g (zc h p=Td (a.enc x))/\K (a.enc x)
 |.pointer (Td p),Td (.agg l)=>zm1 l λvs=>req g (zd h p 0 vs)/\K (.agg vs.toArray)
 |_,_=>False
theorem Xv{P:Program}{h:zb}{p:Addr}:∀(vs:List Value) (i:Nat) (b:Array Value),zd h p i vs->QExec P (loadCellsFrom p i vs.length b) h (b++vs.toArray)
 |[],i,b,_=>by intro B d;simp[loadCellsFrom]
 |v::vs,i,b,⟨h1,h2⟩=>by have c:=Xv (P:=P) vs (i+1) (b.push v) h2;intro B d;simp only[Aq,loadCellsFrom,Sem.run_bind,run_load];rw[zto,h1];simp only[Result.andThen_ok];rw[c B d];simp
theorem zhj{a:Atom}{p:Addr}(b:z06 P t=Td (.one a))(f:zc h p=Td v):QExec P (loadVar t p) h v:=by
 unfold z06 at b;cases hu:P.underlying t with
 |none=>rw[hu]at b;cases b
 |some d=>
  rw[hu]at b;intro B e;have i:=QExec.underlying (h:=h) hu B e;have c:(isAgg t).run P (mk B e h)=.ok Tc (mk B e h):=by unfold isAgg;rw[Sem.run_bind,i];cases d <;> first|rfl|(exfalso;revert b;dsimp only;split <;> first|(intro h;cases h;done)|(cases k:Nat.beq _ _ <;> intro h <;> cases h))
  unfold loadVar;rw[Sem.run_bind,c];simp only[Result.andThen_ok,Bc,if_false,run_load];rw[zto,f]
theorem zhk{l:List Atom}{p:Addr}{vs:List Value}(f:z06 P t=Td (.agg l))(q:vs.length=l.length)(r:zd h p 0 vs):QExec P (loadVar t p) h (.agg vs.toArray):=by
 unfold z06 at f;cases hu:P.underlying t with
 |none=>rw[hu]at f;cases f
 |some d=>
  rw[hu]at f;obtain⟨i,hi⟩:=info_of_underlying hu;have b:(∃k,d=.struct k)\/(∃n e,d=.array n e):=by cases d <;> first|exact Or.inl ⟨_,rfl⟩|exact Or.inr ⟨_,_,rfl⟩|(simp at f)
  have m:qi P t=l.length:=by
   have c:(match zm4 P 8 t with
     |some l=>bif Nat.beq l.length (qi P t)then Td (VT.agg l)else Te
     |none=>Te)=Td (.agg l):=by
    rcases b with⟨k,rfl⟩|⟨n,e,rfl⟩ <;> exact f
   split at c;rename_i s _;cases hb:Nat.beq s.length (qi P t)with
   |false=>rw[hb]at c;cases c
   |true=>rw[hb]at c;simp only[cond_true,Ac,VT.agg.injEq]at c;rw[<-c];exact(Ak hb).symm
   cases c
  intro B e;have o:=QExec.underlying (h:=h) hu B e;have hA:(isAgg t).run P (mk B e h)=.ok Ta (mk B e h):=by unfold isAgg;rw[Sem.run_bind,o];rcases b with⟨k,rfl⟩|⟨n,e',rfl⟩ <;> rfl
  have u:=QExec.sizeOf (h:=h) hi B e;unfold loadVar;rw[Sem.run_bind,hA];simp only[Result.andThen_ok,if_true];rw[Sem.run_bind,u];simp only[Result.andThen_ok];have w:=Xv (P:=P) vs 0 #[] r B e;unfold loadCells;rw[Sem.run_bind,m,<-q,w];simp
theorem zh1{p:Value}{K:Value->Prop}(H:zpy P h t p g K):
  ∃v,K v/\(gok g->QExec P (DW t p) h v):=by
 unfold zpy at H;split at H;rename_i q a c;obtain⟨x,h1,e⟩:=H;exact⟨_,e,λb=>zhj c (h1.out b)⟩;rename_i q l c;obtain⟨vs,h0,⟨h1,e⟩,_⟩:=Y4 H (wj l);exact⟨_,e,λb=>zhk c h0 (h1.out b)⟩;exact H.elim
def zpz(P:Program)(t:TypeId)(x i:Value)(g:Option Bool)(K:Value->Prop):Prop:=
 match P.underlying t with
 |some (.slice el)=>match x,i with
  |.slice base len _,.int _ n=>∃a:Addr,req g (base=Td a/\0<=n/\n<(len:Int))/\K (.pointer (Td (a.add (n.toNat*qi P el))))
  |_,_=>False
 |some (.array len el)=>match x,i with
  |.pointer base,.int _ n=>∃a:Addr,req g (base=Td a/\0<=n/\n<(len:Int))/\K (.pointer (Td (a.add (n.toNat*qi P el))))
  |_,_=>False
 |_=>False
def qb(P:Program)(t:TypeId):Bool:=match P.info? t with
 |some _=>Ta
 |none=>Tc
theorem jc(h:qb P t=Ta):∃i,P.info? t=Td i:=by unfold qb at h;split at h;exact⟨_,by assumption⟩;cases h
theorem ww(t:TypeId)(B:World)(d:Nat):(∃i,P.info? t=Td i)->(Go.sizeOf t).run P (mk B d h)=.ok (qi P t) (mk B d h):=λ⟨_,hi⟩=>QExec.sizeOf hi B d
theorem Zq{K:Value->Prop} (b:∀el,(P.underlying t=Td (.slice el)\/∃n,P.underlying t=Td (.array n el))->∃i,P.info? el=Td i) (H:zpz P t x i g K):
  ∃v,K v/\(gok g->∀h:zb,QExec P (Ej t x i) h v):=by
 unfold zpz at H;split at H;rename_i el c;split at H;rename_i base len cap k n;obtain⟨a,h1,m⟩:=H;refine⟨_,m,λp=>?_⟩;obtain⟨rfl,f,e⟩:=h1.out p;intro h B d;have l:=QExec.underlying (h:=h) c B d;have o:=ww (h:=h) el B d (b el (Or.inl c));unfold Ej;simp[asIntOf,Sem.run_bind,l,o,f,e];exact H.elim;rename_i len el c;split at H;rename_i base k n;obtain⟨a,h1,m⟩:=H;refine⟨_,m,λp=>?_⟩;obtain⟨rfl,f,e⟩:=h1.out p;intro h B d;have l:=QExec.underlying (h:=h) c B d;have o:=ww (h:=h) el B d (b el (Or.inr ⟨_,c⟩));unfold Ej;simp[asIntOf,Sem.run_bind,l,o,f,e,DN];exact H.elim;exact H.elim
def zr(s:Bt)(i:Nat):Int:=((s.data[i]?.getD 0).toNat:Int)
def zh2(x i:Value)(g:Option Bool)(K:Value->Prop):Prop:=
 match x,i with
 |.string s,.int _ n=>req g (0<=n/\n<(s.size:Int))/\K (.int .u8 (zr s n.toNat))
 |_,_=>False
theorem qgu(s:Bt)(i:Nat)(h:i<s.size):s[i]?=Td (s.data[i]?.getD 0):=by have h':i<s.data.size:=h;rw[getElem?_pos s i h];simp[Bo h'];rfl
theorem Xw{K:Value->Prop}(c:P.underlying t=Td .string)(H:zh2 x i g K):
  ∃v,K v/\(gok g->∀h:zb,QExec P (Instr.index t x i) h v):=by
 unfold zh2 at H;split at H;rename_i s k n;obtain⟨h1,m⟩:=H;refine⟨_,m,λl=>?_⟩;obtain⟨b,o⟩:=h1.out l;intro h B d;have e:=QExec.underlying (h:=h) c B d;unfold Instr.index;have f:=qgu s n.toNat (by omega);simp only[asIntOf,Sem.run_bind,e,Sem.run_pure,Result.andThen_ok,b,if_true,f,zr];exact H.elim
def zfb(a:Option Addr)(sz l m:Nat):Option Addr:=if m=l then a else a.map (·.add (l*sz))
def ym:Option Value->Int->Option Int
 |none,d=>Td d
 |some (.int _ n),_=>Td n
 |some _,_=>Te
def zv3(P:Program)(t:TypeId)(x:Value)(lo hi mx:Option Value)(g:Option Bool)(K:Value->Prop):Prop:=
 match P.underlying t with
 |some .string=>match x,mx with
  |.string s,none=>match ym lo 0,ym hi (s.size:Int)with
   |some l,some r=>req g (0<=l/\l<=r/\r<=(s.size:Int))/\K (.string (s.extract l.toNat r.toNat))
   |_,_=>False
  |_,_=>False
 |some (.slice el)=>match x with
  |.slice a len cap=>match ym lo 0,ym hi (len:Int),ym mx (cap:Int)with
   |some l,Td r,some m=>(mx=Te\/∃v,hi=Td v)/\req g (0<=l/\l<=r/\r<=m/\m<=(cap:Int))/\K (.slice (zfb a (qi P el) l.toNat m.toNat) (r.toNat-l.toNat) (m.toNat-l.toNat))
   |_,_,_=>False
  |_=>False
 |some (.array n el)=>match x,mx with
  |.pointer (Td a),none=>match ym lo 0,ym hi (n:Int)with
   |some l,some r=>req g (0<=l/\l<=r/\r<=(n:Int))/\K (.slice (zfb (Td a) (qi P el) l.toNat n) (r.toNat-l.toNat) (n-l.toNat))
   |_,_=>False
  |_,_=>False
 |_=>False
theorem jd{v:Option Value}{d n:Int}(h:ym v d=Td n):(v=Te/\n=d)\/∃k,v=Td (.int k n):=by unfold ym at h;split at h;exact Or.inl ⟨rfl,by simpa using h.symm⟩;simp only[Ac]at h;exact Or.inr ⟨_,by rw[h]⟩;cases h
theorem yw{k:IntKind}{y:Nat}{c:BoundsCode}(h0:0<=n)(h1:n<=(y:Int)):QExec P (Instr.sliceBound (.int k n) y c) h n.toNat:=by intro B d;simp[Instr.sliceBound,asIntOf,h0,h1]
theorem zlf{n:Nat}{lo hi:Option Value}(m:ym lo 0=Td l)(i:ym hi (n:Int)=Td r)(b:0<=l)(f:l<=r)(c:r<=(n:Int)):
  QExec P (Instr.sliceBounds Tc n n lo hi Te) h (l.toNat,r.toNat,n):=by
 have e:(r.toNat:Int)=r:=Int.toNat_of_nonneg (by omega);rcases jd m with⟨rfl,rfl⟩|⟨k,rfl⟩ <;> rcases jd i with⟨rfl,rfl⟩|⟨k',rfl⟩;exact QExec.pure _;exact QExec.bind (QExec.pure n) (QExec.bind (yw (by omega) c) (QExec.pure _));exact QExec.bind (QExec.pure n) (QExec.bind (QExec.pure n) (QExec.bind (yw b f) (QExec.pure _)));exact QExec.bind (QExec.pure n) (QExec.bind (yw (by omega) c) (QExec.bind (yw b (by omega)) (QExec.pure _)))
theorem zp0{len cap:Nat}{lo hi mx:Option Value}{l r m:Int}(n:ym lo 0=Td l)(f:ym hi (len:Int)=Td r)(q:ym mx (cap:Int)=Td m) (h0:mx=Te\/∃v,hi=Td v) (b:0<=l) (p:l<=r) (o:r<=m) (i:m<=(cap:Int)):
  QExec P (Instr.sliceBounds Ta len cap lo hi mx) h (l.toNat,r.toNat,m.toNat):=by
 have e:(r.toNat:Int)=r:=Int.toNat_of_nonneg (by omega);have t:(m.toNat:Int)=m:=Int.toNat_of_nonneg (by omega);rcases jd q with⟨rfl,rfl⟩|⟨u,rfl⟩;rcases jd n with⟨rfl,rfl⟩|⟨k,rfl⟩ <;> rcases jd f with⟨rfl,rfl⟩|⟨s,rfl⟩;exact QExec.pure _;exact QExec.bind (QExec.pure cap) (QExec.bind (yw (by omega) o) (QExec.pure _));exact QExec.bind (QExec.pure cap) (QExec.bind (QExec.pure len) (QExec.bind (yw b p) (QExec.pure _)));exact QExec.bind (QExec.pure cap) (QExec.bind (yw (by omega) o) (QExec.bind (yw b (by omega)) (QExec.pure _)));rcases h0 with h0|⟨v,rfl⟩;cases h0;rcases jd f with⟨c,_⟩|⟨s,c⟩;cases c;cases c;rcases jd n with⟨rfl,rfl⟩|⟨k,rfl⟩;exact QExec.bind (x:=m.toNat) (yw (by omega) i) (QExec.bind (yw (by omega) (by omega)) (QExec.pure _));exact QExec.bind (x:=m.toNat) (yw (by omega) i) (QExec.bind (yw (by omega) (by omega)) (QExec.bind (yw b (by omega)) (QExec.pure _)))
theorem Yh{lo hi mx:Option Value}{K:Value->Prop} (q:∀el,(P.underlying t=Td (.slice el)\/∃n,P.underlying t=Td (.array n el))->∃i,P.info? el=Td i) (H:zv3 P t x lo hi mx g K):
  ∃v,K v/\(gok g->∀h:zb,QExec P (D5 t x lo hi mx) h v):=by
 unfold zv3 at H;split at H;rename_i c;split at H;rename_i s;split at H;rename_i l r o k;obtain⟨h1,p⟩:=H;refine⟨_,p,λw=>?_⟩;obtain⟨f,e,u⟩:=h1.out w;intro h B d;have b:=QExec.underlying (h:=h) c B d;have bb:=zlf (P:=P) (h:=h) o k f e u B d;unfold D5;rw[Sem.run_bind,b];simp only[Result.andThen_ok];unfold Instr.slice;rw[Sem.run_bind,b];simp[bb];exact H.elim;exact H.elim;rename_i el c;split at H;rename_i a len cap;split at H;rename_i l r m o k A;obtain⟨h0,h1,p⟩:=H;refine⟨_,p,λw=>?_⟩;obtain⟨f,e,u,z⟩:=h1.out w;intro h B d;have b:=QExec.underlying (h:=h) c B d;have y:=ww (h:=h) el B d (q el (.inl c));have bb:=zp0 (P:=P) (h:=h) o k A h0 f e u z B d;unfold D5;rw[Sem.run_bind,b];simp only[Result.andThen_ok];unfold Instr.slice;rw[Sem.run_bind,b];simp[bb,y,zfb];exact H.elim;exact H.elim;rename_i n el c;split at H;rename_i a;split at H;rename_i l r o k;obtain⟨h1,p⟩:=H;refine⟨_,p,λw=>?_⟩;obtain⟨f,e,u⟩:=h1.out w;intro h B d;have b:=QExec.underlying (h:=h) c B d;have y:=ww (h:=h) el B d (q el (.inr ⟨n,c⟩));have bb:=zlf (P:=P) (h:=h) o k f e u B d;unfold D5;rw[Sem.run_bind,b];simp only[Result.andThen_ok,DN,Sem.run_bind,Sem.run_pure,bb,y];unfold zfb;split <;> rfl;exact H.elim;exact H.elim;exact H.elim
end
section
variable {P:Program} {f:FuncId} {h:zb} {K:Value -> zb -> Prop} {t ty t':TypeId} {g:Option Bool} {w w':World} {v:Value} {o:Oper} {ρ:Operand -> Value} {a:Act}
def XC(P:Program)(f:FuncId)(args:Array Value)(h:zb)(R:Value->zb->Prop):Prop:=
 ∀B d,Calls P f args (mk B d h) λe w'=>∃v b h',e=.returned v/\w'=mk B b h'/\R v h'
theorem XC.mono{args:Array Value}{R b:Value->zb->Prop}(H:XC P f args h R)(i:∀v h',R v h'->b v h'):XC P f args h b:= λB d=>(H B d).mono λ_ _ ⟨v,e,h',k,c,r⟩=>⟨v,e,h',k,c,i _ _ r⟩
def XRun(P:Program)(s:Sem Value)(h:zb)(K:Value->zb->Prop):Prop:=∀B d,∃v b h',s.run P (mk B d h)=.ok v (mk B b h')/\K v h'
def XRunU(P:Program)(s:Sem Unit)(h:zb)(K:zb->Prop):Prop:=∀B d,∃b h',s.run P (mk B d h)=.ok () (mk B b h')/\K h'
theorem XRun.mono{s:Sem Value}{K b:Value->zb->Prop}(H:XRun P s h K)(c:∀v h',K v h'->b v h'):XRun P s h b:= λB d=>let ⟨v,d',h',e,k⟩:=H B d;⟨v,d',h',e,c _ _ k⟩
theorem XRunU.mono{s:Sem Unit}{K b:zb->Prop}(H:XRunU P s h K)(c:∀h',K h'->b h'):XRunU P s h b:= λB d=>let ⟨d',h',e,k⟩:=H B d;⟨d',h',e,c _ k⟩
def wl(n:Nat):Prop:=n<=9223372036854775807
def zg0(P:Program)(s:Sem Next)(K:Value->Prop):Prop:=match Yg P s with
 |some (.value v)=>K v
 |_=>False
def z9j(P:Program)(ty:TypeId)(s:Sem Value)(g:Option Bool)(h:zb)(K:Value->Prop):Prop:=match qgt P ty with
 |some rt=>qb7 rt λv=>req g (QExec P s h v)/\K v
 |none=>False
def zyr(P:Program)(t:TypeId):Bool:=match P.underlying t with
 |some (.slice _)=>Ta
 |_=>Tc
def zys(P:Program)(t:TypeId):Bool:=match P.underlying t with
 |some (.pointer e)=>Nat.beq e (P.pointee t)
 |_=>Tc
theorem zv4(h:zys P t=Ta):P.underlying t=Td (.pointer (P.pointee t)):=by unfold zys at h;split at h;rename_i e b;rw[b,Ak h];cases h
def qjm(P:Program)(t:TypeId)(s:Sem Next)(c:BinOp)(x y:Value)(g:Option Bool)(K:Value->Prop):Prop:=
 match c,x,y with
 |.eql,.slice a _ _,.slice Te 0 0=>bif zyr P t then K (.bool a.isNone)else zg0 P s K
 |.neq,.slice a _ _,.slice Te 0 0=>bif zyr P t then K (.bool (!a.isNone))else zg0 P s K
 |.eql,.pointer a,.pointer none=>bif zys P t then K (.bool a.isNone)else zg0 P s K
 |.neq,.pointer a,.pointer none=>bif zys P t then K (.bool (!a.isNone))else zg0 P s K
 |.quo,.int k a,.int k' b=>k=k'/\req g (b≠0)/\K (.int k (k.wrap (a.tdiv b)))
 |.rem,.int k a,.int k' b=>k=k'/\req g (b≠0)/\K (.int k (a.tmod b))
 |.add,.string a,.string b=>req g (wl (a.size+b.size))/\K (.string (a++b))
 |_,_,_=>zg0 P s K
def qdl(b:BinOp)(y:Operand):Bool:=match y with
 |.const _=>Tc
 |_=>match b with
  |.shl | .shr=>Ta
  |_=>Tc
def shF(c:BinOp)(x y:Value)(g:Option Bool)(K:Value->Prop):Prop:=
 match x,y with
 |.int k a,.int _ b=>match c with
  |.shl=>req g (0<=b)/\K (.int k (k.wrap (a*2 ^ (min b.toNat k.bits))))
  |.shr=>req g (0<=b)/\K (.int k (a.fdiv (2 ^ (min b.toNat k.bits))))
  |_=>False
 |_,_=>False
def qgv(P:Program)(t:TypeId)(y:Operand):Bool:=match y with
 |.const .nilIface=>match P.underlying t with
  |some (.interface _)=>Ta
  |_=>Tc
 |_=>Tc
def ifc:Value->Bool
 |.nilIface=>Ta
 |.iface _ _=>Ta
 |_=>Tc
def qgw:Value->Bool
 |.nilIface=>Ta
 |_=>Tc
def nvF(b:BinOp)(x y:Value)(g:Option Bool)(K:Value->Prop):Prop:=match y with
 |.nilIface=>match b with
  |.eql=>req g (ifc x=Ta)/\K (.bool (qgw x))
  |.neq=>req g (ifc x=Ta)/\K (.bool (!qgw x))
  |_=>False
 |_=>False
def zlg(b:Builtin)(c:Array TypeId)(e:TypeId)(args:Array Value):Option (Sem Value):=
 match b with
 |.append=>Td (Au c e args)
 |.copy=>Td (Builtin.copy_ c e args)
 |.clear=>Td (Builtin.clear_ c e args)
 |.delete=>Td (Builtin.delete_ c e args)
 |.len=>Td (C5 c e args)
 |_=>Te
def qka(P:Program)(s:Sem Next)(ty:TypeId)(b:Array TypeId)(args:Array Value)(g:Option Bool)(h:zb)(K:Value->Prop):Prop:=
 match (args[0]?:Option Value)with
 |some (Value.map _)=>z9j P ty (C5 b ty args) g h K
 |_=>zg0 P s K
def zbo(P:Program)(t:TypeId):Bool:=match P.underlying t with
 |some (.slice el)=>qb P el
 |some (.array _ el)=>qb P el
 |_=>Ta
theorem Zj(h:zbo P t=Ta):∀el,(P.underlying t=Td (.slice el)\/∃n,P.underlying t=Td (.array n el))->∃i,P.info? el=Td i:=by intro el b;unfold zbo at h;rcases b with b|⟨n,b⟩ <;> rw[b]at h <;> exact jc h
def zp1(P:Program)(t:TypeId):Bool:=match P.underlying t with
 |some .string=>Ta
 |_=>Tc
theorem zp2(h:zp1 P t=Ta):P.underlying t=Td .string:=by unfold zp1 at h;split at h;assumption;cases h
def qjn(P:Program)(s:Sem Next)(x:Value)(g:Option Bool)(K:Value->Prop):Prop:=match x with
 |.pointer p=>∃a:Addr,req g (p=Td a)/\K (.pointer (Td a))
 |_=>zg0 P s K
def J0(P:Program)(o:Oper)(ρ:Operand->Value)(g:Option Bool)(h:zb)(K:Value->Prop):Prop:=
 match o.op with
 |.load t a=>zpy P h t (ρ a) g K
 |.indexAddr t x i=>bif zbo P t then zpz P t (ρ x) (ρ i) g K else False
 |.index t x i=>bif zp1 P t then zh2 (ρ x) (ρ i) g K else zg0 P (execOp ρ o) K
 |.slice t x lo hi mx=>bif zbo P t then zv3 P t (ρ x) (lo.map ρ) (hi.map ρ) (mx.map ρ) g K else False
 |.binOp b t x y _=>bif qdl b y then shF b (ρ x) (ρ y) g K else bif qgv P t y then nvF b (ρ x) (ρ y) g K else qjm P t (execOp ρ o) b (ρ x) (ρ y) g K
 |.lookup t m k ok=>z9j P o.type (Dw t (ρ m) (ρ k) ok) g h K
 |.nilCheck x=>qjn P (execOp ρ o) (ρ x) g K
 |.call c=>match c.callee with
  |.builtin .len=>qka P (execOp ρ o) o.type c.argTypes (c.args.map ρ) g h K
  |_=>zg0 P (execOp ρ o) K
 |_=>zg0 P (execOp ρ o) K
theorem zt{s:Sem Next}{K:Value->Prop}(H:zg0 P s K)(g:Option Bool):∃v,K v/\(gok g->∀h:zb,QExec P s h (.value v)):=by unfold zg0 at H;split at H;rename_i v b;exact⟨v,H,λ_ h=>zkp b h⟩;exact H.elim
theorem zh3{s:Sem Value}{K:Value->Prop}(H:z9j P ty s g h K):∃v,K v/\(gok g->QExec P s h v):=by unfold z9j at H;split at H;obtain⟨v,h1,c⟩:=zm3 H;exact⟨v,c,λb=>h1.out b⟩;exact H.elim
theorem xn{c:BinOp}(t:TypeId)(x y:Operand)(a b:Value)(h1:(c matches .eql | .neq)=Tc):eqGuard c t x y a b=pure ():=by unfold eqGuard;cases c <;> simp at h1 <;> rfl
theorem zv5{s:Sem Value}(h:s.run P w=.ok v w'):(s >>= λx=>(Dn (Dr x):Sem Next)).run P w=.ok (.value v) w':=by rw[Sem.run_bind,h];rfl
theorem zlh{s:Sem Next}{K:Value->Prop}(h:zb)(H:∃v,K v/\(gok g->∀h:zb,QExec P s h (.value v))):∃v,K v/\(gok g->QExec P s h (.value v)):=
 let ⟨v,h1,h2⟩:=H;⟨v,h1,λb=>h2 b h⟩
theorem z9k{p:BinOp}{x y:Operand}(r:o.op=.binOp p t x y t'){K:Value->Prop}
  (H:qjm P t (execOp ρ o) p (ρ x) (ρ y) g K):∃v,K v/\(gok g->∀h:zb,QExec P (execOp ρ o) h (.value v)):=by
 have f:∀(p:BinOp) (x y:Operand) (a b:Option Addr) (l c A z:Nat) (w:World),(eqGuard p t x y (.slice a l c) (.slice b A z)).run P w=.ok () w:=λp x y a b l c A z w=>by unfold eqGuard;cases p <;> rfl
 have i:∀(p:BinOp) (x y:Operand) (a b:Option Addr) (w:World),(eqGuard p t x y (.pointer a) (.pointer b)).run P w=.ok () w:=λp x y a b w=>by unfold eqGuard;cases p <;> rfl
 unfold qjm at H;split at H;rename_i a l c n m;cases hs:zyr P t with
 |false=>rw[hs]at H;exact zt H g
 |true=>
  rw[hs,cond_true]at H;refine⟨_,H,λq h B d=>?_⟩;have e:∃el,P.underlying t=Td (.slice el):=by unfold zyr at hs;split at hs;rename_i el e;exact⟨el,e⟩;cases hs
  obtain⟨el,e⟩:=e;simp only[execOp,r,n,m];refine zv5 ?_;rw[Sem.run_bind,f];simp only[Result.andThen_ok,binOp,Sem.run_bind,run_equal_slice_nil _ t _ _ _ _ e];rfl
 rename_i a l c n m;cases hs:zyr P t with
 |false=>rw[hs]at H;exact zt H g
 |true=>
  rw[hs,cond_true]at H;refine⟨_,H,λq h B d=>?_⟩;have e:∃el,P.underlying t=Td (.slice el):=by unfold zyr at hs;split at hs;rename_i el e;exact⟨el,e⟩;cases hs
  obtain⟨el,e⟩:=e;simp only[execOp,r,n,m];refine zv5 ?_;rw[Sem.run_bind,f];simp only[Result.andThen_ok,binOp,Sem.run_bind,run_equal_slice_nil _ t _ _ _ _ e];rfl
 rename_i a n m;cases hs:zys P t with
 |false=>rw[hs]at H;exact zt H g
 |true=>rw[hs,cond_true]at H;refine⟨_,H,λq h B d=>?_⟩;have e:=zv4 hs;simp only[execOp,r,n,m];refine zv5 ?_;rw[Sem.run_bind,i];simp only[Result.andThen_ok,binOp,Sem.run_bind,run_equal_pointer_nil _ t _ e];rfl
 rename_i a n m;cases hs:zys P t with
 |false=>rw[hs]at H;exact zt H g
 |true=>rw[hs,cond_true]at H;refine⟨_,H,λq h B d=>?_⟩;have e:=zv4 hs;simp only[execOp,r,n,m];refine zv5 ?_;rw[Sem.run_bind,i];simp only[Result.andThen_ok,binOp,Sem.run_bind,run_equal_pointer_nil _ t _ e];rfl
 rename_i k a D b n m;obtain⟨rfl,h1,s⟩:=H;refine⟨_,s,λq=>?_⟩;have u:=h1.out q;intro h B d;simp only[execOp,r,n,m];rw[xn _ _ _ _ _ rfl];simp[binOp,Op.intDiv,u];rename_i k a D b n m;obtain⟨rfl,h1,s⟩:=H;refine⟨_,s,λq=>?_⟩;have u:=h1.out q;intro h B d;simp only[execOp,r,n,m];rw[xn _ _ _ _ _ rfl];simp[binOp,Op.intDiv,u];rename_i a b n m;obtain⟨h1,s⟩:=H;refine⟨_,s,λq=>?_⟩;have u:=h1.out q;intro h B d;simp only[execOp,r,n,m];rw[xn _ _ _ _ _ rfl];have C:¬((a.size+b.size:Nat):Int)>IntKind.i64.max:=by
  unfold wl at u;have:IntKind.i64.max=9223372036854775807:=by decide
  omega
 simp only[binOp,Op.stringOp,if_neg C];rfl;exact zt H g
theorem qdm{l:BinOp}{x y:Operand}(m:o.op=.binOp l t x y t'){K:Value->Prop}
  (H:shF l (ρ x) (ρ y) g K):∃v,K v/\(gok g->∀h:zb,QExec P (execOp ρ o) h (.value v)):=by
 unfold shF at H;split at H;rename_i k a p b i f;split at H;obtain⟨h1,c⟩:=H;refine⟨_,c,λe h B d=>?_⟩;have n:=h1.out e;simp only[execOp,m,i,f];rw[xn _ _ _ _ _ rfl];simp only[binOp,Op.shift,if_neg (show¬b<0 by omega)];rfl;obtain⟨h1,c⟩:=H;refine⟨_,c,λe h B d=>?_⟩;have n:=h1.out e;simp only[execOp,m,i,f];rw[xn _ _ _ _ _ rfl];simp only[binOp,Op.shift,if_neg (show¬b<0 by omega)];rfl;exact H.elim;exact H.elim
theorem qdn{b:BinOp}{x y:Operand}(m:o.op=.binOp b t x y t'){K:Value->Prop}
  (i:qgv P t y=Ta) (H:nvF b (ρ x) (ρ y) g K):∃v,K v/\(gok g->∀h:zb,QExec P (execOp ρ o) h (.value v)):=by
 have f:∃ms,P.underlying t=Td (.interface ms)/\y=.const .nilIface:=by unfold qgv at i;split at i;split at i;rename_i ms f;exact⟨ms,f,rfl⟩;cases i;cases i
 obtain⟨ms,f,rfl⟩:=f;have key:∀{u:Value} (h:zb),ifc u=Ta->QExec P (Er t u .nilIface) h (qgw u):=by intro u h hi B d;have n:=QExec.underlying (h:=h) f B d;unfold Er Op.maxDepth;cases u <;> first|(cases hi;done)|(unfold Op.equalIn;rw[Sem.run_bind,n];rfl)
 have l:∀b u (h:zb),ifc u=Ta->QExec P (eqGuard b t x (.const .nilIface) u .nilIface) h ():=by intro b u h hi B d;unfold eqGuard;cases u <;> first|(cases hi;done)|(cases b <;> simp)
 have c:∀b u,ifc u=Ta->(binOp b t u .nilIface=match b with | .eql=>(do pure (.bool (<-Er t u .nilIface))) | .neq=>(do pure (.bool (!(<-Er t u .nilIface))))|_=>binOp b t u .nilIface):=by intro b u hi;cases u <;> first|(cases hi;done)|(cases b <;> rfl)
 unfold nvF at H;split at H;rename_i k;split at H;refine⟨_,H.2,λe h=>?_⟩;have hi:=H.1.out e;simp only[execOp,m,k];refine QExec.val ((l _ _ h hi).bind ?_);rw[c _ _ hi];exact(key h hi).bind (QExec.pure _);refine⟨_,H.2,λe h=>?_⟩;have hi:=H.1.out e;simp only[execOp,m,k];refine QExec.val ((l _ _ h hi).bind ?_);rw[c _ _ hi];exact(key h hi).bind (QExec.pure _);exact H.elim;exact H.elim
theorem ztr{b:BinOp}{x y:Operand}(c:o.op=.binOp b t x y t'){K:Value->Prop}
  (H:bif qdl b y then shF b (ρ x) (ρ y) g K else bif qgv P t y then nvF b (ρ x) (ρ y) g K else qjm P t (execOp ρ o) b (ρ x) (ρ y) g K):∃v,K v/\(gok g->∀h:zb,QExec P (execOp ρ o) h (.value v)):=by
 cases hb:qdl b y with
 |true=>rw[hb]at H;exact qdm c H
 |false=>
  rw[hb]at H;cases hn:qgv P t y with
  |true=>rw[hn]at H;exact qdn c hn H
  |false=>rw[hn]at H;exact z9k c H
theorem zyt{c:Call}(f:o.op=.call c)(b:c.callee=.builtin .len){K:Value->Prop}
  (H:qka P (execOp ρ o) o.type c.argTypes (c.args.map ρ) g h K):∃v,K v/\(gok g->QExec P (execOp ρ o) h (.value v)):=by
 unfold qka at H;split at H;obtain⟨v,h1,i⟩:=zh3 H;refine⟨v,h1,λe=>?_⟩;have:=i e;intro B d;simp only[execOp,f,resolve,b,Sem.run_bind,Sem.run_pure,Result.andThen_ok,invoke,builtin];rw[this B d];rfl;exact zlh h (zt H g)
theorem zbx{K:Value->Prop}(H:J0 P o ρ g h K):∃v,K v/\(gok g->QExec P (execOp ρ o) h (.value v)):=by
 unfold J0 at H;split at H;rename_i t a b;obtain⟨v,h1,e⟩:=zh1 H;refine⟨v,h1,λf=>?_⟩;simp only[execOp,b];exact(e f).val;rename_i t x i b;cases he:zbo P t with
 |false=>rw[he]at H;exact H.elim
 |true=>rw[he]at H;obtain⟨v,h1,e⟩:=Zq (Zj he) H;refine⟨v,h1,λf=>?_⟩;simp only[execOp,b];exact(e f h).val
 rename_i t x i b;cases he:zp1 P t with
 |false=>rw[he]at H;exact zlh h (zt H g)
 |true=>rw[he]at H;obtain⟨v,h1,e⟩:=Xw (zp2 he) H;refine⟨v,h1,λf=>?_⟩;simp only[execOp,b];exact(e f h).val
 rename_i t x lo hi mx b;cases he:zbo P t with
 |false=>rw[he]at H;exact H.elim
 |true=>rw[he]at H;obtain⟨v,h1,e⟩:=Yh (Zj he) H;refine⟨v,h1,λf=>?_⟩;simp only[execOp,b];exact(e f h).val
 rename_i r t x y t' b;exact zlh h (ztr b H);rename_i t m k ok b;obtain⟨v,h1,e⟩:=zh3 H;refine⟨v,h1,λf=>?_⟩;simp only[execOp,b];exact(e f).val;rename_i x b;unfold qjn at H;split at H;rename_i p l;obtain⟨a,h1,e⟩:=H;refine⟨_,e,λf=>?_⟩;have q:=h1.out f;subst q;intro B d;simp only[execOp,b,l];rfl;exact zlh h (zt H g);rename_i c b;split at H;rename_i n;exact zyt b n H;exact zlh h (zt H g);exact zlh h (zt H g)
def zkq(o:Oper):Bool:=match o.op with
 |.lookup .. => Tc
 |.call c=>match c.callee with
  |.builtin .len=>Tc
  |_=>Ta
 |_=>Ta
theorem z9l{p:Addr}(H:zc h p=Td v):p.block<h.size:=by
 unfold zc at H;cases e:h[p.block]? with
 |none=>simp[e]at H
 |some o=>exact(An.1 e).1
theorem zh4{h h':zb}(k:Keep h.size h h'){p:Addr}(H:zc h p=Td v):zc h' p=Td v:=by have:=z9l H;unfold zc at H ⊢;rw[k.get _ this];exact H
theorem zh5{h h':zb}(k:Keep h.size h h'){p:Addr}:∀{vs:List Value} {i:Nat},zd h p i vs->zd h' p i vs
 |[],_,_=>trivial
 |_::_,_,⟨h1,h2⟩=>⟨zh4 k h1,zh5 k h2⟩
theorem zfd{K:Value->Prop}(w:zkq o=Ta)(H:J0 P o ρ g h K):∃v,K v/\(gok g->∀h',Keep h.size h h'->QExec P (execOp ρ o) h' (.value v)):=by
 unfold J0 at H;split at H;rename_i t a n;unfold zpy at H;split at H;rename_i q b r u;obtain⟨x,h1,e⟩:=H;refine⟨_,e,λf h' s=>?_⟩;simp only[execOp,n,r];exact(zhj u (zh4 s (h1.out f))).val;rename_i q l r u;obtain⟨vs,h0,⟨h1,e⟩,_⟩:=Y4 H (wj l);refine⟨_,e,λf h' s=>?_⟩;simp only[execOp,n,r];exact(zhk u h0 (zh5 s (h1.out f))).val;exact H.elim;rename_i t x i n;cases he:zbo P t with
 |false=>rw[he]at H;exact H.elim
 |true=>rw[he]at H;obtain⟨v,h1,e⟩:=Zq (Zj he) H;refine⟨v,h1,λf h' _=>?_⟩;simp only[execOp,n];exact(e f h').val
 rename_i t x i n;cases he:zp1 P t with
 |false=>rw[he]at H;obtain⟨v,h1,e⟩:=zt H g;exact⟨v,h1,λf h' _=>e f h'⟩
 |true=>rw[he]at H;obtain⟨v,h1,e⟩:=Xw (zp2 he) H;refine⟨v,h1,λf h' _=>?_⟩;simp only[execOp,n];exact(e f h').val
 rename_i t x lo hi mx n;cases he:zbo P t with
 |false=>rw[he]at H;exact H.elim
 |true=>rw[he]at H;obtain⟨v,h1,e⟩:=Yh (Zj he) H;refine⟨v,h1,λf h' _=>?_⟩;simp only[execOp,n];exact(e f h').val
 rename_i C t x y t' n;obtain⟨v,h1,e⟩:=ztr n H;exact⟨v,h1,λf h' _=>e f h'⟩;rename_i t m k ok n;simp[zkq,n]at w;rename_i x n;unfold qjn at H;split at H;rename_i p z;obtain⟨a,h1,e⟩:=H;refine⟨_,e,λf h' _=>?_⟩;have r:=h1.out f;subst r;intro B d;simp only[execOp,n,z];rfl;obtain⟨v,h1,e⟩:=zt H g;exact⟨v,h1,λf h' _=>e f h'⟩;rename_i c n;split at H;rename_i A;simp[zkq,n,A]at w;obtain⟨v,h1,e⟩:=zt H g;exact⟨v,h1,λf h' _=>e f h'⟩;obtain⟨v,h1,e⟩:=zt H g;exact⟨v,h1,λf h' _=>e f h'⟩
def wpN(P:Program){α:Type}:Sem α->zb->(α->zb->Prop)->Prop
 |.pure a,h,K=>K a h
 |.program k,h,K=>wpN P (k P) h K
 |.mark _ k,h,K=>wpN P k h K
 |.new o k,h,K=>wpN P (k h.size) (h.push o) K
 |_,_,_=>False
theorem zh6{α:Type}{s:Sem α}{K:α->zb->Prop}(H:wpN P s h K)(B:World)(d:Nat):∃x h',s.run P (mk B d h)=.ok x (mk B d h')/\K x h':=by
 induction s generalizing h with
 |pure a=>exact⟨a,h,rfl,H⟩
 |program k b=>exact b P H
 |mark m k b=>exact b H
 |new o k b=>obtain⟨x,h',h1,c⟩:=b h.size H;exact⟨x,h',h1,c⟩
 |_=>exact H.elim
def typed(P:Program)(ty:TypeId)(v:Value)(K:Value->Prop):Prop:=match qgt P ty with
 |some rt=>qb7 rt λb=>v=b/\K b
 |none=>False
theorem xo{K:Value->Prop}(H:typed P ty v K):K v:=by unfold typed at H;split at H;obtain⟨c,h1,b⟩:=zm3 H;rw[h1];exact b;exact H.elim
def zh(P:Program)(f:FuncId):Bool:=match P.funcs[f]? with
 |some fn=>(match fn.body with
  |some _=>Ta
  | none => false) && !(fn.name == "runtime.NumGoroutine")
 |none=>Tc
theorem Xx(h:zh P f=Ta)(args:Array Value)(w:World):(callFunc f args).run P w=.ok (.enter f args) w:=by unfold zh at h;split at h;rename_i fn e;simp only[Ap,DL]at h;obtain⟨h1,i⟩:=h;unfold callFunc;simp only[program,Sem.run_bind,Sem.run,Result.andThen_ok,e];split at h1;rename_i b c;simp[i,c];cases h1;cases h
def qgx(P:Program)(v:Value)(args:Array Value)(K:FuncId->Array Value->Prop):Prop:=match v with
 |.func (.func f) first cap=>zh P f=Ta/\K f (first++args++cap)
 |_=>False
theorem zli{c:Call}{x:Operand}(h:o.op=.call c)(b:c.callee=.value x){K:FuncId->Array Value->Prop}(H:qgx P (ρ x) (c.args.map ρ) K):
  ∃f args,K f args/\∀w,(execOp ρ o).run P w=.ok (.enter f args) w:=by
 unfold qgx at H;split at H;rename_i f first cap e
 obtain⟨h1,i⟩:=H;refine⟨_,_,i,λw=>?_⟩;simp only[execOp,h,resolve,b,e,DX,Sem.run_bind,Sem.run_pure,Result.andThen_ok,invoke];exact Xx h1 _ w;exact H.elim
def zdi:Operand->Bool
 |.func _=>Ta
 |_=>Tc
def qkb(P:Program)(f:FuncId):Bool:=match P.funcs[f]? with
 |some fn=>(match fn.body with
  |some _=>Tc
  |none=>Ta)
 |none=>Tc
def qmf(P:Program)(f:FuncId)(args:Array Value)(h:zb)(K:Value->zb->Prop):Prop:=∀B d,∃v b h',(callFunc f args).run P (mk B d h)=.ok (.value v) (mk B b h')/\K v h'
def qb9(P:Program):Operand->Bool
 |.func f=>qkb P f
 |_=>Tc
def qkc(P:Program)(v:Value)(args:Array Value)(h:zb)(K:Value->zb->Prop):Prop:=match v with
 |.func (.func f) first cap=>qmf P f (first++args++cap) h K
 |_=>False
theorem zyu{c:Call}{x:Operand}(k:o.op=.call c)(e:c.callee=.value x)(H:qkc P (ρ x) (c.args.map ρ) h K)(B:World)(d:Nat):
  ∃v b h',(execOp ρ o).run P (mk B d h)=.ok (.value v) (mk B b h')/\K v h':=by
 unfold qkc at H;split at H;rename_i f first cap i
 obtain⟨v,b,h',h1,l⟩:=H B d;refine⟨v,b,h',?_,l⟩;simp only[execOp,k,resolve,e,i,DX,Sem.run_bind,Sem.run_pure,Result.andThen_ok,invoke];exact h1;exact H.elim
def qgy(P:Program)(t:TypeId):Bool:=match P.underlying t with
 |some (.map _ _)=>Ta
 |_=>Tc
def zv6(P:Program)(o:Oper)(ρ:Operand->Value)(h:zb)(K:Value->zb->Prop):Prop:=
 match o.op with
 |.store t a x=>XRunU P (Af t (ρ a) (ρ x)) h λh'=>K undef h'
 |.mapUpdate t m k x=>XRunU P (Cv t (ρ m) (ρ k) (ρ x)) h λh'=>K undef h'
 |.insert t m k x=>XRunU P (Cv t (ρ m) (ρ k) (ρ x)) h λh'=>K undef h'
 |.entryStore t m s x=>XRunU P (Instr.entryStore t (ρ m) (ρ s) (ρ x)) h λh'=>K undef h'
 |.mapEntry t m k=>XRun P (Instr.mapEntry t (ρ m) (ρ k)) h λv h'=>typed P o.type v λe=>K e h'
 |.makeSlice t l c=>XRun P (Instr.makeSlice t (ρ l) (ρ c)) h λv h'=>typed P o.type v λe=>K e h'
 |.convert s t x=>XRun P (convert s t (ρ x)) h λv h'=>typed P o.type v λe=>K e h'
 |.typeAssert x t t' ok=>XRun P (Instr.typeAssert (ρ x) t t' ok) h λv h'=>typed P o.type v λe=>K e h'
 |.range t x=>bif qgy P t then XRun P (D9 t (ρ x)) h λv h'=>∃q:Option Addr,v=.pointer q/\K (.pointer q) h' else wpN P (execOp ρ o) h λnx h'=>match nx with
   |.value v=>K v h'
   |.skip=>K undef h'
   |_=>False
 |.next x s=>bif s then XRun P (Di (ρ x) s o.type) h λv h'=>(v=.tuple #[.bool Tc]/\K (.tuple #[.bool Tc]) h')\/∃k u:Int,v=.tuple #[.bool Ta,.int .i64 k,.int .i32 u]/\K (.tuple #[.bool Ta,.int .i64 k,.int .i32 u]) h'
  else XRun P (Di (ρ x) s o.type) h λv h'=>(v=.tuple #[.bool Tc]/\K (.tuple #[.bool Tc]) h')\/∃k u:Value,v=.tuple #[.bool Ta,k,u]/\K (.tuple #[.bool Ta,k,u]) h'
 |.entry x=>XRun P (DO (ρ x)) h λv h'=>∃k u:Value,v=.tuple #[k,u]/\K (.tuple #[k,u]) h'
 |.call c=>match c.callee with
  |.builtin b=>match zlg b c.argTypes o.type (c.args.map ρ)with
   |some s=>XRun P s h λv h'=>typed P o.type v λe=>K e h'
   |none=>False
  |.value x=>bif qb9 P x then qkc P (ρ x) (c.args.map ρ) h (λv h'=>typed P o.type v λe=>K e h')else bif zdi x then(wpN P (execOp ρ o) h λnx h'=>match nx with
   |.enter f args=>XC P f args h' λv h''=>typed P o.type v λe=>K e h''
   |.value v=>K v h'
   |_=>False)else qgx P (ρ x) (c.args.map ρ) λf args=>XC P f args h λv h''=>typed P o.type v λe=>K e h''
  |_=>False
 |_=>wpN P (execOp ρ o) h λnx h'=>match nx with
   |.value v=>K v h'
   |.skip=>K undef h'
   |_=>False
def qgz:Builtin->Bool
 |.append | .copy | .clear | .delete=>Ta
 |_=>Tc
def z1e(P:Program)(s t:TypeId):Bool:=match P.underlying s,P.underlying t with
 |some (.int _),Td (.int _)=>Ta
 |some .string,Td .string=>Ta
 |_,_=>Tc
def isQ(P:Program)(o:Oper):Bool:=
 match o.op with
 |.load _ _ | .indexAddr _ _ _ | .index _ _ _ | .slice _ _ _ _ _ | .binOp _ _ _ _ _ | .lookup _ _ _ _ | .nilCheck _=>Ta
 |.move _ | .assign _ | .unOp _ _ _ | .build _ _ | .makeFunc _ _ _ | .makeInterface _ _ | .extract _ _ | .field _ _ _ | .fieldAddr _ _ _=>Ta
 |.convert s t _=>z1e P s t
 |.call c=>match c.callee with
  |.builtin b=>!qgz b
  |_=>Tc
 |_=>Tc
def z1f(P:Program)(o:Oper)(ρ:Operand->Value)(b:Bool)(h:zb)(K:Value->zb->Prop):Prop:=
 match qgt P o.type with
 |some rt=>∃J:Value->zb->Prop,(b=Ta->zv6 P o ρ h J)/\(b=Tc->qb7 rt λv=>J v h)/\(b=Ta->∀v h',J v h'->qb7 rt λc=>v=c)/\qgr rt λv=>∀h',J v h'->K v h'
 |none=>False
def stepW(P:Program)(o:Oper)(ρ:Operand->Value)(g:Option Bool)(h:zb)(K:Value->zb->Prop):Prop:=
 bif isQ P o then J0 P o ρ g h (λv=>K v h)else match g with
  |none=>zv6 P o ρ h K
  |some b=>z1f P o ρ b h K
theorem upon_value{next:Act->World->Prop}{Q:Exit->Act->World->Prop}{s:Sem Next}(h:s.run P w=.ok (.value v) w')(b:next (a.put o.dst v) w'): o.upon P a next Q (s.run P w):=by rw[h];exact b
theorem upon_skip{next:Act->World->Prop}{Q:Exit->Act->World->Prop}{s:Sem Next}(h:s.run P w=.ok .skip w')(b:next (a.put o.dst undef) w'): o.upon P a next Q (s.run P w):=by rw[h];exact b
theorem Yc{s:Sem Value}(h:s.run P w=.ok v w'):(s >>= λx=>(Dn (Dr x):Sem Next)).run P w=.ok (.value v) w':=by rw[Sem.run_bind,h];rfl
theorem zyv{s:Sem Unit}(h:s.run P w=.ok () w'):(s >>= λ_=>(Dn Next.skip:Sem Next)).run P w=.ok .skip w':=by rw[Sem.run_bind,h];rfl
theorem zgn(H:zv6 P o ρ h K)(B:World)(d:Nat){next:Act->World->Prop}{Q:Exit->Act->World->Prop}
  (n:∀v p h',K v h'->next (a.put o.dst v) (mk B p h')):o.upon P a next Q ((execOp ρ o).run P (mk B d h)):=by
 unfold zv6 at H;split at H;case h_1 t x y ho=>obtain⟨p,h',h1,i⟩:=H B d;exact upon_skip (by simp only[execOp,ho];exact zyv h1) (n _ _ _ i)
 case h_2 t m k x ho=>obtain⟨p,h',h1,i⟩:=H B d;exact upon_skip (by simp only[execOp,ho];exact zyv h1) (n _ _ _ i)
 case h_3 t m k x ho=>obtain⟨p,h',h1,i⟩:=H B d;exact upon_skip (by simp only[execOp,ho];exact zyv h1) (n _ _ _ i)
 case h_4 t m s x ho=>obtain⟨p,h',h1,i⟩:=H B d;exact upon_skip (by simp only[execOp,ho];exact zyv h1) (n _ _ _ i)
 case h_5 t m k ho=>obtain⟨v,p,h',h1,i⟩:=H B d;exact upon_value (by simp only[execOp,ho];exact Yc h1) (n _ _ _ (xo i))
 case h_6 t l c ho=>obtain⟨v,p,h',h1,i⟩:=H B d;exact upon_value (by simp only[execOp,ho];exact Yc h1) (n _ _ _ (xo i))
 case h_7 s t x ho=>obtain⟨v,p,h',h1,i⟩:=H B d;exact upon_value (by simp only[execOp,ho];exact Yc h1) (n _ _ _ (xo i))
 case h_8 x t t' ok ho=>obtain⟨v,p,h',h1,i⟩:=H B d;exact upon_value (by simp only[execOp,ho];exact Yc h1) (n _ _ _ (xo i))
 case h_9 t x ho=>
  cases hm:qgy P t with
  |true=>rw[hm]at H;obtain⟨v,p,h',h1,q,rfl,i⟩:=H B d;exact upon_value (by simp only[execOp,ho];exact Yc h1) (n _ _ _ i)
  |false=>
   rw[hm]at H;obtain⟨nx,h',h1,i⟩:=zh6 H B d;cases nx with
   |value v=>exact upon_value h1 (n _ _ _ i)
   |skip=>exact upon_skip h1 (n _ _ _ i)
   |_=>exact i.elim
 case h_10 x s ho=>
  cases s with
  |true=>simp only[cond_true]at H;obtain⟨v,p,h',h1,i⟩:=H B d;refine upon_value (v:=v) (w':=mk B p h') (by simp only[execOp,ho];exact Yc h1) (n _ _ _ ?_);rcases i with⟨rfl,i⟩|⟨k,u,rfl,i⟩ <;> exact i
  |false=>simp only[cond_false]at H;obtain⟨v,p,h',h1,i⟩:=H B d;refine upon_value (v:=v) (w':=mk B p h') (by simp only[execOp,ho];exact Yc h1) (n _ _ _ ?_);rcases i with⟨rfl,i⟩|⟨k,u,rfl,i⟩ <;> exact i
 case h_11 x ho=>obtain⟨v,p,h',h1,k,u,rfl,i⟩:=H B d;exact upon_value (by simp only[execOp,ho];exact Yc h1) (n _ _ _ i)
 case h_12 c ho=>
  split at H;rename_i b A;split at H;rename_i s r;obtain⟨v,p,h',h1,i⟩:=H B d;refine upon_value (w':=mk B p h') ?_ (n _ _ _ (xo i));have key:execOp ρ o=s >>= λx=>(Dn (Dr x):Sem Next):=by
   simp only[execOp,ho,resolve,A];unfold zlg at r;split at r <;> first
    |(simp only[Ac]at r;subst r;rfl)
    |cases r
  rw[key];exact Yc h1;exact H.elim
  ·rename_i x z;cases hex:qb9 P x with
   |true=>rw[hex]at H;obtain⟨v,p,h',h1,i⟩:=zyu ho z H B d;exact upon_value h1 (n _ _ _ (xo i))
   |false=>
   rw[hex]at H;simp only[cond_false]at H;cases hst:zdi x with
   |true=>
    rw[hst]at H;obtain⟨nx,h',h1,i⟩:=zh6 H B d;cases nx with
    |enter f args=>rw[h1];refine(i B d).mono ?_;rintro e w' ⟨v,p,h'',rfl,rfl,w⟩;exact n _ _ _ (xo w)
    |value v=>exact upon_value h1 (n _ _ _ i)
    |_=>exact i.elim
   |false=>rw[hst]at H;simp only[cond_false]at H;obtain⟨f,args,h1,i⟩:=zli ho z H;rw[i];refine(h1 B d).mono ?_;rintro e w' ⟨v,p,h'',rfl,rfl,w⟩;exact n _ _ _ (xo w)
  exact H.elim
 case h_13=>
  obtain⟨nx,h',h1,i⟩:=zh6 H B d;cases nx with
  |value v=>exact upon_value h1 (n _ _ _ i)
  |skip=>exact upon_skip h1 (n _ _ _ i)
  |_=>exact i.elim
theorem zts(H:stepW P o ρ g h K)(i:gok g)(B:World)(d:Nat){next:Act->World->Prop}{Q:Exit->Act->World->Prop}
  (c:∀v f h',K v h'->next (a.put o.dst v) (mk B f h')):o.upon P a next Q ((execOp ρ o).run P (mk B d h)):=by
 unfold stepW at H;cases hq:isQ P o with
 |true=>rw[hq]at H;obtain⟨v,h1,n⟩:=zbx H;exact upon_value (n i B d) (c _ _ _ h1)
 |false=>
  rw[hq]at H;cases g with
  |none=>exact zgn H B d c
  |some b=>have p:b=Ta:=i;subst p;simp only[cond_false]at H;unfold z1f at H;split at H;rename_i rt r;obtain⟨J,h1,_,m,k⟩:=H;refine zgn (h1 rfl) B d λv f h' e=>?_;obtain⟨s,q,l⟩:=z1d (m rfl v h' e) k;subst q;exact c _ _ _ (l _ e);exact H.elim
theorem ztt(H:stepW P o ρ (Td Tc) h K):∃v,K v h:=by
 unfold stepW at H;cases hq:isQ P o with
 |true=>rw[hq]at H;obtain⟨v,h1,_⟩:=zbx H;exact⟨v,h1⟩
 |false=>rw[hq]at H;simp only[cond_false]at H;unfold z1f at H;split at H;obtain⟨J,_,f,_,b⟩:=H;obtain⟨v,e,c⟩:=z1d (f rfl) b;exact⟨v,c _ e⟩;exact H.elim
end
section
variable {n:Nat} {e:Env} {a b:Act} {c:zx} {g:Option Bool} {P:Program} {o:Oper} {h:zb} {K:Value -> zb -> Prop} {ms:List Nat}
def zfe(e:Env):zx->Option (Option Bool)
 |[]=>Td Te
 |c=>match z1b e c with
  |some b=>Td (Td b)
  |none=>Te
theorem zby(f:Sat n e a)(h:zfe e c=Td g)(i:valid (zy a) c):gok g:=by unfold zfe at h;split at h;simp only[Ac]at h;subst h;trivial;split at h;rename_i b k;simp only[Ac]at h;subst h;exact(zbw f k).2 i;cases h
theorem zyw(i:Sat n e a)(h:zfe e c=Td g)(f:¬valid (zy a) c):g=Td Tc:=by
 unfold zfe at h;split at h;exact absurd trivial f;split at h;rename_i b k;simp only[Ac]at h;subst h;cases b with
 |false=>rfl
 |true=>exact absurd ((zbw i k).1 rfl) f
 cases h
def z1g(b:Bool):Value->Value->Value
 |.bool x,.bool y=>.bool (bif b then x else y)
 |x,y=>bif b then x else y
theorem zv7(b:Bool)(x y:Value):z1g b x y=if b=Ta then x else y:=by unfold z1g;split <;> cases b <;> rfl
def orV:Option Value->Option Value->Option Value
 |some v,_=>Td v
 |none,w=>w
def z9m(e:Env)(c:zx)(x a b:Operand)(K:Value->Prop):Prop:=
 match x with
 |.tmp s=>match look e s with
  |some (cs,.bool t)=>bif suf cs c then(match orV (Xt e c a) (Xt e ((s,Ta)::cs) a),orV (Xt e c b) (Xt e ((s,Tc)::cs) b)with
    |some va,some vb=>K (z1g t va vb)
    |_,_=>False)else False
  |_=>False
 |_=>False
theorem zbz{f:Act}(i:Sat n e f){x a b:Operand}{K:Value->Prop}(H:z9m e c x a b K):
  ∃v,K v/\(valid (zy f) c->∃t,f.eval x=.bool t/\(if t=Ta then f.eval a else f.eval b)=v):=by
 unfold z9m at H;split at H;rename_i s;split at H;rename_i cs t p;cases hsf:suf cs c with
 |false=>rw[hsf]at H;exact H.elim
 |true=>
  rw[hsf]at H;simp only[cond_true]at H;split at H;rename_i r q k l;refine⟨_,H,λm=>⟨t,?_,?_⟩⟩;exact(i.all _ (zaw p)).1 (Y3 hsf m);have h:=Y3 hsf m;have o:zy f s=.bool t:=(i.all _ (zaw p)).1 h;rw[zv7];cases t with
  |true=>simp only[if_true];unfold orV at k;split at k;rename_i v _ h1;simp only[Ac]at k;subst k;exact qn i m h1;exact qn i (c:=(s,Ta)::cs) ⟨o,h⟩ k
  |false=>simp only[Bc,if_false];unfold orV at l;split at l;rename_i v _ h1;simp only[Ac]at l;subst l;exact qn i m h1;exact qn i (c:=(s,Tc)::cs) ⟨o,h⟩ l
  exact H.elim
 exact H.elim;exact H.elim
def opW(P:Program)(o:Oper)(e:Env)(c:zx)(h:zb)(K:Value->zb->Prop):Prop:=
 match o.op with
 |.pick x a b=>z9m e c x a b λv=>K v h
 |_=>bif Yb o.op then(bif known e c o.op.operands.toList then(match zfe e c with
   |some g=>stepW P o (rho e c) g h K
   |none=>False)else False)else False
def wR(P:Program)(n:Nat)(ops:Array Oper)(K:Env->zb->Prop):List Oper->Env->zb->Prop
 |[],e,h=>K (clean e) h
 |o::rest,e,h=>match Jz ops e o.guard with
  |some c=>bif jh n c o.dst then opW P o e c h λv h'=>wR P n ops K rest (putO e o.dst c v) h' else False
  |none=>False
theorem z1h(H:opW P o e c h K)(b:Sat n e a)(f:valid (zy a) c)(B:World)(d:Nat)
  {next:Act->World->Prop} {Q:Exit->Act->World->Prop} (i:∀v p h',K v h'->next (a.put o.dst v) (mk B p h')):o.wp P a (mk B d h) next Q:=by
 unfold opW at H;unfold Oper.wp;split at H;rename_i x y z r;obtain⟨v,h1,m⟩:=zbz b H;obtain⟨t,l,k⟩:=m f;refine upon_value (w':=mk B d h) (v:=v) ?_ (i _ _ _ h1);simp only[execOp,r,l,asBool,Sem.run_bind,Sem.run_pure,Result.andThen_ok];rw[k];cases hns:Yb o.op with
 |false=>rw[hns]at H;exact H.elim
 |true=>
  rw[hns]at H;cases hk:known e c o.op.operands.toList with
  |false=>rw[hk]at H;exact H.elim
  |true=>rw[hk]at H;simp only[cond_true]at H;split at H;rename_i g q;rw[zhi b f hns hk];exact zts H (zby b q f) B d i;exact H.elim
theorem qca(H:opW P o e c h K)(b:Sat n e a)(i:¬valid (zy a) c):∃v,K v h:=by
 unfold opW at H;split at H;obtain⟨v,h1,_⟩:=zbz b H;exact⟨v,h1⟩;cases hns:Yb o.op with
 |false=>rw[hns]at H;exact H.elim
 |true=>
  rw[hns]at H;cases hk:known e c o.op.operands.toList with
  |false=>rw[hk]at H;exact H.elim
  |true=>rw[hk]at H;simp only[cond_true]at H;split at H;rename_i g f;rw[zyw b f i]at H;exact ztt H;exact H.elim
def wz:List Oper->List Nat
 |[]=>[]
 |o::l=>match o.dst with
  |some d=>d::wz l
  |none=>wz l
def Same(ms:List Nat)(a b:Act):Prop:=∀i,i∉ms->zy b i=zy a i
theorem Same.refl(ms:List Nat)(a:Act):Same ms a a:=λ_ _=>rfl
theorem Same.trans{a b c:Act}(h:Same ms a b)(k:Same ms b c):Same ms a c:=λi hi=>(k i hi).trans (h i hi)
theorem Same.mono{ms c:List Nat}(h:Same ms a b)(e:∀x∈ms,x∈c):Same c a b:=λi hi=>h i λf=>hi (e i f)
theorem Same.put(a:Act)(d:Option Nat)(v:Value)(h:∀i,d=Td i->i∈ms):Same ms a (a.put d v):=by
 intro i hi;cases d with
 |none=>rfl
 |some j=>exact qe λe=>hi (e ▸ h j rfl)
theorem zdj{P:Program}{n:Nat}{ops:Array Oper}{K:Env->zb->Prop}{Q:Exit->Act->World->Prop}(B:World):
  ∀(l:List Oper) (e:Env) (h:zb) (a:Act) (d:Nat),wR P n ops K l e h->Sat n e a->(∀e' a' m h',Sat n e' a'->Same (wz l) a a'->K e' h'->Q .normal a' (mk B m h'))->wpList P ops Q l a (mk B d h)
 |[],e,h,a,d,H,hs,hQ=>hQ _ _ _ _ hs.clean (Same.refl _ _) H
 |o::rest,e,h,a,d,H,hs,hQ=>by
  unfold wR at H;split at H;rename_i c z;cases hd:jh n c o.dst with
  |false=>rw[hd]at H;exact H.elim
  |true=>
   rw[hd]at H;simp only[cond_true]at H;have w:=Xu hs z;have q:∀i,o.dst=Td i->i∈wz (o::rest):=λi hi=>by simp[wz,hi]
   have k:∀x∈wz rest,x∈wz (o::rest):=λx r=>by unfold wz;split;exact Ae _ r;exact r
   have b:∀v u m h',(valid (zy a) c->u=v)->(¬valid (zy a) c->u=undef)->wR P n ops K rest (putO e o.dst c v) h'->wpList P ops Q rest (a.put o.dst u) (mk B m h'):=λv u m h' h1 y C=>
    zdj B rest _ _ _ _ C (hs.putO hd h1 y) λe' a' t h'' D E A=>hQ e' a' t h'' D ((Same.put a o.dst u q).trans (E.mono k)) A
   unfold wpList;by_cases p:valid (zy a) c;rw[if_pos (w.2 p)];exact .inl (z1h H hs p B d λv m h' s=>b v v m h' (λ_=>rfl) (λf=>absurd p f) s);rw[if_neg (λr=>p (w.1 r))];obtain⟨v,s⟩:=qca H hs p;exact b v undef d h (λf=>absurd f p) (λ_=>rfl) s
  exact H.elim
def qdo(P:Program)(o:Oper)(ρ:Operand->Value)(g:Option Bool)(h:zb)(K:Value->Prop):Prop:=
 match o.op with
 |.call c=>match c.callee with
  |.value x=>bif zdi x then(match Yg P (execOp ρ o)with
    |some (.enter f args)=>match qgt P o.type with
     |some rt=>qb7 rt λv=>req g (XC P f args h λb h'=>b=v/\h'=h)/\K v
     |none=>False
    |_=>False)else(match qgt P o.type with
     |some rt=>qb7 rt λv=>req g (qgx P (ρ x) (c.args.map ρ) λf args=>XC P f args h λb h'=>b=v/\h'=h)/\K v
     |none=>False)
  |_=>False
 |_=>False
theorem ztu{ρ:Operand->Value}{K:Value->Prop}(H:qdo P o ρ g h K):
  ∃v,K v/\(gok g->∃f args,(∀w,(execOp ρ o).run P w=.ok (.enter f args) w)/\XC P f args h λl h'=>l=v/\h'=h):=by
 unfold qdo at H;split at H;rename_i c n;split at H;rename_i x m;cases hst:zdi x with
 |true=>rw[hst]at H;simp only[cond_true]at H;split at H;rename_i f args p;split at H;obtain⟨v,h1,b⟩:=zm3 H;exact⟨v,b,λe=>⟨f,args,λw=>zgl p w,h1.out e⟩⟩;exact H.elim;exact H.elim
 |false=>rw[hst]at H;simp only[cond_false]at H;split at H;obtain⟨v,h1,b⟩:=zm3 H;refine⟨v,b,λe=>?_⟩;obtain⟨f,args,k,i⟩:=zli n m (h1.out e);exact⟨f,args,i,k⟩;exact H.elim
 exact H.elim;exact H.elim
def zp3(o:Oper):Bool:=match o.op with
 |.call c=>match c.callee with
  |.builtin _=>Tc
  |_=>Ta
 |_=>Tc
def opQ(P:Program)(o:Oper)(e:Env)(c:zx)(h:zb)(f:Bool)(K:Value->Prop):Prop:=
 match o.op with
 |.pick x a b=>z9m e c x a b K
 |_=>bif Yb o.op then(bif known e c o.op.operands.toList then(match zfe e c with
   |some g=>bif zp3 o then(bif f then qdo P o (rho e c) g h K else False)else J0 P o (rho e c) g h K
   |none=>False)else False)else False
def wQ(P:Program)(n:Nat)(ops:Array Oper)(h:zb)(b:Bool)(K:Env->Prop):List Oper->Env->Prop
 |[],e=>K e
 |o::rest,e=>match Jz ops e o.guard with
  |some c=>bif jh n c o.dst then opQ P o e c h b λv=>wQ P n ops h b K rest (putO e o.dst c v)else False
  |none=>False
def YQ(P:Program)(o:Oper)(a:Act)(B:World)(h:zb)(b:Bool)(v:Value):Prop:=
 (∀d,(execOp a.eval o).run P (mk B d h)=.ok (.value v) (mk B d h)) \/
 (b=Ta/\∃f args,(∀d,(execOp a.eval o).run P (mk B d h)=.ok (.enter f args) (mk B d h))/\XC P f args h λc h'=>c=v/\h'=h)
theorem z1i{b:Bool}{K:Value->Prop}(H:opQ P o e c h b K)(l:Sat n e a)(B:World):
  ∃v,K v/\(valid (zy a) c->YQ P o a B h b v):=by
 unfold opQ at H;split at H;rename_i x y z r;obtain⟨v,h1,k⟩:=zbz l H;refine⟨v,h1,λi=>?_⟩;obtain⟨t,p,m⟩:=k i;refine .inl λd=>?_;simp only[execOp,r,p,asBool,Sem.run_bind,Sem.run_pure,Result.andThen_ok];rw[m];cases hns:Yb o.op with
 |false=>rw[hns]at H;exact H.elim
 |true=>
  rw[hns]at H;cases hk:known e c o.op.operands.toList with
  |false=>rw[hk]at H;exact H.elim
  |true=>
   rw[hk]at H;simp only[cond_true]at H;split at H;rename_i g q;cases hc:zp3 o with
   |false=>rw[hc]at H;obtain⟨v,h1,k⟩:=zbx H;refine⟨v,h1,λi=>.inl λd=>?_⟩;rw[zhi l i hns hk];exact k (zby l q i) B d
   |true=>
    rw[hc]at H;cases b with
    |false=>exact H.elim
    |true=>simp only[cond_true]at H;obtain⟨v,h1,k⟩:=ztu H;refine⟨v,h1,λi=>?_⟩;obtain⟨f,args,p,m⟩:=k (zby l q i);refine .inr ⟨rfl,f,args,λd=>?_,m⟩;rw[zhi l i hns hk];exact p _
   exact H.elim
theorem zv8{P:Program}{n:Nat}{ops:Array Oper}{h:zb}{m:Bool}{K:Env->Prop}{Q:Act->Prop}(B:World):
  ∀(l:List Oper) (e:Env) (a:Act),wQ P n ops h m K l e->Sat n e a->(∀e' a',Sat n e' a'->Same (wz l) a a'->K e'->Q a')->wpQuiet P ops (λw=>∃d,w=mk B d h) Q l a
 |[],e,a,H,hs,hQ=>hQ _ _ hs (Same.refl _ _) H
 |o::rest,e,a,H,hs,hQ=>by
  unfold wQ at H;split at H;rename_i c C;cases hd:jh n c o.dst with
  |false=>rw[hd]at H;exact H.elim
  |true=>
   rw[hd]at H;simp only[cond_true]at H;have y:=Xu hs C;have r:∀i,o.dst=Td i->i∈wz (o::rest):=λi hi=>by simp[wz,hi]
   have p:∀x∈wz rest,x∈wz (o::rest):=λx s=>by unfold wz;split;exact Ae _ s;exact s
   obtain⟨v,A,z⟩:=z1i H hs B;have b:∀u,(valid (zy a) c->u=v)->(¬valid (zy a) c->u=undef)->wpQuiet P ops (λw=>∃d,w=mk B d h) Q rest (a.put o.dst u):=λu h1 t=>
    zv8 B rest _ _ A (hs.putO hd h1 t) λe' a' E F D=>hQ e' a' E ((Same.put a o.dst u r).trans (F.mono p)) D
   unfold wpQuiet;by_cases q:valid (zy a) c;rw[if_pos (y.2 q)];refine⟨v,?_,b v (λ_=>rfl) (λk=>absurd q k)⟩;rintro w ⟨d,rfl⟩;unfold Oper.quietAt;rcases z q with h1|⟨_,f,args,h1,t⟩;rw[h1 d];exact⟨rfl,rfl⟩;rw[h1 d];refine⟨rfl,(t B d).mono ?_⟩;rintro e' w'' ⟨I,G,h',rfl,rfl,rfl,rfl⟩;exact⟨rfl,G,rfl⟩;rw[if_neg (λs=>q (y.1 s))];exact b undef (λk=>absurd k q) (λ_=>rfl)
  exact H.elim
end
section
variable {i:Nat} {a b:Act} {o:Oper} {h h':zb} {P:Program} {ρ:Operand -> Value} {ops:Array Oper} {listed:Array Bool}
def memN:List Nat->Nat->Bool
 |[],_=>Tc
 |j::l,i=>bif Nat.beq i j then Ta else memN l i
theorem Ql{l:List Nat}(h:memN l i=Tc):i∉l:=by
 induction l with
 |nil=>simp
 |cons j l c=>simp only[memN]at h;by_cases b:Nat.beq i j=Ta;simp[b]at h;simp only[b,cond_false]at h;simp only[Ah,not_or];exact⟨λe=>b (by rw[e];simp),c h⟩
def tmpsOf:List Operand->List Nat
 |[]=>[]
 |.tmp t::l=>t::tmpsOf l
 |_::l=>tmpsOf l
def Zk(ops:Array Oper)(o:Oper):List Nat:=(match o.guard with
 |some (j,_)=>match yv ops j with
  |some g=>[g]
  |none=>[]
 |none=>[])++tmpsOf o.op.operands.toList
def Qr(ops:Array Oper)(k:Nat)(S:List Nat):Nat->Bool
 |0=>Ta
 |p+1=>bif (match yv ops p with
  |some t=>bif memN S t then Region.waitsFor .any ops k p else Ta
  |none=>Ta)then Qr ops k S p else Tc
theorem Yi{ops:Array Oper}{k:Nat}{S:List Nat}:∀{m:Nat},Qr ops k S m=Ta->∀p t,p<m->yv ops p=Td t->t∈S->Region.waitsFor .any ops k p=Ta
 |0,_,p,t,hp,_,_=>by omega
 |m+1,h,p,t,hp,hd,ht=>by
  simp only[Qr]at h;cases hb:(match yv ops m with
   |some t=>bif memN S t then Region.waitsFor .any ops k m else Ta
   |none=>Ta)with
  |false=>rw[hb]at h;cases h
  |true=>
   rw[hb]at h;rcases A6 p m with h1|h1;exact Yi h p t h1 hd ht;have:p=m:=by omega
   subst this;rw[hd]at hb;simp only at hb;cases hm:memN S t with
   |false=>exact absurd ht (Ql hm)
   |true=>rw[hm]at hb;exact hb
def ji(ops:Array Oper):Nat->Bool
 |0=>Ta
 |j+1=>bif (match ops[j]? with
  |some o=>o.after.toList.all λe=>!(Region.binds .any e)||Nat.blt e.on j
  |none=>Ta)then ji ops j else Tc
theorem yn{ops:Array Oper}:∀{n:Nat},ji ops n=Ta->∀j o,j<n->ops[j]?=Td o->∀e∈o.after,Region.binds .any e=Ta->e.on<j
 |0,_,j,_,hj,_,_,_,_=>by omega
 |n+1,h,j,o,hj,ho,e,he,hb=>by
  simp only[ji]at h;cases hc:(match ops[n]? with
   |some o=>o.after.toList.all λe=>!(Region.binds .any e)||Nat.blt e.on n
   |none=>Ta)with
  |false=>rw[hc]at h;cases h
  |true=>
   rw[hc]at h;rcases A6 j n with h1|h1;exact yn h j o h1 ho e he hb;have:j=n:=by omega
   subst this;rw[ho]at hc;have:=Av.1 hc e (by simpa using he);rw[hb]at this;simpa[CG]using this
def z1j(ops:Array Oper)(d:Nat):Nat->Bool
 |0=>Tc
 |p+1=>bif (match yv ops p with
  |some t=>Nat.beq t d
  |none=>Tc)then Ta else z1j ops d p
def Yj(ops:Array Oper):Nat->Bool
 |0=>Ta
 |p+1=>bif (match yv ops p with
  |some t=>!(z1j ops t p)
  |none=>Ta)then Yj ops p else Tc
theorem zff{ops:Array Oper}{d:Nat}:∀{m:Nat},z1j ops d m=Tc->∀p,p<m->yv ops p≠Td d
 |0,_,p,hp=>by omega
 |m+1,h,p,hp=>by
  simp only[z1j]at h;cases hb:(match yv ops m with
   |some t=>Nat.beq t d
   |none=>Tc)with
  |true=>rw[hb]at h;cases h
  |false=>
   rw[hb]at h;rcases A6 p m with h1|h1;exact zff h p h1;have:p=m:=by omega
   subst this;intro e;rw[e]at hb;simp at hb
theorem j6{ops:Array Oper}:∀{m:Nat},Yj ops m=Ta->∀p q t,p<m->q<m->yv ops p=Td t->yv ops q=Td t->p=q
 |0,_,p,q,t,hp,_,_,_=>by omega
 |m+1,h,p,q,t,hp,hq,e1,e2=>by
  simp only[Yj]at h;cases hb:(match yv ops m with
   |some t=>!(z1j ops t m)
   |none=>Ta)with
  |false=>rw[hb]at h;cases h
  |true=>
   rw[hb]at h;rcases A6 p m with h1|h1 <;> rcases A6 q m with h2|h2;exact j6 h p q t h1 h2 e1 e2;have:q=m:=by omega
   subst this;rw[e2]at hb;simp only[DL]at hb;exact absurd e1 (zff hb p h1);have:p=m:=by omega
   subst this;rw[e1]at hb;simp only[DL]at hb;exact absurd e2 (zff hb q h2);omega
def zh7(o:Oper):Option Bool:=match o.op with
 |.fieldAddr _ _ _=>Td Ta
 |.indexAddr _ _ _=>Td Ta
 |.move _=>Td Ta
 |.assign _=>match o.after.toList with
  |[]=>Td Ta
  |_=>Te
 |.nilCheck _=>Td Ta
 |.slice _ _ _ _ _=>Td Ta
 |.binOp _ _ _ _ _=>Td Ta
 |.load _ _=>Td Tc
 |_=>Te
def zdk(o:Oper):Bool:=match zh7 o with
 |some _=>Ta
 |none=>Tc
def yx(o:Oper):Bool:=match zh7 o with
 |some b=>!b
 |none=>Tc
def qdp(ops:Array Oper)(i:Nat):List Nat->Bool
 |[]=>Tc
 |j::l=>bif Region.waitsFor .any ops j i then Ta else qdp ops i l
theorem zax{a b:Act}:∀{l:List Operand},(∀t∈tmpsOf l,zy a t=zy b t)->∀x∈l,a.eval x=b.eval x
 |[],_,x,c=>by cases c
 |y::l,h,x,c=>by
  rcases Ah.1 c with rfl|c;cases x with
  |tmp t=>exact h t (by simp[tmpsOf])
  |const v=>rfl
  |global g=>rfl
  |func f=>rfl
  refine zax (l:=l) (λt e=>h t ?_) x c;cases y <;> simp[tmpsOf,e]
theorem zfg(c:Yb o.op=Ta)(h:∀t∈tmpsOf o.op.operands.toList,zy a t=zy b t):execOp a.eval o=execOp b.eval o:= execOp_congr o (λcs b f=>by rw[f]at c;cases c) λx e=>zax h x (by simpa using e)
theorem ztv{p:Addr}(e:h'[p.block]?=h[p.block]?)(i:Nat):zc h' (p.add i)=zc h (p.add i):=by
 have b:(p.add i).block=p.block:=by unfold Ad;split <;> rfl
 unfold zc;rw[b,e]
theorem zdl{h h':zb}{p:Addr}(e:h'[p.block]?=h[p.block]?):∀{vs:List Value} {i:Nat},zd h p i vs->zd h' p i vs
 |[],_,_=>trivial
 |v::vs,i,⟨h1,h2⟩=>⟨(ztv e i).trans h1,zdl e h2⟩
theorem ztw{t:TypeId}{x:Value}{K:Value->Prop}(H:zpy P h t x Te K):∃v p,x=.pointer (Td p)/\K v/\∀h',h'[p.block]?=h[p.block]?->QExec P (DW t x) h' v:=by unfold zpy at H;split at H;rename_i q a b;obtain⟨x,h1,c⟩:=H;refine⟨_,q,rfl,c,λh' e=>zhj b ?_⟩;have h1:zc h q=Td _:=h1;unfold zc at h1 ⊢;rw[e];exact h1;rename_i q l b;obtain⟨vs,h0,⟨h1,c⟩,_⟩:=Y4 H (wj l);exact⟨_,q,rfl,c,λh' e=>zhk b h0 (zdl e h1)⟩;exact H.elim
def LdOK(o:Oper)(ρ:Operand->Value)(h h':zb):Prop:=yx o=Tc\/Keep h.size h h'\/∀t a p,o.op=.load t a->ρ a=.pointer (Td p)->h'[p.block]?=h[p.block]?
theorem LdOK.congr{ρ b:Operand->Value}(e:∀x∈o.op.operands.toList,b x=ρ x)(H:LdOK o ρ h h'):LdOK o b h h':=by rcases H with H|H|H;exact .inl H;exact .inr (.inl H);refine .inr (.inr λt a p c f=>H t a p c ?_);rw[<-e a (by rw[c];simp[Op.operands])];exact f
theorem zyx(f:zdk o=Ta){K:Value->Prop}(H:J0 P o ρ Te h K):
  ∃v,K v/\∀h',LdOK o ρ h h'->QExec P (execOp ρ o) h' (.value v):=by
 cases ho:o.op with
 |load t x=>
  have e:zkq o=Ta:=by unfold zkq;rw[ho]
  obtain⟨l,n,k2⟩:=zfd e H;unfold J0 at H;rw[ho]at H;simp only at H;obtain⟨v,p,k,h1,b⟩:=ztw H;have q:l=v:=by
   have m:=k2 trivial h (Keep.refl _ _) default 0;have a2:QExec P (execOp ρ o) h (.value v):=by simp only[execOp,ho];exact(b h rfl).val
   have a2:=a2 default 0;rw[m]at a2;injection a2 with a2 _;injection a2
  subst q;refine⟨l,n,λh' c=>?_⟩;rcases c with c|c|c;unfold yx zh7 at c;rw[ho]at c;cases c;exact k2 trivial h' c;have:=b h' (c t x p ho k);simp only[execOp,ho];exact this.val
 |fieldAddr t x i=>unfold J0 at H;rw[ho]at H;obtain⟨v,h1,b⟩:=zt H Te;exact⟨v,h1,λh' _=>b trivial h'⟩
 |indexAddr t x i=>
  unfold J0 at H;rw[ho]at H;simp only at H;cases he:zbo P t with
  |false=>rw[he]at H;exact H.elim
  |true=>rw[he]at H;obtain⟨v,h1,b⟩:=Zq (Zj he) H;refine⟨v,h1,λh' _=>?_⟩;simp only[execOp,ho];exact(b trivial h').val
 |move x=>unfold J0 at H;rw[ho]at H;obtain⟨v,h1,b⟩:=zt H Te;exact⟨v,h1,λh' _=>b trivial h'⟩
 |assign x=>unfold J0 at H;rw[ho]at H;obtain⟨v,h1,b⟩:=zt H Te;exact⟨v,h1,λh' _=>b trivial h'⟩
 |slice t x lo hi mx=>
  unfold J0 at H;rw[ho]at H;simp only at H;cases he:zbo P t with
  |false=>rw[he]at H;exact H.elim
  |true=>rw[he]at H;obtain⟨v,h1,b⟩:=Yh (Zj he) H;refine⟨v,h1,λh' _=>?_⟩;simp only[execOp,ho];exact(b (show gok Te from trivial) h').val
 |binOp s t x y t'=>unfold J0 at H;rw[ho]at H;obtain⟨v,h1,b⟩:=ztr ho H;exact⟨v,h1,λh' _=>b trivial h'⟩
 |nilCheck x=>unfold J0 at H;rw[ho]at H;simp only at H;unfold qjn at H;split at H;rename_i p k;obtain⟨a,h1,b⟩:=H;have r:=h1.out (g:=Te) trivial;subst r;refine⟨_,b,λh' _ B d=>?_⟩;simp only[execOp,ho,k];rfl;obtain⟨v,h1,b⟩:=zt H Te;exact⟨v,h1,λh' _=>b trivial h'⟩
 |_=>unfold zdk zh7 at f;rw[ho]at f;cases f
theorem zdm(σ:Nat->Value):valid σ []:=by unfold valid;trivial
theorem xf{d:Option Nat}{u:Value}{s:Nat}(h:d≠Td s):zy (a.put d u) s=zy a s:=by
 cases d with
 |none=>rfl
 |some t=>exact qe λe=>h (by rw[e])
theorem zyy{next:Act->World->Prop}{Q:Exit->Act->World->Prop}{r:Result Next}(k:b.defers=[])
  (H:o.upon P b (λc w=>c.defers=[]/\∀v,c=b.put o.dst v->next (a.put o.dst v) w) (λ_ _ _=>False) r):o.upon P a next Q r:=by
 have lo:¬LetsOut (λ(_:Exit) (_:Act) (_:World)=>False):=λh=>by obtain⟨_,_,h⟩:=h;exact h
 cases r with
 |ok x w=>
  cases x with
  |value v=>exact H.2 v rfl
  |skip=>exact H.2 undef rfl
  |defer d=>have:=H.1;rw[xe]at this;cases this
  |enter f args=>
   refine Calls.mono (show Calls P f args w _ from H) λe w' i=>?_;cases e with
   |returned v=>exact i.2 v rfl
   |panicked c=>exact i.elim
   |outgrown=>exact absurd i lo
  |row row args=>exact Rows.mono (show Rows P row args w _ from H) λv w' i=>i.2 v rfl
  |_=>exact H
 |halt x w=>cases x <;> first|exact H.elim|exact H
theorem zay{i p:Nat}(hi:i∈Region.ready .any ops listed)(h:Region.waitsFor .any ops i p=Ta):listed.getD p Tc=Ta:=by obtain⟨k,c,e,n,l,f⟩:=Region.waitsFor_spec h;obtain⟨_,o,m,b⟩:=mem_ready.1 hi;have:k=o:=Az (c.symm.trans m);subst this;rw[<-f];exact b e n l
theorem Yk{n:Nat}(inv:HeadInv .any ops n listed){i p:Nat}(hi:listed.getD i Tc=Ta)(l:Region.waitsFor .any ops i p=Ta):listed.getD p Tc=Ta:=by obtain⟨f,b,e,k,h,c⟩:=Region.waitsFor_spec l;rw[<-c];exact inv.closed i f b hi e k h
theorem ztx{p:Nat->Bool}{N:Nat}(h:∃k,k<N/\p k=Tc):∃k,k<N/\p k=Tc/\∀j,j<k->p j=Ta:=by
 obtain⟨k,h1,i⟩:=h;induction k using DF with
 |_ k f=>
  by_cases b:∃j,j<k/\p j=Tc;obtain⟨j,e,c⟩:=b;exact f j e (by omega) c;exact⟨k,h1,i,λj l=>by
   cases hb:p j with
   |true=>rfl
   |false=>exact absurd ⟨j,l,hb⟩ b⟩
theorem zv9{o:Oper}:∀{l:List Oper},o∈l->∀i,o.dst=Td i->i∈wz l
 |[],h,_,_=>by cases h
 |x::l,h,i,hi=>by unfold wz;rcases Ah.1 h with rfl|h;rw[hi];exact Am;have:=zv9 h i hi;split;exact Ae _ this;exact this
theorem jo{k:Nat}(h:ops[k]?=Td o):yv ops k=o.dst:=by simp[yv,h]
def zpu(j:Nat):List Nat->List Nat
 |[]=>[]
 |k::l=>bif Nat.beq k j then zpu j l else k::zpu j l
theorem zdn{j x:Nat}:∀{l:List Nat},x∈zpu j l↔x∈l/\x≠j
 |[]=>by simp[zpu]
 |k::l=>by
  simp only[zpu];cases hb:Nat.beq k j with
  |true=>have:=Ak hb;subst this;rw[cond_true,zdn,Ah];exact⟨λh=>⟨.inr h.1,h.2⟩,λh=>⟨h.1.resolve_left h.2,h.2⟩⟩
  |false=>
   have b:k≠j:=λe=>by rw[e]at hb;simp at hb
   rw[cond_false,Ah,Ah,zdn];constructor;rintro(rfl|h);exact⟨.inl rfl,b⟩;exact⟨.inr h.1,h.2⟩;rintro⟨rfl|h,c⟩;exact .inl rfl;exact .inr ⟨h,c⟩
theorem zfh{j:Nat}:∀{l:List Nat},l.Nodup->(zpu j l).Nodup
 |[],h=>h
 |k::l,h=>by
  simp only[zpu];rw[Ba]at h;cases Nat.beq k j with
  |true=>exact zfh h.2
  |false=>rw[cond_false,Ba];exact⟨λb=>h.1 (zdn.1 b).1,zfh h.2⟩
theorem z1k{j:Nat}:∀{l:List Nat},(zpu j l).length<=l.length
 |[]=>Ab _
 |k::l=>by
  simp only[zpu];have:=z1k (j:=j) (l:=l);cases Nat.beq k j with
  |true=>rw[cond_true,Aq];omega
  |false=>rw[cond_false,Aq,Aq];omega
theorem zwa{j:Nat}:∀{l:List Nat},j∈l->(zpu j l).length+1<=l.length
 |[],h=>by cases h
 |k::l,h=>by
  simp only[zpu];cases hb:Nat.beq k j with
  |true=>have:=z1k (j:=j) (l:=l);rw[cond_true,Aq];omega
  |false=>
   have b:k≠j:=λe=>by rw[e]at hb;simp at hb
   have:=zwa (j:=j) (l:=l) (by rcases Ah.1 h with rfl|h;exact absurd rfl b;exact h);rw[cond_false,Aq,Aq];omega
def qkd(p:Nat->Prop):List Nat->Prop
 |[]=>True
 |[j]=>p j
 |j::k::l=>p j/\qkd p (k::l)
theorem zwb{p:Nat->Prop}:∀{l:List Nat},qkd p l->∀j∈l,p j
 |[],_,j,h=>by cases h
 |[k],H,j,h=>by simp at h;subst h;exact H
 |k::k2::l,H,j,h=>by rcases Ah.1 h with rfl|h;exact H.1;exact zwb H.2 j h
def z1l(p:Nat->Bool):List Nat->List Nat
 |[]=>[]
 |j::l=>bif p j then j::z1l p l else z1l p l
theorem zh8{p:Nat->Bool}{j:Nat}:∀{l:List Nat},j∈l->p j=Ta->j∈z1l p l
 |[],h,_=>by cases h
 |k::l,h,hp=>by
  simp only[z1l];rcases Ah.1 h with rfl|h;rw[hp];exact Am;cases p k with
  |true=>exact Ae _ (zh8 h hp)
  |false=>exact zh8 h hp
end
section
variable {l:List Nat} {i m n:Nat} {ops:Array Oper} {P:Program} {o:Oper} {h h0:zb} {md:Bool} {e:Env} {a b:Act}
def qcb(o:Oper):Bool:=match o.op with
 |.extract _ _=>Ta
 |_=>Tc
def zp4(o:Oper):Bool:=bif zdk o then Ta else qcb o
def upL(ops:Array Oper):Nat->List Nat->List Nat
 |0,S=>S
 |k+1,S=>upL ops k (bif S.any λp=>Region.waitsFor .any ops p k then k::S else S)
theorem zm5{ops:Array Oper}{listed:Array Bool}(c:∀i p,listed.getD i Tc=Ta->Region.waitsFor .any ops i p=Ta->listed.getD p Tc=Ta):∀{m:Nat} {S:List Nat},(∀j∈S,listed.getD j Tc=Ta)->∀k∈upL ops m S,listed.getD k Tc=Ta
 |0,S,h,k,hk=>h k hk
 |m+1,S,h,k,hk=>by
  unfold upL at hk;refine zm5 c (m:=m) (λj b=>?_) k hk;cases ha:(S.any λp=>Region.waitsFor .any ops p m)with
  |false=>rw[ha]at b;exact h j b
  |true=>rw[ha,cond_true]at b;rcases Ah.1 b with rfl|b;obtain⟨p,f,e⟩:=List.any_eq_true.1 ha;exact c p _ (h p f) e;exact h j b
theorem J3(h:memN l i=Ta):i∈l:=by
 induction l with
 |nil=>cases h
 |cons j l b=>
  simp only[memN]at h;cases hb:Nat.beq i j with
  |true=>rw[Ak hb];exact Am
  |false=>rw[hb]at h;exact Ae _ (b h)
theorem zh9(h:i∈l):memN l i=Ta:=by
 cases hm:memN l i with
 |true=>rfl
 |false=>exact absurd h (Ql hm)
def qke(ops:Array Oper)(k:Nat):Bool:=match ops[k]? with
 |some o=>!(zp4 o)
 |none=>Tc
def qmg(ops:Array Oper)(i:Nat):Bool:=(upL ops ops.size [i]).any (qke ops)
def gdd(o:Oper):Bool:=match o.guard with
 |none=>Tc
 |some _=>Ta
def qg0(ops:Array Oper)(t:Nat):Nat->Bool
 |0=>Tc
 |k+1=>bif (match ops[k]? with
  |some o=>memN (tmpsOf o.op.operands.toList) t
  |none=>Tc)then Ta else qg0 ops t k
def qkf(ops:Array Oper)(i:Nat)(o:Oper):Bool:=match o.op with
 |.assign _=>(match o.dst with
  |some t=>qg0 ops t i
  |none=>Tc)
 |_=>Tc
def Y5(ops:Array Oper)(i:Nat):Bool:=match ops[i]? with
 |some o=>bif gdd o then Ta else bif zp4 o then(bif yx o then qmg ops i else qkf ops i o)else Ta
 |none=>Ta
def hvL(ops:Array Oper):List Nat:=(Bl ops.size).filter (Y5 ops)
theorem zia{j:Nat}:j∈hvL ops↔j<ops.size/\Y5 ops j=Ta:=by unfold hvL;rw[CM,A1]
theorem z1m(ops:Array Oper):(hvL ops).Nodup:=List.nodup_range.filter _
def okW(ops:Array Oper)(done S:List Nat)(k:Nat):Nat->Bool
 |0=>Ta
 |p+1=>bif Region.waitsFor .any ops k p then(bif (bif Y5 ops p then memN done p else memN S p)then okW ops done S k p else Tc)else okW ops done S k p
theorem zhl{ops:Array Oper}{done S:List Nat}{k:Nat}:∀{m:Nat},okW ops done S k m=Ta↔∀p,p<m->Region.waitsFor .any ops k p=Ta->(Y5 ops p=Ta->p∈done)/\(Y5 ops p=Tc->p∈S)
 |0=>⟨λ_ p i=>by omega,λ_=>rfl⟩
 |m+1=>by
  unfold okW;have f:=zhl (ops:=ops) (done:=done) (S:=S) (k:=k) (m:=m);constructor
  ·intro h p i c;rcases A6 p m with h1|h1
   ·refine f.1 ?_ p h1 c;revert h;cases Region.waitsFor .any ops k m with
    |false=>exact id
    |true=>
     cases(bif Y5 ops m then memN done m else memN S m)with
     |false=>intro h;cases h
     |true=>exact id
   ·have:p=m:=by omega
    subst this;rw[c,cond_true]at h;cases hi:Y5 ops p with
    |true=>
     rw[hi,cond_true]at h;cases hm:memN done p with
     |false=>rw[hm]at h;cases h
     |true=>exact⟨λ_=>J3 hm,(λe=>by cases e)⟩
    |false=>
     rw[hi,cond_false]at h;cases hm:memN S p with
     |false=>rw[hm]at h;cases h
     |true=>exact⟨(λe=>by cases e),λ_=>J3 hm⟩
  intro h;have h1:=f.2 λp i c=>h p (by omega) c;cases c:Region.waitsFor .any ops k m with
  |false=>exact h1
  |true=>
   obtain⟨a,b⟩:=h m (by omega) c;rw[cond_true];cases hi:Y5 ops m with
   |true=>rw[cond_true,zh9 (a hi)];exact h1
   |false=>rw[cond_false,zh9 (b hi)];exact h1
def qjo(ops:Array Oper)(done S:List Nat)(k:Nat):List Nat:=bif Y5 ops k then S else(bif okW ops done S k k then k::S else S)
def Y6(ops:Array Oper)(done:List Nat):Nat->List Nat
 |0=>[]
 |k+1=>qjo ops done (Y6 ops done k) k
theorem w7{ops:Array Oper}{done:List Nat}:∀{m i:Nat},i∈Y6 ops done m->i<m/\Y5 ops i=Tc/\okW ops done (Y6 ops done i) i i=Ta
 |0,i,h=>by cases h
 |m+1,i,h=>by
  unfold Y6 qjo at h;cases hi:Y5 ops m with
  |true=>rw[hi,cond_true]at h;have:=w7 h;exact⟨by omega,this.2⟩
  |false=>
   rw[hi,cond_false]at h;cases ho:okW ops done (Y6 ops done m) m m with
   |false=>rw[ho,cond_false]at h;have:=w7 h;exact⟨by omega,this.2⟩
   |true=>rw[ho,cond_true]at h;rcases Ah.1 h with rfl|h;exact⟨by omega,hi,ho⟩;have:=w7 h;exact⟨by omega,this.2⟩
theorem zib{ops:Array Oper}{done:List Nat}{m:Nat}:∀{m' i:Nat},m<=m'->i∈Y6 ops done m->i∈Y6 ops done m'
 |0,i,h,hi=>by(have:m=0:=by omega);subst this;exact hi
 |m'+1,i,h,hi=>by
  rcases Nat.eq_or_lt_of_le h with e|e;rw[<-e];exact hi
  ·have:=zib (m':=m') (by omega) hi;unfold Y6 qjo;cases Y5 ops m' with
   |true=>exact this
   |false=>
    rw[cond_false];cases okW ops done (Y6 ops done m') m' m' with
    |true=>exact Ae _ this
    |false=>exact this
theorem zm6{done:List Nat}(b:i<m)(h1:Y5 ops i=Tc)(c:okW ops done (Y6 ops done i) i i=Ta):i∈Y6 ops done m:=by refine zib (m:=i+1) b ?_;unfold Y6 qjo;rw[h1,c];exact Am
theorem zwc{done:List Nat}{m i p:Nat}(h:i∈Y6 ops done m)(f:p<i)(e:Region.waitsFor .any ops i p=Ta):(Y5 ops p=Ta->p∈done)/\(Y5 ops p=Tc->p∈Y6 ops done m):=by obtain⟨h1,k,c⟩:=w7 h;obtain⟨a,b⟩:=zhl.1 c p f e;exact⟨a,λhi=>zib (by omega) (b hi)⟩
def Y7(b c:List Nat)(n:Nat):List Nat:=(Bl n).filter λi=>bif memN c i then !(memN b i)else Tc
theorem zlj{c b:List Nat}:i∈Y7 c b n↔i<n/\i∈b/\i∉c:=by
 unfold Y7;rw[CM,A1];constructor;rintro⟨h1,e⟩;cases hn:memN b i with
 |false=>rw[hn]at e;cases e
 |true=>rw[hn,cond_true]at e;exact⟨h1,J3 hn,λh=>by rw[zh9 h]at e;cases e⟩
 rintro⟨h1,e,f⟩;refine⟨h1,?_⟩;rw[zh9 e,cond_true];cases hw:memN c i with
 |false=>rfl
 |true=>exact absurd (J3 hw) f
theorem zdo(b c:List Nat)(n:Nat):(Y7 b c n).Pairwise (· < ·):=Dx.filter _
def wI(P:Program)(n:Nat)(h:zb)(ld:Bool)(ops:Array Oper)(K:Env->Prop):List Nat->Env->Prop
 |[],e=>K e
 |i::l,e=>match ops[i]? with
  |some o=>bif zp4 o then(bif (bif ld then Ta else !(yx o))then(bif jh n [] o.dst then(bif Yb o.op then(bif known e [] o.op.operands.toList then J0 P o (rho e []) Te h λv=>wI P n h ld ops K l (putO e o.dst [] v)else False)else False)else False)else False)else False
  |none=>False
def y9(ops:Array Oper)(f:Nat->Value):List Nat->Act->Act
 |[],a=>a
 |i::l,a=>y9 ops f l (a.put (yv ops i) (f i))
theorem z1n(b:zp4 o=Ta){ρ:Operand->Value}{K:Value->Prop}(H:J0 P o ρ Te h K):
  ∃v,K v/\∀h',LdOK o ρ h h'->QExec P (execOp ρ o) h' (.value v):=by
 unfold zp4 at b;cases hb:zdk o with
 |true=>exact zyx hb H
 |false=>rw[hb,cond_false]at b;unfold qcb at b;split at b;rename_i x i c;unfold J0 at H;rw[c]at H;obtain⟨v,h1,e⟩:=zt H Te;exact⟨v,h1,λh' _=>e trivial h'⟩;cases b
theorem zlk{ops:Array Oper}{f:Nat->Value}:∀{l:List Nat} {a:Act},(y9 ops f l a).tmps.size=a.tmps.size/\(y9 ops f l a).defers=a.defers
 |[],_=>⟨rfl,rfl⟩
 |i::l,a=>by unfold y9;have:=zlk (ops:=ops) (f:=f) (l:=l) (a:=a.put (yv ops i) (f i));rw[this.1,this.2];exact⟨size_put _ _ _,xe _ _ _⟩
theorem w8{ops:Array Oper}{f:Nat->Value}{s:Nat}:∀{l:List Nat} {a:Act},(∀i∈l,yv ops i≠Td s)->zy (y9 ops f l a) s=zy a s
 |[],_,_=>rfl
 |i::l,a,h=>by unfold y9;rw[w8 λj b=>h j (Ae _ b)];exact xf (h i Am)
theorem zb0{ops:Array Oper}{f:Nat->Value}:∀{l m:List Nat} {a:Act},y9 ops f (l++m) a=y9 ops f m (y9 ops f l a)
 |[],_,_=>rfl
 |i::l,m,a=>by rw[AD];show y9 ops f (l++m) _=y9 ops f m (y9 ops f l _);exact zb0
theorem zm7{P:Program}{n:Nat}{h:zb}{ld:Bool}{ops:Array Oper}{K:Env->Prop}(u:Nat->Value):∀{l:List Nat} {e:Env} {a:Act},l.Nodup->wI P n h ld ops K l e->Sat n e a->∃(f:Nat->Value) (e':Env),K e'/\Sat n e' (y9 ops f l a)/\(∀i,i∉l->f i=u i) /\
  ∀b i s,l=b++i::s->∃o,ops[i]?=Td o/\zp4 o=Ta/\(ld=Tc->yx o=Tc)/\Yb o.op=Ta/\jh n [] o.dst=Ta/\∀h',LdOK o (y9 ops f b a).eval h h'->QExec P (execOp (y9 ops f b a).eval o) h' (.value (f i))
 |[],e,a,_,H,hs=>⟨u,e,H,hs,λ_ _=>rfl,λb i s h=>by simp at h⟩
 |i::l,e,a,hnd,H,hs=>by
  unfold wI at H;cases ho:ops[i]? with
  |none=>rw[ho]at H;exact H.elim
  |some o=>
   rw[ho]at H;simp only at H;cases hq:zp4 o with
   |false=>rw[hq]at H;exact H.elim
   |true=>
    rw[hq,cond_true]at H;cases hld:(bif ld then Ta else !(yx o))with
    |false=>rw[hld]at H;exact H.elim
    |true=>
     rw[hld,cond_true]at H;cases hd:jh n [] o.dst with
     |false=>rw[hd]at H;exact H.elim
     |true=>
      rw[hd,cond_true]at H;cases hns:Yb o.op with
      |false=>rw[hns]at H;exact H.elim
      |true=>
       rw[hns,cond_true]at H;cases hk:known e [] o.op.operands.toList with
       |false=>rw[hk]at H;exact H.elim
       |true=>
        rw[hk,cond_true]at H;rw[Ba]at hnd;obtain⟨v,D,B⟩:=z1n hq H;have c:yv ops i=o.dst:=jo ho;obtain⟨f,e',N,L,w,C⟩:=zm7 (λx=>if x=i then v else u x) (a:=a.put o.dst v) hnd.2 D (hs.putO hd (λ_=>rfl) λM=>absurd (zdm _) M);have k:f i=v:=by rw[w i hnd.1,if_pos rfl]
        have q:y9 ops f (i::l) a=y9 ops f l (a.put o.dst v):=by show y9 ops f l (a.put (yv ops i) (f i))=_;rw[c,k]
        refine⟨f,e',N,by rw[q];exact L,λj t=>?_,λb j s p=>?_⟩;simp only[Ah,not_or]at t;rw[w j t.2,if_neg t.1];cases b with
        |nil=>simp only[A5,BV]at p;obtain⟨rfl,rfl⟩:=p;refine⟨o,ho,hq,λp=>by rw[p]at hld;simpa using hld,hns,hd,λh' r=>?_⟩;show QExec P (execOp a.eval o) h' _;rw[zhi hs (zdm _) hns hk,k];exact B h' (LdOK.congr (λx G=>(Jy hs (zdm _) hk x G).symm) r)
        |cons O b=>
         simp only[AD,BV]at p;obtain⟨rfl,rfl⟩:=p;obtain⟨y,E,I,z,J,F,A⟩:=C b j s rfl;have m:y9 ops f (i::b) a=y9 ops f b (a.put o.dst v):=by show y9 ops f b (a.put (yv ops i) (f i))=_;rw[c,k]
         refine⟨y,E,I,z,J,F,λh' r=>?_⟩;rw[m]at r ⊢;exact A h' r
def z1o(ops:Array Oper)(U:List Nat):Nat->Bool
 |0=>Tc
 |k+1=>bif (match ops[k]? with
  |some o=>bif yx o then(bif Y5 ops k then Tc else !(memN U k))else Tc
  |none=>Tc)then Ta else z1o ops U k
theorem zll{ops:Array Oper}{U:List Nat}:∀{m:Nat},z1o ops U m=Tc->∀k o,k<m->ops[k]?=Td o->yx o=Ta->Y5 ops k=Tc->k∈U
 |0,_,k,o,hk,_,_,_=>by omega
 |m+1,h,k,o,hk,ho,hl,hi=>by
  unfold z1o at h;cases hb:(match ops[m]? with
   |some o=>bif yx o then(bif Y5 ops m then Tc else !(memN U m))else Tc
   |none=>Tc)with
  |true=>rw[hb]at h;cases h
  |false=>
   rw[hb,cond_false]at h;rcases A6 k m with h1|h1;exact zll h k o h1 ho hl hi;have:k=m:=by omega
   subst this;rw[ho]at hb;simp only[hl,hi,cond_true,cond_false]at hb;exact J3 (by simpa using hb)
def zic(ops:Array Oper)(U:List Nat)(e:Env)(h0 h':zb)(K:Prop):Nat->Prop
 |0=>K
 |k+1=>match ops[k]? with
  |some o=>bif (bif yx o then(bif Y5 ops k then Tc else !(memN U k))else Tc)then(match o.op with
   |.load _ a=>bif known e [] [a]then(match rho e [] a with
    |.pointer (Td p)=>h'[p.block]?=h0[p.block]?/\zic ops U e h0 h' K k
    |_=>False)else False
   |_=>False)else zic ops U e h0 h' K k
  |none=>zic ops U e h0 h' K k
theorem zid{ops:Array Oper}{U:List Nat}{e:Env}{h0 h':zb}{K:Prop}:∀{m:Nat},zic ops U e h0 h' K m->K/\∀k o,k<m->ops[k]?=Td o->yx o=Ta->Y5 ops k=Tc->k∉U ->
  ∃t a p,o.op=.load t a/\known e [] [a]=Ta/\rho e [] a=.pointer (Td p)/\h'[p.block]?=h0[p.block]?
 |0,H=>⟨H,λk o h=>by omega⟩
 |m+1,H=>by
  unfold zic at H;have step:zic ops U e h0 h' K m->(∀o,ops[m]?=Td o->yx o=Ta->Y5 ops m=Tc->m∉U->∃t a p,o.op=.load t a/\known e [] [a]=Ta/\rho e [] a=.pointer (Td p)/\h'[p.block]?=h0[p.block]?) ->
    K/\∀k o,k<m+1->ops[k]?=Td o->yx o=Ta->Y5 ops k=Tc->k∉U->∃t a p,o.op=.load t a/\known e [] [a]=Ta/\rho e [] a=.pointer (Td p)/\h'[p.block]?=h0[p.block]?:=λw s=>by
   obtain⟨h1,i⟩:=zid w;refine⟨h1,λk o h c r hi q=>?_⟩;rcases A6 k m with f|f;exact i k o f c r hi q;have:k=m:=by omega
   subst this;exact s o c r hi q
  cases c:ops[m]? with
  |none=>rw[c]at H;exact step H λo h1=>by rw[c]at h1;cases h1
  |some o=>
   rw[c]at H;simp only at H;have same:∀b,ops[m]?=Td b->b=o:=λb h1=>Az (h1.symm.trans c);cases hc:(bif yx o then(bif Y5 ops m then Tc else !(memN U m))else Tc)with
   |false=>rw[hc]at H;refine step H λb h1 i f n=>?_;rw[same b h1]at i;rw[i,f,cond_true,cond_false]at hc;exact absurd (J3 (by simpa using hc)) n
   |true=>
    rw[hc,cond_true]at H;split at H;rename_i t a l;cases h:known e [] [a]with
    |false=>rw[h]at H;exact H.elim
    |true=>rw[h,cond_true]at H;split at H;rename_i p u;exact step H.2 λb h1 i f n=>⟨t,a,p,by rw[same b h1];exact l,h,u,H.1⟩;exact H.elim
    exact H.elim
def zp5(md:Bool)(ops:Array Oper)(T:List Nat)(e:Env)(h0 h':zb)(K:Prop):Prop:=bif z1o ops (upL ops ops.size T) ops.size then(bif md then zic ops (upL ops ops.size T) e h0 h' K ops.size else Keep h0.size h0 h'/\K)else K
def z9n(ops:Array Oper)(todo:List Nat)(j:Nat):Bool:=todo.all λk=>bif Nat.beq k j then Ta else !(memN (upL ops ops.size [j]) k)
def wB7(P:Program)(n:Nat)(ops:Array Oper)(h0:zb)(K:Env->zb->Prop)(md:Bool):Nat->List Nat->List Nat->Env->zb->Prop
 |_,_,[],e,h=>K (clean e) h
 |0,_,_::_,_,_=>False
 |f+1,T,b::l0,e,h=>qkd (λj=>match ops[j]? with
  |some o=>(match Jz ops e o.guard with|some c=>bif jh n c o.dst then opW P o e c h λv h'=>wI P n h' Tc ops (λe'=>zp5 md ops (j::T) e' h0 h' (wB7 P n ops h0 K md f (j::T) (zpu j (b::l0)) e' h')) (Y7 (Y6 ops T ops.size) (Y6 ops (j::T) ops.size) ops.size) (putO e o.dst c v)else False|none=>False)
  |none=>False) (z1l (z9n ops (b::l0)) (b::l0))
theorem zyz{K:Env->zb->Prop}{f:Nat}{T todo:List Nat}(H:wB7 P n ops h0 K md (f+1) T todo e h){j:Nat}(b:j∈todo)(i:z9n ops todo j=Ta):match ops[j]? with
  |some o=>(match Jz ops e o.guard with|some c=>bif jh n c o.dst then opW P o e c h λv h'=>wI P n h' Tc ops (λe'=>zp5 md ops (j::T) e' h0 h' (wB7 P n ops h0 K md f (j::T) (zpu j todo) e' h')) (Y7 (Y6 ops T ops.size) (Y6 ops (j::T) ops.size) ops.size) (putO e o.dst c v)else False|none=>False)
  |none=>False:=by
 cases todo with
 |nil=>cases b
 |cons l k=>exact zwb H j (zh8 b i)
def zaz(ops:Array Oper)(k:Nat)(S:List Nat):Nat->Bool
 |0=>Ta
 |p+1=>bif (match yv ops p with
  |some t=>bif memN S t then(bif Region.waitsFor .any ops k p then Ta else bif Y5 ops p then Region.waitsFor .any ops p k else Tc)else Ta
  |none=>Ta)then zaz ops k S p else Tc
theorem J4{ops:Array Oper}{k:Nat}{S:List Nat}:∀{m:Nat},zaz ops k S m=Ta->∀p t,p<m->yv ops p=Td t->t∈S->Region.waitsFor .any ops k p=Ta\/(Y5 ops p=Ta/\Region.waitsFor .any ops p k=Ta)
 |0,_,p,t,hp,_,_=>by omega
 |m+1,h,p,t,hp,hd,ht=>by
  simp only[zaz]at h;cases hb:(match yv ops m with
   |some t=>bif memN S t then(bif Region.waitsFor .any ops k m then Ta else bif Y5 ops m then Region.waitsFor .any ops m k else Tc)else Ta
   |none=>Ta)with
  |false=>rw[hb]at h;cases h
  |true=>
   rw[hb]at h;rcases A6 p m with h1|h1;exact J4 h p t h1 hd ht;have:p=m:=by omega
   subst this;rw[hd]at hb;simp only at hb;rw[zh9 ht,cond_true]at hb;cases hw:Region.waitsFor .any ops k p with
   |true=>exact .inl rfl
   |false=>
    rw[hw,cond_false]at hb;cases hh:Y5 ops p with
    |false=>rw[hh]at hb;cases hb
    |true=>rw[hh,cond_true]at hb;exact .inr ⟨rfl,hb⟩
def za0(ops:Array Oper):Nat->Bool
 |0=>Ta
 |k+1=>bif (match ops[k]? with
  |some o=>zaz ops k (tmpsOf o.op.operands.toList) ops.size
  |none=>Ta)then za0 ops k else Tc
theorem J5{ops:Array Oper}:∀{m:Nat},za0 ops m=Ta->∀k o,k<m->ops[k]?=Td o->zaz ops k (tmpsOf o.op.operands.toList) ops.size=Ta
 |0,_,k,o,hk,_=>by omega
 |m+1,h,k,o,hk,ho=>by
  unfold za0 at h;cases hb:(match ops[m]? with
   |some o=>zaz ops m (tmpsOf o.op.operands.toList) ops.size
   |none=>Ta)with
  |false=>rw[hb]at h;cases h
  |true=>
   rw[hb,cond_true]at h;rcases A6 k m with h1|h1;exact J5 h k o h1 ho;have:k=m:=by omega
   subst this;rw[ho]at hb;exact hb
def zy0(ops:Array Oper)(o:Oper):List Nat:=match o.guard with
 |none=>[]
 |some (j,_)=>match yv ops j with
  |some t=>[t]
  |none=>[]
def zlm(ops:Array Oper):Nat->Bool
 |0=>Ta
 |k+1=>bif (match ops[k]? with
  |some o=>bif Yb o.op then Qr ops k (zy0 ops o) ops.size else Tc
  |none=>Ta)then zlm ops k else Tc
theorem zie{ops:Array Oper}:∀{m:Nat},zlm ops m=Ta->∀k o,k<m->ops[k]?=Td o->Yb o.op=Ta/\Qr ops k (zy0 ops o) ops.size=Ta
 |0,_,k,o,hk,_=>by omega
 |m+1,h,k,o,hk,ho=>by
  unfold zlm at h;cases hb:(match ops[m]? with
   |some o=>bif Yb o.op then Qr ops m (zy0 ops o) ops.size else Tc
   |none=>Ta)with
  |false=>rw[hb]at h;cases h
  |true=>
   rw[hb,cond_true]at h;rcases A6 k m with h1|h1;exact zie h k o h1 ho;have:k=m:=by omega
   subst this;rw[ho]at hb;simp only at hb;cases h2:Yb o.op with
   |false=>rw[h2]at hb;cases hb
   |true=>rw[h2,cond_true]at hb;exact⟨rfl,hb⟩
theorem zp6(h:∀t∈zy0 ops o,zy a t=zy b t):Cc o (yielded ops a.tmps)=Cc o (yielded ops b.tmps):=by
 unfold Cc;cases hg:o.guard with
 |none=>rfl
 |some f=>
  obtain⟨j,p⟩:=f;have:yielded ops a.tmps j=yielded ops b.tmps j:=by
   unfold yielded;cases hd:(ops[j]?).bind (·.dst)with
   |none=>rfl
   |some t=>
    have e:yv ops j=Td t:=by
     unfold yv;cases hoj:ops[j]? with
     |none=>rw[hoj]at hd;simp at hd
     |some i=>rw[hoj]at hd;simpa using hd
    have c:=h t (by unfold zy0;rw[hg];simp only;rw[e];simp);unfold zy at c;simp only[BM]at c;simp only[C2];cases h1:a.tmps[t]? <;> cases h2:b.tmps[t]? <;> rw[h1,h2]at c <;> simp at c <;> first|rfl|(subst c;rfl)|(rw[<-c];rfl)|(rw[c];rfl)
  simp only[this]
theorem z1p(h:gdd o=Tc):o.guard=Te:=by
 unfold gdd at h;cases hg:o.guard with
 |none=>rfl
 |some g=>rw[hg]at h;cases h
theorem qdq(b:ops[i]?=Td o)(h:Y5 ops i=Tc):o.guard=Te:=by
 unfold Y5 at h;rw[b]at h;simp only at h;cases hg:gdd o with
 |true=>rw[hg]at h;cases h
 |false=>exact z1p hg
def zp7(ops:Array Oper):Bool:=bif zlm ops ops.size then(bif ji ops ops.size then(bif Yj ops ops.size then za0 ops ops.size else Tc)else Tc)else Tc
theorem zln(h:zp7 ops=Ta):zlm ops ops.size=Ta/\ji ops ops.size=Ta/\Yj ops ops.size=Ta/\za0 ops ops.size=Ta:=by unfold zp7 at h;cases h1:zlm ops ops.size <;> cases h2:ji ops ops.size <;> cases h3:Yj ops ops.size <;> simp[h1,h2,h3]at h ⊢;exact h
structure St7 (P:Program) (n:Nat) (ops:Array Oper) (h0:zb) (K:Env->zb->Prop) (md:Bool) (f:Nat->Value) (a0:Act) (listed:Array Bool) (a b:Act) (e:Env) (h:zb) (done todo:List Nat):Prop where
 inv:HeadInv .any ops ops.size listed
 ag:∀s,(∀i o,ops[i]?=Td o->Y5 ops i=Tc->listed.getD i Tc=Tc->o.dst≠Td s)->zy a s=zy b s
 sz:a.tmps.size=n
 ad:a.defers=[]
 sb:Sat n e b
 qv:∀i o t,ops[i]?=Td o->i∈Y6 ops done ops.size->o.dst=Td t->zy b t=f i/\t<n
 qx:∀i o,ops[i]?=Td o->i∈Y6 ops done ops.size->listed.getD i Tc=Tc->∀h',LdOK o b.eval h0 h'->QExec P (execOp b.eval o) h' (.value (f i))
 tt:∀j,j∈hvL ops->(j∈todo↔listed.getD j Tc=Tc)
 ch:∀j,j∈hvL ops->(listed.getD j Tc=Ta↔j∈done)
 dn:∀j∈done,j∈hvL ops
 th:∀j∈todo,j∈hvL ops
 nd:todo.Nodup
 wt:∃fu,todo.length<=fu/\wB7 P n ops h0 K md fu done todo e h
 kp:∀i o,ops[i]?=Td o->yx o=Ta->Y5 ops i=Tc->listed.getD i Tc=Tc->LdOK o b.eval h0 h
 sm:Same (wz ops.toList) a0 a
theorem zif{ld:Bool}(u:ji ops ops.size=Ta)(E:Yj ops ops.size=Ta)(I:za0 ops ops.size=Ta){f:Nat->Value}(C:b.tmps.size=n)(r:∀i∈l,i<ops.size)(D:∀i∈l,Y5 ops i=Tc)(c:l.Pairwise (· < ·)) (H:∀e i m,l=e++i::m->∃o,ops[i]?=Td o/\zp4 o=Ta/\(ld=Tc->yx o=Tc)/\Yb o.op=Ta/\jh n [] o.dst=Ta/\∀h',LdOK o (y9 ops f e b).eval h h'->QExec P (execOp (y9 ops f e b).eval o) h' (.value (f i))):
  ∀i o,ops[i]?=Td o->i∈l->(∀t,o.dst=Td t->zy (y9 ops f l b) t=f i/\t<n)/\(ld=Tc->yx o=Tc)/\∀h',LdOK o (y9 ops f l b).eval h h'->QExec P (execOp (y9 ops f l b).eval o) h' (.value (f i)):=by
 intro i o G hi;obtain⟨e,m,rfl⟩:=List.append_of_mem hi;obtain⟨A,Z,q2,O,q4,B,Y⟩:=H e i m rfl;have:A=o:=Az (Z.symm.trans G);subst this;have s:i<ops.size:=r i (by simp);have N:∀j∈m,i<j:=λj k=>by rw[CO]at c;exact(Be.1 c.2.1).1 j k
 have p:y9 ops f (e++i::m) b=y9 ops f m ((y9 ops f e b).put (yv ops i) (f i)):=by rw[zb0];rfl
 have q:yv ops i=A.dst:=jo G;refine⟨λt y=>?_,O,λh' S=>?_⟩;have z:t<n:=by rw[y]at B;unfold jh at B;simp at B;exact B.2
 refine⟨?_,z⟩;rw[p,w8 λj k J=>?_,q,y,wv (by rw[zlk.1,C];exact z)];have:=j6 E i j t s (r j (by simp[k])) (by rw[q,y]) J;have:=N j k;omega;have w:∀t∈tmpsOf A.op.operands.toList,zy (y9 ops f (e++i::m) b) t=zy (y9 ops f e b) t:=λt y=>by
  have e1:y9 ops f (e++i::m) b=y9 ops f (i::m) (y9 ops f e b):=zb0;rw[e1];refine w8 λj k J=>?_;have L:j<ops.size:=r j (by simp[k]);have V:Region.waitsFor .any ops i j=Ta:=by rcases J4 (J5 I i A s G) j t L J y with h|h;exact h;have:=D j (by simp[k]);rw[h.1]at this;cases this
  obtain⟨Q,M,x,F,hb,U⟩:=Region.waitsFor_spec V;have h1:=yn u i Q s M x F hb;rcases Ah.1 k with rfl|k;omega;have:=N j k;omega
 rw[zfg q4 w];exact Y h' (LdOK.congr (λx F=>(zax w x F).symm) S)
theorem z9o{K:Env->zb->Prop}{Q:Exit->Act->World->Prop}(B:World)(hmix:zp7 ops=Ta){a0:Act}
    (hQ:∀e' a' d' h',Sat n e' a'->Same (wz ops.toList) a0 a'->K e' h'->Q .normal a' (mk B d' h')):
    ∀(N:Nat) (U:List Nat) (listed:Array Bool) (f:Nat->Value) (a b:Act) (e:Env) (h:zb) (d:Nat) (done todo:List Nat),U.length=N->U.Nodup->(∀k,k∈U↔k<ops.size/\listed.getD k Tc=Tc) ->
      St7 P n ops h0 K md f a0 listed a b e h done todo->wpAny P .any ops Q N listed a (mk B d h):=by
  obtain⟨hng,hback,hnd,hsl⟩:=zln hmix
  have hgd:∀(i:Nat) (o:Oper),ops[i]?=Td o->Yb o.op=Ta/\Qr ops i (zy0 ops o) ops.size=Ta:=λi o ho=>zie hng i o (An.1 ho).1 ho
  have hslot0:∀k o,ops[k]?=Td o->∀p t,p<ops.size->yv ops p=Td t->t∈tmpsOf o.op.operands.toList->Region.waitsFor .any ops k p=Ta\/(Y5 ops p=Ta/\Region.waitsFor .any ops p k=Ta):=λk o ho p t hp hd ht=>
    J4 (J5 hsl k o (An.1 ho).1 ho) p t hp hd ht
  have hbk:∀k p,Region.waitsFor .any ops k p=Ta->p<k:=λk p hw=>by
    obtain⟨oj,hoj,x,hx,hb,hon⟩:=Region.waitsFor_spec hw
    have:=yn hback k oj (An.1 hoj).1 hoj x hx hb
    omega
  have fin:∀{listed:Array Bool} {f:Nat->Value} {a b:Act} {e:Env} {h:zb} {d:Nat} {done todo:List Nat},(∀k,k<ops.size->listed.getD k Tc=Ta)->St7 P n ops h0 K md f a0 listed a b e h done todo->Q .normal a (mk B d h):=by
    intro listed f a b e h d done todo hall S
    have htodo:todo=[]:=by
      cases htd:todo with
      |nil=>rfl
      |cons j l=>
        have hm:j∈todo:=by rw[htd];simp
        have hj:=S.th j hm
        have:=(S.tt j hj).1 hm
        rw[hall j (zia.1 hj).1]at this;cases this
    obtain⟨fu,_,hw⟩:=S.wt
    rw[htodo]at hw
    have hw:K (clean e) h:=by cases fu <;> exact hw
    have hv:∀s,zy a s=zy b s:=λs=>S.ag s λi o ho hq hl=>by
      rw[hall i (An.1 ho).1]at hl;cases hl
    have hs:Sat n e a:=⟨S.ad,S.sz,λx hx=>by
      have:=S.sb.all x hx
      have e1:zy a=zy b:=funext hv
      rw[e1];exact this⟩
    exact hQ _ _ _ _ hs.clean S.sm hw
  intro N
  induction N with
  |zero=>
    intro U listed f a b e h d done todo hU _ hmem S
    have hUn:U=[]:=Bi.1 hU
    subst hUn
    have hall:∀k,k<ops.size->listed.getD k Tc=Ta:=λk hk=>by
      cases hb:listed.getD k Tc with
      |true=>rfl
      |false=>exact absurd ((hmem k).2 ⟨hk,hb⟩) (by simp)
    refine⟨?_,fin hall S⟩
    rw[List.eq_nil_iff_forall_not_mem]
    intro j hj
    obtain⟨h1,o,ho,_⟩:=mem_ready.1 hj
    have hlt:=(An.1 ho).1
    have:=hall j hlt
    have h2:=getD_both h1
    rw[this]at h2;cases h2
  |succ N ih=>
    intro U listed f a b e h d done todo hU hdup hmem S
    have hex:∃k,k<ops.size/\listed.getD k Tc=Tc:=by
      cases U with
      |nil=>cases hU
      |cons k U=>exact⟨k,(hmem k).1 Am⟩
    refine⟨λhr=>?_,λi hi=>?_⟩
    · exfalso
      obtain⟨k,hk1,hk2,hk3⟩:=ztx hex
      have:k∈Region.ready .any ops listed:=mem_ready.2 ⟨by rw[<-hk2];simp[S.inv.size,hk1],ops[k],Bo hk1,λx hx hb=>hk3 _ (yn hback k ops[k] hk1 (Bo hk1) x hx hb)⟩
      rw[hr]at this;cases this
    · obtain⟨hun1,o,ho,hall⟩:=mem_ready.1 hi
      have hun:listed.getD i Tc=Tc:=getD_both hun1
      have hlt:i<ops.size:=(An.1 ho).1
      obtain⟨hns,hgs⟩:=hgd i o ho
      have hils:i<listed.size:=by rw[S.inv.size];exact hlt
      have hU':(U.erase i).length=N:=by rw[List.length_erase_of_mem ((hmem i).2 ⟨hlt,hun⟩),hU];rfl
      have hdup':(U.erase i).Nodup:=hdup.erase i
      have hmem':∀k,k∈U.erase i↔k<ops.size/\(listed.setIfInBounds i Ta).getD k Tc=Tc:=λk=>by
        rw[hdup.mem_erase_iff,hmem k]
        by_cases hk:i=k
        · subst hk;simp[hils]
        · rw[getD_set_ne Tc hk];exact⟨λhx=>hx.2,λhx=>⟨λe=>hk e.symm,hx⟩⟩
      have inv':=S.inv.set hi hlt
      have hset:∀k,k≠i->(listed.setIfInBounds i Ta).getD k Tc=listed.getD k Tc:=λk hk=>getD_set_ne Tc (Ne.symm hk)
      have hsetI:(listed.setIfInBounds i Ta).getD i Tc=Ta:=by simp[hils]
      have hops:∀t∈tmpsOf o.op.operands.toList,zy a t=zy b t:=λt ht=>S.ag t λk ok hok hq hl hd=>by
        rcases hslot0 i o ho k t (An.1 hok).1 (by rw[jo hok,hd]) ht with hw|hw
        · rw[zay hi hw]at hl;cases hl
        · rw[hw.1]at hq;cases hq
      have hexec:=zfg hns hops
      have hsame:∀v,Same (wz ops.toList) a0 (a.put o.dst v):=λv=>S.sm.trans (Same.put a o.dst _ λt ht=>zv9 (by
          obtain⟨hl2,e2⟩:=An.1 ho
          rw[<-e2];simp) t ht)
      unfold wpOp
      rw[ho]
      simp only
      have hwab:Cc o (yielded ops a.tmps)=Cc o (yielded ops b.tmps):=zp6 λt ht=>S.ag t λk ok hok hq hl hd=>by
        have hw:=Yi hgs k t (An.1 hok).1 (by rw[jo hok,hd]) ht
        rw[zay hi hw]at hl;cases hl
      cases hq:Y5 ops i with
      |false=>
        have hwant:Cc o (yielded ops a.tmps)=Ta:=by unfold Cc;rw[qdq ho hq]
        rw[if_pos hwant]
        left
        unfold Oper.wp
        rw[hexec]
        have hrdyG:∀m k ok,k<m->ops[k]?=Td ok->Y5 ops k=Tc->(∀p,Region.waitsFor .any ops k p=Ta->listed.getD p Tc=Ta)->k∈Y6 ops done ops.size:=by
          intro m
          induction m with
          |zero=>intro k ok hk;omega
          |succ m ihm=>
            intro k ok hk hok hkh hkw
            refine zm6 (An.1 hok).1 hkh (zhl.2 λp hp hw=>⟨λhph=>?_,λhph=>?_⟩)
            · have hpl:=hkw p hw
              exact(S.ch p (zia.2 ⟨by have:=(An.1 hok).1;omega,hph⟩)).1 hpl
            · have hps:p<ops.size:=by have:=(An.1 hok).1;omega
              have hin:=ihm p ops[p] (by omega) (Bo hps) hph λq hq2=>Yk S.inv (hkw p hw) hq2
              obtain⟨_,g2,g3⟩:=w7 hin
              exact zm6 hp g2 g3
        have hrdy:=hrdyG (i+1) i o (by omega) ho hq λp hw=>zay hi hw
        have hx:=S.qx i o ho hrdy hun h (by
          cases hl:yx o with
          |false=>exact .inl hl
          |true=>exact S.kp i o ho hl hq hun) B d
        rw[hx,Oper.upon_value]
        have hnot:i∉hvL ops:=λhm=>by rw[(zia.1 hm).2]at hq;cases hq
        have hunset:∀k,(listed.setIfInBounds i Ta).getD k Tc=Tc->listed.getD k Tc=Tc:=λk hu=>by
          by_cases hki:k=i
          · subst hki;exact hun
          · rw[<-hset k hki];exact hu
        refine ih _ _ f _ b e h d done todo hU' hdup' hmem' { S with inv:=inv',ag:=λs hs=>?_,sz:=by rw[size_put];exact S.sz,ad:=by rw[xe];exact S.ad,tt:=λj hj=>(by have:j≠i:=λe=>hnot (e ▸ hj);rw[hset j this];exact S.tt j hj),ch:=λj hj=>?_,qx:=λk ok hok hk hu=>S.qx k ok hok hk (hunset k hu),kp:=λk ok hok hl hkh hk=>?_,sm:=hsame _ }
        · by_cases hd:o.dst=Td s
          · obtain⟨hv,hsn⟩:=S.qv i o s ho hrdy hd
            rw[hd,wv (by rw[S.sz];exact hsn),hv]
          · rw[xf hd]
            refine S.ag s λk ok hok hqk hlk=>?_
            by_cases hki:k=i
            · subst hki
              have:ok=o:=Az (hok.symm.trans ho)
              subst this;exact hd
            · exact hs k ok hok hqk (by rw[hset k hki];exact hlk)
        · have:j≠i:=λe=>hnot (e ▸ hj)
          rw[hset j this];exact S.ch j hj
        · by_cases hki:k=i
          · subst hki;rw[hsetI]at hk;cases hk
          · rw[hset k hki]at hk;exact S.kp k ok hok hl hkh hk
      |true=>
        have hin:i∈hvL ops:=zia.2 ⟨hlt,hq⟩
        have hit:i∈todo:=(S.tt i hin).2 hun
        obtain⟨fu,hfu,hW0⟩:=S.wt
        have hcl:∀p q,(listed.setIfInBounds i Ta).getD p Tc=Ta->Region.waitsFor .any ops p q=Ta->(listed.setIfInBounds i Ta).getD q Tc=Ta:=λp q h1 h2=>Yk inv' h1 h2
        have hcand:z9n ops todo i=Ta:=by
          unfold z9n
          rw[Av]
          intro k hk
          cases hki:Nat.beq k i with
          |true=>rfl
          |false=>
            have hne:k≠i:=λe=>by rw[e]at hki;simp at hki
            cases hr:memN (upL ops ops.size [i]) k with
            |false=>rfl
            |true=>
              exfalso
              have:=zm5 hcl (m:=ops.size) (S:=[i]) (λj hj=>by simp at hj;subst hj;exact hsetI) k (J3 hr)
              rw[hset k hne]at this
              have h2:=(S.tt k (S.th k hk)).1 hk
              rw[this]at h2;cases h2
        have hW:match ops[i]? with
            |some o=>(match Jz ops e o.guard with|some c=>bif jh n c o.dst then opW P o e c h λv h'=>wI P n h' Tc ops (λe'=>zp5 md ops (i::done) e' h0 h' (wB7 P n ops h0 K md (fu-1) (i::done) (zpu i todo) e' h')) (Y7 (Y6 ops done ops.size) (Y6 ops (i::done) ops.size) ops.size) (putO e o.dst c v)else False|none=>False)
            |none=>False:=by
          cases fu with
          |zero=>(have:todo.length=0:=by omega);rw[Bi.1 this]at hit;cases hit
          |succ fu=>
            have:=zyz (show wB7 P n ops h0 K md (fu+1) done todo e h from hW0) hit hcand
            exact this
        rw[ho]at hW
        simp only at hW
        cases hch:Jz ops e o.guard with
        |none=>rw[hch]at hW;exact hW.elim
        |some c=>
        rw[hch]at hW
        simp only at hW
        cases hd:jh n c o.dst with
        |false=>rw[hd]at hW;exact hW.elim
        |true=>
          rw[hd,cond_true]at hW
          have hwv:=Xu S.sb hch
          have key:∀(v u:Value) (d':Nat) (h':zb),(valid (zy b) c->u=v)->(¬valid (zy b) c->u=undef)->wI P n h' Tc ops (λe'=>zp5 md ops (i::done) e' h0 h' (wB7 P n ops h0 K md (fu-1) (i::done) (zpu i todo) e' h')) (Y7 (Y6 ops done ops.size) (Y6 ops (i::done) ops.size) ops.size) (putO e o.dst c v)->wpAny P .any ops Q N (listed.setIfInBounds i Ta) (a.put o.dst u) (mk B d' h'):=by
           intro v v2 d' h' hv1 hv0 hK
           have sb1:Sat n (putO e o.dst c v) (b.put o.dst v2):=S.sb.putO hd hv1 hv0
           generalize hbl:Y7 (Y6 ops done ops.size) (Y6 ops (i::done) ops.size) ops.size=bl at hK
           have hbm:∀k,k∈bl↔k<ops.size/\k∈Y6 ops (i::done) ops.size/\k∉Y6 ops done ops.size:=λk=>by rw[<-hbl];exact zlj
           have hbsort:bl.Pairwise (· < ·):=by rw[<-hbl];exact zdo _ _ _
           have hbnd:bl.Nodup:=hbsort.imp λh=>by omega
           obtain⟨f',e2,HK,sb2,hf0,hfx⟩:=zm7 f hbnd hK sb1
           have hbf:=zif hback hnd hsl (f:=f') (l:=bl) (b:=b.put o.dst v2) sb1.size (λk hk=>((hbm k).1 hk).1) (λk hk=>(w7 ((hbm k).1 hk).2.1).2.1) hbsort hfx
           have hbnh:∀k∈bl,Y5 ops k=Tc:=λk hk=>(w7 ((hbm k).1 hk).2.1).2.1
           have hlist':∀j,j∈hvL ops->((listed.setIfInBounds i Ta).getD j Tc=Ta↔j∈i::done):=λj hj=>by
             by_cases hji:j=i
             · subst hji;rw[hsetI];simp
             · rw[hset j hji,S.ch j hj];simp[hji]
           have hjl:∀j∈i::done,(listed.setIfInBounds i Ta).getD j Tc=Ta:=λj hj=>by
             rcases Ah.1 hj with rfl|hj
             · exact hsetI
             · exact getD_set_true ((S.ch j (S.dn j hj)).2 hj)
           have hup:∀k,k∈upL ops ops.size (i::done)->(listed.setIfInBounds i Ta).getD k Tc=Ta:=λk hk=>zm5 hcl hjl k hk
           have hundone:i∉done:=λhm=>by rw[(S.ch i hin).2 hm]at hun;cases hun
           have hslot1:∀k ok,ops[k]?=Td ok->k∈Y6 ops done ops.size->listed.getD k Tc=Tc->∀t∈tmpsOf ok.op.operands.toList,zy (b.put o.dst v2) t=zy b t:=λk ok hok hk hu t ht=>xf λhdo=>by
             rcases hslot0 k ok hok i t hlt (by rw[jo ho,hdo]) ht with hw|hw
             · exact hundone ((zwc hk (hbk k i hw) hw).1 hq)
             · rw[zay hi hw.2]at hu;cases hu
           have hslot2:∀k ok,ops[k]?=Td ok->k∈Y6 ops done ops.size->listed.getD k Tc=Tc->∀t∈tmpsOf ok.op.operands.toList,zy (y9 ops f' bl (b.put o.dst v2)) t=zy b t:=λk ok hok hk hu t ht=>by
             rw[w8 λp hp hdp=>?_]
             · exact hslot1 k ok hok hk hu t ht
             · rcases hslot0 k ok hok p t ((hbm p).1 hp).1 hdp ht with hw|hw
               · exact((hbm p).1 hp).2.2 ((zwc hk (hbk k p hw) hw).2 (hbnh p hp))
               · have:=hbnh p hp
                 rw[hw.1]at this;cases this
           have hdist:∀k ok t,ops[k]?=Td ok->k≠i->ok.dst=Td t->o.dst≠Td t:=λk ok t hok hki hdk hdo=>by
             have:=j6 hnd k i t (An.1 hok).1 hlt (by rw[jo hok,hdk]) (by rw[jo ho,hdo])
             exact hki this
           have hne_i:∀k,Y5 ops k=Tc->k≠i:=λk hk e=>by rw[e,hq]at hk;cases hk
           have hQK:wB7 P n ops h0 K md (fu-1) (i::done) (zpu i todo) e2 h'/\(∀k ok,ops[k]?=Td ok->yx ok=Ta->Y5 ops k=Tc->(listed.setIfInBounds i Ta).getD k Tc=Tc->LdOK ok (y9 ops f' bl (b.put o.dst v2)).eval h0 h'):=by
             unfold zp5 at HK
             cases hl:z1o ops (upL ops ops.size (i::done)) ops.size with
             |false=>
               rw[hl,cond_false]at HK
               exact⟨HK,λk ok hok hlo hkh hf=>by rw[hup k (zll hl k ok (An.1 hok).1 hok hlo hkh)]at hf;cases hf⟩
             |true=>
               rw[hl,cond_true]at HK
               cases md with
               |false=>exact⟨HK.2,λ_ _ _ _ _ _=>.inr (.inl HK.1)⟩
               |true=>
                 rw[cond_true]at HK
                 obtain⟨g1,g2⟩:=zid HK
                 refine⟨g1,λk ok hok hlo hkh hf=>.inr (.inr λt a p hop hp=>?_)⟩
                 obtain⟨t',a',p',e1,e2',e3,e4⟩:=g2 k ok (An.1 hok).1 hok hlo hkh (λhm=>by rw[hup k hm]at hf;cases hf)
                 rw[hop]at e1
                 injection e1 with _ e1
                 subst e1
                 have eb:(y9 ops f' bl (b.put o.dst v2)).eval a=rho e2 [] a:=Jy sb2 (zdm _) e2' a (by simp)
                 rw[eb,e3]at hp
                 injection hp with hp
                 injection hp with hp
                 rw[<-hp];exact e4
           have htt:∀j,j∈hvL ops->(j∈zpu i todo↔(listed.setIfInBounds i Ta).getD j Tc=Tc):=λj hj=>by
             rw[zdn]
             by_cases hji:j=i
             · subst hji;rw[hsetI];simp
             · rw[hset j hji,<-S.tt j hj];exact⟨λhx=>hx.1,λhx=>⟨hx,hji⟩⟩
           refine ih _ _ f' _ (y9 ops f' bl (b.put o.dst v2)) e2 h' d' (i::done) (zpu i todo) hU' hdup' hmem' ⟨inv',λs hs=>?_,by rw[size_put];exact S.sz,by rw[xe];exact S.ad,sb2,λk ok t hok hk hdk=>?_,λk ok hok hk hu h'' hh=>?_,htt,hlist',(λj hj=>by
             rcases Ah.1 hj with rfl|hj
             · exact hin
             · exact S.dn j hj),(λj hj=>S.th j (zdn.1 hj).1),zfh S.nd,⟨fu-1,by have:=zwa hit;omega,hQK.1⟩,hQK.2,hsame _⟩
           · -- slots
             have hs':∀k ok,ops[k]?=Td ok->Y5 ops k=Tc->listed.getD k Tc=Tc->ok.dst≠Td s:=λk ok hok hqk hlk=>hs k ok hok hqk (by rw[hset k (hne_i k hqk)];exact hlk)
             have hbl:∀p∈bl,yv ops p≠Td s:=λp hp hdp=>by
               have hps:=((hbm p).1 hp).1
               have hok:ops[p]?=Td ops[p]:=Bo hps
               have hph:=hbnh p hp
               refine hs p _ hok hph ?_ (by rw[<-jo hok];exact hdp)
               cases hlp:(listed.setIfInBounds i Ta).getD p Tc with
               |false=>rfl
               |true=>
                 exfalso
                 rw[hset p (hne_i p hph)]at hlp
                 have:∀m q,q<m->q<ops.size->Y5 ops q=Tc->listed.getD q Tc=Ta->q∈Y6 ops done ops.size:=by
                   intro m
                   induction m with
                   |zero=>intro q hq;omega
                   |succ m ihm=>
                     intro q hqm hqs hqh hql
                     refine zm6 hqs hqh (zhl.2 λp2 hp2 hw2=>⟨λhph2=>?_,λhph2=>?_⟩)
                     · exact(S.ch p2 (zia.2 ⟨by omega,hph2⟩)).1 (Yk S.inv hql hw2)
                     · have hin2:=ihm p2 (by omega) (by omega) hph2 (Yk S.inv hql hw2)
                       obtain⟨_,g2,g3⟩:=w7 hin2
                       exact zm6 hp2 g2 g3
                 exact((hbm p).1 hp).2.2 (this (p+1) p (by omega) hps hph hlp)
             rw[w8 hbl]
             by_cases hds:o.dst=Td s
             · rw[hds]
               have hsn:s<n:=by
                 rw[hds]at hd
                 unfold jh at hd
                 simp at hd;exact hd.2
               rw[wv (by rw[S.sz];exact hsn),wv (by rw[S.sb.size];exact hsn)]
             · rw[xf hds,xf hds];exact S.ag s hs'
           · by_cases hkb:k∈bl
             · exact(hbf k ok hok hkb).1 t hdk
             · have hk0:k∈Y6 ops done ops.size:=C0 λhc=>hkb ((hbm k).2 ⟨(An.1 hok).1,hk,hc⟩)
               have hkh:=(w7 hk0).2.1
               obtain⟨q1,q2⟩:=S.qv k ok t hok hk0 hdk
               refine⟨?_,q2⟩
               rw[w8 λp hp hdp=>?_,xf (hdist k ok t hok (hne_i k hkh) hdk),q1,hf0 k hkb]
               have:=j6 hnd p k t ((hbm p).1 hp).1 (An.1 hok).1 hdp (by rw[jo hok,hdk])
               subst this;exact hkb hp
           · by_cases hkb:k∈bl
             · obtain⟨_,q2,q3⟩:=hbf k ok hok hkb
               exact q3 h'' (.inl (q2 rfl))
             · have hk0:k∈Y6 ops done ops.size:=C0 λhc=>hkb ((hbm k).2 ⟨(An.1 hok).1,hk,hc⟩)
               have hu0:listed.getD k Tc=Tc:=by rw[<-hset k (hne_i k (w7 hk0).2.1)];exact hu
               rw[zfg (b:=b) (hgd k ok hok).1 (hslot2 k ok hok hk0 hu0),hf0 k hkb]
               exact S.qx k ok hok hk0 hu0 h'' (LdOK.congr (λx hx=>(zax (hslot2 k ok hok hk0 hu0) x hx).symm) hh)
          by_cases hv:valid (zy b) c
          · rw[if_pos (by rw[hwab];exact hwv.2 hv)]
            left
            unfold Oper.wp
            rw[hexec]
            refine zyy (b:=b) S.sb.defers ?_
            refine z1h hW S.sb hv B d λv d' h' hK=>⟨by rw[xe];exact S.sb.defers,λv2 hv2=>?_⟩
            have hbv:b.put o.dst v2=b.put o.dst v:=hv2.symm
            by_cases hds:∃t,o.dst=Td t
            · obtain⟨t,ht⟩:=hds
              have htn:t<n:=by
                have hd2:=hd
                rw[ht]at hd2
                unfold jh at hd2
                simp at hd2;exact hd2.2
              have:v2=v:=by
                have e1:zy (b.put o.dst v2) t=zy (b.put o.dst v) t:=by rw[hbv]
                rw[ht,wv (by rw[S.sb.size];exact htn),wv (by rw[S.sb.size];exact htn)]at e1
                exact e1
              subst this
              exact key v2 v2 d' h' (λ_=>rfl) (λhx=>absurd hv hx) hK
            · have hdn:o.dst=Te:=by
                cases hdx:o.dst with
                |none=>rfl
                |some t=>exact absurd ⟨t,hdx⟩ hds
              have e1:a.put o.dst v2=a.put o.dst v:=by rw[hdn];rfl
              rw[e1]
              exact key v v d' h' (λ_=>rfl) (λhx=>absurd hv hx) hK
          · rw[if_neg (by rw[hwab];exact λhx=>hv (hwv.1 hx))]
            obtain⟨v,hK⟩:=qca hW S.sb hv
            exact key v undef d h (λhx=>absurd hx hv) (λ_=>rfl) hK
theorem zlo{K:Env->zb->Prop}{Q:Exit->Act->World->Prop}(B:World)(q:zp7 ops=Ta) (H:wI P n h Ta ops (λe'=>wB7 P n ops h K md (hvL ops).length [] (hvL ops) e' h) (Y7 [] (Y6 ops [] ops.size) ops.size) e) (A:Sat n e a)
  (V:∀e' a' d' h',Sat n e' a'->Same (wz ops.toList) a a'->K e' h'->Q .normal a' (mk B d' h')) (d:Nat):wpAny P .any ops Q ops.size (BN ops.size Tc) a (mk B d h):=by
 obtain⟨aa,r,D,F⟩:=zln q;have m:∀k,k∈Y7 [] (Y6 ops [] ops.size) ops.size↔k∈Y6 ops [] ops.size:=λk=>by rw[zlj];exact⟨λh=>h.2.1,λh=>⟨(w7 h).1,h,by simp⟩⟩
 have c:=zdo [] (Y6 ops [] ops.size) ops.size;generalize Y7 [] (Y6 ops [] ops.size) ops.size=bl at H m c;have z:bl.Nodup:=c.imp λh=>by omega
 obtain⟨f,Y,U,L,_,I⟩:=zm7 (λ_=>undef) z H A;have w:=zif r D F (f:=f) (l:=bl) (b:=a) A.size (λk C=>(w7 ((m k).1 C)).1) (λk C=>(w7 ((m k).1 C)).2.1) c I;have x:∀s,(∀i o,ops[i]?=Td o->Y5 ops i=Tc->(BN ops.size Tc).getD i Tc=Tc->o.dst≠Td s)->zy a s=zy (y9 ops f bl a) s:=λs J=>(w8 λp N M=>by have G:=(w7 ((m p).1 N)).1;have y:ops[p]?=Td ops[p]:=Bo G;exact J p _ y (w7 ((m p).1 N)).2.1 (getD_replicate_false _ _) (by rw[<-jo y];exact M)).symm;refine z9o B q V ops.size (Bl ops.size) _ f a (y9 ops f bl a) Y h d [] (hvL ops) Dp List.nodup_range (λk=>by rw[A1,getD_replicate_false];simp) ⟨⟨by simp,λj oj _ O=>(by rw[getD_replicate_false]at O;cases O),λt ht S=>by omega⟩,x,A.size,A.defers,L,λi o t E hi Z=>(w i o E ((m i).2 hi)).1 t Z,λi o E hi _=>(w i o E ((m i).2 hi)).2.2,(λj u=>by rw[getD_replicate_false];simp[u]),(λj u=>by rw[getD_replicate_false];simp),(λj u=>by cases u),(λj u=>u),z1m ops,⟨_,Ab _,U⟩,λ_ _ _ _ _ _=>.inr (.inl (Keep.refl _ _)),Same.refl _ _⟩
def z1q:List (Nat×Nat)->Nat->Option Nat
 |[],_=>Te
 |(j,m)::l,i=>bif Nat.beq i j then Td m else z1q l i
def regionF(P:Program)(n:Nat)(c:List (Nat×Nat))(id:Nat)(ops:Array Oper)(b:Bool)(K:Env->zb->Prop)(e:Env)(h:zb):Prop:=
 bif b then(match z1q c id with
  |none=>bif Region.lexB .any ops then wQ P n ops h Ta (λe'=>K (clean e') h) ops.toList e else False
  |some _=>bif zp7 ops then wI P n h Ta ops (λe'=>wB7 P n ops h K Ta (hvL ops).length [] (hvL ops) e' h) (Y7 [] (Y6 ops [] ops.size) ops.size) e else False)
 else wR P n ops K ops.toList e h
theorem Qs(l m:List Oper):wz (l++m)=wz l++wz m:=by
 induction l with
 |nil=>rfl
 |cons o l b=>simp only[AD,wz];split <;> simp[b]
theorem zdp(i:P.follows .mixedOrders=Ta){l:List (Nat×Nat)}{id:Nat}{b:Bool}{K:Env->zb->Prop} (H:regionF P n l id ops b K e h) (B:World) (d:Nat) (c:Sat n e a) {Q:Exit->Act->World->Prop}
  (f:∀e' a' k h',Sat n e' a'->Same (wz ops.toList) a a'->K e' h'->Q .normal a' (mk B k h')):(Ek id ops b).wp P Q a (mk B d h):=by
 unfold regionF at H;cases b with
 |false=>exact wp_region_list (zdj B _ _ _ _ _ H c f)
 |true=>
  simp only[cond_true]at H;split at H;cases hB:Region.lexB .any ops with
  |false=>rw[hB]at H;exact H.elim
  |true=>rw[hB]at H;refine wp_region_quiet (C:=λw=>∃d,w=mk B d h) i hB ⟨d+1,rfl⟩ ?_;refine zv8 B _ _ _ H c λe' a' m o p=>?_;rintro w' ⟨k,rfl⟩;exact f _ _ _ _ m.clean o p
  cases hB:zp7 ops with
  |false=>rw[hB]at H;exact H.elim
  |true=>rw[hB]at H;exact wp_region_any i (zlo B hB H c f (d+1))
end
section
variable {n:Nat} {e:Env} {a:Act} {ms:List Nat} {P:Program} {h:zb} {R:Value -> zb -> Prop} {f:FuncId}
@[reducible] def zy1:List Atom->Type->Type
 |[],X=>X
 |t::l,X=>t.den->zy1 l X
def qg1{X:Type}:(l:List Atom)->zy1 l X->(List Value->X->Prop)->Prop
 |[],f,k=>k [] f
 |t::l,f,k=>∀x:t.den,qg1 l (f x) λvs y=>k (t.enc x::vs) y
def zp8{X:Type}:(l:List Atom)->List Value->zy1 l X->Option X
 |[],[],f=>Td f
 |t::l,v::vs,f=>match t.dec v with
  |some x=>zp8 l vs (f x)
  |none=>Te
 |_,_,_=>Te
def mkC{X:Type}:(l:List Atom)->(List Value->X)->zy1 l X
 |[],f=>f []
 |t::l,f=>λx=>mkC l λvs=>f (t.enc x::vs)
def zy2{X Y:Type}:(l:List Atom)->zy1 l X->zy1 l Y->zy1 l (X×Y)
 |[],f,g=>(f,g)
 |_::l,f,g=>λx=>zy2 l (f x) (g x)
theorem zig{X:Type}:∀{l:List Atom} {vs:List Value} {f:zy1 l X} {x:X} {k:List Value->X->Prop},zp8 l vs f=Td x->qg1 l f k->k vs x
 |[],[],f,x,k,h,g=>by simp only[zp8,Ac]at h;subst h;exact g
 |[],_::_,f,x,k,h,g=>by simp[zp8]at h
 |_::_,[],f,x,k,h,g=>by simp[zp8]at h
 |t::l,v::vs,f,x,k,h,g=>by simp only[zp8]at h;split at h;rename_i y b;have:=zig h (g y);rw[Atom.enc_of_dec b]at this;exact this;cases h
theorem zm8{X:Type}:∀{l:List Atom} {vs:List Value} {f:List Value->X} {x:X},zp8 l vs (mkC l f)=Td x->x=f vs
 |[],[],f,x,h=>by simp only[zp8,mkC,Ac]at h;exact h.symm
 |[],_::_,f,x,h=>by simp[zp8]at h
 |_::_,[],f,x,h=>by simp[zp8]at h
 |t::l,v::vs,f,x,h=>by simp only[zp8,mkC]at h;split at h;rename_i y b;have:=zm8 h;rw[Atom.enc_of_dec b]at this;exact this;cases h
theorem zm9{X:Type}:∀{l:List Atom} {f:List Value->X} {k:List Value->X->Prop},(∀vs,k vs (f vs))->qg1 l (mkC l f) k
 |[],_,_,h=>h []
 |_::_,_,_,h=>λ_=>zm9 λ_=>h _
abbrev Ann:=List (Nat×VT)
def we:Ann->List Atom
 |[]=>[]
 |(_,.one t)::J=>t::we J
 |(_,.agg l)::J=>l++we J
def zbe(σ:Nat->Option Value):Ann->Option (List Value)
 |[]=>Td []
 |(i,.one _)::J=>match σ i,zbe σ J with
  |some v,some vs=>Td (v::vs)
  |_,_=>Te
 |(i,.agg l)::J=>match σ i,zbe σ J with
  |some (.agg cs),some vs=>bif Nat.beq cs.toList.length l.length then Td (cs.toList++vs)else Te
  |_,_=>Te
def Yl:Ann->List Value->Env
 |[],_=>[]
 |(i,.one _)::J,v::vs=>(i,[],v)::Yl J vs
 |(_,.one _)::_,[]=>[]
 |(i,.agg l)::J,vs=>(i,[],.agg (vs.take l.length).toArray)::Yl J (vs.drop l.length)
def zty(e:Env)(i:Nat):Option Value:=match look e i with
 |some ([],v)=>Td v
 |_=>Te
theorem J6(h:Sat n e a){i:Nat}{v:Value}(b:zty e i=Td v):zy a i=v:=by unfold zty at b;split at b;rename_i u c;simp only[Ac]at b;subst b;exact(h.all _ (zaw c)).1 trivial;cases b
theorem jq{n:Nat}{e:Env}{a:Act}(h:Sat n e a):∀{J:Ann} {vs:List Value},zbe (zty e) J=Td vs->zbe (λi=>Td (zy a i)) J=Td vs
 |[],vs,hv=>hv
 |(i,.one t)::J,vs,hv=>by simp only[zbe]at hv ⊢;split at hv;rename_i v us h1 b;simp only[jq h b,J6 h h1];exact hv;cases hv
 |(i,.agg l)::J,vs,hv=>by simp only[zbe]at hv ⊢;split at hv;rename_i cs us h1 b;simp only[jq h b,J6 h h1];exact hv;cases hv
theorem Xy{σ:Nat->Value}:∀{J:Ann} {vs:List Value},zbe (λi=>Td (σ i)) J=Td vs->∀x∈Yl J vs,fact σ x
 |[],vs,_,x,b=>by cases b
 |(i,.one t)::J,vs,hv,x,b=>by simp only[zbe]at hv;split at hv;rename_i v us h1 f;simp only[Ac]at h1 hv;subst hv;simp only[Yl,Ah]at b;rcases b with rfl|b;exact⟨λ_=>h1,λe=>absurd trivial e⟩;exact Xy f x b;cases hv
 |(i,.agg l)::J,vs,hv,x,b=>by
  simp only[zbe]at hv;split at hv;rename_i cs us h1 f;simp only[Ac]at h1;cases hb:Nat.beq cs.toList.length l.length with
  |false=>rw[hb]at hv;cases hv
  |true=>rw[hb]at hv;simp only[cond_true,Ac]at hv;subst hv;have c:cs.toList.length=l.length:=Ak hb;simp only[Yl,Ah]at b;rcases b with rfl|b;refine⟨λ_=>?_,λe=>absurd trivial e⟩;simp only;rw[h1,<-c,CQ];rw[<-c,DR]at b;exact Xy f x b
  cases hv
def Xz(ms:List Nat):Env->Env
 |[]=>[]
 |(i,[],v)::e=>bif memN ms i then Xz ms e else(i,[],v)::Xz ms e
 |(_,_::_,_)::e=>Xz ms e
theorem z1r{x:Nat×zx×Value}(h:x∈Xz ms e):x∈e/\x.2.1=[]/\x.1∉ms:=by
 induction e with
 |nil=>cases h
 |cons y e b=>
  obtain⟨i,c,v⟩:=y;cases c with
  |nil=>
   simp only[Xz]at h;cases hm:memN ms i with
   |true=>rw[hm]at h;exact⟨Ae _ (b h).1,(b h).2⟩
   |false=>rw[hm]at h;simp only[cond_false]at h;rcases Ah.1 h with rfl|h;exact⟨Am,rfl,Ql hm⟩;exact⟨Ae _ (b h).1,(b h).2⟩
  |cons g c=>simp only[Xz]at h;exact⟨Ae _ (b h).1,(b h).2⟩
theorem zdq{a f:Act}(p:Sat n e a)(r:f.defers=[])(m:f.tmps.size=n)(b:Same ms a f){J:Ann}{vs:List Value}
  (q:zbe (λi=>Td (zy f i)) J=Td vs):Sat n (Yl J vs++Xz ms e) f:=by
 refine⟨r,m,λx c=>?_⟩;rcases Ay.1 c with c|c;exact Xy q x c;obtain⟨h1,h,k⟩:=z1r c;have o:=p.all x h1;refine⟨λ_=>?_,λl=>absurd (by rw[h];trivial) l⟩;rw[b _ k];exact o.1 (by rw[h];trivial)
def jy:Code->Option Nat
 |.region id _ _=>Td id
 |.seq a b=>match jy a with
  |some i=>Td i
  |none=>jy b
 |.cond _ a b=>match jy a with
  |some i=>Td i
  |none=>jy b
 |.block _ b=>jy b
 |.loop b=>jy b
 |_=>Te
def Z9:Code->List Nat
 |.region _ ops _=>wz ops.toList
 |.seq a b=>Z9 a++Z9 b
 |.cond _ a b=>Z9 a++Z9 b
 |.block _ b=>Z9 b
 |.loop b=>Z9 b
 |_=>[]
structure Plan where
 tails:List (Nat×Nat)
 loops:List (Nat×Ann)
 joins:List (Nat×Ann)
def qg2:List (Nat×Ann)->Nat->Option Ann
 |[],_=>Te
 |(j,m)::l,i=>bif Nat.beq i j then Td m else qg2 l i
def z9p(l:List (Nat×Ann)):Option Nat->Option Ann
 |some i=>qg2 l i
 |none=>Te
abbrev zb1:=Exit->Env->zb->Prop
def ztz(K:Env->zb->Prop)(Q:zb1):zb1
 |.normal,e,h=>K e h
 |x,e,h=>Q x e h
def zih(id:Nat)(Q:zb1):zb1
 |.exit i,e,h=>bif Nat.beq i id then Q .normal e h else Q (.exit i) e h
 |x,e,h=>Q x e h
def atC{X:Type}(J:Ann)(F:zy1 (we J) X)(e:Env)(k:X->Prop):Prop:=
 match zbe (zty e) J with
 |some vs=>match zp8 (we J) vs F with
  |some q=>k q
  |none=>False
 |none=>False
def qg3(J:Ann)(rest:Env->zb->Prop)(F:(Env->zb->Prop)->Prop)(b:Env):Prop:=
 ∀K:zy1 (we J) (zb->Prop),qg1 (we J) K (λvs q=>∀h,rest (Yl J vs++b) h->q h)->F λe h=>atC J K e λq=>q h
def qg4(J:Ann)(body:(Env->zb->Prop)->Env->zb->Prop)(b e:Env)(h:zb):Prop:=
 ∃(I:zy1 (we J) (zb->Prop)) (μ:zy1 (we J) (zb->Nat)),(atC J (zy2 (we J) I μ) e λp=>p.1 h) /\
  qg1 (we J) (zy2 (we J) I μ) λvs p=>∀h,p.1 h->body (λe' h'=>atC J (zy2 (we J) I μ) e' λq=>q.1 h'/\q.2 h'<p.2 h) (Yl J vs++b) h
def W(P:Program)(n:Nat)(pl:Plan):Code->zb1->Env->zb->Prop
 |.skip,Q,e,h=>Q .normal e h
 |.ret,Q,e,h=>Q .ret e h
 |.exit id,Q,e,h=>Q (.exit id) e h
 |.label _,Q,e,h=>Q .normal e h
 |.goto l,Q,e,h=>Q (.goto l) e h
 |.region id ops draw,Q,e,h=>regionF P n pl.tails id ops draw (λe h=>Q .normal e h) e h
 |.seq x y,Q,e,h=>match z9p pl.joins (jy y)with
  |none=>W P n pl x (ztz (λe h=>W P n pl y Q e h) Q) e h
  |some J=>qg3 J (λe h=>W P n pl y Q e h) (λK=>W P n pl x (ztz K Q) e h) (Xz (Z9 x) e)
 |.cond c x y,Q,e,h=>match Xt e [] c with
  |some (.bool b)=>(b=Ta->W P n pl x Q e h)/\(b=Tc->W P n pl y Q e h)
  |_=>False
 |.block id x,Q,e,h=>W P n pl x (zih id Q) e h
 |.loop x,Q,e,h=>match z9p pl.loops (jy x)with
  |some J=>qg4 J (λf e h=>W P n pl x (ztz f Q) e h) (Xz (Z9 x) e) e h
  |none=>False
 |_,_,_,_=>False
def qg5(n:Nat)(B:World)(ms:List Nat)(a0:Act)(Q:zb1):Exit->Act->World->Prop:=
 λx a w=>∃e d h,w=mk B d h/\Sat n e a/\Same ms a0 a/\Q x e h
theorem zfi{X:Type}{J:Ann}{F:zy1 (we J) X}{k:X->Prop}(h:atC J F e k):∃vs q,zbe (zty e) J=Td vs/\zp8 (we J) vs F=Td q/\k q:=by unfold atC at h;split at h;rename_i vs c;split at h;rename_i q b;exact⟨vs,q,c,b,h⟩;exact h.elim;exact h.elim
theorem qdr(hm:P.follows .mixedOrders=Ta){pl:Plan}:∀(c:Code) (Q:zb1) (e:Env) (h:zb),W P n pl c Q e h ->
  ∀(B:World) (d:Nat) (a:Act),Sat n e a->c.wp P (qg5 n B (Z9 c) a Q) a (mk B d h):=by
 intro c;induction c with
 |skip=>exact λQ e h H B d a f=>wp_skip ⟨e,d,h,rfl,f,Same.refl _ _,H⟩
 |ret=>exact λQ e h H B d a f=>wp_ret ⟨e,d,h,rfl,f,Same.refl _ _,H⟩
 |exit id=>exact λQ e h H B d a f=>wp_exit ⟨e,d,h,rfl,f,Same.refl _ _,H⟩
 |label l=>exact λQ e h H B d a f=>wp_label ⟨e,d,h,rfl,f,Same.refl _ _,H⟩
 |goto l=>exact λQ e h H B d a f=>wp_goto ⟨e,d,h,rfl,f,Same.refl _ _,H⟩
 |region id ops an=>exact λQ e h H B d a f=>zdp hm H B d f λe' a' d' h' o s q3=>⟨e',d',h',rfl,o,s,q3⟩
 |seq x y C A=>
  intro Q e h H B d a f;simp only[W]at H;have M:∀i∈Z9 x,i∈Z9 (x.seq y):=λi hi=>As _ hi;have S:∀i∈Z9 y,i∈Z9 (x.seq y):=λi hi=>AC _ hi;split at H;refine wp_seq (wp_mono (C _ _ _ H B d a f) ?_);rintro ex k w1 ⟨D,r,h1,rfl,s1,w,o⟩;cases ex with
  |normal=>refine wp_mono (A _ _ _ o B r k s1) ?_;rintro ex a2 w2 ⟨t,d2,u,rfl,s2,z,s⟩;exact⟨t,d2,u,rfl,s2,(w.mono M).trans (z.mono S),s⟩
  |_=>exact⟨D,r,h1,rfl,s1,w.mono M,o⟩
  rename_i J hJ;have H':=H (mkC (we J) λvs=>λh=>W P n pl y Q (Yl J vs++Xz (Z9 x) e) h) (zm9 λvs h L=>L);refine wp_seq (wp_mono (C _ _ _ H' B d a f) ?_);rintro ex k w1 ⟨D,r,h1,rfl,s1,w,o⟩;cases ex with
  |normal=>obtain⟨vs,q,O,L,hk⟩:=zfi o;have ae:=zm8 L;subst ae;have U:Sat n (Yl J vs++Xz (Z9 x) e) k:=zdq f s1.defers s1.size w (jq s1 O);refine wp_mono (A _ _ _ hk B r k U) ?_;rintro ex a2 w2 ⟨t,d2,u,rfl,s2,z,s⟩;exact⟨t,d2,u,rfl,s2,(w.mono M).trans (z.mono S),s⟩
  |_=>exact⟨D,r,h1,rfl,s1,w.mono M,o⟩
 |cond c x y C A=>intro Q e h H B d a f;simp only[W]at H;have M:∀i∈Z9 x,i∈Z9 (Ei c x y):=λi hi=>As _ hi;have S:∀i∈Z9 y,i∈Z9 (Ei c x y):=λi hi=>AC _ hi;split at H;rename_i b E;refine wp_cond_split (qn f (c:=[]) trivial E) (λaf=>?_) (λaa=>?_);refine wp_mono (C _ _ _ (H.1 af) B d a f) ?_;rintro ex a2 w2 ⟨t,d2,u,rfl,s2,z,s⟩;exact⟨t,d2,u,rfl,s2,z.mono M,s⟩;refine wp_mono (A _ _ _ (H.2 aa) B d a f) ?_;rintro ex a2 w2 ⟨t,d2,u,rfl,s2,z,s⟩;exact⟨t,d2,u,rfl,s2,z.mono S,s⟩;exact H.elim
 |block id x ih=>
  intro Q e h H B d a f;refine wp_block (wp_mono (ih _ _ _ H B d a f) ?_);rintro ex k w1 ⟨D,r,h1,rfl,s1,w,o⟩;cases ex with
  |exit i=>simp only[zih]at o;simp only[Exit.inBlock];by_cases E:Nat.beq i id=Ta;rw[if_pos (Ak E)];simp only[E,cond_true]at o;exact⟨D,r,h1,rfl,s1,w,o⟩;rw[if_neg (λhe=>E (by rw[he];simp))];simp only[E,cond_false]at o;exact⟨D,r,h1,rfl,s1,w,o⟩
  |_=>exact⟨D,r,h1,rfl,s1,w,o⟩
 |loop x ih=>
  intro Q e h H B d a f;simp only[W]at H;split at H;rename_i J hJ;obtain⟨I,μ,h0,G⟩:=H;obtain⟨ak,p0,ai,ah,am⟩:=zfi h0;let F:=zy2 (we J) I μ;let at_:Act->Option ((zb->Prop)×(zb->Nat)):=λk=>(zbe (λi=>Td (zy k i)) J).bind λvs=>zp8 (we J) vs F;refine wp_loop (λk w1=>∃r h1 vs p,w1=mk B r h1/\k.defers=[]/\k.tmps.size=n/\Same (Z9 x) a k/\zbe (λi=>Td (zy k i)) J=Td vs/\zp8 (we J) vs F=Td p/\p.1 h1) (λk w1=>match at_ k with|some p=>p.2 w1.heap|none=>0) ⟨d,h,ak,p0,rfl,f.defers,f.size,Same.refl _ _,jq f ai,ah,am⟩ ?_;rintro k w1 ⟨r,h1,vs,p,rfl,aj,Y,m,O,hp,hI⟩;have s1:Sat n (Yl J vs++Xz (Z9 x) e) k:=zdq f aj Y m O;have E:=zig hp G h1 hI;refine wp_mono (ih _ _ _ E B r k s1) ?_;rintro ex a2 w2 ⟨t,d2,u,rfl,s2,z,s⟩;cases ex with
  |normal=>
   obtain⟨V,q,N,L,Z,ab⟩:=zfi s;refine⟨⟨d2,u,V,q,rfl,s2.defers,s2.size,m.trans z,jq s2 N,L,Z⟩,?_⟩;have D:at_ k=Td p:=by simp only[at_,O,C2];exact hp
   have t:at_ a2=Td q:=by simp only[at_,jq s2 N,C2];exact L
   rw[D,t];exact ab
  |_=>exact⟨t,d2,u,rfl,s2,m.trans z,s⟩
  exact H.elim
 |_=>exact λQ e h H=>H.elim
def z1s:Nat->List Value->Env
 |_,[]=>[]
 |i,v::vs=>(i,[],v)::z1s (i+1) vs
def z1t(P:Program)(h:zb)(e:Env):List ResultVar->(List Value->Prop)->Prop
 |[],K=>K []
 |.tmp t::l,K=>match zty e t with
  |some v=>z1t P h e l λvs=>K (v::vs)
  |none=>False
 |.cell a t::l,K=>match zty e a with
  |some p=>zpy P h t p Te λv=>z1t P h e l λvs=>K (v::vs)
  |none=>False
def zii:List Value->Value
 |[v]=>v
 |vs=>.tuple vs.toArray
def qjp(P:Program)(rs:List ResultVar)(R:Value->zb->Prop):zb1
 |.normal,e,h=>z1t P h e rs λvs=>R (zii vs) h
 |.ret,e,h=>z1t P h e rs λvs=>R (zii vs) h
 |_,_,_=>False
def zij(tmps:Array Value):ResultVar->Sem Value
 |.tmp t=>pure (tmps.getD t undef)
 |.cell a t=>do loadVar t (<-asAddr (tmps.getD a undef))
theorem zfj{P:Program}{n:Nat}{h:zb}{e:Env}{a:Act}(c:Sat n e a):∀{l:List ResultVar} {K:List Value->Prop},z1t P h e l K->∃vs,K vs/\vs.length=l.length/\QExec P (l.mapM (zij a.tmps)) h vs
 |[],K,H=>⟨[],H,rfl,λ_ _=>by simp⟩
 |.tmp t::l,K,H=>by simp only[z1t]at H;split at H;rename_i v r;obtain⟨vs,h1,i,f⟩:=zfj c H;refine⟨v::vs,h1,by simp[i],?_⟩;rw[Ea];refine QExec.bind (x:=v) ?_ (f.bind (QExec.pure _));rw[<-J6 c r];exact QExec.pure _;exact H.elim
 |.cell x t::l,K,H=>by simp only[z1t]at H;split at H;rename_i p q;obtain⟨v,m,k⟩:=zh1 H;obtain⟨vs,h1,i,f⟩:=zfj c m;refine⟨v::vs,h1,by simp[i],?_⟩;rw[Ea];refine QExec.bind (x:=v) ?_ (f.bind (QExec.pure _));have o:a.tmps.getD x undef=p:=J6 c q;simp only[zij,o];have b:=k trivial;unfold DW at b;unfold zpy at H;split at H;exact b;exact b;exact H.elim;exact H.elim
theorem Qt{fn:Func}(c:Sat n e a){rs:List ResultVar}(f:fn.results.toList=rs)(H:z1t P h e rs λvs=>R (zii vs) h):
  ∃v,R v h/\QExec P (results fn a.tmps) h v:=by
 obtain⟨vs,h1,k,b⟩:=zfj c H;refine⟨_,h1,?_⟩;intro B d;have i:results fn a.tmps=(fn.results.mapM (zij a.tmps) >>= λvs=>Dn (if h:vs.size=1 then vs[0]else .tuple vs)):=by unfold results;congr 1
 rw[i,Array.mapM_eq_mapM_toList,f,Sem.run_bind,Sem.run_map,b B d];simp only[Result.andThen_ok,Sem.run_pure]
 match vs,k with
 |[],_=>rfl
 |[v],_=>rfl
 |v::u::vs,_=>simp[zii]
theorem za1(args:Array Value)(k:Nat):∀(vs:List Value) (i:Nat),(∀j v,vs[j]?=Td v->(args++BN k undef).getD (i+j) undef=v) ->
  ∀x∈z1s i vs,fact (λi=>(args++BN k undef).getD i undef) x
 |[],_,_,x,b=>by cases b
 |v::vs,i,h,x,b=>by simp only[z1s,Ah]at b;rcases b with rfl|b;exact⟨λ_=>h 0 v rfl,λc=>absurd trivial c⟩;exact za1 args k vs (i+1) (λj u e=>by have:=h (j+1) u (by simpa using e);rwa[show i+(j+1)=i+1+j by omega]at this) x b
theorem qds(q:P.follows .mixedOrders=Ta){fn:Func}{c:Code}(pl:Plan)(vs:List Value){rs:List ResultVar}(t:P.funcs[f]?=Td fn)(u:fn.body=Td c)(o:fn.results.toList=rs)(s:fn.ntmps=n)
  (p:Nat.ble vs.length n=Ta) (H:W P n pl c (qjp P rs R) (z1s 0 vs) h):XC P f vs.toArray h R:=by
 intro B d;subst s;refine calls_of_wp t u ?_;have x:vs.length<=fn.ntmps:=Ca p;have r:Sat fn.ntmps (z1s 0 vs) { tmps:=vs.toArray++BN (fn.ntmps-vs.toArray.size) undef,defers:=[] }:=by
  refine⟨rfl,by simp;omega,?_⟩;refine za1 vs.toArray _ vs 0 λj v i=>?_;have k:j<vs.length:=by rcases A6 j vs.length with h|h;exact h;rw[BL h]at i;cases i
  simp only[AI,BM];rw[CU (by simpa using k)];simp[i]
 refine wp_mono (qdr q c _ _ _ H B d _ r) ?_;rintro ex a w ⟨z,b,h1,rfl,s1,y,l⟩;cases ex with
 |normal=>obtain⟨v,m,e⟩:=Qt s1 o l;exact⟨s1.defers,v,e B b,v,b,h1,rfl,rfl,m⟩
 |ret=>obtain⟨v,m,e⟩:=Qt s1 o l;exact⟨s1.defers,v,e B b,v,b,h1,rfl,rfl,m⟩
 |_=>exact l.elim
def codeOf(fn:Func):Code:=match fn.body with
 |some c=>c
 |none=>.skip
def Qu(fn:Func):Bool:=match fn.body with
 |some _=>Ta
 |none=>Tc
theorem zy3(p:P.follows .mixedOrders=Ta)(pl:Plan)(vs:List Value){fn:Func}{rs:List ResultVar}(o:P.funcs[f]?=Td fn)(e:Qu fn=Ta)(k:fn.results.toList=rs)(l:fn.ntmps=n)
  (m:Nat.ble vs.length n=Ta) (H:W P n pl (codeOf fn) (qjp P rs R) (z1s 0 vs) h):XC P f vs.toArray h R:=by
 have b:fn.body=Td (codeOf fn):=by unfold Qu at e;unfold codeOf;split at e;rename_i c i;rw[i];cases e
 exact qds p pl vs o b k l m H
end
section
variable {n:Nat} {h h':zb} {e t ty:TypeId} {s:Sl} {xs news:List Value} {P:Program} {z:Value}
theorem yb(h:zb)(o:Obj):(h.push o)[h.size]?=Td o:=by simp
def Arr(n:Nat)(h:zb)(a:Option Addr)(cs:List Value):Prop:=
 cs=[]\/∃b o,a=Td ⟨b,o,Te⟩/\b<n/\∀i v,cs[i]?=Td v->zc h ⟨b,o+i,Te⟩=Td v
theorem zi(b o i:Nat):(⟨b,o,Te⟩:Addr).add i=⟨b,o+i,Te⟩:=by unfold Ad;split;rename_i h;rw[h];rfl;rfl
theorem z1u(a:Option Addr)(sz m:Nat):zfb a sz 0 m=a:=by
 unfold zfb;split;rfl;cases a with
 |none=>rfl
 |some p=>simp[Ad]
theorem wrap64{n:Int}(h1:-9223372036854775808<=n)(c:n<=9223372036854775807):Aa .i64 n=n:=by
 unfold Aa;have e:(2:Int) ^ Bj .i64=18446744073709551616:=by decide
 have e':(2:Int) ^ (Bj .i64-1)=9223372036854775808:=by decide
 simp only[e,e'];have b:DT .i64=Ta:=rfl;simp only[b,Cs,decide_eq_true_eq];split <;> omega
theorem z1v{k:Nat}(h:k<9223372036854775807):Aa .i64 ((k:Int)+1)=((k+1:Nat):Int):=by rw[wrap64 (by omega) (by omega)];omega
def Owns(h:zb)(base:Nat)(e:TypeId)(sz:Nat)(s:Sl)(xs:List Value):Prop:=
 (mk default 0 h).ownsRow base e sz (.slice s.a s.len s.cap) s.len xs
theorem Owns.nil(h:zb)(base:Nat)(e:TypeId)(sz:Nat):Owns h base e sz ⟨Te,0,0⟩ []:=World.ownsRow_nil _ _ _ _
theorem Owns.length{base:Nat}{sz:Nat}(H:Owns h base e sz s xs):xs.length=s.len*sz:=H.1
theorem Owns.arr{base:Nat}{sz:Nat}(H:Owns h base e sz s xs):Arr h.size h s.a xs:=by rcases H.2 with⟨f,h0⟩|⟨g,cap,b,f,r,m,p,q,n,o⟩;have l:=H.1;rw[h0]at l;exact .inl (by simpa using l);simp only[AO]at f;have c:g<h.size:=(An.1 m).1;refine .inr ⟨g,0,f.1,c,λi v hi=>?_⟩;have k:h[g]?=Td (.cells b e (0,0)):=m;unfold zc;simp only[k,AI,Option.isSome_none,Bc,if_false];rw[<-o,AJ]at hi;split at hi;simpa using hi;cases hi
theorem Owns.base_le{base:Nat}{sz:Nat}(H:Owns h base e sz s xs):∀p,s.a=Td p->base<=p.block/\p.block<h.size:=by intro p b;exact World.ownsRow.lt H p.block (by simp[Value.ownBlock,b])
theorem Owns.keep{base:Nat}{sz:Nat}(H:Owns h base e sz s xs)(k:∀p,s.a=Td p->h'[p.block]?=h[p.block]?):Owns h' base e sz s xs:=by refine⟨H.1,?_⟩;rcases H.2 with f|⟨g,cap,b,c,i,l,rest⟩;exact .inl f;simp only[AO]at c;refine .inr ⟨g,cap,b,by simp[c],i,?_,rest⟩;have:=k _ c.1;exact this.trans l
theorem Owns.keepN{base:Nat}{sz:Nat}(H:Owns h base e sz s xs)(k:Keep h.size h h'):Owns h' base e sz s xs:= H.keep λp b=>k.get _ (H.base_le p b).2
structure ElemT (P:Program) (t e:TypeId) (z:Value) (sz bytes:Nat):Prop where
 slice:P.underlying t=Td (.slice e)
 info:∃i,P.info? e=Td i/\i.zero=Td z/\i.size=sz/\i.bytes=bytes
 zero:z.cells.size=sz
 pos:0<sz
theorem zgo{w:World}{i:TypeInfo}{sz bytes base:Nat}(B:P.underlying t=Td (.slice e))(hi:P.info? e=Td i)(H:i.zero=Td z)(G:i.size=sz)(D:i.bytes=bytes) {v:Value} (o:w.ownsRow base e sz v n xs) {a:Addr} {m c:Nat} (A:news.length=m*sz) (f:∀j u,news[j]?=Td u->w.cell? (a.add j)=Td u) (h1:∀u∈news,u.oneCell'=Ta) (S:n+m<=4611686018427387904) (h:(n+m)*bytes<=140737488355328) {I:Value} {w':World} (k:(Au #[t,t] ty #[v,.slice (Td a) m c]).run P w=.ok I w'):
  ∀C l J,I=.slice (Td C) l J->(∃p L c0,v=.slice (Td p) L c0/\C.block=p.block)\/C.block=w.heap.size:=by
 subst G D;intro C l J b;rcases o.2 with⟨rfl,rfl⟩|⟨g,cap,y,rfl,Y,N,O,V,F,E⟩;by_cases M:m=0;subst M;have Q:news=[]:=AN (by simpa using A);subst Q;have r:(Au #[t,t] ty #[.slice Te 0 0,.slice (Td a) 0 c]).run P w=.ok (.slice Te 0 0) w:=by simp[Au,run_underlying B,sizeOf,typeInfo,hi,Builtin.lenOf,C3,loadCells,loadCellsFrom]
 rw[r]at k;simp only[Eo]at k;rw[<-k.1]at b;cases b;have r:=run_append_nil (P:=P) (ty:=ty) w t e i z B hi H a m c news A f (by omega) (by omega) (by have U:=h;simp only[AI]at U;omega);rw[r]at k;simp only[Eo]at k;rw[<-k.1]at b;simp only[AO,Ac]at b;exact .inr (by rw[<-b.1]);by_cases q:n+m<=cap;have x:n*i.size+news.length<=y.size:=by rw[A,F,<-Cg];exact AP _ q
 have r:=run_append_room (P:=P) (ty:=ty) w t e i B hi g n cap y N a m c news A f h1 q x;rw[r]at k;simp only[Eo]at k;rw[<-k.1]at b;simp only[AO,Ac]at b;exact .inl ⟨_,_,_,rfl,by rw[<-b.1]⟩;have s:∀j u,xs[j]?=Td u->w.cell? ((⟨g,0,Te⟩:Addr).add j)=Td u:=o.cells (g:=g) rfl;have r:=run_append_grow (P:=P) (ty:=ty) w t e i z B hi H ⟨g,0,Te⟩ n cap xs o.1 s a m c news A f (by omega) (by omega) (growslice_fits (by omega) h);rw[r]at k;simp only[Eo]at k;rw[<-k.1]at b;simp only[AO,Ac]at b;exact .inr (by rw[<-b.1])
theorem za2{sz bytes:Nat}(T:ElemT P t e z sz bytes){base:Nat}(H:Owns h base e sz s xs) {src:Sl} (hs:Arr n h src.a news) (hl:news.length=src.len*sz) (h1:∀u∈news,u.oneCell'=Ta) (c:(s.len+src.len)*bytes<=140737488355328) (y:s.len+src.len<=4611686018427387904) (x:base<=h.size) {K:Value->zb->Prop} (hK:∀(k:Sl) (h':zb),k.len=s.len+src.len->Owns h' base e sz k (xs++news)->(∀i,i<h.size->(∀p,s.a=Td p->i≠p.block)->h'[i]?=h[i]?)->h.size<=h'.size->(∀m,k.a=Td m->(∃p,s.a=Td p/\m.block=p.block)\/m.block=h.size)->K (.slice k.a k.len k.cap) h'):
  XRun P (Au #[t,t] ty #[.slice s.a s.len s.cap,.slice src.a src.len src.cap]) h K:=by
 intro B d;obtain⟨i,hi,U,E,A⟩:=T.info;have key:∃D w',(Au #[t,t] ty #[.slice s.a s.len s.cap,.slice src.a src.len src.cap]).run P (mk B d h)=.ok D w'/\w'.ownsRow base e sz D (s.len+src.len) (xs++news)/\(mk B d h).grownBy w' (Value.ownBlock (.slice s.a s.len s.cap)) /\
   ∀m l N,D=.slice (Td m) l N->(∃p,s.a=Td p/\m.block=p.block)\/m.block=h.size:=by
  have f:(mk B d h).ownsRow base e sz (.slice s.a s.len s.cap) s.len xs:=H;rcases hs with Z|⟨b,o,Z,V,hc⟩;subst Z;have h0:src.len=0:=by rcases Dj src.len with h0|h0;exact h0;have:=Nat.mul_pos h0 T.pos;simp at hl;omega
  rw[h0];have O:∃q,q=src.a:=⟨_,rfl⟩;obtain⟨q,J⟩:=O;rw[<-J];cases q with
  |none=>
   refine⟨_,mk B d h,?_,by simpa using f,⟨rfl,rfl,rfl,Ab _,λ_ _ _=>rfl⟩,λm l N r=>.inl ⟨m,by simp only[AO]at r;exact r.1,rfl⟩⟩;have hT:=T.slice;have ab:s.len<=s.cap:=by rcases f.2 with⟨I,S⟩|⟨g,cap,ae,I,_,_,ah,_⟩;omega;simp only[AO]at I;omega
   generalize s.a=sa at *;cases sa <;> simp[Au,run_underlying hT,sizeOf,typeInfo,hi,Builtin.lenOf,C3,ab,storeCells]
  |some p=>obtain⟨D,w',F,M,C,_⟩:=run_append_own (P:=P) (w:=mk B d h) base t ty e i z sz bytes T.slice hi U E A T.zero T.pos (.slice s.a s.len s.cap) s.len xs f p 0 src.cap [] (by simp) (by simp) (by simp) (by unfold maxLen;omega) (by rw[h0]at c;exact c) x;refine⟨D,w',F,M,C,λm l N r=>?_⟩;rcases zgo T.slice hi U E A f (news:=[]) (by simp) (by simp) (by simp) (by rw[h0]at y;exact y) (by rw[h0]at c;exact c) F m l N r with⟨q,l0,c0,J,V⟩|V;simp only[AO]at J;exact .inl ⟨q,J.1,V⟩;exact .inr V
  rw[Z];obtain⟨D,w',F,M,C,_⟩:=run_append_own (P:=P) (w:=mk B d h) base t ty e i z sz bytes T.slice hi U E A T.zero T.pos (.slice s.a s.len s.cap) s.len xs f ⟨b,o,Te⟩ src.len src.cap news hl (λj u Y=>by rw[zi];exact hc j u Y) h1 (by unfold maxLen;omega) c x;refine⟨D,w',F,M,C,λm l N r=>?_⟩;rcases zgo T.slice hi U E A f hl (λj u Y=>by rw[zi];exact hc j u Y) h1 y c F m l N r with⟨q,l0,c0,J,L⟩|L;simp only[AO]at J;exact .inl ⟨q,J.1,L⟩;exact .inr L
 obtain⟨D,w',F,M,C,r4⟩:=key;have hw:w'=mk B w'.drawn w'.heap:=by have I:=C.os;have S:=C.tape;have e3:=C.output;cases w';simp only[mk]at *;subst I;subst S;subst e3;rfl
 rw[hw]at F;have hv:∃k:Sl,D=.slice k.a k.len k.cap/\k.len=s.len+src.len:=by rcases M.2 with⟨I,S⟩|⟨g,cap,ae,I,_⟩;exact⟨⟨Te,0,0⟩,I,S.symm⟩;exact⟨⟨Td ⟨g,0,Te⟩,s.len+src.len,cap⟩,I,rfl⟩
 obtain⟨k,rfl,G⟩:=hv;refine⟨_,_,_,F,hK k w'.heap G ?_ ?_ C.size λm af=>r4 m k.len k.cap (by rw[af])⟩;rw[<-G]at M;exact M;intro j hj aa;refine C.block j hj λQ=>?_;cases O:s.a with
 |none=>rw[O]at Q;cases Q
 |some p=>rw[O]at Q;simp only[Value.ownBlock,Ac]at Q;exact aa p O Q
end
section
variable {h:zb} {m:Nat} {P:Program} {kt t et:TypeId} {z:Value}
def zde(l:List (Bt×Value))(k:Bt):Option Value:=match l with
 |[]=>Te
 |p::l=>if p.1=k then Td p.2 else zde l k
def z1w(l:List (Bt×Value))(k:Bt)(v:Value):List (Bt×Value):=match l with
 |[]=>[(k,v)]
 |p::l=>if p.1=k then(k,v)::l else p::z1w l k v
theorem zp9(l:List (Bt×Value))(k b:Bt)(v:Value):zde (z1w l k v) b=if k=b then Td v else zde l b:=by
 induction l with
 |nil=>simp[z1w,zde]
 |cons p l f=>simp only[z1w];split;rename_i h;simp only[zde];split <;> rename_i c;rfl;rw[h];simp[c];rename_i h;simp only[zde,f];split <;> rename_i c;rw[if_neg (λe=>h (c.trans e.symm))];rfl
def MapAt(h:zb)(m:Nat)(l:List (Bt×Value)):Prop:=∃c b,h[m]?=Td (.map c b)/\c.toList.map (λe=>(e.key,e.val))=l.map λp=>(AZ p.1,p.2)
theorem MapAt.keep{h h':zb}{l:List (Bt×Value)}(H:MapAt h m l)(k:h'[m]?=h[m]?):MapAt h' m l:=by obtain⟨b,c,h1,e⟩:=H;exact⟨b,c,k.trans h1,e⟩
theorem MapAt.lt{l:List (Bt×Value)}(H:MapAt h m l):m<h.size:=by obtain⟨b,c,h1,e⟩:=H;exact(An.1 h1).1
theorem MapAt.new(h:zb):MapAt (h.push (.map #[] 0)) h.size []:=⟨#[],0,yb _ _,rfl⟩
structure MapT (P:Program) (t kt et:TypeId) (z:Value):Prop where
 map:P.underlying t=Td (.map kt et)
 key:P.underlying kt=Td .string
 zero:∃i,P.info? et=Td i/\i.zero=Td z
theorem zlp(a b:Bt):(a==b)=decide (a=b):=by show ByteArray.beq a b=_;cases a;cases b;rw[AM];simp[ByteArray.beq]
instance lawfulBA:LawfulBEq Bt where
 eq_of_beq:=λ {a b} h=>by rw[zlp]at h;simpa using h
 rfl:=λ {a}=>by rw[zlp];simp
theorem J7(k:Bt):∀(f:List MapEntry) (l:List (Bt×Value)) (i:Nat),f.map (λe=>(e.key,e.val))=l.map (λp=>(AZ p.1,p.2)) ->
  (zde l k=Te/\CL .string (.string k) f i=Td Te)\/(∃j v e,zde l k=Td v/\f[j]?=Td e/\e.key=.string k/\e.val=v/\CL .string (.string k) f i=Td (Td (i+j,v)) /\ ∀w,(f.modify j λe=>{ e with key:=.string k,val:=w }).map (λe=>(e.key,e.val))=(z1w l k w).map λp=>(AZ p.1,p.2))
 |[],l,i,h=>by
  have:l=[]:=by cases l <;> simp_all
  subst this;exact .inl ⟨rfl,rfl⟩
 |e::f,l,i,h=>by
  cases l with
  |nil=>simp at h
  |cons p l=>
   simp only[Ar,BV,Bh]at h;obtain⟨⟨h1,m⟩,q⟩:=h;by_cases c:p.1=k;refine .inr ⟨0,p.2,e,by simp[zde,c],rfl,by rw[h1,c],m,?_,λw=>?_⟩;have b:(k==p.1)=Ta:=by rw[zlp];simpa using c.symm
   simp[CL,D6,h1,m,b];simp[z1w,c,q];have b:(k==p.1)=Tc:=by rw[zlp];simpa using λe=>c e.symm
   rcases J7 k f l (i+1) q with⟨n,o⟩|⟨j,v,e',n,o,t,u,s,r⟩;refine .inl ⟨by simp[zde,c,n],?_⟩;simp[CL,D6,h1,b,o];refine .inr ⟨j+1,v,e',by simp[zde,c,n],by simpa using o,t,u,?_,λw=>?_⟩;simp[CL,D6,h1,b,s];omega;simp[z1w,c,h1,m,r w]
theorem X0(c:P.underlying kt=Td .string)(b:Bool)(k:Bt)(h:zb):QExec P (Instr.checkKey b 10000 kt (.string k)) h ():=by intro B d;have e:=QExec.underlying (h:=h) c B d;unfold Instr.checkKey;rw[Sem.run_bind,e];rfl
theorem Zl(f:P.underlying kt=Td .string)(k:Bt)(b:List MapEntry)(r:Option (Nat×Value))(h:zb)(e:CL .string (.string k) b 0=Td r):
  QExec P (Instr.findKey kt (.string k) b) h r:=by
 intro B d;have c:=QExec.underlying (h:=h) f B d;unfold Instr.findKey;rw[Sem.run_bind,c];simp only[Result.andThen_ok,e];rfl
theorem Qm{b:Array MapEntry}{c:Nat}(e:h[m]?=Td (.map b c)):QExec P (getObj m) h (.map b c):=by intro B d;have:(mk B d h).heap[m]?=Td (.map b c):=e;simp[getObj,Sem.run,this]
theorem z9q(b:∃i,P.info? t=Td i/\i.zero=Td z):QExec P (zeroValue t) h z:=by obtain⟨i,h1,c⟩:=b;intro B d;simp[zeroValue,typeInfo,program,h1,c,Sem.run]
def zwd(l:List (Bt×Value))(k:Bt)(z:Value):Value:=(zde l k).getD z
theorem J8(T:MapT P t kt et z){l:List (Bt×Value)}(H:MapAt h m l)(k:Bt)(ok:Bool):
  QExec P (Dw t (.map (Td m)) (.string k) ok) h (if ok then .tuple #[zwd l k z,.bool (zde l k).isSome]else zwd l k z):=by
 obtain⟨b,c,h1,p⟩:=H;intro B d;have r:=QExec.underlying (h:=h) T.map B d;have s:=Qm (P:=P) h1 B d;have q:=X0 T.key b.isEmpty k h B d;unfold Dw;rw[Sem.run_bind,r];simp only[Result.andThen_ok,Sem.run_bind,s,Sem.run_pure,q];rcases J7 k b.toList l 0 p with⟨f,i⟩|⟨j,v,e,f,i,u,w,o,_⟩;rw[Zl T.key k b.toList Te h i B d];have n:=z9q (h:=h) T.zero B d;simp only[Result.andThen_ok,Sem.run_bind,n,Sem.run_pure,zwd,f];cases ok <;> rfl;rw[Zl T.key k b.toList _ h o B d];simp only[Result.andThen_ok,zwd,f];cases ok <;> rfl
theorem zb2{l:List (Bt×Value)}{k:Bt}{v:Value}(g:zde l k=Te):z1w l k v=l++[(k,v)]:=by
 induction l with
 |nil=>rfl
 |cons p l c=>simp only[zde]at g;split at g;cases g;rename_i b;simp[z1w,b,c g]
theorem zqa(T:MapT P t kt et z){l:List (Bt×Value)}(H:MapAt h m l)(k:Bt)(v:Value){K:zb->Prop}
  (r:∀h':zb,MapAt h' m (z1w l k v)->h'.size=h.size->(∀i,i≠m->h'[i]?=h[i]?)->K h'):XRunU P (Cv t (.map (Td m)) (.string k) v) h K:=by
 have n:=H.lt;obtain⟨f,c,h1,s⟩:=H;intro B d;have x:=QExec.underlying (h:=h) T.map B d;have y:=Qm (P:=P) h1 B d;have w:=X0 T.key Tc k h B d;have b:∀o:Obj,(setObj m o).run P (mk B d h)=.ok () (mk B d (h.setIfInBounds m o)):=by intro o;have:(mk B d h).heap[m]?=Td (.map f c):=h1;simp[setObj,Sem.run,this];rfl
 unfold Cv;rcases J7 k f.toList l 0 s with⟨u,q⟩|⟨j,G,e,u,q,F,I,D,C⟩;refine⟨d,h.setIfInBounds m (.map (f.push { key:=.string k,val:=v,born:=c }) (c+1)),?_,r _ ⟨f.push { key:=.string k,val:=v,born:=c },c+1,by simp[n],?_⟩ (by simp) (λi hi=>by rw[AB (Ne.symm hi)])⟩;rw[Sem.run_bind,x];simp only[Result.andThen_ok,Sem.run_bind,y,w];rw[Zl T.key k f.toList Te h q B d];simp only[Result.andThen_ok];exact b _;rw[zb2 u];simp[s];have A:j<f.size:=by have:=(AY.1 q).1;simpa using this
 refine⟨d,_,?_,r (h.setIfInBounds m (.map (f.modify j λe=>{ e with key:=.string k,val:=v }) c)) ⟨f.modify j λe=>{ e with key:=.string k,val:=v },c,by simp[n],?_⟩ (by simp) (λi hi=>by rw[AB (Ne.symm hi)])⟩;rw[Sem.run_bind,x];simp only[Result.andThen_ok,Sem.run_bind,y,w];rw[Zl T.key k f.toList _ h D B d];simp only[Result.andThen_ok,AI];have p:((f[j]?).map (·.key)).getD (.string k)=.string k:=by
  have:f[j]?=Td e:=by simpa using q
  rw[this];exact F
 rw[p];have E:Dk (.string k) (.string k)=pure (.string k):=by unfold Dk;rw[if_pos (by show(k==k)=Ta;rw[zlp];simp)]
 rw[E];exact b _;have:=C v;simpa using this
end
section
variable {h h':zb} {b n o:Nat} {cs:Array Value} {v:Value} {P:Program}
def Blk(h:zb)(b:Nat)(cs:Array Value):Prop:=∃T,h[b]?=Td (.cells cs T (0,0))
theorem Blk.keep(H:Blk h b cs)(k:h'[b]?=h[b]?):Blk h' b cs:=by obtain⟨T,e⟩:=H;exact⟨T,k.trans e⟩
theorem Blk.keepN(H:Blk h b cs)(k:Keep n h h')(c:b<n):Blk h' b cs:=H.keep (k.get b c)
theorem Blk.new(h:zb)(cs:Array Value)(T:TypeId):Blk (h.push (.cells cs T)) h.size cs:=⟨T,yb _ _⟩
theorem Blk.lt(H:Blk h b cs):b<h.size:=by obtain⟨T,e⟩:=H;exact(An.1 e).1
theorem Blk.cell(H:Blk h b cs)(c:cs[o]?=Td v):zc h ⟨b,o,Te⟩=Td v:=by obtain⟨T,e⟩:=H;unfold zc;simp[e,c]
theorem Blk.cellAdd{b o k:Nat}(H:Blk h b cs)(c:cs[o+k]?=Td v):zc h ((⟨b,o,Te⟩:Addr).add k)=Td v:=by rw[zi];exact H.cell c
theorem Blk.ld{cs:List Value}(H:Blk h b cs.toArray):zd h ⟨b,0,Te⟩ 0 cs:=by
 have key:∀(l:List Value) (i:Nat),(∀j v,l[j]?=Td v->cs[i+j]?=Td v)->zd h ⟨b,0,Te⟩ i l:=by
  intro l;induction l with
  |nil=>intro i _;trivial
  |cons v l f=>intro i hi;refine⟨?_,f (i+1) λj u c=>?_⟩;rw[zi,AI];exact H.cell (by have:=hi 0 v rfl;simpa using this);have:=hi (j+1) u (by simpa using c);rwa[show i+(j+1)=i+1+j by omega]at this
 exact key cs 0 λj v e=>by simpa using e
theorem Keep.setBlk(o:Obj)(c:n<=b):Keep n h (h.setIfInBounds b o):= ⟨by simp,λi hi=>by rw[AB (by omega)]⟩
theorem zfk(H:Blk h b cs)(B:World)(d:Nat):(mk B d h).frozen? ⟨b,o,Te⟩=Tc:=by obtain⟨T,e⟩:=H;have:(mk B d h).heap[b]?=Td (.cells cs T (0,0)):=e;simp[World.frozen?,this]
theorem zdr{T:TypeId}(e:h[b]?=Td (.cells cs T (0,0)))(n:o<cs.size)(f:v.oneCell'=Ta)(B:World)(d:Nat):
  (store ⟨b,o,Te⟩ v).run P (mk B d h)=.ok () (mk B d (h.setIfInBounds b (.cells (cs.setIfInBounds o v) T (0,0)))):=by
 have l:(mk B d h).cell? ⟨b,o,Te⟩=Td cs[o]:=Blk.cell (h:=h) ⟨T,e⟩ (by simp[n]);have m:=zfk (o:=o) (⟨T,e⟩:Blk h b cs) B d;have c:(mk B d h).setCell ⟨b,o,Te⟩ v=mk B d (h.setIfInBounds b (.cells (cs.setIfInBounds o v) T (0,0))):=by
  unfold World.setCell mk;simp only;congr 1;have k:b<h.size:=(An.1 e).1;apply Array.ext_getElem?;intro i;rw[Array.getElem?_modify];by_cases hi:i=b;subst hi;have e':h[i]=.cells cs T (0,0):=by have:=Bo k;rw[e]at this;exact(Az this).symm
  simp[k,e'];rw[if_neg (Ne.symm hi),AB (Ne.symm hi)]
 cases v with
 |agg x=>simp[Value.oneCell']at f
 |tuple x=>simp[Value.oneCell']at f
 |_=>simp only[store,Sem.run,l,m,Bc,if_false,c]
theorem cells_one(b:v.oneCell'=Ta):v.cells=#[v]:=by cases v <;> first|rfl|simp[Value.oneCell']at b
theorem yf{t:TypeId}(hi:qb P t=Ta)(m:qi P t=1)(H:Blk h b cs)(p:o<cs.size)(c:v.oneCell'=Ta){K:zb->Prop}
  (l:∀h':zb,Blk h' b (cs.setIfInBounds o v)->h'.size=h.size->(∀i,i≠b->h'[i]?=h[i]?)->K h'):XRunU P (Af t (.pointer (Td ⟨b,o,Te⟩)) v) h K:=by
 obtain⟨T,e⟩:=H;have n:b<h.size:=(An.1 e).1;intro B d;refine⟨d,_,?_,l (h.setIfInBounds b (.cells (cs.setIfInBounds o v) T (0,0))) ⟨T,by simp[n]⟩ (by simp) λi hi=>by rw[AB (Ne.symm hi)]⟩;have k:=QExec.sizeOf (P:=P) (h:=h) (jc hi).choose_spec B d;unfold Af DN;simp only[Sem.run_bind,Sem.run_pure,Result.andThen_ok];unfold storeVar;rw[Sem.run_bind,k];simp only[Result.andThen_ok];rw[m,cells_one c];simp only[List.size_toArray,Aq,AR,AI,ne_eq,not_true_eq_false,if_false];show Sem.run P (storeCells ⟨b,o,Te⟩ [v]) _=_;unfold storeCells;rw[Sem.run_bind];have f:(⟨b,o,Te⟩:Addr).add 0=⟨b,o,Te⟩:=by rw[zi];rfl
 rw[f,zdr e p c B d];rfl
theorem Yu{P:Program}{b:Nat}{T:TypeId}(B:World)(d:Nat):∀(vs:List Value) (i:Nat) (h:zb) (cs:Array Value),h[b]?=Td (.cells cs T (0,0))->i+vs.length<=cs.size->(∀v∈vs,v.oneCell'=Ta) ->
  ∃h',(storeCells ⟨b,0,Te⟩ vs i).run P (mk B d h)=.ok () (mk B d h')/\h'[b]?=Td (.cells (cs.toList.take i++vs++cs.toList.drop (i+vs.length)).toArray T (0,0))/\h'.size=h.size/\∀j,j≠b->h'[j]?=h[j]?
 |[],i,h,cs,e,_,_=>⟨h,rfl,by simpa using e,rfl,λ_ _=>rfl⟩
 |v::vs,i,h,cs,e,hl,hv=>by
  have p:b<h.size:=(An.1 e).1;simp only[Aq]at hl;have h1:=zdr (P:=P) e (o:=i) (by omega) (hv v Am) B d;have e':(h.setIfInBounds b (.cells (cs.setIfInBounds i v) T (0,0)))[b]?=Td (.cells (cs.setIfInBounds i v) T (0,0)):=by simp[p]
  have c:i+1+vs.length<=(cs.setIfInBounds i v).size:=by rw[AW];omega
  obtain⟨h',n,r,q,l⟩:=Yu (P:=P) B d vs (i+1) (h.setIfInBounds b (.cells (cs.setIfInBounds i v) T (0,0))) (cs.setIfInBounds i v) e' c λu m=>hv u (Ae _ m);refine⟨h',?_,?_,by rw[q];simp,λj f=>by rw[l j f,AB (Ne.symm f)]⟩;unfold storeCells;rw[Sem.run_bind,zi,AI,h1];simp only[Result.andThen_ok];exact n;rw[r];congr 3;have hi:i<cs.toList.length:=by simp;omega
  simp only[Array.toList_setIfInBounds,Aq];rw[List.take_set,List.drop_set_of_lt (by omega)];have k:(cs.toList.take (i+1)).set i v=cs.toList.take i++[v]:=by
   rw[Aw hi,List.set_append_right _ _ (by simp;omega)];have:i-(cs.toList.take i).length=0:=by simp;omega
   rw[this];rfl
  rw[k,show i+(vs.length+1)=i+1+vs.length by omega];simp
theorem Owns.base{h:zb}{base b:Nat}{e:TypeId}{sz:Nat}{s:Sl}{xs:List Value}(H:Owns h base e sz s xs)(l:b<=base):Owns h b e sz s xs:=by refine⟨H.1,?_⟩;rcases H.2 with f|⟨g,cap,c,i,k,rest⟩;exact .inl f;exact .inr ⟨g,cap,c,i,by omega,rest⟩
end
end Go.X
end
section
namespace Go.X
variable {cs:List Value}
inductive Tr where
 |mk (kind:Int) (text:Bt) (keys:List Bt) (items:List Tr)
namespace Tr
@[reducible] def kind:Tr->Int|mk k _ _ _=>k
@[reducible] def text:Tr->Bt|mk _ s _ _=>s
@[reducible] def keys:Tr->List Bt|mk _ _ ks _=>ks
@[reducible] def items:Tr->List Tr|mk _ _ _ xs=>xs
@[simp] theorem eta(t:Tr):mk t.kind t.text t.keys t.items=t:=by cases t;rfl
instance:Inhabited Tr:=⟨mk 0 ⟨#[]⟩ [] []⟩
end Tr
inductive Ty where
 |int (k:IntKind)|bool|str|row (t:Ty)|tree|unit|pair (a b:Ty)|ptr (t:Ty)|iter|err
 deriving DecidableEq
@[reducible] def El:Ty->Type
 |.int _=>Int
 |.bool=>Bool
 |.str=>Bt
 |.row t=>List (El t)
 |.tree=>Tr
 |.unit=>Unit
 |.pair a b=>El a×El b
 |.ptr t=>El t
 |.iter=>Bt×Nat
 |.err=>Bool
def qg6:(t:Ty)->El t
 |.int _=>(0:Int)
 |.bool=>Tc
 |.str=>(⟨#[]⟩:Bt)
 |.row _=>[]
 |.tree=>default
 |.unit=>()
 |.pair a b=>(qg6 a,qg6 b)
 |.ptr t=>qg6 t
 |.iter=>(⟨#[]⟩,0)
 |.err=>Ta
def sz:Ty->Nat
 |.tree=>4
 |.unit=>0
 |.pair a b=>sz a+sz b
 |_=>1
abbrev Fr:=Nat->Option (Array Value)
def Fr.le(M M':Fr):Prop:=∀b cs,M b=Td cs->M' b=Td cs
theorem Fr.le.refl(M:Fr):Fr.le M M:=λ_ _ h=>h
theorem Fr.le.trans{a b c:Fr}(h:Fr.le a b)(k:Fr.le b c):Fr.le a c:=λ_ _ e=>k _ _ (h _ _ e)
def cut(cs:Array Value)(o n:Nat):List Value:=(cs.toList.drop o).take n
def RowAt(M:Fr){α:Type}(R:α->List Value->Prop)(z:Nat)(xs:List α)(v:Value):Prop:=
 ∃a c,v=.slice a xs.length c/\(xs.length<=140737488355328/\xs.length<=c)/\(xs=[]\/∃b o cs,a=Td ⟨b,o,Te⟩/\M b=Td cs/\∀i (h:i<xs.length),R xs[i] (cut cs (o+i*z) z))
inductive TrRd (M:Fr):Tr->List Value->Prop where
 |mk {k:Int} {s:Bt} {ks:List Bt} {xs:List Tr} {vk:Value} {a:Option Addr} {c b o:Nat} {cs:Array Value}
  (hk:RowAt M (λs cs=>cs=[.string s]) 1 ks vk) (hn:xs.length<=140737488355328/\xs.length<=c) (hz:xs=[]\/(a=Td ⟨b,o,Te⟩/\M b=Td cs))
  (hi:∀i (h:i<xs.length),TrRd M xs[i] (cut cs (o+i*4) 4)):TrRd M (.mk k s ks xs) [.int .i64 k,.string s,vk,.slice a xs.length c]
def Zm(s:Bt)(p:Nat):Value:=.iface 0 (.agg #[.string s,.int .i64 p])
def Rd(M:Fr):(t:Ty)->El t->List Value->Prop
 |.int k,i,cs=>cs=[.int k i]
 |.bool,b,cs=>cs=[.bool b]
 |.str,s,cs=>cs=[.string s]
 |.row t,xs,cs=>∃v,cs=[v]/\RowAt M (Rd M t) (sz t) xs v
 |.tree,t,cs=>TrRd M t cs
 |.unit,_,cs=>cs=[]
 |.pair a b,x,cs=>∃c1 c2,cs=c1++c2/\Rd M a x.1 c1/\Rd M b x.2 c2
 |.ptr t,x,cs=>∃b o c,cs=[.pointer (Td ⟨b,o,Te⟩)]/\M b=Td c/\Rd M t x (cut c o (sz t))
 |.iter,x,cs=>cs=[Zm x.1 x.2]
 |.err,b,cs=>∃v,cs=[v]/\((b=Ta/\v=.nilIface)\/(b=Tc/\∃t u,v=.iface t u))
theorem RowAt.mono{M M':Fr}(p:Fr.le M M'){α:Type}{R f:α->List Value->Prop}{z:Nat}{xs:List α}{v:Value}(H:RowAt M R z xs v)(n:∀x∈xs,∀cs,R x cs->f x cs):RowAt M' f z xs v:=by obtain⟨a,c,e,m,h⟩:=H;refine⟨a,c,e,m,h.imp id ?_⟩;rintro⟨b,o,cs,q,k,l⟩;exact⟨b,o,cs,q,p _ _ k,λi h=>n _ (AE _) _ (l i h)⟩
theorem TrRd.mono{M M':Fr}(b:Fr.le M M'){t:Tr}(H:TrRd M t cs):TrRd M' t cs:=by
 induction H with
 |mk f e c _ i=>exact .mk (f.mono b λ_ _ _ h=>h) e (c.imp id λh=>⟨h.1,b _ _ h.2⟩) i
theorem Rd.mono{M M':Fr}(c:Fr.le M M'):∀{t:Ty} {x:El t} {cs:List Value},Rd M t x cs->Rd M' t x cs
 |.int _,_,_,h=>h
 |.bool,_,_,h=>h
 |.str,_,_,h=>h
 |.row _,_,_,⟨v,e,h⟩=>⟨v,e,h.mono c λ_ _ _ h=>Rd.mono c h⟩
 |.tree,_,_,h=>TrRd.mono c h
 |.unit,_,_,h=>h
 |.pair _ _,_,_,⟨c1,c2,e,h1,h2⟩=>⟨c1,c2,e,Rd.mono c h1,Rd.mono c h2⟩
 |.ptr _,_,_,⟨b,o,cc,e,h1,h2⟩=>⟨b,o,cc,e,c _ _ h1,Rd.mono c h2⟩
 |.iter,_,_,h=>h
 |.err,_,_,h=>h
theorem Rd.len{M:Fr}:∀{t:Ty} {x:El t} {cs:List Value},Rd M t x cs->cs.length=sz t
 |.int _,_,_,h=>by rw[h];rfl
 |.bool,_,_,h=>by rw[h];rfl
 |.str,_,_,h=>by rw[h];rfl
 |.row t,_,_,⟨v,e,_⟩=>by rw[e];rfl
 |.tree,_,_,h=>by cases h;rfl
 |.unit,_,_,h=>by rw[h];rfl
 |.pair _ _,_,_,⟨c1,c2,e,h1,h2⟩=>by rw[e,Ag,Rd.len h1,Rd.len h2];rfl
 |.ptr _,_,_,⟨b,o,cc,e,_⟩=>by rw[e];rfl
 |.iter,_,_,h=>by rw[h];rfl
 |.err,_,_,⟨v,e,_⟩=>by rw[e];rfl
theorem Rd.one{M:Fr}:∀{t:Ty} {x:El t} {cs:List Value},Rd M t x cs->∀v∈cs,v.oneCell'=Ta
 |.int _,_,_,h=>by rw[h];simp[Value.oneCell']
 |.bool,_,_,h=>by rw[h];simp[Value.oneCell']
 |.str,_,_,h=>by rw[h];simp[Value.oneCell']
 |.row t,_,_,⟨v,e,a,c,e2,_⟩=>by rw[e,e2];simp[Value.oneCell']
 |.tree,_,_,h=>by
  cases h with
  |mk i _ _ _=>obtain⟨a,c,e,_⟩:=i;rw[e];simp[Value.oneCell']
 |.unit,_,_,h=>by rw[h];simp
 |.pair _ _,_,_,⟨c1,c2,e,h1,h2⟩=>by intro v f;rw[e]at f;rcases Ay.1 f with f|f;exact Rd.one h1 v f;exact Rd.one h2 v f
 |.ptr _,_,_,⟨b,o,cc,e,_⟩=>by rw[e];simp[Value.oneCell']
 |.iter,_,_,h=>by rw[h];simp[Value.oneCell',Zm]
 |.err,_,_,⟨v,e,h⟩=>by rw[e];rcases h with⟨_,rfl⟩|⟨_,t,u,rfl⟩ <;> simp[Value.oneCell']
theorem TrRd.keys{M:Fr}{t:Tr}(H:TrRd M t cs):∃e f,cs=[.int .i64 t.kind,.string t.text,e,f]/\Rd M (.row .str) t.keys [e]/\Rd M (.row .tree) t.items [f]:=by
 cases H with
 | @mk k s ks xs e a c b o cs hk hn hz hi=>exact⟨e,_,rfl,⟨e,rfl,hk⟩,⟨_,rfl,a,c,rfl,hn,hz.imp id λh=>⟨b,o,cs,h.1,h.2,hi⟩⟩⟩
theorem TrRd.of{M:Fr}{k:Int}{s:Bt}{ks:List Bt}{xs:List Tr}{n p:Value}(h1:Rd M (.row .str) ks [n])(l:Rd M (.row .tree) xs [p]):TrRd M (.mk k s ks xs) [.int .i64 k,.string s,n,p]:=by
 obtain⟨v,e,h1⟩:=h1;obtain⟨t,e',a,c,f,m,l⟩:=l;cases e;cases e';subst f;rcases l with rfl|⟨b,o,cs,r,f,q⟩;exact .mk (b:=0) (o:=0) (cs:=#[]) h1 m (.inl rfl) λi h=>absurd h (by simp)
 exact .mk h1 m (.inr ⟨r,f⟩) q
def Bd:(t:Ty)->El t->Prop
 |.row _,xs=>xs.length<=140737488355328
 |.tree,t=>t.keys.length<=140737488355328/\t.items.length<=140737488355328
 |.pair a b,x=>Bd a x.1/\Bd b x.2
 |_,_=>True
theorem Rd.bd{M:Fr}:∀{t:Ty} {x:El t} {cs:List Value},Rd M t x cs->Bd t x
 |.int _,_,_,_=>trivial
 |.bool,_,_,_=>trivial
 |.str,_,_,_=>trivial
 |.row t,_,_,⟨v,_,a,c,_,h,_⟩=>h.1
 |.tree,_,_,h=>by
  cases h with
  |mk f b _ _=>obtain⟨a,c,e,h,_⟩:=f;exact⟨h.1,b.1⟩
 |.unit,_,_,_=>trivial
 |.pair _ _,_,_,⟨_,_,_,h1,h2⟩=>⟨Rd.bd h1,Rd.bd h2⟩
 |.ptr _,_,_,_=>trivial
 |.iter,_,_,_=>trivial
 |.err,_,_,_=>trivial
inductive AA where
 |v (x:Value)
 |d (t:Ty) (x:El t)
 |box (c o:Nat)
 |own (c:Nat)
 |oelt (c z:Nat) (i:Nat) (o:Nat)
 |elt (t:Ty) (x:El t) (o:Nat)
 |dc (t:Ty) (xs:List (El t))
inductive AG where
 |a (x:AA)
 |agg (l:List AA)
inductive AV where
 |g (x:AG)
 |tup (l:List AG)
 |nx (b:Bool) (p:Int) (c:Int)
structure Gh where
 M:Fr
 β:Nat->Nat
 σ:Nat->Sl
def All2{α β:Type}(R:α->β->Prop):List α->List β->Prop
 |[],[]=>True
 |x::xs,y::ys=>R x y/\All2 R xs ys
 |_,_=>False
def slV(s:Sl):Value:=.slice s.a s.len s.cap
def DenA(γ:Gh):AA->Value->Prop
 |.v x,u=>u=x
 |.d t x,u=>Rd γ.M t x [u]
 |.box c o,u=>u=.pointer (Td ⟨γ.β c,o,Te⟩)
 |.own c,u=>u=slV (γ.σ c)
 |.oelt c z i o,u=>∃g,(γ.σ c).a=Td ⟨g,0,Te⟩/\u=.pointer (Td ⟨g,i*z+o,Te⟩)
 |.elt t x o,u=>∃b f cs,u=.pointer (Td ⟨b,f+o,Te⟩)/\γ.M b=Td cs/\Rd γ.M t x (cut cs f (sz t))
 |.dc t xs,u=>∃s:Sl,u=slV s/\s.cap=s.len/\Rd γ.M (.row t) xs [u]
def DenG(γ:Gh):AG->Value->Prop
 |.a x,u=>DenA γ x u
 |.agg l,u=>∃us,u=.agg us.toArray/\All2 (DenA γ) l us
def DenV(γ:Gh):AV->Value->Prop
 |.g x,u=>DenG γ x u
 |.tup l,u=>∃us,u=.tuple us.toArray/\All2 (DenG γ) l us
 |.nx b p c,u=>(b=Ta->u=.tuple #[.bool Ta,.int .i64 p,.int .i32 c])/\(b=Tc->u=.tuple #[.bool Tc])
theorem All2.length{α β:Type}{R:α->β->Prop}:∀{l:List α} {m:List β},All2 R l m->l.length=m.length
 |[],[],_=>rfl
 |[],_::_,h=>h.elim
 |_::_,[],h=>h.elim
 |_::_,_::_,h=>by simp[All2.length h.2]
theorem All2.imp{α β:Type}{R b:α->β->Prop}:∀{l:List α} {m:List β},All2 R l m->(∀x∈l,∀y,R x y->b x y)->All2 b l m
 |[],[],_,_=>trivial
 |[],_::_,h,_=>h.elim
 |_::_,[],h,_=>h.elim
 |_::_,_::_,h,k=>⟨k _ Am _ h.1,All2.imp h.2 λx e y c=>k x (Ae _ e) y c⟩
theorem All2.append{α β:Type}{R:α->β->Prop}:∀{l b:List α} {m m':List β},All2 R l m->All2 R b m'->All2 R (l++b) (m++m')
 |[],_,[],_,_,h=>h
 |[],_,_::_,_,h,_=>h.elim
 |_::_,_,[],_,h,_=>h.elim
 |_::_,_,_::_,_,h,k=>⟨h.1,All2.append h.2 k⟩
theorem All2.take{α β:Type}{R:α->β->Prop}:∀(n:Nat) {l:List α} {m:List β},All2 R l m->All2 R (l.take n) (m.take n)
 |0,_,_,_=>by simp[All2]
 |_+1,[],[],_=>trivial
 |_+1,[],_::_,h=>h.elim
 |_+1,_::_,[],h=>h.elim
 |n+1,_::_,_::_,h=>⟨h.1,All2.take n h.2⟩
theorem All2.drop{α β:Type}{R:α->β->Prop}:∀(n:Nat) {l:List α} {m:List β},All2 R l m->All2 R (l.drop n) (m.drop n)
 |0,_,_,h=>by simpa using h
 |_+1,[],[],_=>trivial
 |_+1,[],_::_,h=>h.elim
 |_+1,_::_,[],h=>h.elim
 |n+1,_::_,_::_,h=>by simpa using All2.drop n h.2
theorem All2.get{α β:Type}{R:α->β->Prop}:∀{l:List α} {m:List β} {i:Nat} {x:α},All2 R l m->l[i]?=Td x->∃y,m[i]?=Td y/\R x y
 |[],[],_,_,_,h=>by simp at h
 |[],_::_,_,_,h,_=>h.elim
 |_::_,[],_,_,h,_=>h.elim
 |_::_,y::_,0,_,h,e=>by simp at e;subst e;exact⟨y,rfl,h.1⟩
 |_::_,_::_,i+1,_,h,e=>by simpa using All2.get h.2 (by simpa using e)
def Y8:(t:Ty)->El t->List AA
 |.int k,i=>[.v (.int k i)]
 |.bool,b=>[.v (.bool b)]
 |.str,s=>[.v (.string s)]
 |.row t,xs=>[.d (.row t) xs]
 |.tree,t=>[.v (.int .i64 t.kind),.v (.string t.text),.d (.row .str) t.keys,.d (.row .tree) t.items]
 |.unit,_=>[]
 |.pair a b,x=>Y8 a x.1++Y8 b x.2
 |.ptr t,x=>[.elt t x 0]
 |.iter,x=>[.d .iter x]
 |.err,x=>[.d .err x]
theorem xg{γ:Gh}:∀{t:Ty} {x:El t} {cs:List Value},Rd γ.M t x cs->All2 (DenA γ) (Y8 t x) cs
 |.int _,_,_,h=>by rw[h];exact⟨rfl,trivial⟩
 |.bool,_,_,h=>by rw[h];exact⟨rfl,trivial⟩
 |.str,_,_,h=>by rw[h];exact⟨rfl,trivial⟩
 |.row t,_,_,⟨v,e,h⟩=>by rw[e];exact⟨⟨v,rfl,h⟩,trivial⟩
 |.tree,_,_,h=>by obtain⟨f,i,e,h1,c⟩:=TrRd.keys h;rw[e];exact⟨rfl,rfl,h1,c,trivial⟩
 |.unit,_,_,h=>by rw[h];trivial
 |.pair _ _,_,_,⟨c1,c2,e,h1,c⟩=>by rw[e];exact(xg h1).append (xg c)
 |.ptr t,x,_,⟨b,o,cc,e,h1,c⟩=>by rw[e];exact⟨⟨b,o,cc,rfl,h1,c⟩,trivial⟩
 |.iter,x,_,h=>by rw[h];exact⟨rfl,trivial⟩
 |.err,x,_,⟨v,e,h⟩=>by rw[e];exact⟨⟨v,rfl,h⟩,trivial⟩
def zt0:Ty->Bool
 |.iter=>Ta
 |.err=>Ta
 |.pair a b=>bif zt0 a then Ta else zt0 b
 |_=>Tc
theorem Rd.noIt{M:Fr}:∀{t:Ty} {x:El t} {cs:List Value},zt0 t=Tc->Rd M t x cs->∀s p,Zm s p∉cs
 |.int _,_,_,_,h,s,p=>by rw[h];simp[Zm]
 |.bool,_,_,_,h,s,p=>by rw[h];simp[Zm]
 |.str,_,_,_,h,s,p=>by rw[h];simp[Zm]
 |.row t,_,_,_,⟨v,e,a,c,e2,_⟩,s,p=>by rw[e,e2];simp[Zm]
 |.tree,_,_,_,h,s,p=>by
  cases h with
  |mk i _ _ _=>obtain⟨a,c,e,_⟩:=i;rw[e];simp[Zm]
 |.unit,_,_,_,h,s,p=>by rw[h];simp
 |.pair a b,_,_,hi,⟨c1,c2,e,h1,h2⟩,s,p=>by
  simp only[zt0]at hi;cases ha:zt0 a with
  |true=>rw[ha]at hi;cases hi
  |false=>rw[ha]at hi;rw[e];intro f;rcases Ay.1 f with f|f;exact Rd.noIt ha h1 s p f;exact Rd.noIt hi h2 s p f
 |.ptr _,_,_,_,⟨b,o,cc,e,_⟩,s,p=>by rw[e];simp[Zm]
 |.iter,_,_,hi,_,_,_=>by cases hi
 |.err,_,_,hi,_,_,_=>by cases hi
def itB:List AA->Bool
 |[.d t _]=>zt0 t
 |[.v (.iface _ _)]=>Ta
 |_=>Tc
theorem zwe{γ:Gh}{l:List AA}{us:List Value}(h:itB l=Tc)(k:All2 (DenA γ) l us)(s:Bt)(p:Nat):us≠[Zm s p]:=by
 intro e;subst e
 match l,k with
 |[x],k=>
  cases x with
  |v y=>rw[<-show Zm s p=y from k.1]at h;simp[itB,Zm]at h
  |d t y=>exact Rd.noIt (show zt0 t=Tc from h) (show Rd γ.M t y [Zm s p]from k.1) s p (by simp)
  |box c o=>have:Zm s p=_:=k.1;simp[Zm]at this
  |own c=>have:Zm s p=_:=k.1;simp[Zm,slV]at this
  |oelt c z i o=>obtain⟨g,_,e⟩:=k.1;simp[Zm]at e
  |elt t y o=>obtain⟨b,f,cs,e,_⟩:=k.1;simp[Zm]at e
  |dc t xs=>obtain⟨m,e,_⟩:=k.1;simp[Zm,slV]at e
 |[],k=>exact k.elim
 |_::_::_,k=>exact k.2.elim
inductive Ch where
 |box (l:List AA)
 |row (e:TypeId) (t:Ty) (xs:List (El t))
 |fz (t:Ty) (xs:List (El t))
abbrev CS:=List (Nat×Ch)
def Qv:CS->Nat->Option Ch
 |[],_=>Te
 |(j,k)::l,i=>bif Nat.beq i j then Td k else Qv l i
theorem zz{l:CS}{i:Nat}{k:Ch}(h:Qv l i=Td k):(i,k)∈l:=by
 induction l with
 |nil=>cases h
 |cons x l c=>obtain⟨j,e⟩:=x;simp only[Qv]at h;by_cases b:Nat.beq i j=Ta;simp only[b,cond_true,Ac]at h;subst h;rw[Ak b];exact Am;simp only[b,cond_false]at h;exact Ae _ (c h)
def Z2(t t':Ty)(x:El t):Option (El t'):=if h:t=t' then Td (h ▸ x)else Te
theorem J9{M:Fr}{t t':Ty}{x:El t}{y:El t'}(h:Z2 t t' x=Td y)(r:Rd M t x cs):Rd M t' y cs:=by unfold Z2 at h;split at h;rename_i e;subst e;simp only[Ac]at h;subst h;exact r;cases h
def zkr(cs:CS):(t:Ty)->AA->Option (El t)
 |.int k,.v (.int k' i)=>if k=k' then Td i else Te
 |.bool,.v (.bool b)=>Td b
 |.str,.v (.string s)=>Td s
 |.row t,.v (.slice Te 0 0)=>Td ([]:List (El t))
 |.row t,.d t' x=>Z2 t' (.row t) x
 |.row t,.dc t' x=>Z2 (.row t') (.row t) x
 |.row t,.own c=>match Qv cs c with
  |some (.fz t' xs)=>Z2 (.row t') (.row t) xs
  |_=>Te
 |.ptr t,.elt t' x 0=>Z2 t' t x
 |.ptr t,.d t' x=>Z2 t' (.ptr t) x
 |.iter,.d t' x=>Z2 t' .iter x
 |.err,.d t' x=>Z2 t' .err x
 |.err,.v .nilIface=>Td Ta
 |.err,.v (.iface _ _)=>Td Tc
 |_,_=>Te
def collect(cs:CS):(t:Ty)->List AA->Option (El t×List AA)
 |.unit,l=>Td ((),l)
 |.pair a b,l=>match collect cs a l with
  |some (x,l')=>match collect cs b l' with
   |some (y,l'')=>Td ((x,y),l'')
   |none=>Te
  |none=>Te
 |.tree,k::s::ks::xs::l=>match zkr cs (.int .i64) k,zkr cs .str s,zkr cs (.row .str) ks,zkr cs (.row .tree) xs with
  |some k,Td s,Td ks,some xs=>Td (Tr.mk k s ks xs,l)
  |_,_,_,_=>Te
 |.tree,_=>Te
 |t,x::l=>match zkr cs t x with
  |some y=>Td (y,l)
  |none=>Te
 |_,[]=>Te
def z9e(γ:Gh)(cs:CS):Prop:=∀c t xs,(c,Ch.fz t xs)∈cs->Rd γ.M (.row t) xs [slV (γ.σ c)]
theorem jz{γ:Gh}{cs:CS}(k:z9e γ cs){t:Ty}{x:AA}{y:El t}(h:zkr cs t x=Td y){u:Value}(c:DenA γ x u):Rd γ.M t y [u]:=by unfold zkr at h;split at h;split at h;rename_i l;simp only[Ac]at h;subst h;subst l;exact congrArg (λu=>[u]) c;cases h;simp only[Ac]at h;subst h;exact congrArg (λu=>[u]) c;simp only[Ac]at h;subst h;exact congrArg (λu=>[u]) c;simp only[Ac]at h;subst h;exact⟨u,rfl,Te,0,c,by simp,.inl rfl⟩;exact J9 h c;obtain⟨s,_,_,c⟩:=c;exact J9 h c;split at h;rename_i t' xs i;rw[show u=_ from c];exact J9 h (k _ _ _ (zz i));cases h;rename_i t t' x;obtain⟨b,f,cs',e,h1,m⟩:=c;exact⟨b,f,cs',by rw[e];rfl,h1,by unfold Z2 at h;split at h;rename_i e;subst e;simp only[Ac]at h;subst h;exact m;cases h⟩;exact J9 h c;exact J9 h c;exact J9 h c;simp only[Ac]at h;subst h;exact⟨u,rfl,.inl ⟨rfl,c⟩⟩;rename_i t' n;simp only[Ac]at h;subst h;exact⟨u,rfl,.inr ⟨rfl,_,_,c⟩⟩;cases h
theorem Y9{γ:Gh}{cs:CS}(e:z9e γ cs):∀{t:Ty} {l f:List AA} {y:El t},collect cs t l=Td (y,f)->∀{us:List Value},All2 (DenA γ) l us->∃c1 c2,us=c1++c2/\Rd γ.M t y c1/\All2 (DenA γ) f c2
 |.unit,l,f,y,h,us,hu=>by simp only[collect,Ac,Bh]at h;obtain⟨_,rfl⟩:=h;exact⟨[],us,rfl,rfl,hu⟩
 |.pair a b,l,f,y,h,us,hu=>by simp only[collect]at h;split at h;rename_i x L h1;split at h;rename_i z N i;simp only[Ac,Bh]at h;obtain⟨rfl,rfl⟩:=h;obtain⟨c1,c2,rfl,m,o⟩:=Y9 e h1 hu;obtain⟨c3,w,rfl,n,p⟩:=Y9 e i o;exact⟨c1++c3,w,by simp,⟨c1,c3,rfl,m,n⟩,p⟩;cases h;cases h
 |.tree,l,f,y,h,us,hu=>by
  match l,us,hu,h with
  |k::s::ks::xs::l,u1::u2::u3::u4::us,hu,h=>simp only[collect]at h;split at h;rename_i A H I r h1 i F E;simp only[Ac,Bh]at h;obtain⟨rfl,rfl⟩:=h;obtain⟨G,d2,D,C,B⟩:=hu;have m:=jz e h1 G;have o:=jz e i d2;have n:=jz e F D;have p:=jz e E C;refine⟨[u1,u2,u3,u4],us,rfl,?_,B⟩;have J:[u1]=[Bm .i64 A]:=m;have q:[u2]=[AZ H]:=o;cases J;cases q;exact TrRd.of n p;cases h
  |[],_,_,h=>simp[collect]at h
  |[_],_,_,h=>simp[collect]at h
  |[_,_],_,_,h=>simp[collect]at h
  |[_,_,_],_,_,h=>simp[collect]at h
  |_::_::_::_::_,[],hu,_=>exact hu.elim
  |_::_::_::_::_,[_],hu,_=>exact hu.2.elim
  |_::_::_::_::_,[_,_],hu,_=>exact hu.2.2.elim
  |_::_::_::_::_,[_,_,_],hu,_=>exact hu.2.2.2.elim
 |.int k,x::l,f,y,h,u::us,hu=>by simp only[collect]at h;split at h;rename_i z c;simp only[Ac,Bh]at h;obtain⟨rfl,rfl⟩:=h;exact⟨[u],us,rfl,jz e c hu.1,hu.2⟩;cases h
 |.bool,x::l,f,y,h,u::us,hu=>by simp only[collect]at h;split at h;rename_i z c;simp only[Ac,Bh]at h;obtain⟨rfl,rfl⟩:=h;exact⟨[u],us,rfl,jz e c hu.1,hu.2⟩;cases h
 |.str,x::l,f,y,h,u::us,hu=>by simp only[collect]at h;split at h;rename_i z c;simp only[Ac,Bh]at h;obtain⟨rfl,rfl⟩:=h;exact⟨[u],us,rfl,jz e c hu.1,hu.2⟩;cases h
 |.row _,x::l,f,y,h,u::us,hu=>by simp only[collect]at h;split at h;rename_i z c;simp only[Ac,Bh]at h;obtain⟨rfl,rfl⟩:=h;exact⟨[u],us,rfl,jz e c hu.1,hu.2⟩;cases h
 |.ptr _,x::l,f,y,h,u::us,hu=>by simp only[collect]at h;split at h;rename_i z c;simp only[Ac,Bh]at h;obtain⟨rfl,rfl⟩:=h;exact⟨[u],us,rfl,jz e c hu.1,hu.2⟩;cases h
 |.iter,x::l,f,y,h,u::us,hu=>by simp only[collect]at h;split at h;rename_i z c;simp only[Ac,Bh]at h;obtain⟨rfl,rfl⟩:=h;exact⟨[u],us,rfl,jz e c hu.1,hu.2⟩;cases h
 |.iter,_::_,_,_,_,[],hu=>hu.elim
 |.iter,[],_,_,h,_,_=>by simp[collect]at h
 |.err,x::l,f,y,h,u::us,hu=>by simp only[collect]at h;split at h;rename_i z c;simp only[Ac,Bh]at h;obtain⟨rfl,rfl⟩:=h;exact⟨[u],us,rfl,jz e c hu.1,hu.2⟩;cases h
 |.err,_::_,_,_,_,[],hu=>hu.elim
 |.err,[],_,_,h,_,_=>by simp[collect]at h
 |.int _,_::_,_,_,_,[],hu=>hu.elim
 |.bool,_::_,_,_,_,[],hu=>hu.elim
 |.str,_::_,_,_,_,[],hu=>hu.elim
 |.row _,_::_,_,_,_,[],hu=>hu.elim
 |.ptr _,_::_,_,_,_,[],hu=>hu.elim
 |.int _,[],_,_,h,_,_=>by simp[collect]at h
 |.bool,[],_,_,h,_,_=>by simp[collect]at h
 |.str,[],_,_,h,_,_=>by simp[collect]at h
 |.row _,[],_,_,h,_,_=>by simp[collect]at h
 |.ptr _,[],_,_,h,_,_=>by simp[collect]at h
end Go.X
end
section
namespace Go.X
section
variable {M M':Fr} {h h':zb} {b c o n0:Nat} {γ γ':Gh} {us:List Value} {u:Value} {t:Ty} {cs C R:CS} {e:TypeId}
def AgM(M:Fr)(h:zb):Prop:=∀b c,M b=Td c->∃T m,h[b]?=Td (.cells c T m)
theorem AgM.lt(H:AgM M h){c:Array Value}(e:M b=Td c):b<h.size:=by obtain⟨T,m,e'⟩:=H b c e;exact(An.1 e').1
theorem AgM.none{M:Fr}{h:zb}(H:AgM M h){b:Nat}(f:h.size<=b):M b=Te:=by
 cases e:M b with
 |none=>rfl
 |some c=>have:=H.lt e;omega
theorem AgM.cell(H:AgM M h){c:Array Value}{v:Value}(e:M b=Td c)(f:c[o]?=Td v):zc h ⟨b,o,Option.none⟩=Td v:=by obtain⟨T,m,e'⟩:=H b c e;unfold zc;simp[e',f]
def Gx(c:Option Nat)(γ γ':Gh):Prop:=Fr.le γ.M γ'.M/\∀i,c≠Td i->γ'.β i=γ.β i/\γ'.σ i=γ.σ i
theorem Gx.refl(c:Option Nat)(γ:Gh):Gx c γ γ:=⟨Fr.le.refl _,λ_ _=>⟨rfl,rfl⟩⟩
def zy4(c:Nat):AA->Bool
 |.box j _=>Nat.beq j c
 |.own j=>Nat.beq j c
 |.oelt j _ _ _=>Nat.beq j c
 |_=>Tc
def zpv(c:Nat):List AA->Bool
 |[]=>Tc
 |x::l=>bif zy4 c x then Ta else zpv c l
def zfl(c:Nat):Ch->Bool
 |.box l=>zpv c l
 |_=>Tc
def qg7(c:Nat):AG->Bool
 |.a x=>zy4 c x
 |.agg l=>zpv c l
def z9r(c:Nat):List AG->Bool
 |[]=>Tc
 |x::l=>bif qg7 c x then Ta else z9r c l
def z1x(c:Nat):AV->Bool
 |.g x=>qg7 c x
 |.tup l=>z9r c l
 |.nx _ _ _=>Tc
def z1y{α:Type}(f:Nat->α->Bool):Option Nat->α->Bool
 |none,_=>Tc
 |some c,x=>f c x
theorem zqb{j c:Nat}(h:Nat.beq j c=Tc):Td c≠Td j:=by intro e;simp only[Ac]at e;subst e;simp at h
theorem DenA.gx{c:Option Nat}(g:Gx c γ γ'):∀{x:AA} {u:Value},z1y zy4 c x=Tc->DenA γ x u->DenA γ' x u
 |.v _,_,_,h=>h
 |.d _ _,_,_,h=>Rd.mono g.1 h
 |.box j o,u,hm,h=>by
  have:c≠Td j:=by cases c with|none=>simp|some c=>exact zqb hm
  rw[show u=_ from h];simp only[DenA,(g.2 j this).1]
 |.own j,u,hm,h=>by
  have:c≠Td j:=by cases c with|none=>simp|some c=>exact zqb hm
  rw[show u=_ from h];simp only[DenA,(g.2 j this).2]
 |.oelt j z i o,u,hm,h=>by
  have:c≠Td j:=by cases c with|none=>simp|some c=>exact zqb hm
  obtain⟨b,l,k⟩:=h;exact⟨b,by rw[(g.2 j this).2];exact l,k⟩
 |.elt _ _ _,_,_,⟨b,f,cs,e,h1,h2⟩=>⟨b,f,cs,e,g.1 _ _ h1,Rd.mono g.1 h2⟩
 |.dc _ _,_,_,⟨s,l,k,h⟩=>⟨s,l,k,Rd.mono g.1 h⟩
theorem z9s{l:List AA}(h:zpv c l=Tc):∀x∈l,zy4 c x=Tc:=by
 induction l with
 |nil=>intro x b;cases b
 |cons y l e=>
  intro x b;simp only[zpv]at h;cases hy:zy4 c y with
  |true=>simp[hy]at h
  |false=>simp only[hy,cond_false]at h;rcases Ah.1 b with rfl|b;exact hy;exact e h x b
theorem DenL.gx{c:Option Nat}(g:Gx c γ γ'){l:List AA}(f:z1y zpv c l=Tc)(h:All2 (DenA γ) l us):All2 (DenA γ') l us:= h.imp λx e u b=>DenA.gx g (by cases c with|none=>rfl|some c=>exact z9s f x e) b
theorem DenG.gx{c:Option Nat}(g:Gx c γ γ'){x:AG}(b:z1y qg7 c x=Tc)(h:DenG γ x u):DenG γ' x u:=by
 cases x with
 |a x=>exact DenA.gx g (by cases c <;> exact b) h
 |agg l=>obtain⟨us,e,h⟩:=h;exact⟨us,e,DenL.gx g (by cases c <;> exact b) h⟩
theorem z1z{l:List AG}(h:z9r c l=Tc):∀x∈l,qg7 c x=Tc:=by
 induction l with
 |nil=>intro x b;cases b
 |cons y l e=>
  intro x b;simp only[z9r]at h;cases hy:qg7 c y with
  |true=>simp[hy]at h
  |false=>simp only[hy,cond_false]at h;rcases Ah.1 b with rfl|b;exact hy;exact e h x b
theorem DenV.gx{c:Option Nat}(g:Gx c γ γ'){x:AV}(f:z1y z1x c x=Tc)(h:DenV γ x u):DenV γ' x u:=by
 cases x with
 |g x=>exact DenG.gx g (by cases c <;> exact f) h
 |tup l=>obtain⟨us,e,h⟩:=h;exact⟨us,e,h.imp λx k u i=>DenG.gx g (by cases c with|none=>rfl|some c=>exact z1z f x k) i⟩
 |nx b p c=>exact h
def RowC(M:Fr)(t:Ty)(xs:List (El t))(cells:List Value):Prop:=
 cells.length=xs.length*sz t/\∀i (h:i<xs.length),Rd M t xs[i] ((cells.drop (i*sz t)).take (sz t))
theorem RowC.mono(b:Fr.le M M'){xs:List (El t)}{cells:List Value}(H:RowC M t xs cells):RowC M' t xs cells:=⟨H.1,λi h=>Rd.mono b (H.2 i h)⟩
theorem RowC.nil(M:Fr)(t:Ty):RowC M t [] []:=⟨by simp,λi h=>absurd h (by simp)⟩
theorem RowC.single{x:El t}{cs:List Value}(h:Rd M t x cs):RowC M t [x] cs:=by
 have b:=h.len;refine⟨by simp[b],λi hi=>?_⟩;have:i=0:=by simpa using hi
 subst this;simp only[Eb,BZ,List.getElem_cons_zero,<-b,A3];exact h
theorem RowC.append{xs ys:List (El t)}{c1 c2:List Value}(h1:RowC M t xs c1)(k:RowC M t ys c2):RowC M t (xs++ys) (c1++c2):=by
 refine⟨by rw[Ag,Ag,h1.1,k.1,Cg],λi hi=>?_⟩;by_cases b:i<xs.length;rw[BS b];have h:(i+1)*sz t<=c1.length:=by rw[h1.1];exact AP _ b
 rw[Cg,DU]at h;rw[List.drop_append_of_le_length (by omega),C8 (by rw[AH];omega)];exact h1.2 i b;have c:xs.length<=i:=by omega
 rw[Ce c];have f:i-xs.length<ys.length:=by rw[Ag]at hi;omega
 have:=k.2 (i-xs.length) f;have e:(c1++c2).drop (i*sz t)=c2.drop ((i-xs.length)*sz t):=by
  rw[List.drop_append];have:c1.length<=i*sz t:=by rw[h1.1];exact AP _ c
  rw[Br this,A5,h1.1,<-Nat.sub_mul]
 rw[e];exact this
theorem RowC.one{xs:List (El t)}{cells:List Value}(H:RowC M t xs cells):∀v∈cells,v.oneCell'=Ta:=by
 intro v e;obtain⟨j,b,rfl⟩:=List.getElem_of_mem e;have c:0<sz t:=by rcases Dj (sz t)with h|h;rw[H.1,h,Nat.mul_zero]at b;omega;exact h
 have hi:j / sz t<xs.length:=by rw[H.1]at b;exact Nat.div_lt_of_lt_mul (by rw[Dq];exact b)
 refine Rd.one (H.2 _ hi) _ ?_;rw[List.mem_iff_getElem?];refine⟨j % sz t,?_⟩;rw[AJ,if_pos (Nat.mod_lt _ c),A9,Dq,Nat.div_add_mod,Al b]
theorem RowC.rd{xs:List (El t)}{cells:List Value}(H:RowC M t xs cells){cs:Array Value}(h:M b=Td cs)(k:(cs.toList.drop o).take (xs.length*sz t)=cells)(l:xs.length<=140737488355328/\xs.length<=c):
  Rd M (.row t) xs [.slice (Td ⟨b,o,Te⟩) xs.length c]:=by
 refine⟨_,rfl,_,_,rfl,l,.inr ⟨b,o,cs,rfl,h,λi hi=>?_⟩⟩;have:=H.2 i hi;rw[<-k]at this;have f:(i+1)*sz t<=xs.length*sz t:=AP _ hi;rw[Cg,DU]at f;have e:(((cs.toList.drop o).take (xs.length*sz t)).drop (i*sz t)).take (sz t)=cut cs (o+i*sz t) (sz t):=by unfold cut;rw[List.drop_take,Ec,BU,CE (by omega)]
 rw[e]at this;exact this
theorem Rd.rowC(ag:AgM M h){xs:List (El t)}(H:Rd M (.row t) xs [u]):∃s:Sl,u=slV s/\s.len=xs.length/\(xs.length<=140737488355328/\xs.length<=s.cap)/\∃cells,RowC M t xs cells/\Arr h.size h s.a cells:=by
 obtain⟨v,e,a,c,rfl,q,H⟩:=H;cases e;refine⟨⟨a,xs.length,c⟩,rfl,rfl,q,?_⟩;rcases H with rfl|⟨b,o,cs,rfl,p,hi⟩;exact⟨[],RowC.nil _ _,.inl rfl⟩;have f:xs=[]\/xs.length*sz t<=(cs.toList.drop o).length:=by
  rcases Dj xs.length with h0|h0;exact .inl (AN h0);right;have:=(hi (xs.length-1) (by omega)).len;unfold cut at this;rw[AK,AH]at this;rw[AH];rcases Dj (sz t)with n|n;rw[n];simp;have e:xs.length*sz t=(xs.length-1)*sz t+sz t:=by rw[<-C6];congr 1;omega
  rw[e];omega
 rcases f with rfl|f;exact⟨[],RowC.nil _ _,.inl rfl⟩;refine⟨(cs.toList.drop o).take (xs.length*sz t),⟨by rw[AK];omega,λi k=>?_⟩,.inr ⟨b,o,rfl,ag.lt p,λi v l=>?_⟩⟩;have:=hi i k;have m:(i+1)*sz t<=xs.length*sz t:=AP _ k;rw[Cg,DU]at m;unfold cut at this;rw[List.drop_take,Ec,BU,CE (by omega)];exact this;refine ag.cell p ?_;rw[AJ]at l;split at l;rw[A9]at l;simpa using l;cases l
def qdt(o:Option Obj)(us:List Value):Prop:=((∃T,o=Td (.cells us.toArray T (0,0)))/\∀s p,us≠[Zm s p])\/(∃s p,us=[Zm s p]/\o=Td (.stringIter s p))
def DenC(n0:Nat)(γ:Gh)(h:zb)(c:Nat):Ch->Prop
 |.box l=>∃us,qdt h[γ.β c]? us/\All2 (DenA γ) l us
 |.row e t xs=>∃cells,Owns h n0 e (sz t) (γ.σ c) cells/\RowC γ.M t xs cells/\xs.length<=140737488355328/\(γ.σ c).len=xs.length
 |.fz t xs=>Rd γ.M (.row t) xs [slV (γ.σ c)]
def blk(γ:Gh)(c:Nat):Ch->Option Nat
 |.box _=>Td (γ.β c)
 |.row _ _ _=>(γ.σ c).a.map (·.block)
 |.fz _ _=>Te
structure Inv (h0:zb) (W:Nat->Prop) (M0:Fr) (cs:CS) (γ:Gh) (h:zb):Prop where
 ag:AgM γ.M h
 frame:∀i,i<h0.size->¬W i->h[i]?=h0[i]?
 size:h0.size<=h.size
 old:∀b,b<h0.size->γ.M b=M0 b
 le:Fr.le M0 γ.M
 den:∀x∈cs,DenC h0.size γ h x.1 x.2
 sep:∀x∈cs,∀b,blk γ x.1 x.2=Td b->(h0.size<=b\/W b)/\γ.M b=Te
 apart:cs.Pairwise λx y=>∀b,blk γ x.1 x.2=Td b->blk γ y.1 y.2≠Td b
variable {h0 : zb} {W : Nat -> Prop} {M0 : Fr}
theorem DenC.lt{k:Ch}(H:DenC n0 γ h c k):∀b,blk γ c k=Td b->b<h.size:=by
 intro b f;cases k with
 |box l=>obtain⟨us,e,_⟩:=H;simp only[blk,Ac]at f;subst f;rcases e with⟨⟨T,e⟩,_⟩|⟨s,p,_,e⟩;exact(An.1 e).1;exact(An.1 e).1
 |row e t xs=>obtain⟨cells,h1,_⟩:=H;simp only[blk,CF]at f;obtain⟨p,i,rfl⟩:=f;exact(h1.base_le p i).2
 |fz t xs=>cases f
theorem DenC.gx{c:Option Nat}(g:Gx c γ γ'){j:Nat}{k:Ch}(r:c≠Td j)(o:z1y zfl c k=Tc)(H:DenC n0 γ h j k)(i:∀b,blk γ j k=Td b->h'[b]?=h[b]?):DenC n0 γ' h' j k:=by
 obtain⟨s,f⟩:=g.2 j r;cases k with
 |box l=>obtain⟨us,e,h1⟩:=H;exact⟨us,by rw[s,i _ rfl];exact e,DenL.gx g (by cases c <;> exact o) h1⟩
 |row e t xs=>obtain⟨cells,h1,q,n,m⟩:=H;refine⟨cells,?_,q.mono g.1,n,by rw[f];exact m⟩;rw[f];exact h1.keep λp u=>i _ (by simp[blk,u])
 |fz t xs=>simp only[DenC,f];exact Rd.mono g.1 H
theorem zlq{c:Option Nat}(g:Gx c γ γ'){j:Nat}(k:Ch)(f:c≠Td j):blk γ' j k=blk γ j k:=by obtain⟨e,b⟩:=g.2 j f;cases k <;> simp[blk,e,b]
theorem Inv.rest{cs rest:CS}{γ γ':Gh}{h h':zb}(I:Inv h0 W M0 cs γ h)(hsub:rest.Sublist cs){c:Option Nat}(g:Gx c γ γ') (hmen:∀x∈rest,c≠Td x.1/\z1y zfl c x.2=Tc) (hk:∀x∈rest,∀b,blk γ x.1 x.2=Td b->h'[b]?=h[b]?/\γ'.M b=Te)
  (ag:AgM γ'.M h') (hframe:∀i,i<h0.size->¬W i->h'[i]?=h[i]?) (hsize:h.size<=h'.size) (hold:∀b,b<h0.size->γ'.M b=γ.M b):Inv h0 W M0 rest γ' h' where
 ag:=ag
 frame:=λi hi hw=>(hframe i hi hw).trans (I.frame i hi hw)
 size:=Ck I.size hsize
 old:=λb hb=>(hold b hb).trans (I.old b hb)
 le:=I.le.trans g.1
 den:=λx hx=>(I.den x (hsub.subset hx)).gx g (hmen x hx).1 (hmen x hx).2 λb hb=>(hk x hx b hb).1
 sep:=λx hx b hb=>by rw[zlq g _ (hmen x hx).1]at hb;exact⟨(I.sep x (hsub.subset hx) b hb).1,(hk x hx b hb).2⟩
 apart:=by refine(I.apart.sublist hsub).imp_of_mem λ {x y} hx hy h=>?_;intro b hb;rw[zlq g _ (hmen x hx).1]at hb;rw[zlq g _ (hmen y hy).1];exact h b hb
theorem Inv.cons{rest:CS}(I:Inv h0 W M0 rest γ h){k:Ch}(hd:DenC h0.size γ h c k)(hs:∀b,blk γ c k=Td b->(h0.size<=b\/W b)/\γ.M b=Te)
  (ha:∀b,blk γ c k=Td b->∀x∈rest,blk γ x.1 x.2≠Td b):Inv h0 W M0 ((c,k)::rest) γ h where
 ag:=I.ag
 frame:=I.frame
 size:=I.size
 old:=I.old
 le:=I.le
 den:=λx hx=>by rcases Ah.1 hx with rfl|hx;exact hd;exact I.den x hx
 sep:=λx hx=>by rcases Ah.1 hx with rfl|hx;exact hs;exact I.sep x hx
 apart:=Be.2 ⟨λy hy b hb=>ha b hb y hy,I.apart⟩
theorem Inv.sub{cs rest:CS}(I:Inv h0 W M0 cs γ h)(hsub:rest.Sublist cs):Inv h0 W M0 rest γ h where
 ag:=I.ag
 frame:=I.frame
 size:=I.size
 old:=I.old
 le:=I.le
 den:=λx hx=>I.den x (hsub.subset hx)
 sep:=λx hx=>I.sep x (hsub.subset hx)
 apart:=I.apart.sublist hsub
theorem Inv.fz(I:Inv h0 W M0 cs γ h):z9e γ cs:=λc t xs b=>I.den _ b
theorem Inv.call(I:Inv h0 W M0 cs γ h)(k:Keep h.size h h')(n:Fr.le γ.M M')(e:∀b,b<h.size->M' b=γ.M b)(ag:AgM M' h'):Inv h0 W M0 cs { γ with M:=M' } h':= I.rest (List.Sublist.refl _) (c:=Te) ⟨n,λ_ _=>⟨rfl,rfl⟩⟩ (λx _=>⟨by simp,rfl⟩) (λx m b l=>by have f:=(I.den x m).lt b l;exact⟨k.get b f,(e b f).trans (I.sep x m b l).2⟩) ag (λi hi _=>k.get i (Dh hi I.size)) k.size (λb l=>e b (Dh l I.size))
def qk(c:Nat):CS->CS
 |[]=>[]
 |(j,k)::l=>bif (bif Nat.beq j c then Ta else zfl c k)then qk c l else(j,k)::qk c l
def qh(c:Nat):CS->Bool
 |[]=>Ta
 |(j,k)::l=>bif (bif Nat.beq j c then Ta else zfl c k)then Tc else qh c l
def Wa(c:Nat):CS->CS
 |[]=>[]
 |(j,k)::l=>bif Nat.beq j c then Wa c l else(j,k)::Wa c l
theorem wa(c:Nat):∀l:CS,(qk c l).Sublist l
 |[]=>.slnil
 |(j,k)::l=>by
  simp only[qk];cases(bif Nat.beq j c then Ta else zfl c k)with
  |true=>exact(wa c l).cons _
  |false=>exact(wa c l).cons_cons _
theorem wy(c:Nat):∀l:CS,(Wa c l).Sublist l
 |[]=>.slnil
 |(j,k)::l=>by
  simp only[Wa];cases Nat.beq j c with
  |true=>exact(wy c l).cons _
  |false=>exact(wy c l).cons_cons _
theorem zfm{c:Nat}:∀{l:CS} {x:Nat×Ch},x∈qk c l->Td c≠Td x.1/\zfl c x.2=Tc
 |(j,k)::l,x,h=>by
  simp only[qk]at h;cases hb:(bif Nat.beq j c then Ta else zfl c k)with
  |true=>rw[hb]at h;exact zfm h
  |false=>
   rw[hb]at h;rcases Ah.1 h with rfl|h;cases hj:Nat.beq j c with
   |true=>simp[hj]at hb
   |false=>simp only[hj,cond_false]at hb;exact⟨zqb hj,hb⟩
   exact zfm h
theorem Qw{c:Nat}:∀{l:CS},qh c l=Ta->∀x∈l,Td c≠Td x.1/\zfl c x.2=Tc
 |[],_,x,h=>by cases h
 |(j,k)::l,hn,x,h=>by
  simp only[qh]at hn;cases hb:(bif Nat.beq j c then Ta else zfl c k)with
  |true=>rw[hb]at hn;cases hn
  |false=>
   rw[hb]at hn;rcases Ah.1 h with rfl|h;cases hj:Nat.beq j c with
   |true=>simp[hj]at hb
   |false=>simp only[hj,cond_false]at hb;exact⟨zqb hj,hb⟩
   exact Qw hn x h
theorem Ym{c:Nat}:∀{l:CS} {x:Nat×Ch},x∈Wa c l->x∈l/\x.1≠c
 |(j,k)::l,x,h=>by
  simp only[Wa]at h;cases hb:Nat.beq j c with
  |true=>rw[hb]at h;exact⟨Ae _ (Ym h).1,(Ym h).2⟩
  |false=>rw[hb]at h;rcases Ah.1 h with rfl|h;refine⟨Am,λe=>?_⟩;simp only at e;subst e;simp at hb;exact⟨Ae _ (Ym h).1,(Ym h).2⟩
def z07(γ:Gh)(c b:Nat):Gh:={ γ with β:=λi=>bif Nat.beq i c then b else γ.β i }
def zt1(γ:Gh)(c:Nat)(s:Sl):Gh:={ γ with σ:=λi=>bif Nat.beq i c then s else γ.σ i }
theorem X1(γ:Gh)(c b:Nat):Gx (Td c) γ (z07 γ c b):=⟨Fr.le.refl _,λi hi=>by
 have:Nat.beq i c=Tc:=by
  cases h:Nat.beq i c with
  |false=>rfl
  |true=>exact absurd (congrArg Td (Ak h).symm) hi
 simp[z07,this]⟩
theorem Z3(γ:Gh)(c:Nat)(s:Sl):Gx (Td c) γ (zt1 γ c s):=⟨Fr.le.refl _,λi hi=>by
 have:Nat.beq i c=Tc:=by
  cases h:Nat.beq i c with
  |false=>rfl
  |true=>exact absurd (congrArg Td (Ak h).symm) hi
 simp[zt1,this]⟩
theorem Zr(γ:Gh)(c b:Nat):(z07 γ c b).β c=b:=by simp[z07]
theorem qo(γ:Gh)(c:Nat)(s:Sl):(zt1 γ c s).σ c=s:=by simp[zt1]
theorem zb3(e:qh c R=Ta):∀x∈qk c C++R,Td c≠Td x.1/\z1y zfl (Td c) x.2=Tc:=by intro x b;rcases Ay.1 b with b|b;exact zfm b;exact Qw e x b
theorem Inv.newBoxO(I:Inv h0 W M0 (C++R) γ h)(q:qh c R=Ta){l:List AA}(w:All2 (DenA γ) l us)(t:zpv c l=Tc){p:Obj}(o:qdt (Td p) us):
  Inv h0 W M0 ((c,.box l)::qk c C++R) (z07 γ c h.size) (h.push p):=by
 have n:∀x∈qk c C++R,∀b,blk γ x.1 x.2=Td b->b<h.size:=λx k b f=>(I.den x (((wa c C).append_right R).subset k)).lt b f;have s:Inv h0 W M0 (qk c C++R) (z07 γ c h.size) (h.push p):=by refine I.rest ((wa c C).append_right R) (X1 γ c h.size) (zb3 q) (λx k b f=>?_) (λb u e=>?_) (λi hi _=>?_) (by simp) (λb f=>rfl);have:=n x k b f;exact⟨by rw[Cd,if_neg (by omega)],(I.sep x (((wa c C).append_right R).subset k) b f).2⟩;have:=I.ag.lt e;obtain⟨r,m,e'⟩:=I.ag b u e;exact⟨r,m,by rw[Cd,if_neg (by omega)];exact e'⟩;have:=I.size;rw[Cd,if_neg (by omega)]
 refine s.cons ⟨us,by rw[Zr,yb];exact o,DenL.gx (X1 γ c h.size) t w⟩ (λb f=>?_) (λb f x k e=>?_);simp only[blk,Zr,Ac]at f;subst f;exact⟨.inl I.size,I.ag.none (Ab _)⟩;simp only[blk,Zr,Ac]at f;subst f;rw[zlq (X1 γ c h.size) _ (zb3 q x k).1]at e;have:=n x k _ e;omega
theorem Inv.newBox(I:Inv h0 W M0 (C++R) γ h)(f:qh c R=Ta){l:List AA}(e:All2 (DenA γ) l us)(i:zpv c l=Tc)(b:itB l=Tc)(T:TypeId):
  Inv h0 W M0 ((c,.box l)::qk c C++R) (z07 γ c h.size) (h.push (.cells us.toArray T)):=
 Inv.newBoxO I f e i (.inl ⟨⟨T,rfl⟩,λs p=>zwe b e s p⟩)
theorem zds{α:Type}{R:α->α->Prop}(e:∀x y,R x y->R y x):∀{l:List α},l.Pairwise R->∀{x y:α},x∈l->y∈l->x≠y->R x y
 |[],_,_,_,hx,_,_=>by cases hx
 |z::l,h,x,y,hx,hy,hne=>by rw[Be]at h;rcases Ah.1 hx with f|h1;rcases Ah.1 hy with b|c;exact absurd (f.trans b.symm) hne;rw[f];exact h.1 _ c;rcases Ah.1 hy with b|c;rw[b];exact e _ _ (h.1 _ h1);exact zds e h.2 h1 c hne
theorem Inv.setBox(I:Inv h0 W M0 (C++R) γ h){l A:List AA}(z:(c,Ch.box l)∈C)(e:qdt h'[γ.β c]? us)
  (s:∀i,i≠γ.β c->h'[i]?=h[i]?) (L:h'.size=h.size) (H:All2 (DenA γ) A us) (E:∀x∈R,x.1≠c):Inv h0 W M0 ((c,.box A)::Wa c C++R) γ h':=by
 have n:=I.sep _ (As R z) _ rfl;have o:∀x∈Wa c C++R,blk γ x.1 x.2≠Td (γ.β c):=by
  intro x k;have t:x≠(c,Ch.box l):=by rintro rfl;rcases Ay.1 k with k|k;exact(Ym k).2 rfl;exact E _ k rfl
  have r:x∈C++R:=((wy c C).append_right R).subset k;have J:=@zds _ (λ(x y:Nat×Ch)=>∀b,blk γ x.1 x.2=Td b->blk γ y.1 y.2≠Td b) (λx y h b f p=>h b p f) _ I.apart;intro f;exact J (As R z) r (λe=>t e.symm) _ rfl f
 have F:Inv h0 W M0 (Wa c C++R) γ h':=by refine I.rest ((wy c C).append_right R) (c:=Te) (Gx.refl _ _) (λx _=>⟨by simp,rfl⟩) (λx k b f=>?_) (λb G q=>?_) (λi hi u=>?_) (by omega) (λb f=>rfl);exact⟨s b λe'=>o x k (e' ▸ f),(I.sep x (((wy c C).append_right R).subset k) b f).2⟩;obtain⟨D,m,e'⟩:=I.ag b G q;exact⟨D,m,by rw[s b λB=>by rw[B,n.2]at q;cases q];exact e'⟩;refine s i λe'=>?_;have w:=n.1;simp only at w;rcases w with h1|h1;omega;rw[e']at u;exact u h1
 refine F.cons ⟨us,e,H⟩ (λb f=>?_) (λb f x k=>?_);simp only[blk,Ac]at f;subst f;exact n;simp only[blk,Ac]at f;subst f;exact o x k
theorem Inv.newRow(I:Inv h0 W M0 (C++R) γ h)(B:qh c R=Ta)(L:h.size<=h'.size){p:Option Nat}(A:∀i,i<h.size->p≠Td i->h'[i]?=h[i]?) (o:∀b,p=Td b->h0.size<=b/\γ.M b=Te/\∀x∈C++R,blk γ x.1 x.2≠Td b) {s:Sl} {xs:List (El t)} {cells:List Value} (w:Owns h' h0.size e (sz t) s cells) (n:∀q,s.a=Td q->p=Td q.block\/q.block=h.size) (u:RowC γ.M t xs cells) (G:xs.length<=140737488355328) (J:s.len=xs.length):
  Inv h0 W M0 ((c,.row e t xs)::qk c C++R) (zt1 γ c s) h':=by
 have f:=(wa c C).append_right R;have r:∀x∈qk c C++R,∀b,blk γ x.1 x.2=Td b->b<h.size:=λx l b n=>(I.den x (f.subset l)).lt b n;have H:Inv h0 W M0 (qk c C++R) (zt1 γ c s) h':=by refine I.rest f (Z3 γ c s) (zb3 B) (λx l b n=>?_) (λb D z=>?_) (λi hi N=>?_) L (λb n=>rfl);exact⟨A b (r x l b n) λe'=>(o b e').2.2 x (f.subset l) n,(I.sep x (f.subset l) b n).2⟩;obtain⟨F,m,e'⟩:=I.ag b D z;exact⟨F,m,by rw[A b (I.ag.lt z) λE=>by have:=(o b E).2.1;rw[show γ.M b=Td D from z]at this;cases this];exact e'⟩;have:=I.size;refine A i (by omega) λe'=>?_;have:=(o i e').1;omega
 refine H.cons ⟨cells,by rw[qo];exact w,u,G,by rw[qo];exact J⟩ (λb k=>?_) (λb k x l e'=>?_);simp only[blk,qo,CF]at k;obtain⟨q,y,rfl⟩:=k;rcases n q y with h1|h1;exact⟨.inl (o _ h1).1,(o _ h1).2.1⟩;rw[h1];exact⟨.inl I.size,I.ag.none (Ab _)⟩;simp only[blk,qo,CF]at k;obtain⟨q,y,rfl⟩:=k;rw[zlq (Z3 γ c s) _ (zb3 B x l).1]at e';rcases n q y with h1|h1;exact(o _ h1).2.2 x (f.subset l) e';rw[h1]at e';have:=r x l _ e';omega
def qdu(c:Nat):CS->CS
 |[]=>[]
 |(j,k)::l=>bif Nat.beq j c then(match k with
  |.row _ t xs=>(j,.fz t xs)::qdu c l
  |k=>(j,k)::qdu c l)else(j,k)::qdu c l
def zgp(γ:Gh)(b:Nat)(cs:Array Value):Gh:={ γ with M:=λi=>bif Nat.beq i b then Td cs else γ.M i }
theorem Inv.freeze1{A C:CS}{xs:List (El t)}(I:Inv h0 W M0 (A++(c,.row e t xs)::C) γ h):∃γ',Inv h0 W M0 (A++(c,.fz t xs)::C) γ' h/\Gx Te γ γ':=by
 obtain⟨cells,D,q,V,U⟩:=I.den (c,.row e t xs) (by simp);have Q:=q.1;rcases D.2 with⟨n,h1⟩|⟨g,cap,l,n,m,P,aa,S,Y,u⟩;refine⟨γ,?_,Gx.refl _ _⟩;have G:xs=[]:=AN (by omega);have J:DenC h0.size γ h c (.fz t xs):=by subst G;simp only[AO]at n;exact⟨_,rfl,Te,0,by simp[slV,n],⟨by simp,by simp⟩,.inl rfl⟩
 have k:∀x,x∈A++(c,Ch.fz t xs)::C->x∈A++(c,Ch.row e t xs)::C\/x=(c,Ch.fz t xs):=by intro x f;simp only[Ay,Ah]at f ⊢;rcases f with h|h|h;exact .inl (.inl h);exact .inr h;exact .inl (.inr (.inr h))
 refine⟨I.ag,I.frame,I.size,I.old,I.le,λx f=>?_,λx f b i=>?_,?_⟩;rcases k x f with h|rfl;exact I.den x h;exact J;rcases k x f with h|rfl;exact I.sep x h b i;cases i;have:=I.apart;simp only[CO,Be]at this ⊢;obtain⟨F,⟨a2,E⟩,z⟩:=this;refine⟨F,⟨λy p b i=>(by simp[blk]at i),E⟩,λx f y p b i=>?_⟩;rcases Ah.1 p with rfl|p;simp[blk];exact z x f y (Ae _ p) b i;simp only[AO]at n;have N:γ.M g=Te:=(I.sep (c,.row e t xs) (by simp) g (by simp[blk,n.1])).2;have B:Fr.le γ.M (zgp γ g l).M:=by
  intro b H s;have:Nat.beq b g=Tc:=by
   cases i:Nat.beq b g with
   |false=>rfl
   |true=>rw[Ak i,N]at s;cases s
  simp[zgp,this,s]
 have gx:Gx Te γ (zgp γ g l):=⟨B,λ_ _=>⟨rfl,rfl⟩⟩;have O:g<h.size:=(An.1 P).1;have L:∀x,x∈A++C->blk γ x.1 x.2≠Td g:=by intro x f;have:=I.apart;simp only[CO,Be]at this;obtain⟨F,⟨a2,E⟩,z⟩:=this;rcases Ay.1 f with f|f;intro i;exact z x f (c,.row e t xs) Am g i (by simp[blk,n.1]);exact a2 x f g (by simp[blk,n.1])
 have w:∀b,b≠g->(zgp γ g l).M b=γ.M b:=by
  intro b i;have:Nat.beq b g=Tc:=by
   cases h:Nat.beq b g with
   |false=>rfl
   |true=>exact absurd (Ak h) i
  simp[zgp,this]
 have r:Inv h0 W M0 (A++C) (zgp γ g l) h:=by
  refine I.rest (by simp) gx (λx _=>⟨by simp,rfl⟩) (λx f b i=>?_) (λb H s=>?_) (λ_ _ _=>rfl) (Ab _) (λb i=>w b (by omega));have m:b≠g:=λe'=>L x f (e' ▸ i);refine⟨rfl,(w b m).trans (I.sep x ?_ b i).2⟩;simp only[Ay,Ah]at f ⊢;rcases f with h|h;exact .inl h;exact .inr (.inr h);by_cases m:b=g;subst m;have:H=l:=by simp[zgp]at s;exact s.symm
  subst this;exact⟨_,_,P⟩;rw[w b m]at s;exact I.ag b H s
 refine⟨zgp γ g l,?_,gx⟩;have J:DenC h0.size (zgp γ g l) h c (.fz t xs):=by
  have:=(q.mono B).rd (b:=g) (o:=0) (c:=cap) (cs:=l) (by simp[zgp]) (by rw[BZ,<-U];exact u) ⟨V,by omega⟩;show Rd _ _ _ [slV (γ.σ c)];have Z:slV (γ.σ c)=.slice (Td ⟨g,0,Te⟩) xs.length cap:=by unfold slV;rw[n.1,U,n.2.2]
  rw[Z];exact this
 have k:∀x,x∈A++(c,Ch.fz t xs)::C->x∈A++C\/x=(c,Ch.fz t xs):=by intro x f;simp only[Ay,Ah]at f ⊢;rcases f with h|h|h;exact .inl (.inl h);exact .inr h;exact .inl (.inr h)
 refine⟨r.ag,r.frame,r.size,r.old,r.le,λx f=>?_,λx f b i=>?_,?_⟩;rcases k x f with h|rfl;exact r.den x h;exact J;rcases k x f with h|rfl;exact r.sep x h b i;cases i;have:=r.apart;simp only[CO,Be]at this ⊢;obtain⟨F,E,z⟩:=this;refine⟨F,⟨λy p b i=>(by simp[blk]at i),E⟩,λx f y p b i=>?_⟩;rcases Ah.1 p with rfl|p;simp[blk];exact z x f y p b i
theorem Inv.freeze{R:CS}{h:zb}(c:Nat):∀(C A:CS) {γ:Gh},Inv h0 W M0 (A++C++R) γ h->∃γ',Inv h0 W M0 (A++qdu c C++R) γ' h/\Gx Te γ γ'
 |[],A,γ,I=>⟨γ,I,Gx.refl _ _⟩
 |(j,k)::l,A,γ,I=>by
  have go:∀(k:Ch) {γ:Gh},Inv h0 W M0 (A++(j,k)::l++R) γ h->∃γ',Inv h0 W M0 (A++(j,k)::qdu c l++R) γ' h/\Gx Te γ γ':=by intro k γ I;have:=Inv.freeze c l (A++[(j,k)]) (R:=R) (γ:=γ) (by simpa using I);simpa using this
  simp only[qdu];cases Nat.beq j c with
  |true=>
   cases k with
   |row e t xs=>obtain⟨m,n,f⟩:=Inv.freeze1 (A:=A) (C:=l++R) (γ:=γ) (by simpa using I);obtain⟨o,p,b⟩:=go (.fz t xs) (γ:=m) (by simpa using n);exact⟨o,p,f.1.trans b.1,λi hi=>⟨(b.2 i hi).1.trans (f.2 i hi).1,(b.2 i hi).2.trans (f.2 i hi).2⟩⟩
   |box q=>exact go _ I
   |fz t xs=>exact go _ I
  |false=>exact go _ I
end
section
variable {i n:Nat} {c:zx} {v:AV} {γ γ':Gh} {a:Act} {u:Value} {o:Oper} {g:Option Bool} {σ:Operand -> Value}
abbrev qg:=List (Nat×zx×AV)
def zna:qg->Nat->Option (zx×AV)
 |[],_=>Te
 |(j,c,v)::e,i=>bif Nat.beq i j then Td (c,v)else zna e i
def znb(γ:Gh)(σ:Nat->Value)(x:Nat×zx×AV):Prop:=(valid σ x.2.1->DenV γ x.2.2 (σ x.1))/\(¬valid σ x.2.1->σ x.1=undef)
structure SatA (n:Nat) (e:qg) (γ:Gh) (a:Act):Prop where
 defers:a.defers=[]
 size:a.tmps.size=n
 all:∀x∈e,znb γ (zy a) x
def qg8:qg->Nat->qg
 |[],_=>[]
 |(j,c,v)::e,i=>bif (bif Nat.beq i j then Ta else mentions c i)then qg8 e i else(j,c,v)::qg8 e i
def ql8(e:qg)(i:Nat)(c:zx)(v:AV):qg:=(i,c,v)::qg8 e i
def z9t(e:qg):Option Nat->zx->AV->qg
 |none,_,_=>e
 |some d,c,v=>ql8 e d c v
def zgq:qg->qg
 |[]=>[]
 |(j,[],v)::e=>(j,[],v)::zgq e
 |(_,_::_,_)::e=>zgq e
def zqc(c:Nat):qg->qg
 |[]=>[]
 |(j,ch,v)::e=>bif z1x c v then zqc c e else(j,ch,v)::zqc c e
def zwf:Option Nat->qg->qg
 |none,e=>e
 |some c,e=>zqc c e
theorem Zs{e:qg}(h:zna e i=Td (c,v)):(i,c,v)∈e:=by
 induction e with
 |nil=>cases h
 |cons x e f=>obtain⟨j,l,k⟩:=x;simp only[zna]at h;by_cases b:Nat.beq i j=Ta;simp only[b,cond_true,Ac,Bh]at h;obtain⟨rfl,rfl⟩:=h;rw[Ak b];exact Am;simp only[b,cond_false]at h;exact Ae _ (f h)
theorem z9u{e:qg}{x:Nat×zx×AV}(h:x∈qg8 e i):x∈e/\x.1≠i/\mentions x.2.1 i=Tc:=by
 induction e with
 |nil=>cases h
 |cons y e b=>
  obtain⟨j,m,o⟩:=y;simp only[qg8]at h;by_cases k:Nat.beq i j=Ta;simp only[k,cond_true]at h;exact⟨Ae _ (b h).1,(b h).2⟩;have l:Nat.beq i j=Tc:=Bool.eq_false_iff.2 k;simp only[l,cond_false]at h;by_cases n:mentions m i=Ta;simp only[n,cond_true]at h;exact⟨Ae _ (b h).1,(b h).2⟩;have f:mentions m i=Tc:=by simpa using n
  simp only[f,cond_false]at h;rcases Ah.1 h with rfl|h;refine⟨Am,λc=>?_,f⟩;simp only at c;rw[c]at k;exact k (by simp);exact⟨Ae _ (b h).1,(b h).2⟩
theorem zy5{e:qg}{x:Nat×zx×AV}(h:x∈zgq e):x∈e/\x.2.1=[]:=by
 induction e with
 |nil=>cases h
 |cons y e b=>
  obtain⟨j,f,i⟩:=y;cases f with
  |nil=>simp only[zgq]at h;rcases Ah.1 h with rfl|h;exact⟨Am,rfl⟩;exact⟨Ae _ (b h).1,(b h).2⟩
  |cons c cs=>simp only[zgq]at h;exact⟨Ae _ (b h).1,(b h).2⟩
theorem zy6{c:Option Nat}{e:qg}{x:Nat×zx×AV}(h:x∈zwf c e):x∈e/\z1y z1x c x.2.2=Tc:=by
 cases c with
 |none=>exact⟨h,rfl⟩
 |some c=>
  have key:∀e:qg,x∈zqc c e->x∈e/\z1x c x.2.2=Tc:=by
   intro e;induction e with
   |nil=>intro h;cases h
   |cons y e b=>
    obtain⟨j,i,f⟩:=y;intro h;simp only[zqc]at h;cases hm:z1x c f with
    |true=>rw[hm]at h;exact⟨Ae _ (b h).1,(b h).2⟩
    |false=>rw[hm]at h;rcases Ah.1 h with rfl|h;exact⟨Am,hm⟩;exact⟨Ae _ (b h).1,(b h).2⟩
  exact key e h
theorem SatA.sub{e e':qg}(h:SatA n e γ a)(c:∀x∈e',x∈e):SatA n e' γ a:=⟨h.defers,h.size,λx b=>h.all x (c x b)⟩
theorem SatA.clean{e:qg}(h:SatA n e γ a):SatA n (zgq e) γ a:=h.sub λ_ b=>(zy5 b).1
theorem SatA.gx{e:qg}{c:Option Nat}(h:SatA n e γ a)(g:Gx c γ γ'):SatA n (zwf c e) γ' a:= ⟨h.defers,h.size,λx f=>by obtain⟨h1,i⟩:=zy6 f;exact⟨λb=>((h.all x h1).1 b).gx g i,(h.all x h1).2⟩⟩
theorem SatA.gx0{e:qg}(h:SatA n e γ a)(g:Gx Te γ γ'):SatA n e γ' a:=h.gx g
theorem SatA.put{e:qg}(h:SatA n e γ a)(hi:i<n)(w:mentions c i=Tc)
  (s:valid (zy a) c->DenV γ v u) (t:¬valid (zy a) c->u=undef):SatA n (ql8 e i c v) γ (a.put (Td i) u):=by
 refine⟨by rw[xe];exact h.defers,by rw[size_put];exact h.size,λx m=>?_⟩;have k:i<a.tmps.size:=by rw[h.size];exact hi
 rcases Ah.1 m with rfl|m;have l:=Zh (σ:=zy (a.put (Td i) u)) (τ:=zy a) w (λj o=>qe o);refine⟨λf=>?_,λf=>?_⟩;simp only;rw[wv k];exact s (l.1 f);exact(wv k).trans (t (λb=>f (l.2 b)));obtain⟨h1,q,r⟩:=z9u m;have l:=Zh (σ:=zy (a.put (Td i) u)) (τ:=zy a) r (λj o=>qe o);have p:=h.all x h1;refine⟨λf=>?_,λf=>?_⟩;rw[qe q];exact p.1 (l.1 f);exact(qe q).trans (p.2 (λb=>f (l.2 b)))
theorem SatA.putO{e:qg}(h:SatA n e γ a){d:Option Nat}(f:jh n c d=Ta)
  (l:valid (zy a) c->DenV γ v u) (m:¬valid (zy a) c->u=undef):SatA n (z9t e d c v) γ (a.put d u):=by
 cases d with
 |none=>exact h
 |some i=>
  simp only[jh]at f;by_cases k:mentions c i=Ta;simp[k]at f;have b:mentions c i=Tc:=by simpa using k
  simp only[b,cond_false]at f;exact h.put (by simpa[CG]using f) b l m
def qkg:Value->AG
 |.agg cs=>.agg (cs.toList.map .v)
 |v=>.a (.v v)
def zy7:Value->AV
 |.tuple vs=>.tup (vs.toList.map qkg)
 |v=>.g (qkg v)
theorem zwg(γ:Gh)(v:Value):DenG γ (qkg v) v:=by
 cases v with
 |agg cs=>
  refine⟨cs.toList,by simp,?_⟩;generalize cs.toList=l;induction l with
  |nil=>trivial
  |cons x l b=>exact⟨rfl,b⟩
 |_=>exact rfl
theorem Ja(γ:Gh)(v:Value):DenV γ (zy7 v) v:=by
 cases v with
 |tuple vs=>
  refine⟨vs.toList,by simp,?_⟩;generalize vs.toList=l;induction l with
  |nil=>trivial
  |cons x l b=>exact⟨zwg γ x,b⟩
 |agg cs=>exact zwg γ (.agg cs)
 |_=>exact rfl
def exL:List AA->Option (List Value)
 |[]=>Td []
 |.v x::l=>match exL l with
  |some vs=>Td (x::vs)
  |none=>Te
 |_::_=>Te
def exV:AV->Option Value
 |.g (.a (.v x))=>Td x
 |.g (.agg l)=>match exL l with
  |some vs=>Td (.agg vs.toArray)
  |none=>Te
 |_=>Te
theorem z15{γ:Gh}:∀{l:List AA} {vs us:List Value},exL l=Td vs->All2 (DenA γ) l us->us=vs
 |[],vs,[],h,_=>by simp only[exL,Ac]at h;exact h
 |[],_,_::_,_,h=>h.elim
 |.v x::l,vs,u::us,h,hd=>by simp only[exL]at h;split at h;rename_i c b;simp only[Ac]at h;subst h;rw[show u=x from hd.1,z15 b hd.2];cases h
 |.v _::_,_,[],_,h=>h.elim
 |.d _ _::_,_,_,h,_=>by simp[exL]at h
 |.box _ _::_,_,_,h,_=>by simp[exL]at h
 |.own _::_,_,_,h,_=>by simp[exL]at h
 |.oelt _ _ _ _::_,_,_,h,_=>by simp[exL]at h
 |.elt _ _ _::_,_,_,h,_=>by simp[exL]at h
 |.dc _ _::_,_,_,h,_=>by simp[exL]at h
theorem zt2{x:AV}{v u:Value}(h:exV x=Td v)(b:DenV γ x u):u=v:=by unfold exV at h;split at h;simp only[Ac]at h;subst h;exact b;rename_i l;split at h;rename_i vs c;simp only[Ac]at h;subst h;obtain⟨us,rfl,e⟩:=b;rw[z15 c e];cases h;cases h
def zg1(e:qg)(c:zx):Operand->Option AV
 |.tmp t=>match zna e t with
  |some (cs,v)=>bif suf cs c then Td v else Te
  |none=>Te
 |.const v=>Td (zy7 v)
 |.global g=>Td (.g (.a (.v (.pointer (Td ⟨g,0,Te⟩)))))
 |.func f=>Td (.g (.a (.v (.func (.func f) #[] #[]))))
theorem zo{e:qg}(h:SatA n e γ a)(k:valid (zy a) c){x:Operand}(b:zg1 e c x=Td v):DenV γ v (a.eval x):=by
 cases x with
 |tmp t=>simp only[zg1]at b;split at b;rename_i cs u l;by_cases i:suf cs c=Ta;simp only[i,cond_true,Ac]at b;subst b;exact(h.all _ (Zs l)).1 (Y3 i k);simp[i]at b;cases b
 |const u=>simp only[zg1,Ac]at b;subst b;exact Ja γ u
 |global g=>simp only[zg1,Ac]at b;subst b;exact rfl
 |func f=>simp only[zg1,Ac]at b;subst b;exact rfl
def zy8:AV->Option Bool
 |.g (.a (.v (.bool b)))=>Td b
 |_=>Te
theorem zik{b:Bool}(h:zy8 v=Td b)(c:DenV γ v u):u=.bool b:=by unfold zy8 at h;split at h;simp only[Ac]at h;subst h;exact c;cases h
def Yn(ops:Array Oper)(e:qg):Option (Nat×Bool)->Option zx
 |none=>Td []
 |some (j,p)=>match yv ops j with
  |some g=>match zna e g with
   |some (cg,v)=>match zy8 v with
    |some _=>Td ((g,p)::cg)
    |none=>Te
   |none=>Te
  |none=>Te
def zqd(e:qg):zx->Option Bool
 |[]=>Td Ta
 |(g,p)::c=>match zna e g with
  |some (cg,v)=>match zy8 v with
   |some b=>bif Zi cg c then(match zqd e c with
    |some f=>Td (f&&(bif p then b else !b))
    |none=>Te)else Te
   |none=>Te
  |none=>Te
theorem X3{n:Nat}{e:qg}{γ:Gh}{a:Act}(h:SatA n e γ a):∀{c:zx} {b:Bool},zqd e c=Td b->(b=Ta↔valid (zy a) c)
 |[],b,hb=>by simp only[zqd,Ac]at hb;simp[<-hb,valid]
 |(g,p)::c,b,hb=>by
  simp only[zqd]at hb;split at hb;rename_i s v t;split at hb;rename_i q l;by_cases i:Zi s c=Ta;simp only[i,cond_true]at hb;split at hb;rename_i m k;simp only[Ac]at hb;have r:=X3 h k;have o:=h.all _ (Zs t);rw[Y2 i]at o;by_cases f:valid (zy a) c;have h1:zy a g=.bool q:=zik l (o.1 f);have u:=r.2 f;subst hb;simp only[valid,h1,f,u,Cs,and_true,Value.bool.injEq];cases p <;> cases q <;> simp;have h1:m=Tc:=by cases m with|false=>rfl|true=>exact absurd (r.1 rfl) f
  subst hb;simp[valid,f,h1];cases hb;simp[i]at hb;cases hb;cases hb
theorem xp{ops:Array Oper}{e:qg}(h:SatA n e γ a)(f:Yn ops e o.guard=Td c):
  Cc o (yielded ops a.tmps)=Ta↔valid (zy a) c:=by
 unfold Cc;cases hg:o.guard with
 |none=>rw[hg]at f;simp only[Yn,Ac]at f;simp[<-f,valid]
 |some r=>
  obtain⟨j,p⟩:=r;rw[hg]at f;simp only[Yn]at f;split at f;rename_i g i;split at f;rename_i t v u;split at f;rename_i b x;simp only[Ac]at f;subst f;have l:((ops[j]?).bind (·.dst))=Td g:=by simp only[yv]at i;split at i;rename_i w k;simp[k,i];cases i
  have s:=h.all _ (Zs u);have q:yielded ops a.tmps j=Td p↔zy a g=.bool p:=by
   unfold yielded zy;rw[l];simp only[C2];cases ht:a.tmps[g]? with
   |none=>simp[BM,ht,undef]
   |some v=>cases v <;> simp[BM,ht]
  simp only[beq_iff_eq,q,valid];constructor;intro h1;refine⟨h1,?_⟩;by_cases m:valid (zy a) t;exact m;have:=s.2 m;simp only at this;rw[h1]at this;exact absurd this.symm zdg;exact λh1=>h1.1;cases f;cases f;cases f
def Wb(e:qg):zx->Option (Option Bool)
 |[]=>Td Te
 |c=>match zqd e c with
  |some b=>Td (Td b)
  |none=>Te
theorem xh{e:qg}(f:SatA n e γ a)(h:Wb e c=Td g)(i:valid (zy a) c):gok g:=by unfold Wb at h;split at h;simp only[Ac]at h;subst h;trivial;split at h;rename_i b k;simp only[Ac]at h;subst h;exact(X3 f k).2 i;cases h
theorem zb4{e:qg}(i:SatA n e γ a)(h:Wb e c=Td g)(f:¬valid (zy a) c):g=Td Tc:=by
 unfold Wb at h;split at h;exact absurd trivial f;split at h;rename_i b k;simp only[Ac]at h;subst h;cases b with
 |false=>rfl
 |true=>exact absurd ((X3 i k).1 rfl) f
 cases h
def qjq(ρ:Operand->Option AV)(x:Operand):Value:=match ρ x with
 |some av=>match exV av with
  |some v=>v
  |none=>undef
 |none=>undef
def zil(ρ:Operand->Option AV):List Operand->Bool
 |[]=>Ta
 |x::l=>match ρ x with
  |some av=>match exV av with
   |some _=>zil ρ l
   |none=>Tc
  |none=>Tc
theorem zqe{ρ:Operand->Option AV}(i:∀x av,ρ x=Td av->DenV γ av (σ x)){l:List Operand}(b:zil ρ l=Ta):∀x∈l,σ x=qjq ρ x:=by
 induction l with
 |nil=>intro x e;cases e
 |cons y l h=>intro x e;simp only[zil]at b;split at b;rename_i av f;split at b;rename_i v c;rcases Ah.1 e with rfl|e;rw[zt2 c (i _ _ f)];simp[qjq,f,c];exact h b x e;cases b;cases b
theorem zqf{ρ:Operand->Option AV}(i:∀x av,ρ x=Td av->DenV γ av (σ x))(c:Yb o.op=Ta)(e:zil ρ o.op.operands.toList=Ta):
  execOp σ o=execOp (qjq ρ) o:=
 execOp_congr o (λcs b f=>by rw[f]at c;cases c) λx h=>zqe i e x (by simpa using h)
end
section
variable {o n f k:Nat} {h:zb} {u:Value} {us:List Value} {cs:CS} {γ:Gh} {t ty:TypeId} {P:Program} {s:Option Nat}
variable {h0 : zb} {W : Nat -> Prop} {M0 : Fr}
def takeN(l:List AA)(o n:Nat):Option (List AA):=bif Nat.beq ((l.drop o).take n).length n then Td ((l.drop o).take n)else Te
theorem za3{l r:List AA}(h:takeN l o n=Td r):r=(l.drop o).take n/\r.length=n:=by
 unfold takeN at h;cases hb:Nat.beq ((l.drop o).take n).length n with
 |false=>rw[hb]at h;cases h
 |true=>rw[hb]at h;simp only[cond_true,Ac]at h;subst h;exact⟨rfl,Ak hb⟩
theorem zqg{h:zb}{p:Addr}:∀{us:List Value} {i:Nat},(∀j v,us[j]?=Td v->zc h (p.add (i+j))=Td v)->zd h p i us
 |[],_,_=>trivial
 |v::us,i,H=>⟨by have:=H 0 v rfl;simpa using this,zqg λj u b=>by have:=H (j+1) u (by simpa using b);rwa[show i+(j+1)=i+1+j by omega]at this⟩
def Behind(h:zb)(u:Value)(us:List Value):Prop:=∃b o,u=.pointer (Td ⟨b,o,Te⟩)/\∀j v,us[j]?=Td v->zc h ⟨b,o+j,Te⟩=Td v
theorem Behind.ld(H:Behind h u us):∃p:Addr,u=.pointer (Td p)/\zd h p 0 us/\∀v,us=[v]->zc h p=Td v:=by obtain⟨b,o,e,f⟩:=H;refine⟨_,e,zqg λj v c=>?_,λv c=>?_⟩;rw[zi,AI];exact f j v c;have:=f 0 v (by rw[c];rfl);simpa using this
theorem qdv{cs:Array Value}{f n j:Nat}{v:Value}(h:(cut cs f n)[j]?=Td v):cs[f+j]?=Td v:=by unfold cut at h;rw[AJ]at h;split at h;rw[A9]at h;simpa using h;cases h
def z9v(cs:CS)(n:Nat):AA->Option (List AA)
 |.box c o=>match Qv cs c with
  |some (.box l)=>bif itB l then Te else takeN l o n
  |_=>Te
 |.elt t x o=>takeN (Y8 t x) o n
 |_=>Te
theorem zt3(I:Inv h0 W M0 cs γ h){w:AA}{r:List AA}(k:z9v cs n w=Td r)(z:DenA γ w u):
  ∃us,Behind h u us/\us.length=n/\All2 (DenA γ) r us:=by
 unfold z9v at k;split at k
 ·rename_i c o;split at k
  ·rename_i l B;cases hit:itB l with
   |true=>rw[hit]at k;cases k
   |false=>
   rw[hit]at k;obtain⟨rfl,q⟩:=za3 k;obtain⟨us,e,y⟩:=I.den _ (zz B);rcases e with⟨⟨T,e⟩,_⟩|⟨s,p,e,_⟩;case inr=>exact absurd e (zwe hit y s p)
   have m:=(y.drop o).take n;refine⟨(us.drop o).take n,⟨_,_,z,λj v i=>?_⟩,by rw[<-m.length];exact q,m⟩;rw[AJ]at i;split at i;rw[A9]at i;unfold zc;simp only[e];simp;exact i;cases i
  cases k
 rename_i t x o;obtain⟨rfl,q⟩:=za3 k;obtain⟨b,f,D,e,C,A⟩:=z;have m:=((xg (γ:=γ) A).drop o).take n;refine⟨_,⟨_,_,e,λj v i=>?_⟩,by rw[<-m.length];exact q,m⟩;rw[AJ]at i;split at i;rw[A9]at i;have:=qdv i;exact I.ag.cell C (by rw[show f+o+j=f+(o+j)by omega];exact this);cases i;cases k
theorem qdw(I:Inv h0 W M0 cs γ h){c:Nat}{e:TypeId}{t:Ty}{xs:List (El t)}(E:Qv cs c=Td (.row e t xs)){i:Nat}{y:El t}(x:xs[i]?=Td y){r:List AA}(D:takeN (Y8 t y) o n=Td r)(F:DenA γ (.oelt c (sz t) i o) u):∃us,Behind h u us/\us.length=n/\All2 (DenA γ) r us:=by
 obtain⟨rfl,G⟩:=za3 D;obtain⟨g,z,rfl⟩:=F;obtain⟨cells,f,m,_,H⟩:=I.den _ (zz E);simp only at H f;rcases f.2 with⟨k,h1⟩|⟨g',cap,q,k,_,w,_,_,_,l⟩;simp only[AO]at k;rw[z]at k;cases k.1;simp only[AO]at k;rw[z]at k;have s:g=g':=by have:=k.1;simp only[Ac,Addr.mk.injEq]at this;exact this.1
 subst s;have hi:i<xs.length:=(AY.1 x).1;have p:xs[i]=y:=(AY.1 x).2;have A:=m.2 i hi;rw[p]at A;have B:=((xg (γ:=γ) A).drop o).take n;refine⟨_,⟨_,_,rfl,λj v b=>?_⟩,by rw[<-B.length];exact G,B⟩;rw[AJ]at b;split at b;rw[A9,AJ]at b;split at b;rw[A9,<-l,AJ]at b;split at b;have C:h[g]?=Td (.cells q e (0,0)):=w;unfold zc;simp only[C];simp;rw[show i*sz t+o+j=i*sz t+(o+j)by omega];simpa using b;cases b;cases b;cases b
def znc:Option Nat->List AA->Option AG
 |none,[x]=>Td (.a x)
 |some _,l=>Td (.agg l)
 |_,_=>Te
def X4(P:Program)(t:TypeId):Option (Option Nat):=match z06 P t with
 |some (.one _)=>Td Te
 |some (.agg l)=>Td (Td l.length)
 |none=>Te
def z9f:Option Nat->Nat
 |none=>1
 |some n=>n
theorem zfn(c:X4 P t=Td s)(q:Behind h u us)(m:us.length=z9f s){r:List AA}(b:All2 (DenA γ) r us){ag:AG}(i:znc s r=Td ag):
  ∃v,DenG γ ag v/\QExec P (DW t u) h v:=by
 obtain⟨p,e,o,h1⟩:=q.ld;subst e;have f:∀v,QExec P (loadVar t p) h v->QExec P (DW t (.pointer (Td p))) h v:=λv n B d=>by unfold DW DN;simp only[Sem.run_bind,Sem.run_pure,Result.andThen_ok];exact n B d
 unfold X4 at c;split at c;rename_i a k;simp only[Ac]at c;subst c
 match us,m,r,b with
 |[v],_,[x],b=>simp only[znc,Ac]at i;subst i;exact⟨v,b.1,f v (zhj k (h1 v rfl))⟩
 |[v],_,[],b=>exact b.elim
 |[v],_,_::_::_,b=>exact b.2.elim
 rename_i l k;simp only[Ac]at c;subst c;simp only[znc,Ac]at i;subst i;exact⟨.agg us.toArray,⟨us,rfl,b⟩,f _ (zhk k m o)⟩;cases c
def zy9(P:Program)(cs:CS)(t:TypeId)(b:AA)(g:Option Bool)(K:AV->Prop):Prop:=
 match X4 P t with
 |some s=>match b with
  |.oelt c z i o=>match Qv cs c with
   |some (.row e ty xs)=>bif Nat.beq z (sz ty)then(∃y:El ty,req g (xs[i]?=Td y)/\match takeN (Y8 ty y) o (z9f s)with
    |some r=>match znc s r with
     |some ag=>K (.g ag)
     |none=>False
    |none=>False)else False
   |_=>False
  |b=>match z9v cs (z9f s) b with
   |some r=>match znc s r with
    |some ag=>K (.g ag)
    |none=>False
   |none=>False
 |none=>False
theorem zim{n:AA}{g:Option Bool}{K:AV->Prop}(H:zy9 P cs t n g K):
  ∃av,K av/\(gok g->∀γ h u,Inv h0 W M0 cs γ h->DenA γ n u->∃v,DenV γ av v/\QExec P (DW t u) h v):=by
 unfold zy9 at H;split at H;rename_i s p;split at H;rename_i c z i o;split at H;rename_i e ty xs x;cases hz:Nat.beq z (sz ty)with
 |false=>rw[hz]at H;exact H.elim
 |true=>rw[hz]at H;obtain⟨y,w,H⟩:=H;split at H;rename_i r k;split at H;rename_i ag m;refine⟨_,H,λq γ h u I b=>?_⟩;rw[Ak hz]at b;obtain⟨us,h1,l,f⟩:=qdw I x (w.out q) k b;exact zfn p h1 l f m;exact H.elim;exact H.elim
 exact H.elim;split at H;rename_i r k;split at H;rename_i ag m;refine⟨_,H,λq γ h u I b=>?_⟩;obtain⟨us,h1,l,f⟩:=zt3 I k b;exact zfn p h1 l f m;exact H.elim;exact H.elim;exact H.elim
def z2a(P:Program)(t:TypeId)(f:Nat):Option (Nat×TypeId):=match P.underlying t with
 |some (.struct fs)=>match fs[f]? with
  |some b=>match P.info? b.type with
   |some i=>bif Nat.beq i.size 0 then Te else Td (b.offset,b.type)
   |none=>Te
  |none=>Te
 |_=>Te
def qjr(k:Nat):AA->Option AA
 |.box c o=>Td (.box c (o+k))
 |.elt t x o=>Td (.elt t x (o+k))
 |.oelt c z i o=>Td (.oelt c z i (o+k))
 |_=>Te
theorem z2b(c:z2a P t f=Td (k,ty))(b o:Nat):QExec P (Instr.fieldAt t (.pointer (Td ⟨b,o,Te⟩)) f) h (.pointer (Td ⟨b,o+k,Te⟩)):=by
 unfold z2a at c;split at c;rename_i s p;split at c;rename_i q l;split at c;rename_i i hi;cases hz:Nat.beq i.size 0 with
 |true=>rw[hz]at c;cases c
 |false=>
  rw[hz]at c;simp only[cond_false,Ac,Bh]at c;obtain⟨rfl,rfl⟩:=c;intro B d;have r:=QExec.underlying (h:=h) p B d;have n:=QExec.sizeOf (h:=h) hi B d;have m:¬(qi P q.type=0):=by unfold qi;rw[hi];intro e;simp only at e;rw[e]at hz;simp at hz
  unfold Instr.fieldAt DN fieldPlace;simp only[Sem.run_bind,r,Result.andThen_ok,l,Sem.run_pure,n,m,if_false,zi]
 cases c;cases c;cases c
theorem zwh{l c:AA}(h:qjr k l=Td c)(i:DenA γ l u):∃b o,u=.pointer (Td ⟨b,o,Te⟩)/\DenA γ c (.pointer (Td ⟨b,o+k,Te⟩)):=by unfold qjr at h;split at h;simp only[Ac]at h;subst h;exact⟨_,_,i,rfl⟩;simp only[Ac]at h;subst h;obtain⟨b,f,cs,e,h1,p⟩:=i;exact⟨_,_,e,b,f,cs,by rw[CP],h1,p⟩;simp only[Ac]at h;subst h;obtain⟨g,n,m⟩:=i;exact⟨_,_,m,g,n,by rw[CP]⟩;cases h
def z2c(P:Program)(ty:TypeId)(l:List AA)(k:Nat):Option AG:=match X4 P ty with
 |some s=>match takeN l k (z9f s)with
  |some r=>znc s r
  |none=>Te
 |none=>Te
theorem zqh(c:X4 P t=Td s)(h:zb):QExec P (isAgg t) h s.isSome:=by
 unfold X4 at c;split at c
 ·rename_i a b;simp only[Ac]at c;subst c;unfold z06 at b;split at b
  ·exact absurd b (by split <;> (first|(intro h;cases h;done)|(cases Nat.beq _ _ <;> intro h <;> cases h)))
  ·exact absurd b (by split <;> (first|(intro h;cases h;done)|(cases Nat.beq _ _ <;> intro h <;> cases h)))
  rename_i d i o f;intro B e;have k:=QExec.underlying (h:=h) f B e;unfold isAgg;rw[Sem.run_bind,k];cases d <;> first|rfl|exact(i _ rfl).elim|exact(o _ _ rfl).elim
  cases b
 rename_i l b;simp only[Ac]at c;subst c;unfold z06 at b;have f:(∃p,P.underlying t=Td (.struct p))\/∃n e,P.underlying t=Td (.array n e):=by split at b;exact .inl ⟨_,by assumption⟩;exact .inr ⟨_,_,by assumption⟩;simp at b;cases b
 intro B e;rcases f with⟨p,f⟩|⟨m,e',f⟩;have k:=QExec.underlying (h:=h) f B e;unfold isAgg;rw[Sem.run_bind,k];rfl;have k:=QExec.underlying (h:=h) f B e;unfold isAgg;rw[Sem.run_bind,k];rfl;cases c
theorem z9w(c:X4 P t=Td (Td n)):qi P t=n/\∃i,P.info? t=Td i:=by
 unfold X4 at c;split at c;cases c
 ·rename_i l e;simp only[Ac]at c;subst c;unfold z06 at e;have key:∀x:Option (List Atom),(match x with
    |some l=>bif Nat.beq l.length (qi P t)then Td (VT.agg l)else Te
    |none=>Te)=Td (.agg l)->qi P t=l.length:=by
   intro x b;split at b;rename_i f;cases hb:Nat.beq f.length (qi P t)with
   |false=>rw[hb]at b;cases b
   |true=>rw[hb]at b;simp only[cond_true,Ac,VT.agg.injEq]at b;rw[<-b];exact(Ak hb).symm
   cases b
  split at e;exact⟨key _ e,info_of_underlying (by assumption)⟩;exact⟨key _ e,info_of_underlying (by assumption)⟩;simp at e;cases e
 cases c
theorem zb5{l:List AA}{ag:AG}(c:z2c P ty l k=Td ag)(u:All2 (DenA γ) l us)(h:zb):∃v,DenG γ ag v/\QExec P (part ty us.toArray k) h v:=by
 unfold z2c at c;split at c;rename_i s m;split at c;rename_i r p;obtain⟨rfl,y⟩:=za3 p;have b:=(u.drop k).take (z9f s);have e:((us.drop k).take (z9f s)).length=z9f s:=by rw[<-b.length];exact y
 cases s with
 |none=>
  generalize f:(us.drop k).take (z9f Te)=q at *
  match q,e,f with
  |[v],_,f=>
   generalize w:(l.drop k).take (z9f Te)=r' at *
   match r',b with
   |[x],b=>
    simp only[znc,Ac]at c;subst c;refine⟨v,b.1,λB d=>?_⟩;have o:=zqh m h B d;have A:us[k]?=Td v:=by
     have:((us.drop k).take 1)[0]?=Td v:=by rw[show(us.drop k).take 1=[v]from f];rfl
     rw[AJ,if_pos (by omega),A9]at this;simpa using this
    unfold part;rw[Sem.run_bind,o];simp[A]
   |[],b=>exact b.elim
   |_::_::_,b=>exact b.2.elim
 |some n=>simp only[znc,Ac]at c;subst c;refine⟨.agg ((us.drop k).take n).toArray,⟨_,rfl,b⟩,λB d=>?_⟩;have o:=zqh m h B d;obtain⟨t,i,hi⟩:=z9w m;have z:=QExec.sizeOf (h:=h) hi B d;unfold part;rw[Sem.run_bind,o];simp only[Option.isSome_some,Result.andThen_ok,if_true];rw[Sem.run_bind,z,t];simp
 cases c;cases c
end
end Go.X
end
