/- A part of the proof: nothing is stated here for its own sake. -/
import Derived.Deep.Quiet
import Derived.StillTail
import Derived.Laws.Strings
import Derived.Laws.Cover3
import Derived.Laws.Pointers
import Derived.Laws.OwnMore
open _root_.Go.Addr renaming add->Ad
open _root_.Array renaming getD_eq_getD_getElem?->BI,getElem?_append_left->Cv,getElem?_eq_getElem->Bo,getElem?_eq_some_iff->An,getElem?_push->BV,getElem?_setIfInBounds_ne->AB,replicate->BJ,size_setIfInBounds->A0
open _root_.Bool renaming and_eq_true->Ao,eq_iff_iff->AM,false_eq_true->Bc,not_eq_true'->Dh,true_and->Cc
open _root_.Go.Builtin renaming append_->Au,firstCells->CE,len_->CG
open _root_.Classical renaming byContradiction->CB
open _root_.Go.Code renaming cond->DL,region->DO
open _root_.Go.Deferred renaming ofValue->Dq
open _root_.Go.Instr renaming entry->Dk,findNow->Cr,indexAt->DN,keyThatStays->CY,loadAt->Dp,lookup->C9,mapUpdate->Ce,next->CW,range->Dx,sameNow->Dv,sliceAt->Du,storeAt->Af,sureAddr->Dj
open _root_.Go.IntKind renaming bits->Bm,signed->Dm,wrap->Aa
open _root_.List renaming all_eq_true->Av,cons_append->AD,drop_drop->BM,drop_eq_nil_of_le->Br,drop_left->Dl,drop_zero->BQ,eq_nil_of_length_eq_zero->AO,getElem?_drop->A9,getElem?_eq_getElem->Ak,getElem?_eq_none->BH,getElem?_eq_some_iff->A1,getElem?_take->AK,getElem_append_left->BL,getElem_append_right->BW,getElem_mem->AE,length_append->Ah,length_cons->Aq,length_drop->AI,length_eq_zero_iff->Bl,length_nil->A4,length_range->C3,length_take->AN,mapM_cons->DC,map_cons->As,mem_append->Aw,mem_append_left->Ar,mem_append_right->AC,mem_cons->Ai,mem_cons_of_mem->Ae,mem_cons_self->Am,mem_filter->Cf,mem_range->AU,nil_append->A8,nodup_cons->Ba,pairwise_append->Cs,pairwise_cons->Be,pairwise_lt_range->CM,range->Bj,replicate->BC,take_append_of_le_length->CH,take_left->Cu,take_length->A5,take_succ_eq_append_getElem->Ay,take_take->DF
open _root_.List.cons renaming injEq->BN
open _root_.Nat renaming add_assoc->CP,add_mul->BZ,blt_eq->Cm,eq_of_beq_eq_true->Al,eq_zero_or_pos->CX,le_of_ble_eq_true->BS,le_refl->Ab,le_trans->BX,lt_of_lt_of_le->CV,lt_or_ge->AX,min_eq_left->Cj,mul_comm->C4,mul_le_mul_right->AQ,one_mul->Dn,strongRecOn->Dc,succ_mul->CN,zero_add->AL,zero_mul->DD
open _root_.Go.Next renaming value->C5
open _root_.Go.Op renaming equal->DV
open _root_.Option renaming bind_some->CC,map_eq_some_iff->Ck
open _root_.Option.some renaming inj->Az,injEq->Ac
open _root_.Prod.mk renaming injEq->Bi
open _root_.Pure renaming pure->C2
open _root_.Go.Region renaming wanted->BU
open _root_.Go.Result.ok renaming injEq->DT
open _root_.Go.Value renaming int->Bn,string->A3
open _root_.Go.Value.slice renaming injEq->AP
set_option linter.unusedVariables false
set_option maxRecDepth 100000
namespace Go.X
end Go.X
namespace Go.Proofs
end Go.Proofs
open Go Go.X Go.Proofs
open _root_.Bool renaming true->Ta,false->Tc
open _root_.Option renaming some->Td,none->Te
section
namespace Go.X
section
abbrev Bt:= ByteArray
variable {i n m:Nat} {v u:Value} {a:Act} {o:Oper}
abbrev zb:=Array Obj
abbrev zx:=List (Nat×Bool)
abbrev Env:=List (Nat×zx×Value)
def mk(B:World)(d:Nat)(h:zb):World:={ B with heap:=h,drawn:=d }
def look:Env->Nat->Option (zx×Value)
 |[],_=>Te
 |(j,c,v)::e,i=>bif Nat.beq i j then Td (c,v)else look e i
def valid(σ:Nat->Value):zx->Prop
 |[]=>True
 |(g,p)::c=>σ g=.bool p/\valid σ c
def zz(a:Act)(i:Nat):Value:=a.tmps.getD i undef
def fact(σ:Nat->Value)(x:Nat×zx×Value):Prop:=(valid σ x.2.1->σ x.1=x.2.2)/\(¬valid σ x.2.1->σ x.1=undef)
structure Sat (n:Nat) (e:Env) (a:Act):Prop where
 defers:a.defers=[]
 size:a.tmps.size=n
 all:∀x∈e,fact (zz a) x
def mentions:zx->Nat->Bool
 |[],_=>Tc
 |(g,_)::c,i=>bif Nat.beq i g then Ta else mentions c i
def del:Env->Nat->Env
 |[],_=>[]
 |(j,c,v)::e,i=>bif (bif Nat.beq i j then Ta else mentions c i)then del e i else(j,c,v)::del e i
def put(e:Env)(i:Nat)(c:zx)(v:Value):Env:=(i,c,v)::del e i
def putO(e:Env):Option Nat->zx->Value->Env
 |none,_,_=>e
 |some d,c,v=>put e d c v
def clean:Env->Env
 |[]=>[]
 |(j,[],v)::e=>(j,[],v)::clean e
 |(_,_::_,_)::e=>clean e
theorem za5{e:Env}{c:zx}(h:look e i=Td (c,v)):(i,c,v)∈e:=by
 induction e with
 |nil=>cases h
 |cons x e f=>obtain⟨j,k,l⟩:=x;simp only[look]at h;by_cases b:Nat.beq i j=Ta;simp only[b,cond_true,Ac,Bi]at h;obtain⟨rfl,rfl⟩:=h;rw[Al b];exact Am;simp only[b,cond_false]at h;exact Ae _ (f h)
theorem qee{e:Env}{x:Nat×zx×Value}(h:x∈del e i):x∈e/\x.1≠i/\mentions x.2.1 i=Tc:=by
 induction e with
 |nil=>cases h
 |cons y e b=>
  obtain⟨j,m,o⟩:=y;simp only[del]at h;by_cases k:Nat.beq i j=Ta;simp only[k,cond_true]at h;exact⟨Ae _ (b h).1,(b h).2⟩;have l:Nat.beq i j=Tc:=Bool.eq_false_iff.2 k;simp only[l,cond_false]at h;by_cases n:mentions m i=Ta;simp only[n,cond_true]at h;exact⟨Ae _ (b h).1,(b h).2⟩;have c:mentions m i=Tc:=by simpa using n
  simp only[c,cond_false]at h;rcases Ai.1 h with rfl|h;refine⟨Am,λf=>?_,c⟩;simp only at f;rw[f]at k;exact k (by simp);exact⟨Ae _ (b h).1,(b h).2⟩
theorem z2a{e:Env}{x:Nat×zx×Value}(h:x∈clean e):x∈e/\x.2.1=[]:=by
 induction e with
 |nil=>cases h
 |cons y e b=>
  obtain⟨j,f,i⟩:=y;cases f with
  |nil=>simp only[clean]at h;rcases Ai.1 h with rfl|h;exact⟨Am,rfl⟩;exact⟨Ae _ (b h).1,(b h).2⟩
  |cons c cs=>simp only[clean]at h;exact⟨Ae _ (b h).1,(b h).2⟩
theorem Sat.sub{e e':Env}(h:Sat n e a)(b:∀x∈e',x∈e):Sat n e' a:=⟨h.defers,h.size,λx c=>h.all x (b x c)⟩
theorem Sat.clean{n:Nat}{e:Env}{a:Act}(h:Sat n e a):Sat n (clean e) a:=h.sub λ_ b=>(z2a b).1
theorem Zl{σ τ:Nat->Value}{c:zx}(b:mentions c i=Tc)(h:∀j,j≠i->σ j=τ j):valid σ c↔valid τ c:=by
 induction c with
 |nil=>exact Iff.rfl
 |cons x c l=>obtain⟨g,p⟩:=x;simp only[mentions]at b;by_cases f:Nat.beq i g=Ta;simp[f]at b;simp only[f,cond_false]at b;have k:g≠i:=λe=>f (by rw[e];simp);simp only[valid,h g k,l b]
theorem w8(hi:i<a.tmps.size):zz (a.put (Td i) u) i=u:=by simp[zz,Act.put,hi]
theorem qe{i j:Nat}(h:j≠i):zz (a.put (Td i) u) j=zz a j:=by simp[zz,Act.put,AB (Ne.symm h)]
theorem size_put(a:Act)(d:Option Nat)(u:Value):(a.put d u).tmps.size=a.tmps.size:=by cases d <;> simp[Act.put]
theorem xh(a:Act)(d:Option Nat)(u:Value):(a.put d u).defers=a.defers:=by cases d <;> simp[Act.put]
theorem Sat.put{n:Nat}{e:Env}{a:Act}(h:Sat n e a){i:Nat}{c:zx}{v u:Value}(hi:i<n)(w:mentions c i=Tc)
  (t:valid (zz a) c->u=v) (r:¬valid (zz a) c->u=undef):Sat n (put e i c v) (a.put (Td i) u):=by
 refine⟨by rw[xh];exact h.defers,by rw[size_put];exact h.size,λx m=>?_⟩;have k:i<a.tmps.size:=by rw[h.size];exact hi
 rcases Ai.1 m with rfl|m;have l:=Zl (σ:=zz (a.put (Td i) u)) (τ:=zz a) w (λj o=>qe o);refine⟨λf=>?_,λf=>?_⟩;exact(w8 k).trans (t (l.1 f));exact(w8 k).trans (r (λb=>f (l.2 b)));obtain⟨h1,q,s⟩:=qee m;have l:=Zl (σ:=zz (a.put (Td i) u)) (τ:=zz a) s (λj o=>qe o);have p:=h.all x h1;refine⟨λf=>?_,λf=>?_⟩;exact(qe q).trans (p.1 (l.1 f));exact(qe q).trans (p.2 (λb=>f (l.2 b)))
def jk(n:Nat)(c:zx):Option Nat->Bool
 |none=>Ta
 |some d=>bif mentions c d then Tc else Nat.blt d n
theorem Sat.putO{n:Nat}{e:Env}{a:Act}(h:Sat n e a){d:Option Nat}{c:zx}{v u:Value}(f:jk n c d=Ta)
  (m:valid (zz a) c->u=v) (l:¬valid (zz a) c->u=undef):Sat n (putO e d c v) (a.put d u):=by
 cases d with
 |none=>exact h
 |some i=>
  simp only[jk]at f;by_cases k:mentions c i=Ta;simp[k]at f;have b:mentions c i=Tc:=by simpa using k
  simp only[b,cond_false]at f;exact h.put (by simpa[Cm]using f) b m l
def Zm:zx->zx->Bool
 |[],[]=>Ta
 |(g,p)::c,(g',p')::c'=>bif Nat.beq g g' then(bif p then(bif p' then Zm c c' else Tc)else(bif p' then Tc else Zm c c'))else Tc
 |_,_=>Tc
theorem Ja:∀{c b:zx},Zm c b=Ta->c=b
 |[],[],_=>rfl
 |[],_::_,h=>by simp[Zm]at h
 |_::_,[],h=>by simp[Zm]at h
 |(g,p)::c,(g',p')::b,h=>by simp only[Zm]at h;by_cases e:Nat.beq g g'=Ta;simp only[e,cond_true]at h;have f:=Al e;cases p <;> cases p' <;> simp at h <;> rw[f,Ja h];simp[e]at h
def suf(cs:zx):zx->Bool
 |[]=>Zm cs []
 |x::c=>bif Zm cs (x::c)then Ta else suf cs c
theorem Jb{σ:Nat->Value}{cs:zx}:∀{c:zx},suf cs c=Ta->valid σ c->valid σ cs
 |[],h,_=>by rw[Ja h];trivial
 |x::c,h,hv=>by simp only[suf]at h;by_cases b:Zm cs (x::c)=Ta;rw[Ja b];exact hv;simp only[b,cond_false]at h;exact Jb h hv.2
def X1(e:Env)(c:zx):Operand->Option Value
 |.tmp t=>match look e t with
  |some (cs,v)=>bif suf cs c then Td v else Te
  |none=>Te
 |.const v=>Td v
 |.global g=>Td (.pointer (Td ⟨g,0,Te⟩))
 |.func f=>Td (.func (.func f) #[] #[])
theorem qn{e:Env}(h:Sat n e a){c:zx}(l:valid (zz a) c){x:Operand}(b:X1 e c x=Td v):a.eval x=v:=by
 cases x with
 |tmp t=>simp only[X1]at b;split at b;rename_i cs u k;by_cases i:suf cs c=Ta;simp only[i,cond_true,Ac]at b;subst b;exact(h.all _ (za5 k)).1 (Jb i l);simp[i]at b;cases b
 |const u=>simp only[X1,Ac]at b;exact b
 |global g=>simp only[X1,Ac]at b;exact b
 |func f=>simp only[X1,Ac]at b;exact b
def rho(e:Env)(c:zx)(x:Operand):Value:=match X1 e c x with
 |some v=>v
 |none=>undef
def known(e:Env)(c:zx):List Operand->Bool
 |[]=>Ta
 |x::l=>match X1 e c x with
  |some _=>known e c l
  |none=>Tc
theorem J6{e:Env}(h:Sat n e a){c:zx}(k:valid (zz a) c){l:List Operand}(f:known e c l=Ta):∀x∈l,a.eval x=rho e c x:=by
 induction l with
 |nil=>intro x b;cases b
 |cons y l m=>intro x b;simp only[known]at f;split at f;rename_i v i;rcases Ai.1 b with rfl|b;rw[qn h k i];simp[rho,i];exact m f x b;cases f
def Yg:Op->Bool
 |.select _ _=>Tc
 |_=>Ta
theorem zh4{e:Env}(h:Sat n e a){c:zx}(i:valid (zz a) c)(f:Yg o.op=Ta)(m:known e c o.op.operands.toList=Ta):
  execOp a.eval o=execOp (rho e c) o:=
 execOp_congr o (λcs b l=>by rw[l]at f;cases f) λx k=>J6 h i m x (by simpa using k)
def yv(ops:Array Oper)(j:Nat):Option Nat:=match ops[j]? with
 |some o=>o.dst
 |none=>Te
def J7(ops:Array Oper)(e:Env):Option (Nat×Bool)->Option zx
 |none=>Td []
 |some (j,p)=>match yv ops j with
  |some g=>match look e g with
   |some (cg,.bool _)=>Td ((g,p)::cg)
   |_=>Te
  |none=>Te
def z2b(e:Env):zx->Option Bool
 |[]=>Td Ta
 |(g,p)::c=>match look e g with
  |some (cg,.bool b)=>bif Zm cg c then(match z2b e c with
    |some f=>Td (f&&(bif p then b else !b))
    |none=>Te)else Te
  |_=>Te
theorem zdh{b:Bool}:undef≠.bool b:=by simp[undef]
theorem zb3{n:Nat}{e:Env}{a:Act}(h:Sat n e a):∀{c:zx} {b:Bool},z2b e c=Td b->(b=Ta↔valid (zz a) c)
 |[],b,hb=>by simp only[z2b,Ac]at hb;simp[<-hb,valid]
 |(g,p)::c,b,hb=>by
  simp only[z2b]at hb;split at hb;rename_i s o r;by_cases k:Zm s c=Ta;simp only[k,cond_true]at hb;split at hb;rename_i l i;simp only[Ac]at hb;have m:=zb3 h i;have q:=h.all _ (za5 r);rw[Ja k]at q;by_cases f:valid (zz a) c;have h1:zz a g=.bool o:=q.1 f;have t:=m.2 f;subst hb;simp only[valid,h1,f,t,Cc,and_true,Value.bool.injEq];cases p <;> cases o <;> simp;have h1:l=Tc:=by cases l with|false=>rfl|true=>exact absurd (m.1 rfl) f
  subst hb;simp[valid,f,h1];cases hb;simp[k]at hb;cases hb
theorem X3{ops:Array Oper}{e:Env}(h:Sat n e a){c:zx}(f:J7 ops e o.guard=Td c):
  BU o (yielded ops a.tmps)=Ta↔valid (zz a) c:=by
 unfold BU;cases hg:o.guard with
 |none=>rw[hg]at f;simp only[J7,Ac]at f;simp[<-f,valid]
 |some q=>
  obtain⟨j,p⟩:=q;rw[hg]at f;simp only[J7]at f;split at f;rename_i g i;split at f;rename_i s b r;simp only[Ac]at f;subst f;have k:((ops[j]?).bind (·.dst))=Td g:=by simp only[yv]at i;split at i;rename_i w l;simp[l,i];cases i
  have u:=h.all _ (za5 r);have t:yielded ops a.tmps j=Td p↔zz a g=.bool p:=by
   unfold yielded zz;rw[k];simp only[CC];cases ht:a.tmps[g]? with
   |none=>simp[BI,ht,undef]
   |some v=>cases v <;> simp[BI,ht]
  simp only[beq_iff_eq,t,valid];constructor;intro h1;refine⟨h1,?_⟩;by_cases m:valid (zz a) s;exact m;have:=u.2 m;simp only at this;rw[h1]at this;exact absurd this.symm zdh;exact λh1=>h1.1;cases f;cases f
structure Keep (n:Nat) (h h':zb):Prop where
 size:h.size<=h'.size
 get:∀i,i<n->h'[i]?=h[i]?
theorem Keep.refl(n:Nat)(h:zb):Keep n h h:=⟨Ab _,λ_ _=>rfl⟩
theorem Keep.trans{a b c:zb}(h:Keep n a b)(k:Keep m b c)(e:n<=m):Keep n a c:= ⟨BX h.size k.size,λi hi=>(k.get i (CV hi e)).trans (h.get i hi)⟩
theorem Keep.mono{a b:zb}(h:Keep n a b)(c:m<=n):Keep m a b:=⟨h.size,λi hi=>h.get i (CV hi c)⟩
theorem Keep.push(h:zb)(o:Obj)(b:n<=h.size):Keep n h (h.push o):= ⟨by simp,λi hi=>by rw[BV,if_neg (by omega)]⟩
end
section
variable {P:Program} {α:Type} {h:zb} {v x i:Value} {t:TypeId} {g:Option Bool} {n l r:Int}
def zc(h:zb)(a:Addr):Option Value:=
 match h[a.block]? with
 |some (.cells c _ _)=>if a.spot.isSome then Te else c[a.off]?
 |_=>Te
theorem zur(B:World)(d:Nat)(h:zb)(a:Addr):(mk B d h).cell? a=zc h a:=rfl
def Ym(P:Program){α:Type}:Sem α->Option α
 |.pure a=>Td a
 |.program k=>Ym P (k P)
 |.mark _ k=>Ym P k
 |_=>Te
def QExec(P:Program){α:Type}(s:Sem α)(h:zb)(x:α):Prop:=∀B d,s.run P (mk B d h)=.ok x (mk B d h)
theorem zgy{s:Sem α}{x:α}(h:Ym P s=Td x)(w:World):s.run P w=.ok x w:=by
 induction s with
 |pure a=>simp only[Ym,Ac]at h;subst h;rfl
 |program k b=>exact b P h
 |mark m k b=>exact b h
 |_=>simp[Ym]at h
theorem zlk{s:Sem α}{x:α}(h:Ym P s=Td x)(b:zb):QExec P s b x:=λ_ _=>zgy h _
theorem QExec.bind{α β:Type}{s:Sem α}{f:α->Sem β}{x:α}{y:β}(h1:QExec P s h x)(b:QExec P (f x) h y):QExec P (s >>= f) h y:=by intro B d;rw[Sem.run_bind,h1 B d];exact b B d
theorem QExec.pure(x:α):QExec P (C2 x) h x:=λ_ _=>rfl
theorem QExec.val{s:Sem Value}(h1:QExec P s h v):QExec P (s >>= λx=>C2 (C5 x)) h (C5 v):=h1.bind (QExec.pure _)
theorem QExec.underlying{d:TypeDesc}(b:P.underlying t=Td d):QExec P (Go.underlying t) h d:=by intro B e;simp[Go.underlying,program,b,Sem.run]
def qi(P:Program)(t:TypeId):Nat:=match P.info? t with
 |some i=>i.size
 |none=>0
theorem QExec.sizeOf{i:TypeInfo}(hi:P.info? t=Td i):QExec P (Go.sizeOf t) h (qi P t):=by intro B d;simp[Go.sizeOf,typeInfo,program,hi,Sem.run,qi]
theorem info_of_underlying{d:TypeDesc}(b:P.underlying t=Td d):∃i,P.info? t=Td i:=by
 unfold Program.underlying at b;cases h:P.info? t with
 |none=>rw[h]at b;cases b
 |some i=>exact⟨i,rfl⟩
inductive Atom where
 |int (k:IntKind)|bool|str|sl|mp|ptr|raw|ad
structure Sl where
 a:Option Addr
 len:Nat
 cap:Nat
@[reducible] def Atom.den:Atom->Type
 |.int _=>Int | .bool=>Bool | .str=>Bt | .sl=>Sl | .mp=>Option Nat | .ptr=>Option Addr | .raw=>Value | .ad=>Addr
def Atom.enc:(t:Atom)->t.den->Value
 |.int k,n=>.int k n
 |.bool,b=>.bool b
 |.str,s=>.string s
 |.sl,s=>.slice s.a s.len s.cap
 |.mp,m=>.map m
 |.ptr,p=>.pointer p
 |.raw,v=>v
 |.ad,p=>.pointer (Td p)
def Atom.dec:(t:Atom)->Value->Option t.den
 |.int k,.int k' n=>if k=k' then Td n else Te
 |.bool,.bool b=>Td b
 |.str,.string s=>Td s
 |.sl,.slice a l c=>Td ⟨a,l,c⟩
 |.mp,.map m=>Td m
 |.ptr,.pointer p=>Td p
 |.raw,v=>Td v
 |.ad,.pointer (Td p)=>Td p
 |_,_=>Te
theorem Atom.enc_of_dec{t:Atom}{x:t.den}(h:t.dec v=Td x):t.enc x=v:=by
 cases t with
 |ad=>
  cases v with
  |pointer p=>
   cases p with
   |none=>simp[Atom.dec]at h
   |some a=>simp[Atom.dec]at h;rw[h];rfl
  |_=>simp[Atom.dec]at h
 |_=>cases v <;> simp_all[Atom.dec,Atom.enc] <;> (subst h;first|rfl|exact⟨rfl,rfl,rfl⟩)
inductive VT where
 |one (t:Atom)
 |agg (l:List Atom)
inductive RT where
 |one (v:VT)
 |tup (l:List VT)
def zn2:List Atom->(List Value->Prop)->Prop
 |[],F=>F []
 |t::l,F=>∃x:t.den,zn2 l λvs=>F (t.enc x::vs)
def qk5:VT->(Value->Prop)->Prop
 |.one t,F=>∃x:t.den,F (t.enc x)
 |.agg l,F=>zn2 l λvs=>F (.agg vs.toArray)
def qef:List VT->(List Value->Prop)->Prop
 |[],F=>F []
 |t::l,F=>qk5 t λv=>qef l λvs=>F (v::vs)
def qc3:RT->(Value->Prop)->Prop
 |.one v,F=>qk5 v F
 |.tup l,F=>qef l λvs=>F (.tuple vs.toArray)
def zdi:List Atom->(List Value->Prop)->Prop
 |[],F=>F []
 |t::l,F=>∀x:t.den,zdi l λvs=>F (t.enc x::vs)
def z2c:VT->(Value->Prop)->Prop
 |.one t,F=>∀x:t.den,F (t.enc x)
 |.agg l,F=>zdi l λvs=>F (.agg vs.toArray)
def zma:List VT->(List Value->Prop)->Prop
 |[],F=>F []
 |t::l,F=>z2c t λv=>zma l λvs=>F (v::vs)
def qhm:RT->(Value->Prop)->Prop
 |.one v,F=>z2c v F
 |.tup l,F=>zma l λvs=>F (.tuple vs.toArray)
theorem Jc:∀{l:List Atom} {F G:List Value->Prop},zn2 l F->zdi l G->∃vs,vs.length=l.length/\F vs/\G vs
 |[],_,_,h,g=>⟨[],rfl,h,g⟩
 |_::_,_,_,⟨x,h⟩,g=>let ⟨vs,h0,h1,h2⟩:=Jc h (g x);⟨_,by simp[h0],h1,h2⟩
theorem wq:∀(l:List Atom),zdi l λ_=>True
 |[]=>trivial
 |_::l=>λ_=>wq l
theorem zus{v:VT}{F G:Value->Prop}(h:qk5 v F)(g:z2c v G):∃u,F u/\G u:=by
 cases v with
 |one t=>obtain⟨x,h⟩:=h;exact⟨_,h,g x⟩
 |agg l=>obtain⟨vs,_,h1,b⟩:=Jc h g;exact⟨_,h1,b⟩
theorem zut(v:VT):z2c v λ_=>True:=by
 cases v with
 |one t=>exact λ_=>trivial
 |agg l=>exact wq l
theorem zn3:∀{l:List VT} {F G:List Value->Prop},qef l F->zma l G->∃vs,F vs/\G vs
 |[],_,_,h,g=>⟨[],h,g⟩
 |_::_,_,_,h,g=>let ⟨_,h1,h2⟩:=zus h g;let ⟨_,h3,h4⟩:=zn3 h1 h2;⟨_,h3,h4⟩
theorem zgz:∀(l:List VT),zma l λ_=>True
 |[]=>trivial
 |v::l=>by
  have h:=zgz l;simp only[zma];cases v with
  |one t=>exact λ_=>h
  |agg b=>
   simp only[z2c];have key:∀(b:List Atom) (f:List Value->List Value),zdi b λ_=>zma l λ_=>True:=λb _=>by
    induction b with
    |nil=>exact h
    |cons t b c=>exact λ_=>c
   exact key b id
theorem z2d{r:RT}{F G:Value->Prop}(h:qc3 r F)(g:qhm r G):∃v,F v/\G v:=by
 cases r with
 |one v=>exact zus h g
 |tup l=>obtain⟨vs,h1,b⟩:=zn3 h g;exact⟨_,h1,b⟩
theorem zn4{r:RT}{F:Value->Prop}(h:qc3 r F):∃v,F v:=by
 cases r with
 |one v=>obtain⟨u,h1,_⟩:=zus h (zut v);exact⟨u,h1⟩
 |tup l=>obtain⟨vs,h1,_⟩:=zn3 h (zgz l);exact⟨_,h1⟩
def qc4:TypeDesc->Atom
 |.int k=>.int k
 |.bool=>.bool
 |.string=>.str
 |.slice _=>.sl
 |.map _ _=>.mp
 |.pointer _=>.ptr
 |_=>.raw
def zn5(P:Program):Nat->TypeId->Option (List Atom)
 |0,_=>Te
 |n+1,t=>match P.underlying t with
  |some (.struct fs)=>fs.toList.foldr (λf l=>match zn5 P n f.type,l with
    |some x,some y=>Td (x++y)
    |_,_=>Te) (Td [])
  |some (.array m e)=>match zn5 P n e with
    |some x=>Td (BC m x).flatten
    |none=>Te
  |some d=>Td [qc4 d]
  |none=>Te
def z1w(P:Program)(t:TypeId):Option VT:=match P.underlying t with
 |some (.struct _)|some (.array _ _)=>match zn5 P 8 t with
  |some l=>bif Nat.beq l.length (qi P t)then Td (.agg l)else Te
  |none=>Te
 |some d=>Td (.one (qc4 d))
 |none=>Te
def qhn(P:Program):List TypeId->Option (List VT)
 |[]=>Td []
 |t::l=>match z1w P t,qhn P l with
  |some x,some y=>Td (x::y)
  |_,_=>Te
def qho(P:Program)(t:TypeId):Option RT:=match P.underlying t with
 |some (.tuple ts)=>match qhn P ts.toList with
  |some l=>Td (.tup l)
  |none=>Te
 |_=>match z1w P t with
  |some v=>Td (.one v)
  |none=>Te
def req:Option Bool->Prop->Prop
 |none,p=>p
 |some b,p=>b=Ta->p
def gok:Option Bool->Prop
 |none=>True
 |some b=>b=Ta
theorem req.out{p:Prop}(h:req g p)(c:gok g):p:=by
 cases g with
 |none=>exact h
 |some b=>exact h c
def zd(h:zb)(p:Addr):Nat->List Value->Prop
 |_,[]=>True
 |i,v::vs=>zc h (p.add i)=Td v/\zd h p (i+1) vs
def zq1(P:Program)(h:zb)(t:TypeId)(p:Value)(g:Option Bool)(K:Value->Prop):Prop:=
 match p,z1w P t with
 |.pointer (Td p),Td (.one a)=>∃x:a.den,req g (zc h p=Td (a.enc x))/\K (a.enc x)
 |.pointer (Td p),Td (.agg l)=>zn2 l λvs=>req g (zd h p 0 vs)/\K (.agg vs.toArray)
 |_,_=>False
theorem X4{P:Program}{h:zb}{p:Addr}:∀(vs:List Value) (i:Nat) (b:Array Value),zd h p i vs->QExec P (loadCellsFrom p i vs.length b) h (b++vs.toArray)
 |[],i,b,_=>by intro B d;simp[loadCellsFrom]
 |v::vs,i,b,⟨h1,h2⟩=>by have c:=X4 (P:=P) vs (i+1) (b.push v) h2;intro B d;simp only[Aq,loadCellsFrom,Sem.run_bind,run_load];rw[zur,h1];simp only[Result.andThen_ok];rw[c B d];simp
theorem zh5{a:Atom}{p:Addr}(c:z1w P t=Td (.one a))(f:zc h p=Td v):QExec P (loadVar t p) h v:=by
 unfold z1w at c;cases hu:P.underlying t with
 |none=>rw[hu]at c;cases c
 |some d=>
  rw[hu]at c;intro B e;have i:=QExec.underlying (h:=h) hu B e;have b:(isAgg t).run P (mk B e h)=.ok Tc (mk B e h):=by unfold isAgg;rw[Sem.run_bind,i];cases d <;> first|rfl|(exfalso;revert c;dsimp only;split <;> first|(intro h;cases h;done)|(cases k:Nat.beq _ _ <;> intro h <;> cases h))
  unfold loadVar;rw[Sem.run_bind,b];simp only[Result.andThen_ok,Bc,if_false,run_load];rw[zur,f]
theorem zh6{l:List Atom}{p:Addr}{vs:List Value}(f:z1w P t=Td (.agg l))(u:vs.length=l.length)(w:zd h p 0 vs):QExec P (loadVar t p) h (.agg vs.toArray):=by
 unfold z1w at f;cases hu:P.underlying t with
 |none=>rw[hu]at f;cases f
 |some d=>
  rw[hu]at f;obtain⟨i,hi⟩:=info_of_underlying hu;have b:(∃k,d=.struct k)\/(∃n e,d=.array n e):=by cases d <;> first|exact Or.inl ⟨_,rfl⟩|exact Or.inr ⟨_,_,rfl⟩|(simp at f)
  have m:qi P t=l.length:=by
   have c:(match zn5 P 8 t with
     |some l=>bif Nat.beq l.length (qi P t)then Td (VT.agg l)else Te
     |none=>Te)=Td (.agg l):=by
    rcases b with⟨k,rfl⟩|⟨n,e,rfl⟩ <;> exact f
   split at c;rename_i o _;cases hb:Nat.beq o.length (qi P t)with
   |false=>rw[hb]at c;cases c
   |true=>rw[hb]at c;simp only[cond_true,Ac,VT.agg.injEq]at c;rw[<-c];exact(Al hb).symm
   cases c
  intro B e;have q:=QExec.underlying (h:=h) hu B e;have hA:(isAgg t).run P (mk B e h)=.ok Ta (mk B e h):=by unfold isAgg;rw[Sem.run_bind,q];rcases b with⟨k,rfl⟩|⟨n,e',rfl⟩ <;> rfl
  have s:=QExec.sizeOf (h:=h) hi B e;unfold loadVar;rw[Sem.run_bind,hA];simp only[Result.andThen_ok,if_true];rw[Sem.run_bind,s];simp only[Result.andThen_ok];have r:=X4 (P:=P) vs 0 #[] w B e;unfold loadCells;rw[Sem.run_bind,m,<-u,r];simp
theorem ziq{p:Value}{K:Value->Prop}(H:zq1 P h t p g K):
  ∃v,K v/\(gok g->QExec P (Dp t p) h v):=by
 unfold zq1 at H;split at H;rename_i q a c;obtain⟨x,h1,e⟩:=H;exact⟨_,e,λb=>zh5 c (h1.out b)⟩;rename_i q l c;obtain⟨vs,h0,⟨h1,e⟩,_⟩:=Jc H (wq l);exact⟨_,e,λb=>zh6 c h0 (h1.out b)⟩;exact H.elim
def zq2(P:Program)(t:TypeId)(x i:Value)(g:Option Bool)(K:Value->Prop):Prop:=
 match P.underlying t with
 |some (.slice el)=>match x,i with
  |.slice base len _,.int _ n=>∃a:Addr,req g (base=Td a/\0<=n/\n<(len:Int))/\K (.pointer (Td (a.add (n.toNat*qi P el))))
  |_,_=>False
 |some (.array len el)=>match x,i with
  |.pointer base,.int _ n=>∃a:Addr,req g (base=Td a/\0<=n/\n<(len:Int))/\K (.pointer (Td (a.add (n.toNat*qi P el))))
  |_,_=>False
 |_=>False
def qc(P:Program)(t:TypeId):Bool:=match P.info? t with
 |some _=>Ta
 |none=>Tc
theorem je(h:qc P t=Ta):∃i,P.info? t=Td i:=by unfold qc at h;split at h;exact⟨_,by assumption⟩;cases h
theorem w9(t:TypeId)(B:World)(d:Nat):(∃i,P.info? t=Td i)->(Go.sizeOf t).run P (mk B d h)=.ok (qi P t) (mk B d h):=λ⟨_,hi⟩=>QExec.sizeOf hi B d
theorem Zu{K:Value->Prop} (b:∀el,(P.underlying t=Td (.slice el)\/∃n,P.underlying t=Td (.array n el))->∃i,P.info? el=Td i) (H:zq2 P t x i g K):
  ∃v,K v/\(gok g->∀h:zb,QExec P (DN t x i) h v):=by
 unfold zq2 at H;split at H;rename_i el c;split at H;rename_i base len cap k n;obtain⟨a,h1,p⟩:=H;refine⟨_,p,λm=>?_⟩;obtain⟨rfl,o,e⟩:=h1.out m;intro h B d;have f:=QExec.underlying (h:=h) c B d;have l:=w9 (h:=h) el B d (b el (Or.inl c));unfold DN;simp[asIntOf,Sem.run_bind,f,l,o,e];exact H.elim;rename_i len el c;split at H;rename_i base k n;obtain⟨a,h1,p⟩:=H;refine⟨_,p,λm=>?_⟩;obtain⟨rfl,o,e⟩:=h1.out m;intro h B d;have f:=QExec.underlying (h:=h) c B d;have l:=w9 (h:=h) el B d (b el (Or.inr ⟨_,c⟩));unfold DN;simp[asIntOf,Sem.run_bind,f,l,o,e,Dj];exact H.elim;exact H.elim
def zr(s:Bt)(i:Nat):Int:=((s.data[i]?.getD 0).toNat:Int)
def zir(x i:Value)(g:Option Bool)(K:Value->Prop):Prop:=
 match x,i with
 |.string s,.int _ n=>req g (0<=n/\n<(s.size:Int))/\K (.int .u8 (zr s n.toNat))
 |_,_=>False
theorem qhp(s:Bt)(i:Nat)(h:i<s.size):s[i]?=Td (s.data[i]?.getD 0):=by have h':i<s.data.size:=h;rw[getElem?_pos s i h];simp[Bo h'];rfl
theorem X5{K:Value->Prop}(l:P.underlying t=Td .string)(H:zir x i g K):
  ∃v,K v/\(gok g->∀h:zb,QExec P (Instr.index t x i) h v):=by
 unfold zir at H;split at H;rename_i s k n;obtain⟨h1,m⟩:=H;refine⟨_,m,λb=>?_⟩;obtain⟨f,o⟩:=h1.out b;intro h B d;have e:=QExec.underlying (h:=h) l B d;unfold Instr.index;have c:=qhp s n.toNat (by omega);simp only[asIntOf,Sem.run_bind,e,Sem.run_pure,Result.andThen_ok,f,if_true,c,zr];exact H.elim
def ze7(a:Option Addr)(sz l m:Nat):Option Addr:=if m=l then a else a.map (·.add (l*sz))
def ym:Option Value->Int->Option Int
 |none,d=>Td d
 |some (.int _ n),_=>Td n
 |some _,_=>Te
def zwz(P:Program)(t:TypeId)(x:Value)(lo hi mx:Option Value)(g:Option Bool)(K:Value->Prop):Prop:=
 match P.underlying t with
 |some .string=>match x,mx with
  |.string s,none=>match ym lo 0,ym hi (s.size:Int)with
   |some l,some r=>req g (0<=l/\l<=r/\r<=(s.size:Int))/\K (.string (s.extract l.toNat r.toNat))
   |_,_=>False
  |_,_=>False
 |some (.slice el)=>match x with
  |.slice a len cap=>match ym lo 0,ym hi (len:Int),ym mx (cap:Int)with
   |some l,Td r,some m=>(mx=Te\/∃v,hi=Td v)/\req g (0<=l/\l<=r/\r<=m/\m<=(cap:Int))/\K (.slice (ze7 a (qi P el) l.toNat m.toNat) (r.toNat-l.toNat) (m.toNat-l.toNat))
   |_,_,_=>False
  |_=>False
 |some (.array n el)=>match x,mx with
  |.pointer (Td a),none=>match ym lo 0,ym hi (n:Int)with
   |some l,some r=>req g (0<=l/\l<=r/\r<=(n:Int))/\K (.slice (ze7 (Td a) (qi P el) l.toNat n) (r.toNat-l.toNat) (n-l.toNat))
   |_,_=>False
  |_,_=>False
 |_=>False
theorem jf{v:Option Value}{d n:Int}(h:ym v d=Td n):(v=Te/\n=d)\/∃k,v=Td (.int k n):=by unfold ym at h;split at h;exact Or.inl ⟨rfl,by simpa using h.symm⟩;simp only[Ac]at h;exact Or.inr ⟨_,by rw[h]⟩;cases h
theorem yw{k:IntKind}{y:Nat}{c:BoundsCode}(h0:0<=n)(h1:n<=(y:Int)):QExec P (Instr.sliceBound (.int k n) y c) h n.toNat:=by intro B d;simp[Instr.sliceBound,asIntOf,h0,h1]
theorem zmb{n:Nat}{lo hi:Option Value}(f:ym lo 0=Td l)(m:ym hi (n:Int)=Td r)(c:0<=l)(i:l<=r)(b:r<=(n:Int)):
  QExec P (Instr.sliceBounds Tc n n lo hi Te) h (l.toNat,r.toNat,n):=by
 have e:(r.toNat:Int)=r:=Int.toNat_of_nonneg (by omega);rcases jf f with⟨rfl,rfl⟩|⟨k,rfl⟩ <;> rcases jf m with⟨rfl,rfl⟩|⟨k',rfl⟩;exact QExec.pure _;exact QExec.bind (QExec.pure n) (QExec.bind (yw (by omega) b) (QExec.pure _));exact QExec.bind (QExec.pure n) (QExec.bind (QExec.pure n) (QExec.bind (yw c i) (QExec.pure _)));exact QExec.bind (QExec.pure n) (QExec.bind (yw (by omega) b) (QExec.bind (yw c (by omega)) (QExec.pure _)))
theorem zq3{len cap:Nat}{lo hi mx:Option Value}{l r m:Int}(n:ym lo 0=Td l)(i:ym hi (len:Int)=Td r)(s:ym mx (cap:Int)=Td m) (h0:mx=Te\/∃v,hi=Td v) (c:0<=l) (p:l<=r) (o:r<=m) (f:m<=(cap:Int)):
  QExec P (Instr.sliceBounds Ta len cap lo hi mx) h (l.toNat,r.toNat,m.toNat):=by
 have e:(r.toNat:Int)=r:=Int.toNat_of_nonneg (by omega);have u:(m.toNat:Int)=m:=Int.toNat_of_nonneg (by omega);rcases jf s with⟨rfl,rfl⟩|⟨t,rfl⟩;rcases jf n with⟨rfl,rfl⟩|⟨k,rfl⟩ <;> rcases jf i with⟨rfl,rfl⟩|⟨q,rfl⟩;exact QExec.pure _;exact QExec.bind (QExec.pure cap) (QExec.bind (yw (by omega) o) (QExec.pure _));exact QExec.bind (QExec.pure cap) (QExec.bind (QExec.pure len) (QExec.bind (yw c p) (QExec.pure _)));exact QExec.bind (QExec.pure cap) (QExec.bind (yw (by omega) o) (QExec.bind (yw c (by omega)) (QExec.pure _)));rcases h0 with h0|⟨v,rfl⟩;cases h0;rcases jf i with⟨b,_⟩|⟨q,b⟩;cases b;cases b;rcases jf n with⟨rfl,rfl⟩|⟨k,rfl⟩;exact QExec.bind (x:=m.toNat) (yw (by omega) f) (QExec.bind (yw (by omega) (by omega)) (QExec.pure _));exact QExec.bind (x:=m.toNat) (yw (by omega) f) (QExec.bind (yw (by omega) (by omega)) (QExec.bind (yw c (by omega)) (QExec.pure _)))
theorem Yn{lo hi mx:Option Value}{K:Value->Prop} (e:∀el,(P.underlying t=Td (.slice el)\/∃n,P.underlying t=Td (.array n el))->∃i,P.info? el=Td i) (H:zwz P t x lo hi mx g K):
  ∃v,K v/\(gok g->∀h:zb,QExec P (Du t x lo hi mx) h v):=by
 unfold zwz at H;split at H;rename_i c;split at H;rename_i s;split at H;rename_i l r o k;obtain⟨h1,w⟩:=H;refine⟨_,w,λp=>?_⟩;obtain⟨u,f,q⟩:=h1.out p;intro h B d;have b:=QExec.underlying (h:=h) c B d;have bb:=zmb (P:=P) (h:=h) o k u f q B d;unfold Du;rw[Sem.run_bind,b];simp only[Result.andThen_ok];unfold Instr.slice;rw[Sem.run_bind,b];simp[bb];exact H.elim;exact H.elim;rename_i el c;split at H;rename_i a len cap;split at H;rename_i l r m o k A;obtain⟨h0,h1,w⟩:=H;refine⟨_,w,λp=>?_⟩;obtain⟨u,f,q,z⟩:=h1.out p;intro h B d;have b:=QExec.underlying (h:=h) c B d;have y:=w9 (h:=h) el B d (e el (.inl c));have bb:=zq3 (P:=P) (h:=h) o k A h0 u f q z B d;unfold Du;rw[Sem.run_bind,b];simp only[Result.andThen_ok];unfold Instr.slice;rw[Sem.run_bind,b];simp[bb,y,ze7];exact H.elim;exact H.elim;rename_i n el c;split at H;rename_i a;split at H;rename_i l r o k;obtain⟨h1,w⟩:=H;refine⟨_,w,λp=>?_⟩;obtain⟨u,f,q⟩:=h1.out p;intro h B d;have b:=QExec.underlying (h:=h) c B d;have y:=w9 (h:=h) el B d (e el (.inr ⟨n,c⟩));have bb:=zmb (P:=P) (h:=h) o k u f q B d;unfold Du;rw[Sem.run_bind,b];simp only[Result.andThen_ok,Dj,Sem.run_bind,Sem.run_pure,bb,y];unfold ze7;split <;> rfl;exact H.elim;exact H.elim;exact H.elim
end
section
variable {P:Program} {f:FuncId} {h:zb} {K:Value -> zb -> Prop} {t ty t':TypeId} {g:Option Bool} {w w':World} {v:Value} {o:Oper} {ρ:Operand -> Value} {a:Act}
def XC(P:Program)(f:FuncId)(args:Array Value)(h:zb)(R:Value->zb->Prop):Prop:=
 ∀B d,Calls P f args (mk B d h) λe w'=>∃v b h',e=.returned v/\w'=mk B b h'/\R v h'
theorem XC.mono{args:Array Value}{R b:Value->zb->Prop}(H:XC P f args h R)(e:∀v h',R v h'->b v h'):XC P f args h b:= λB d=>(H B d).mono λ_ _ ⟨v,k,h',c,i,r⟩=>⟨v,k,h',c,i,e _ _ r⟩
def XRun(P:Program)(s:Sem Value)(h:zb)(K:Value->zb->Prop):Prop:=∀B d,∃v b h',s.run P (mk B d h)=.ok v (mk B b h')/\K v h'
def XRunU(P:Program)(s:Sem Unit)(h:zb)(K:zb->Prop):Prop:=∀B d,∃b h',s.run P (mk B d h)=.ok () (mk B b h')/\K h'
theorem XRun.mono{s:Sem Value}{K b:Value->zb->Prop}(H:XRun P s h K)(c:∀v h',K v h'->b v h'):XRun P s h b:= λB d=>let ⟨v,d',h',e,k⟩:=H B d;⟨v,d',h',e,c _ _ k⟩
theorem XRunU.mono{s:Sem Unit}{K b:zb->Prop}(H:XRunU P s h K)(c:∀h',K h'->b h'):XRunU P s h b:= λB d=>let ⟨d',h',e,k⟩:=H B d;⟨d',h',e,c _ k⟩
def wu(n:Nat):Prop:=n<=9223372036854775807
def zhd(P:Program)(s:Sem Next)(K:Value->Prop):Prop:=match Ym P s with
 |some (.value v)=>K v
 |_=>False
def qal(P:Program)(ty:TypeId)(s:Sem Value)(g:Option Bool)(h:zb)(K:Value->Prop):Prop:=match qho P ty with
 |some rt=>qc3 rt λv=>req g (QExec P s h v)/\K v
 |none=>False
def zzm(P:Program)(t:TypeId):Bool:=match P.underlying t with
 |some (.slice _)=>Ta
 |_=>Tc
def zzn(P:Program)(t:TypeId):Bool:=match P.underlying t with
 |some (.pointer e)=>Nat.beq e (P.pointee t)
 |_=>Tc
theorem zw0(h:zzn P t=Ta):P.underlying t=Td (.pointer (P.pointee t)):=by unfold zzn at h;split at h;rename_i e b;rw[b,Al h];cases h
def qkh(P:Program)(t:TypeId)(s:Sem Next)(c:BinOp)(x y:Value)(g:Option Bool)(K:Value->Prop):Prop:=
 match c,x,y with
 |.eql,.slice a _ _,.slice Te 0 0=>bif zzm P t then K (.bool a.isNone)else zhd P s K
 |.neq,.slice a _ _,.slice Te 0 0=>bif zzm P t then K (.bool (!a.isNone))else zhd P s K
 |.eql,.pointer a,.pointer none=>bif zzn P t then K (.bool a.isNone)else zhd P s K
 |.neq,.pointer a,.pointer none=>bif zzn P t then K (.bool (!a.isNone))else zhd P s K
 |.quo,.int k a,.int k' b=>k=k'/\req g (b≠0)/\K (.int k (k.wrap (a.tdiv b)))
 |.rem,.int k a,.int k' b=>k=k'/\req g (b≠0)/\K (.int k (a.tmod b))
 |.add,.string a,.string b=>req g (wu (a.size+b.size))/\K (.string (a++b))
 |_,_,_=>zhd P s K
def qeg(b:BinOp)(y:Operand):Bool:=match y with
 |.const _=>Tc
 |_=>match b with
  |.shl | .shr=>Ta
  |_=>Tc
def shF(c:BinOp)(x y:Value)(g:Option Bool)(K:Value->Prop):Prop:=
 match x,y with
 |.int k a,.int _ b=>match c with
  |.shl=>req g (0<=b)/\K (.int k (k.wrap (a*2 ^ (min b.toNat k.bits))))
  |.shr=>req g (0<=b)/\K (.int k (a.fdiv (2 ^ (min b.toNat k.bits))))
  |_=>False
 |_,_=>False
def qhq(P:Program)(t:TypeId)(y:Operand):Bool:=match y with
 |.const .nilIface=>match P.underlying t with
  |some (.interface _)=>Ta
  |_=>Tc
 |_=>Tc
def ifc:Value->Bool
 |.nilIface=>Ta
 |.iface _ _=>Ta
 |_=>Tc
def qhr:Value->Bool
 |.nilIface=>Ta
 |_=>Tc
def nvF(b:BinOp)(x y:Value)(g:Option Bool)(K:Value->Prop):Prop:=match y with
 |.nilIface=>match b with
  |.eql=>req g (ifc x=Ta)/\K (.bool (qhr x))
  |.neq=>req g (ifc x=Ta)/\K (.bool (!qhr x))
  |_=>False
 |_=>False
def zmc(b:Builtin)(c:Array TypeId)(e:TypeId)(args:Array Value):Option (Sem Value):=
 match b with
 |.append=>Td (Au c e args)
 |.copy=>Td (Builtin.copy_ c e args)
 |.clear=>Td (Builtin.clear_ c e args)
 |.delete=>Td (Builtin.delete_ c e args)
 |.len=>Td (CG c e args)
 |_=>Te
def qk6(P:Program)(s:Sem Next)(ty:TypeId)(b:Array TypeId)(args:Array Value)(g:Option Bool)(h:zb)(K:Value->Prop):Prop:=
 match (args[0]?:Option Value)with
 |some (Value.map _)=>qal P ty (CG b ty args) g h K
 |_=>zhd P s K
def zbw(P:Program)(t:TypeId):Bool:=match P.underlying t with
 |some (.slice el)=>qc P el
 |some (.array _ el)=>qc P el
 |_=>Ta
theorem Zn(h:zbw P t=Ta):∀el,(P.underlying t=Td (.slice el)\/∃n,P.underlying t=Td (.array n el))->∃i,P.info? el=Td i:=by intro el b;unfold zbw at h;rcases b with b|⟨n,b⟩ <;> rw[b]at h <;> exact je h
def zq4(P:Program)(t:TypeId):Bool:=match P.underlying t with
 |some .string=>Ta
 |_=>Tc
theorem zq5(h:zq4 P t=Ta):P.underlying t=Td .string:=by unfold zq4 at h;split at h;assumption;cases h
def qki(P:Program)(s:Sem Next)(x:Value)(g:Option Bool)(K:Value->Prop):Prop:=match x with
 |.pointer p=>∃a:Addr,req g (p=Td a)/\K (.pointer (Td a))
 |_=>zhd P s K
def J8(P:Program)(o:Oper)(ρ:Operand->Value)(g:Option Bool)(h:zb)(K:Value->Prop):Prop:=
 match o.op with
 |.load t a=>zq1 P h t (ρ a) g K
 |.indexAddr t x i=>bif zbw P t then zq2 P t (ρ x) (ρ i) g K else False
 |.index t x i=>bif zq4 P t then zir (ρ x) (ρ i) g K else zhd P (execOp ρ o) K
 |.slice t x lo hi mx=>bif zbw P t then zwz P t (ρ x) (lo.map ρ) (hi.map ρ) (mx.map ρ) g K else False
 |.binOp b t x y _=>bif qeg b y then shF b (ρ x) (ρ y) g K else bif qhq P t y then nvF b (ρ x) (ρ y) g K else qkh P t (execOp ρ o) b (ρ x) (ρ y) g K
 |.lookup t m k ok=>qal P o.type (C9 t (ρ m) (ρ k) ok) g h K
 |.nilCheck x=>qki P (execOp ρ o) (ρ x) g K
 |.call c=>match c.callee with
  |.builtin .len=>qk6 P (execOp ρ o) o.type c.argTypes (c.args.map ρ) g h K
  |_=>zhd P (execOp ρ o) K
 |_=>zhd P (execOp ρ o) K
theorem zt{s:Sem Next}{K:Value->Prop}(H:zhd P s K)(g:Option Bool):∃v,K v/\(gok g->∀h:zb,QExec P s h (.value v)):=by unfold zhd at H;split at H;rename_i v b;exact⟨v,H,λ_ h=>zlk b h⟩;exact H.elim
theorem zis{s:Sem Value}{K:Value->Prop}(H:qal P ty s g h K):∃v,K v/\(gok g->QExec P s h v):=by unfold qal at H;split at H;obtain⟨v,h1,c⟩:=zn4 H;exact⟨v,c,λb=>h1.out b⟩;exact H.elim
theorem xq{c:BinOp}(t:TypeId)(x y:Operand)(a b:Value)(h1:(c matches .eql | .neq)=Tc):eqGuard c t x y a b=pure ():=by unfold eqGuard;cases c <;> simp at h1 <;> rfl
theorem zw1{s:Sem Value}(h:s.run P w=.ok v w'):(s >>= λx=>(C2 (C5 x):Sem Next)).run P w=.ok (.value v) w':=by rw[Sem.run_bind,h];rfl
theorem zmd{s:Sem Next}{K:Value->Prop}(h:zb)(H:∃v,K v/\(gok g->∀h:zb,QExec P s h (.value v))):∃v,K v/\(gok g->QExec P s h (.value v)):=
 let ⟨v,h1,h2⟩:=H;⟨v,h1,λb=>h2 b h⟩
theorem qam{p:BinOp}{x y:Operand}(r:o.op=.binOp p t x y t'){K:Value->Prop}
  (H:qkh P t (execOp ρ o) p (ρ x) (ρ y) g K):∃v,K v/\(gok g->∀h:zb,QExec P (execOp ρ o) h (.value v)):=by
 have i:∀(p:BinOp) (x y:Operand) (a b:Option Addr) (l c z A:Nat) (w:World),(eqGuard p t x y (.slice a l c) (.slice b z A)).run P w=.ok () w:=λp x y a b l c z A w=>by unfold eqGuard;cases p <;> rfl
 have f:∀(p:BinOp) (x y:Operand) (a b:Option Addr) (w:World),(eqGuard p t x y (.pointer a) (.pointer b)).run P w=.ok () w:=λp x y a b w=>by unfold eqGuard;cases p <;> rfl
 unfold qkh at H;split at H;rename_i a l c m n;cases hs:zzm P t with
 |false=>rw[hs]at H;exact zt H g
 |true=>
  rw[hs,cond_true]at H;refine⟨_,H,λq h B d=>?_⟩;have e:∃el,P.underlying t=Td (.slice el):=by unfold zzm at hs;split at hs;rename_i el e;exact⟨el,e⟩;cases hs
  obtain⟨el,e⟩:=e;simp only[execOp,r,m,n];refine zw1 ?_;rw[Sem.run_bind,i];simp only[Result.andThen_ok,binOp,Sem.run_bind,run_equal_slice_nil _ t _ _ _ _ e];rfl
 rename_i a l c m n;cases hs:zzm P t with
 |false=>rw[hs]at H;exact zt H g
 |true=>
  rw[hs,cond_true]at H;refine⟨_,H,λq h B d=>?_⟩;have e:∃el,P.underlying t=Td (.slice el):=by unfold zzm at hs;split at hs;rename_i el e;exact⟨el,e⟩;cases hs
  obtain⟨el,e⟩:=e;simp only[execOp,r,m,n];refine zw1 ?_;rw[Sem.run_bind,i];simp only[Result.andThen_ok,binOp,Sem.run_bind,run_equal_slice_nil _ t _ _ _ _ e];rfl
 rename_i a m n;cases hs:zzn P t with
 |false=>rw[hs]at H;exact zt H g
 |true=>rw[hs,cond_true]at H;refine⟨_,H,λq h B d=>?_⟩;have e:=zw0 hs;simp only[execOp,r,m,n];refine zw1 ?_;rw[Sem.run_bind,f];simp only[Result.andThen_ok,binOp,Sem.run_bind,run_equal_pointer_nil _ t _ e];rfl
 rename_i a m n;cases hs:zzn P t with
 |false=>rw[hs]at H;exact zt H g
 |true=>rw[hs,cond_true]at H;refine⟨_,H,λq h B d=>?_⟩;have e:=zw0 hs;simp only[execOp,r,m,n];refine zw1 ?_;rw[Sem.run_bind,f];simp only[Result.andThen_ok,binOp,Sem.run_bind,run_equal_pointer_nil _ t _ e];rfl
 rename_i k a C b m n;obtain⟨rfl,h1,u⟩:=H;refine⟨_,u,λq=>?_⟩;have s:=h1.out q;intro h B d;simp only[execOp,r,m,n];rw[xq _ _ _ _ _ rfl];simp[binOp,Op.intDiv,s];rename_i k a C b m n;obtain⟨rfl,h1,u⟩:=H;refine⟨_,u,λq=>?_⟩;have s:=h1.out q;intro h B d;simp only[execOp,r,m,n];rw[xq _ _ _ _ _ rfl];simp[binOp,Op.intDiv,s];rename_i a b m n;obtain⟨h1,u⟩:=H;refine⟨_,u,λq=>?_⟩;have s:=h1.out q;intro h B d;simp only[execOp,r,m,n];rw[xq _ _ _ _ _ rfl];have D:¬((a.size+b.size:Nat):Int)>IntKind.i64.max:=by
  unfold wu at s;have:IntKind.i64.max=9223372036854775807:=by decide
  omega
 simp only[binOp,Op.stringOp,if_neg D];rfl;exact zt H g
theorem qeh{l:BinOp}{x y:Operand}(f:o.op=.binOp l t x y t'){K:Value->Prop}
  (H:shF l (ρ x) (ρ y) g K):∃v,K v/\(gok g->∀h:zb,QExec P (execOp ρ o) h (.value v)):=by
 unfold shF at H;split at H;rename_i k a p b m i;split at H;obtain⟨h1,e⟩:=H;refine⟨_,e,λc h B d=>?_⟩;have n:=h1.out c;simp only[execOp,f,m,i];rw[xq _ _ _ _ _ rfl];simp only[binOp,Op.shift,if_neg (show¬b<0 by omega)];rfl;obtain⟨h1,e⟩:=H;refine⟨_,e,λc h B d=>?_⟩;have n:=h1.out c;simp only[execOp,f,m,i];rw[xq _ _ _ _ _ rfl];simp only[binOp,Op.shift,if_neg (show¬b<0 by omega)];rfl;exact H.elim;exact H.elim
theorem qei{b:BinOp}{x y:Operand}(k:o.op=.binOp b t x y t'){K:Value->Prop}
  (f:qhq P t y=Ta) (H:nvF b (ρ x) (ρ y) g K):∃v,K v/\(gok g->∀h:zb,QExec P (execOp ρ o) h (.value v)):=by
 have i:∃ms,P.underlying t=Td (.interface ms)/\y=.const .nilIface:=by unfold qhq at f;split at f;split at f;rename_i ms i;exact⟨ms,i,rfl⟩;cases f;cases f
 obtain⟨ms,i,rfl⟩:=i;have key:∀{u:Value} (h:zb),ifc u=Ta->QExec P (DV t u .nilIface) h (qhr u):=by intro u h hi B d;have n:=QExec.underlying (h:=h) i B d;unfold DV Op.maxDepth;cases u <;> first|(cases hi;done)|(unfold Op.equalIn;rw[Sem.run_bind,n];rfl)
 have l:∀b u (h:zb),ifc u=Ta->QExec P (eqGuard b t x (.const .nilIface) u .nilIface) h ():=by intro b u h hi B d;unfold eqGuard;cases u <;> first|(cases hi;done)|(cases b <;> simp)
 have c:∀b u,ifc u=Ta->(binOp b t u .nilIface=match b with | .eql=>(do pure (.bool (<-DV t u .nilIface))) | .neq=>(do pure (.bool (!(<-DV t u .nilIface))))|_=>binOp b t u .nilIface):=by intro b u hi;cases u <;> first|(cases hi;done)|(cases b <;> rfl)
 unfold nvF at H;split at H;rename_i m;split at H;refine⟨_,H.2,λe h=>?_⟩;have hi:=H.1.out e;simp only[execOp,k,m];refine QExec.val ((l _ _ h hi).bind ?_);rw[c _ _ hi];exact(key h hi).bind (QExec.pure _);refine⟨_,H.2,λe h=>?_⟩;have hi:=H.1.out e;simp only[execOp,k,m];refine QExec.val ((l _ _ h hi).bind ?_);rw[c _ _ hi];exact(key h hi).bind (QExec.pure _);exact H.elim;exact H.elim
theorem zuu{b:BinOp}{x y:Operand}(c:o.op=.binOp b t x y t'){K:Value->Prop}
  (H:bif qeg b y then shF b (ρ x) (ρ y) g K else bif qhq P t y then nvF b (ρ x) (ρ y) g K else qkh P t (execOp ρ o) b (ρ x) (ρ y) g K):∃v,K v/\(gok g->∀h:zb,QExec P (execOp ρ o) h (.value v)):=by
 cases hb:qeg b y with
 |true=>rw[hb]at H;exact qeh c H
 |false=>
  rw[hb]at H;cases hn:qhq P t y with
  |true=>rw[hn]at H;exact qei c hn H
  |false=>rw[hn]at H;exact qam c H
theorem zzo{c:Call}(f:o.op=.call c)(e:c.callee=.builtin .len){K:Value->Prop}
  (H:qk6 P (execOp ρ o) o.type c.argTypes (c.args.map ρ) g h K):∃v,K v/\(gok g->QExec P (execOp ρ o) h (.value v)):=by
 unfold qk6 at H;split at H;obtain⟨v,h1,i⟩:=zis H;refine⟨v,h1,λb=>?_⟩;have:=i b;intro B d;simp only[execOp,f,resolve,e,Sem.run_bind,Sem.run_pure,Result.andThen_ok,invoke,builtin];rw[this B d];rfl;exact zmd h (zt H g)
theorem zb4{K:Value->Prop}(H:J8 P o ρ g h K):∃v,K v/\(gok g->QExec P (execOp ρ o) h (.value v)):=by
 unfold J8 at H;split at H;rename_i t a b;obtain⟨v,h1,e⟩:=ziq H;refine⟨v,h1,λf=>?_⟩;simp only[execOp,b];exact(e f).val;rename_i t x i b;cases he:zbw P t with
 |false=>rw[he]at H;exact H.elim
 |true=>rw[he]at H;obtain⟨v,h1,e⟩:=Zu (Zn he) H;refine⟨v,h1,λf=>?_⟩;simp only[execOp,b];exact(e f h).val
 rename_i t x i b;cases he:zq4 P t with
 |false=>rw[he]at H;exact zmd h (zt H g)
 |true=>rw[he]at H;obtain⟨v,h1,e⟩:=X5 (zq5 he) H;refine⟨v,h1,λf=>?_⟩;simp only[execOp,b];exact(e f h).val
 rename_i t x lo hi mx b;cases he:zbw P t with
 |false=>rw[he]at H;exact H.elim
 |true=>rw[he]at H;obtain⟨v,h1,e⟩:=Yn (Zn he) H;refine⟨v,h1,λf=>?_⟩;simp only[execOp,b];exact(e f h).val
 rename_i r t x y t' b;exact zmd h (zuu b H);rename_i t m k ok b;obtain⟨v,h1,e⟩:=zis H;refine⟨v,h1,λf=>?_⟩;simp only[execOp,b];exact(e f).val;rename_i x b;unfold qki at H;split at H;rename_i p q;obtain⟨a,h1,e⟩:=H;refine⟨_,e,λf=>?_⟩;have l:=h1.out f;subst l;intro B d;simp only[execOp,b,q];rfl;exact zmd h (zt H g);rename_i c b;split at H;rename_i n;exact zzo b n H;exact zmd h (zt H g);exact zmd h (zt H g)
def zll(o:Oper):Bool:=match o.op with
 |.lookup .. => Tc
 |.call c=>match c.callee with
  |.builtin .len=>Tc
  |_=>Ta
 |_=>Ta
theorem qan{p:Addr}(H:zc h p=Td v):p.block<h.size:=by
 unfold zc at H;cases e:h[p.block]? with
 |none=>simp[e]at H
 |some o=>exact(An.1 e).1
theorem zit{h h':zb}(k:Keep h.size h h'){p:Addr}(H:zc h p=Td v):zc h' p=Td v:=by have:=qan H;unfold zc at H ⊢;rw[k.get _ this];exact H
theorem ziu{h h':zb}(k:Keep h.size h h'){p:Addr}:∀{vs:List Value} {i:Nat},zd h p i vs->zd h' p i vs
 |[],_,_=>trivial
 |_::_,_,⟨h1,h2⟩=>⟨zit k h1,ziu k h2⟩
theorem ze9{K:Value->Prop}(w:zll o=Ta)(H:J8 P o ρ g h K):∃v,K v/\(gok g->∀h',Keep h.size h h'->QExec P (execOp ρ o) h' (.value v)):=by
 unfold J8 at H;split at H;rename_i t a n;unfold zq1 at H;split at H;rename_i q b r u;obtain⟨x,h1,e⟩:=H;refine⟨_,e,λf h' s=>?_⟩;simp only[execOp,n,r];exact(zh5 u (zit s (h1.out f))).val;rename_i q l r u;obtain⟨vs,h0,⟨h1,e⟩,_⟩:=Jc H (wq l);refine⟨_,e,λf h' s=>?_⟩;simp only[execOp,n,r];exact(zh6 u h0 (ziu s (h1.out f))).val;exact H.elim;rename_i t x i n;cases he:zbw P t with
 |false=>rw[he]at H;exact H.elim
 |true=>rw[he]at H;obtain⟨v,h1,e⟩:=Zu (Zn he) H;refine⟨v,h1,λf h' _=>?_⟩;simp only[execOp,n];exact(e f h').val
 rename_i t x i n;cases he:zq4 P t with
 |false=>rw[he]at H;obtain⟨v,h1,e⟩:=zt H g;exact⟨v,h1,λf h' _=>e f h'⟩
 |true=>rw[he]at H;obtain⟨v,h1,e⟩:=X5 (zq5 he) H;refine⟨v,h1,λf h' _=>?_⟩;simp only[execOp,n];exact(e f h').val
 rename_i t x lo hi mx n;cases he:zbw P t with
 |false=>rw[he]at H;exact H.elim
 |true=>rw[he]at H;obtain⟨v,h1,e⟩:=Yn (Zn he) H;refine⟨v,h1,λf h' _=>?_⟩;simp only[execOp,n];exact(e f h').val
 rename_i C t x y t' n;obtain⟨v,h1,e⟩:=zuu n H;exact⟨v,h1,λf h' _=>e f h'⟩;rename_i t m k ok n;simp[zll,n]at w;rename_i x n;unfold qki at H;split at H;rename_i p z;obtain⟨a,h1,e⟩:=H;refine⟨_,e,λf h' _=>?_⟩;have r:=h1.out f;subst r;intro B d;simp only[execOp,n,z];rfl;obtain⟨v,h1,e⟩:=zt H g;exact⟨v,h1,λf h' _=>e f h'⟩;rename_i c n;split at H;rename_i A;simp[zll,n,A]at w;obtain⟨v,h1,e⟩:=zt H g;exact⟨v,h1,λf h' _=>e f h'⟩;obtain⟨v,h1,e⟩:=zt H g;exact⟨v,h1,λf h' _=>e f h'⟩
def wpN(P:Program){α:Type}:Sem α->zb->(α->zb->Prop)->Prop
 |.pure a,h,K=>K a h
 |.program k,h,K=>wpN P (k P) h K
 |.mark _ k,h,K=>wpN P k h K
 |.new o k,h,K=>wpN P (k h.size) (h.push o) K
 |_,_,_=>False
theorem ziv{α:Type}{s:Sem α}{K:α->zb->Prop}(H:wpN P s h K)(B:World)(d:Nat):∃x h',s.run P (mk B d h)=.ok x (mk B d h')/\K x h':=by
 induction s generalizing h with
 |pure a=>exact⟨a,h,rfl,H⟩
 |program k b=>exact b P H
 |mark m k b=>exact b H
 |new o k b=>obtain⟨x,h',h1,c⟩:=b h.size H;exact⟨x,h',h1,c⟩
 |_=>exact H.elim
def typed(P:Program)(ty:TypeId)(v:Value)(K:Value->Prop):Prop:=match qho P ty with
 |some rt=>qc3 rt λb=>v=b/\K b
 |none=>False
theorem xr{K:Value->Prop}(H:typed P ty v K):K v:=by unfold typed at H;split at H;obtain⟨c,h1,b⟩:=zn4 H;rw[h1];exact b;exact H.elim
def zh(P:Program)(f:FuncId):Bool:=match P.funcs[f]? with
 |some fn=>(match fn.body with
  |some _=>Ta
  | none => false) && !(fn.name == "runtime.NumGoroutine")
 |none=>Tc
theorem X6(h:zh P f=Ta)(args:Array Value)(w:World):(callFunc f args).run P w=.ok (.enter f args) w:=by unfold zh at h;split at h;rename_i fn e;simp only[Ao,Dh]at h;obtain⟨h1,i⟩:=h;unfold callFunc;simp only[program,Sem.run_bind,Sem.run,Result.andThen_ok,e];split at h1;rename_i b c;simp[i,c];cases h1;cases h
def qhs(P:Program)(v:Value)(args:Array Value)(K:FuncId->Array Value->Prop):Prop:=match v with
 |.func (.func f) first cap=>zh P f=Ta/\K f (first++args++cap)
 |_=>False
theorem zme{c:Call}{x:Operand}(e:o.op=.call c)(b:c.callee=.value x){K:FuncId->Array Value->Prop}(H:qhs P (ρ x) (c.args.map ρ) K):
  ∃f args,K f args/\∀w,(execOp ρ o).run P w=.ok (.enter f args) w:=by
 unfold qhs at H;split at H;rename_i f first cap h
 obtain⟨h1,i⟩:=H;refine⟨_,_,i,λw=>?_⟩;simp only[execOp,e,resolve,b,h,Dq,Sem.run_bind,Sem.run_pure,Result.andThen_ok,invoke];exact X6 h1 _ w;exact H.elim
def zdj:Operand->Bool
 |.func _=>Ta
 |_=>Tc
def qk7(P:Program)(f:FuncId):Bool:=match P.funcs[f]? with
 |some fn=>(match fn.body with
  |some _=>Tc
  |none=>Ta)
 |none=>Tc
def qna(P:Program)(f:FuncId)(args:Array Value)(h:zb)(K:Value->zb->Prop):Prop:=∀B d,∃v b h',(callFunc f args).run P (mk B d h)=.ok (.value v) (mk B b h')/\K v h'
def qc5(P:Program):Operand->Bool
 |.func f=>qk7 P f
 |_=>Tc
def qk8(P:Program)(v:Value)(args:Array Value)(h:zb)(K:Value->zb->Prop):Prop:=match v with
 |.func (.func f) first cap=>qna P f (first++args++cap) h K
 |_=>False
theorem zzp{c:Call}{x:Operand}(k:o.op=.call c)(e:c.callee=.value x)(H:qk8 P (ρ x) (c.args.map ρ) h K)(B:World)(d:Nat):
  ∃v b h',(execOp ρ o).run P (mk B d h)=.ok (.value v) (mk B b h')/\K v h':=by
 unfold qk8 at H;split at H;rename_i f first cap l
 obtain⟨v,b,h',h1,i⟩:=H B d;refine⟨v,b,h',?_,i⟩;simp only[execOp,k,resolve,e,l,Dq,Sem.run_bind,Sem.run_pure,Result.andThen_ok,invoke];exact h1;exact H.elim
def qht(P:Program)(t:TypeId):Bool:=match P.underlying t with
 |some (.map _ _)=>Ta
 |_=>Tc
def zw2(P:Program)(o:Oper)(ρ:Operand->Value)(h:zb)(K:Value->zb->Prop):Prop:=
 match o.op with
 |.store t a x=>XRunU P (Af t (ρ a) (ρ x)) h λh'=>K undef h'
 |.mapUpdate t m k x=>XRunU P (Ce t (ρ m) (ρ k) (ρ x)) h λh'=>K undef h'
 |.insert t m k x=>XRunU P (Ce t (ρ m) (ρ k) (ρ x)) h λh'=>K undef h'
 |.entryStore t m s x=>XRunU P (Instr.entryStore t (ρ m) (ρ s) (ρ x)) h λh'=>K undef h'
 |.mapEntry t m k=>XRun P (Instr.mapEntry t (ρ m) (ρ k)) h λv h'=>typed P o.type v λe=>K e h'
 |.makeSlice t l c=>XRun P (Instr.makeSlice t (ρ l) (ρ c)) h λv h'=>typed P o.type v λe=>K e h'
 |.convert s t x=>XRun P (convert s t (ρ x)) h λv h'=>typed P o.type v λe=>K e h'
 |.typeAssert x t t' ok=>XRun P (Instr.typeAssert (ρ x) t t' ok) h λv h'=>typed P o.type v λe=>K e h'
 |.range t x=>bif qht P t then XRun P (Dx t (ρ x)) h λv h'=>∃q:Option Addr,v=.pointer q/\K (.pointer q) h' else wpN P (execOp ρ o) h λnx h'=>match nx with
   |.value v=>K v h'
   |.skip=>K undef h'
   |_=>False
 |.next x s=>bif s then XRun P (CW (ρ x) s o.type) h λv h'=>(v=.tuple #[.bool Tc]/\K (.tuple #[.bool Tc]) h')\/∃k u:Int,v=.tuple #[.bool Ta,.int .i64 k,.int .i32 u]/\K (.tuple #[.bool Ta,.int .i64 k,.int .i32 u]) h'
  else XRun P (CW (ρ x) s o.type) h λv h'=>(v=.tuple #[.bool Tc]/\K (.tuple #[.bool Tc]) h')\/∃k u:Value,v=.tuple #[.bool Ta,k,u]/\K (.tuple #[.bool Ta,k,u]) h'
 |.entry x=>XRun P (Dk (ρ x)) h λv h'=>∃k u:Value,v=.tuple #[k,u]/\K (.tuple #[k,u]) h'
 |.call c=>match c.callee with
  |.builtin b=>match zmc b c.argTypes o.type (c.args.map ρ)with
   |some s=>XRun P s h λv h'=>typed P o.type v λe=>K e h'
   |none=>False
  |.value x=>bif qc5 P x then qk8 P (ρ x) (c.args.map ρ) h (λv h'=>typed P o.type v λe=>K e h')else bif zdj x then(wpN P (execOp ρ o) h λnx h'=>match nx with
   |.enter f args=>XC P f args h' λv h''=>typed P o.type v λe=>K e h''
   |.value v=>K v h'
   |_=>False)else qhs P (ρ x) (c.args.map ρ) λf args=>XC P f args h λv h''=>typed P o.type v λe=>K e h''
  |_=>False
 |_=>wpN P (execOp ρ o) h λnx h'=>match nx with
   |.value v=>K v h'
   |.skip=>K undef h'
   |_=>False
def qhu:Builtin->Bool
 |.append | .copy | .clear | .delete=>Ta
 |_=>Tc
def z2e(P:Program)(s t:TypeId):Bool:=match P.underlying s,P.underlying t with
 |some (.int _),Td (.int _)=>Ta
 |some .string,Td .string=>Ta
 |_,_=>Tc
def isQ(P:Program)(o:Oper):Bool:=
 match o.op with
 |.load _ _ | .indexAddr _ _ _ | .index _ _ _ | .slice _ _ _ _ _ | .binOp _ _ _ _ _ | .lookup _ _ _ _ | .nilCheck _=>Ta
 |.move _ | .assign _ | .unOp _ _ _ | .build _ _ | .makeFunc _ _ _ | .makeInterface _ _ | .extract _ _ | .field _ _ _ | .fieldAddr _ _ _=>Ta
 |.convert s t _=>z2e P s t
 |.call c=>match c.callee with
  |.builtin b=>!qhu b
  |_=>Tc
 |_=>Tc
def z2f(P:Program)(o:Oper)(ρ:Operand->Value)(b:Bool)(h:zb)(K:Value->zb->Prop):Prop:=
 match qho P o.type with
 |some rt=>∃J:Value->zb->Prop,(b=Ta->zw2 P o ρ h J)/\(b=Tc->qc3 rt λv=>J v h)/\(b=Ta->∀v h',J v h'->qc3 rt λc=>v=c)/\qhm rt λv=>∀h',J v h'->K v h'
 |none=>False
def stepW(P:Program)(o:Oper)(ρ:Operand->Value)(g:Option Bool)(h:zb)(K:Value->zb->Prop):Prop:=
 bif isQ P o then J8 P o ρ g h (λv=>K v h)else match g with
  |none=>zw2 P o ρ h K
  |some b=>z2f P o ρ b h K
theorem upon_value{next:Act->World->Prop}{Q:Exit->Act->World->Prop}{s:Sem Next}(h:s.run P w=.ok (.value v) w')(b:next (a.put o.dst v) w'): o.upon P a next Q (s.run P w):=by rw[h];exact b
theorem upon_skip{next:Act->World->Prop}{Q:Exit->Act->World->Prop}{s:Sem Next}(h:s.run P w=.ok .skip w')(b:next (a.put o.dst undef) w'): o.upon P a next Q (s.run P w):=by rw[h];exact b
theorem Yh{s:Sem Value}(h:s.run P w=.ok v w'):(s >>= λx=>(C2 (C5 x):Sem Next)).run P w=.ok (.value v) w':=by rw[Sem.run_bind,h];rfl
theorem zzq{s:Sem Unit}(h:s.run P w=.ok () w'):(s >>= λ_=>(C2 Next.skip:Sem Next)).run P w=.ok .skip w':=by rw[Sem.run_bind,h];rfl
theorem zg0(H:zw2 P o ρ h K)(B:World)(d:Nat){next:Act->World->Prop}{Q:Exit->Act->World->Prop}
  (n:∀v p h',K v h'->next (a.put o.dst v) (mk B p h')):o.upon P a next Q ((execOp ρ o).run P (mk B d h)):=by
 unfold zw2 at H;split at H;case h_1 t x y ho=>obtain⟨p,h',h1,i⟩:=H B d;exact upon_skip (by simp only[execOp,ho];exact zzq h1) (n _ _ _ i)
 case h_2 t m k x ho=>obtain⟨p,h',h1,i⟩:=H B d;exact upon_skip (by simp only[execOp,ho];exact zzq h1) (n _ _ _ i)
 case h_3 t m k x ho=>obtain⟨p,h',h1,i⟩:=H B d;exact upon_skip (by simp only[execOp,ho];exact zzq h1) (n _ _ _ i)
 case h_4 t m s x ho=>obtain⟨p,h',h1,i⟩:=H B d;exact upon_skip (by simp only[execOp,ho];exact zzq h1) (n _ _ _ i)
 case h_5 t m k ho=>obtain⟨v,p,h',h1,i⟩:=H B d;exact upon_value (by simp only[execOp,ho];exact Yh h1) (n _ _ _ (xr i))
 case h_6 t l c ho=>obtain⟨v,p,h',h1,i⟩:=H B d;exact upon_value (by simp only[execOp,ho];exact Yh h1) (n _ _ _ (xr i))
 case h_7 s t x ho=>obtain⟨v,p,h',h1,i⟩:=H B d;exact upon_value (by simp only[execOp,ho];exact Yh h1) (n _ _ _ (xr i))
 case h_8 x t t' ok ho=>obtain⟨v,p,h',h1,i⟩:=H B d;exact upon_value (by simp only[execOp,ho];exact Yh h1) (n _ _ _ (xr i))
 case h_9 t x ho=>
  cases hm:qht P t with
  |true=>rw[hm]at H;obtain⟨v,p,h',h1,q,rfl,i⟩:=H B d;exact upon_value (by simp only[execOp,ho];exact Yh h1) (n _ _ _ i)
  |false=>
   rw[hm]at H;obtain⟨nx,h',h1,i⟩:=ziv H B d;cases nx with
   |value v=>exact upon_value h1 (n _ _ _ i)
   |skip=>exact upon_skip h1 (n _ _ _ i)
   |_=>exact i.elim
 case h_10 x s ho=>
  cases s with
  |true=>simp only[cond_true]at H;obtain⟨v,p,h',h1,i⟩:=H B d;refine upon_value (v:=v) (w':=mk B p h') (by simp only[execOp,ho];exact Yh h1) (n _ _ _ ?_);rcases i with⟨rfl,i⟩|⟨k,u,rfl,i⟩ <;> exact i
  |false=>simp only[cond_false]at H;obtain⟨v,p,h',h1,i⟩:=H B d;refine upon_value (v:=v) (w':=mk B p h') (by simp only[execOp,ho];exact Yh h1) (n _ _ _ ?_);rcases i with⟨rfl,i⟩|⟨k,u,rfl,i⟩ <;> exact i
 case h_11 x ho=>obtain⟨v,p,h',h1,k,u,rfl,i⟩:=H B d;exact upon_value (by simp only[execOp,ho];exact Yh h1) (n _ _ _ i)
 case h_12 c ho=>
  split at H;rename_i b A;split at H;rename_i s r;obtain⟨v,p,h',h1,i⟩:=H B d;refine upon_value (w':=mk B p h') ?_ (n _ _ _ (xr i));have key:execOp ρ o=s >>= λx=>(C2 (C5 x):Sem Next):=by
   simp only[execOp,ho,resolve,A];unfold zmc at r;split at r <;> first
    |(simp only[Ac]at r;subst r;rfl)
    |cases r
  rw[key];exact Yh h1;exact H.elim
  ·rename_i x z;cases hex:qc5 P x with
   |true=>rw[hex]at H;obtain⟨v,p,h',h1,i⟩:=zzp ho z H B d;exact upon_value h1 (n _ _ _ (xr i))
   |false=>
   rw[hex]at H;simp only[cond_false]at H;cases hst:zdj x with
   |true=>
    rw[hst]at H;obtain⟨nx,h',h1,i⟩:=ziv H B d;cases nx with
    |enter f args=>rw[h1];refine(i B d).mono ?_;rintro e w' ⟨v,p,h'',rfl,rfl,w⟩;exact n _ _ _ (xr w)
    |value v=>exact upon_value h1 (n _ _ _ i)
    |_=>exact i.elim
   |false=>rw[hst]at H;simp only[cond_false]at H;obtain⟨f,args,h1,i⟩:=zme ho z H;rw[i];refine(h1 B d).mono ?_;rintro e w' ⟨v,p,h'',rfl,rfl,w⟩;exact n _ _ _ (xr w)
  exact H.elim
 case h_13=>
  obtain⟨nx,h',h1,i⟩:=ziv H B d;cases nx with
  |value v=>exact upon_value h1 (n _ _ _ i)
  |skip=>exact upon_skip h1 (n _ _ _ i)
  |_=>exact i.elim
theorem zuv(H:stepW P o ρ g h K)(f:gok g)(B:World)(d:Nat){next:Act->World->Prop}{Q:Exit->Act->World->Prop}
  (c:∀v e h',K v h'->next (a.put o.dst v) (mk B e h')):o.upon P a next Q ((execOp ρ o).run P (mk B d h)):=by
 unfold stepW at H;cases hq:isQ P o with
 |true=>rw[hq]at H;obtain⟨v,h1,r⟩:=zb4 H;exact upon_value (r f B d) (c _ _ _ h1)
 |false=>
  rw[hq]at H;cases g with
  |none=>exact zg0 H B d c
  |some b=>have k:b=Ta:=f;subst k;simp only[cond_false]at H;unfold z2f at H;split at H;rename_i rt l;obtain⟨J,h1,_,q,m⟩:=H;refine zg0 (h1 rfl) B d λv e h' i=>?_;obtain⟨s,n,p⟩:=z2d (q rfl v h' i) m;subst n;exact c _ _ _ (p _ i);exact H.elim
theorem zuw(H:stepW P o ρ (Td Tc) h K):∃v,K v h:=by
 unfold stepW at H;cases hq:isQ P o with
 |true=>rw[hq]at H;obtain⟨v,h1,_⟩:=zb4 H;exact⟨v,h1⟩
 |false=>rw[hq]at H;simp only[cond_false]at H;unfold z2f at H;split at H;obtain⟨J,_,f,_,c⟩:=H;obtain⟨v,b,e⟩:=z2d (f rfl) c;exact⟨v,e _ b⟩;exact H.elim
end
section
variable {n:Nat} {e:Env} {a b:Act} {c:zx} {g:Option Bool} {P:Program} {o:Oper} {h:zb} {K:Value -> zb -> Prop} {ms:List Nat}
def zfa(e:Env):zx->Option (Option Bool)
 |[]=>Td Te
 |c=>match z2b e c with
  |some b=>Td (Td b)
  |none=>Te
theorem zb5(i:Sat n e a)(h:zfa e c=Td g)(f:valid (zz a) c):gok g:=by unfold zfa at h;split at h;simp only[Ac]at h;subst h;trivial;split at h;rename_i b k;simp only[Ac]at h;subst h;exact(zb3 i k).2 f;cases h
theorem zzr(i:Sat n e a)(h:zfa e c=Td g)(f:¬valid (zz a) c):g=Td Tc:=by
 unfold zfa at h;split at h;exact absurd trivial f;split at h;rename_i b k;simp only[Ac]at h;subst h;cases b with
 |false=>rfl
 |true=>exact absurd ((zb3 i k).1 rfl) f
 cases h
def z2g(b:Bool):Value->Value->Value
 |.bool x,.bool y=>.bool (bif b then x else y)
 |x,y=>bif b then x else y
theorem zw3(b:Bool)(x y:Value):z2g b x y=if b=Ta then x else y:=by unfold z2g;split <;> cases b <;> rfl
def orV:Option Value->Option Value->Option Value
 |some v,_=>Td v
 |none,w=>w
def qao(e:Env)(c:zx)(x a b:Operand)(K:Value->Prop):Prop:=
 match x with
 |.tmp s=>match look e s with
  |some (cs,.bool t)=>bif suf cs c then(match orV (X1 e c a) (X1 e ((s,Ta)::cs) a),orV (X1 e c b) (X1 e ((s,Tc)::cs) b)with
    |some va,some vb=>K (z2g t va vb)
    |_,_=>False)else False
  |_=>False
 |_=>False
theorem zb6{f:Act}(i:Sat n e f){x a b:Operand}{K:Value->Prop}(H:qao e c x a b K):
  ∃v,K v/\(valid (zz f) c->∃t,f.eval x=.bool t/\(if t=Ta then f.eval a else f.eval b)=v):=by
 unfold qao at H;split at H;rename_i s;split at H;rename_i cs t o;cases hsf:suf cs c with
 |false=>rw[hsf]at H;exact H.elim
 |true=>
  rw[hsf]at H;simp only[cond_true]at H;split at H;rename_i q r l k;refine⟨_,H,λm=>⟨t,?_,?_⟩⟩;exact(i.all _ (za5 o)).1 (Jb hsf m);have h:=Jb hsf m;have p:zz f s=.bool t:=(i.all _ (za5 o)).1 h;rw[zw3];cases t with
  |true=>simp only[if_true];unfold orV at l;split at l;rename_i v _ h1;simp only[Ac]at l;subst l;exact qn i m h1;exact qn i (c:=(s,Ta)::cs) ⟨p,h⟩ l
  |false=>simp only[Bc,if_false];unfold orV at k;split at k;rename_i v _ h1;simp only[Ac]at k;subst k;exact qn i m h1;exact qn i (c:=(s,Tc)::cs) ⟨p,h⟩ k
  exact H.elim
 exact H.elim;exact H.elim
def opW(P:Program)(o:Oper)(e:Env)(c:zx)(h:zb)(K:Value->zb->Prop):Prop:=
 match o.op with
 |.pick x a b=>qao e c x a b λv=>K v h
 |_=>bif Yg o.op then(bif known e c o.op.operands.toList then(match zfa e c with
   |some g=>stepW P o (rho e c) g h K
   |none=>False)else False)else False
def wR(P:Program)(n:Nat)(ops:Array Oper)(K:Env->zb->Prop):List Oper->Env->zb->Prop
 |[],e,h=>K (clean e) h
 |o::rest,e,h=>match J7 ops e o.guard with
  |some c=>bif jk n c o.dst then opW P o e c h λv h'=>wR P n ops K rest (putO e o.dst c v) h' else False
  |none=>False
theorem z2h(H:opW P o e c h K)(b:Sat n e a)(f:valid (zz a) c)(B:World)(d:Nat)
  {next:Act->World->Prop} {Q:Exit->Act->World->Prop} (i:∀v m h',K v h'->next (a.put o.dst v) (mk B m h')):o.wp P a (mk B d h) next Q:=by
 unfold opW at H;unfold Oper.wp;split at H;rename_i x y z k;obtain⟨v,h1,r⟩:=zb6 b H;obtain⟨t,q,l⟩:=r f;refine upon_value (w':=mk B d h) (v:=v) ?_ (i _ _ _ h1);simp only[execOp,k,q,asBool,Sem.run_bind,Sem.run_pure,Result.andThen_ok];rw[l];cases hns:Yg o.op with
 |false=>rw[hns]at H;exact H.elim
 |true=>
  rw[hns]at H;cases hk:known e c o.op.operands.toList with
  |false=>rw[hk]at H;exact H.elim
  |true=>rw[hk]at H;simp only[cond_true]at H;split at H;rename_i g p;rw[zh4 b f hns hk];exact zuv H (zb5 b p f) B d i;exact H.elim
theorem qc6(H:opW P o e c h K)(b:Sat n e a)(i:¬valid (zz a) c):∃v,K v h:=by
 unfold opW at H;split at H;obtain⟨v,h1,_⟩:=zb6 b H;exact⟨v,h1⟩;cases hns:Yg o.op with
 |false=>rw[hns]at H;exact H.elim
 |true=>
  rw[hns]at H;cases hk:known e c o.op.operands.toList with
  |false=>rw[hk]at H;exact H.elim
  |true=>rw[hk]at H;simp only[cond_true]at H;split at H;rename_i g f;rw[zzr b f i]at H;exact zuw H;exact H.elim
def xd:List Oper->List Nat
 |[]=>[]
 |o::l=>match o.dst with
  |some d=>d::xd l
  |none=>xd l
def Same(ms:List Nat)(a b:Act):Prop:=∀i,i∉ms->zz b i=zz a i
theorem Same.refl(ms:List Nat)(a:Act):Same ms a a:=λ_ _=>rfl
theorem Same.trans{a b c:Act}(h:Same ms a b)(k:Same ms b c):Same ms a c:=λi hi=>(k i hi).trans (h i hi)
theorem Same.mono{ms c:List Nat}(h:Same ms a b)(e:∀x∈ms,x∈c):Same c a b:=λi hi=>h i λf=>hi (e i f)
theorem Same.put(a:Act)(d:Option Nat)(v:Value)(h:∀i,d=Td i->i∈ms):Same ms a (a.put d v):=by
 intro i hi;cases d with
 |none=>rfl
 |some j=>exact qe λe=>hi (e ▸ h j rfl)
theorem zdk{P:Program}{n:Nat}{ops:Array Oper}{K:Env->zb->Prop}{Q:Exit->Act->World->Prop}(B:World):
  ∀(l:List Oper) (e:Env) (h:zb) (a:Act) (d:Nat),wR P n ops K l e h->Sat n e a->(∀e' a' m h',Sat n e' a'->Same (xd l) a a'->K e' h'->Q .normal a' (mk B m h'))->wpList P ops Q l a (mk B d h)
 |[],e,h,a,d,H,hs,hQ=>hQ _ _ _ _ hs.clean (Same.refl _ _) H
 |o::rest,e,h,a,d,H,hs,hQ=>by
  unfold wR at H;split at H;rename_i c z;cases hd:jk n c o.dst with
  |false=>rw[hd]at H;exact H.elim
  |true=>
   rw[hd]at H;simp only[cond_true]at H;have w:=X3 hs z;have q:∀i,o.dst=Td i->i∈xd (o::rest):=λi hi=>by simp[xd,hi]
   have f:∀x∈xd rest,x∈xd (o::rest):=λx r=>by unfold xd;split;exact Ae _ r;exact r
   have b:∀v u m h',(valid (zz a) c->u=v)->(¬valid (zz a) c->u=undef)->wR P n ops K rest (putO e o.dst c v) h'->wpList P ops Q rest (a.put o.dst u) (mk B m h'):=λv u m h' h1 C E=>
    zdk B rest _ _ _ _ E (hs.putO hd h1 C) λe' a' t h'' D y A=>hQ e' a' t h'' D ((Same.put a o.dst u q).trans (y.mono f)) A
   unfold wpList;by_cases p:valid (zz a) c;rw[if_pos (w.2 p)];exact .inl (z2h H hs p B d λv m h' s=>b v v m h' (λ_=>rfl) (λk=>absurd p k) s);rw[if_neg (λr=>p (w.1 r))];obtain⟨v,s⟩:=qc6 H hs p;exact b v undef d h (λk=>absurd k p) (λ_=>rfl) s
  exact H.elim
def qej(P:Program)(o:Oper)(ρ:Operand->Value)(g:Option Bool)(h:zb)(K:Value->Prop):Prop:=
 match o.op with
 |.call c=>match c.callee with
  |.value x=>bif zdj x then(match Ym P (execOp ρ o)with
    |some (.enter f args)=>match qho P o.type with
     |some rt=>qc3 rt λv=>req g (XC P f args h λb h'=>b=v/\h'=h)/\K v
     |none=>False
    |_=>False)else(match qho P o.type with
     |some rt=>qc3 rt λv=>req g (qhs P (ρ x) (c.args.map ρ) λf args=>XC P f args h λb h'=>b=v/\h'=h)/\K v
     |none=>False)
  |_=>False
 |_=>False
theorem zux{ρ:Operand->Value}{K:Value->Prop}(H:qej P o ρ g h K):
  ∃v,K v/\(gok g->∃f args,(∀w,(execOp ρ o).run P w=.ok (.enter f args) w)/\XC P f args h λi h'=>i=v/\h'=h):=by
 unfold qej at H;split at H;rename_i c l;split at H;rename_i x p;cases hst:zdj x with
 |true=>rw[hst]at H;simp only[cond_true]at H;split at H;rename_i f args k;split at H;obtain⟨v,h1,e⟩:=zn4 H;exact⟨v,e,λb=>⟨f,args,λw=>zgy k w,h1.out b⟩⟩;exact H.elim;exact H.elim
 |false=>rw[hst]at H;simp only[cond_false]at H;split at H;obtain⟨v,h1,e⟩:=zn4 H;refine⟨v,e,λb=>?_⟩;obtain⟨f,args,n,m⟩:=zme l p (h1.out b);exact⟨f,args,m,n⟩;exact H.elim
 exact H.elim;exact H.elim
def zq6(o:Oper):Bool:=match o.op with
 |.call c=>match c.callee with
  |.builtin _=>Tc
  |_=>Ta
 |_=>Tc
def opQ(P:Program)(o:Oper)(e:Env)(c:zx)(h:zb)(f:Bool)(K:Value->Prop):Prop:=
 match o.op with
 |.pick x a b=>qao e c x a b K
 |_=>bif Yg o.op then(bif known e c o.op.operands.toList then(match zfa e c with
   |some g=>bif zq6 o then(bif f then qej P o (rho e c) g h K else False)else J8 P o (rho e c) g h K
   |none=>False)else False)else False
def wQ(P:Program)(n:Nat)(ops:Array Oper)(h:zb)(b:Bool)(K:Env->Prop):List Oper->Env->Prop
 |[],e=>K e
 |o::rest,e=>match J7 ops e o.guard with
  |some c=>bif jk n c o.dst then opQ P o e c h b λv=>wQ P n ops h b K rest (putO e o.dst c v)else False
  |none=>False
def YQ(P:Program)(o:Oper)(a:Act)(B:World)(h:zb)(b:Bool)(v:Value):Prop:=
 (∀d,(execOp a.eval o).run P (mk B d h)=.ok (.value v) (mk B d h)) \/
 (b=Ta/\∃f args,(∀d,(execOp a.eval o).run P (mk B d h)=.ok (.enter f args) (mk B d h))/\XC P f args h λc h'=>c=v/\h'=h)
theorem z2i{b:Bool}{K:Value->Prop}(H:opQ P o e c h b K)(k:Sat n e a)(B:World):
  ∃v,K v/\(valid (zz a) c->YQ P o a B h b v):=by
 unfold opQ at H;split at H;rename_i x y z r;obtain⟨v,h1,l⟩:=zb6 k H;refine⟨v,h1,λi=>?_⟩;obtain⟨t,p,m⟩:=l i;refine .inl λd=>?_;simp only[execOp,r,p,asBool,Sem.run_bind,Sem.run_pure,Result.andThen_ok];rw[m];cases hns:Yg o.op with
 |false=>rw[hns]at H;exact H.elim
 |true=>
  rw[hns]at H;cases hk:known e c o.op.operands.toList with
  |false=>rw[hk]at H;exact H.elim
  |true=>
   rw[hk]at H;simp only[cond_true]at H;split at H;rename_i g q;cases hc:zq6 o with
   |false=>rw[hc]at H;obtain⟨v,h1,l⟩:=zb4 H;refine⟨v,h1,λi=>.inl λd=>?_⟩;rw[zh4 k i hns hk];exact l (zb5 k q i) B d
   |true=>
    rw[hc]at H;cases b with
    |false=>exact H.elim
    |true=>simp only[cond_true]at H;obtain⟨v,h1,l⟩:=zux H;refine⟨v,h1,λi=>?_⟩;obtain⟨f,args,p,m⟩:=l (zb5 k q i);refine .inr ⟨rfl,f,args,λd=>?_,m⟩;rw[zh4 k i hns hk];exact p _
   exact H.elim
theorem zw4{P:Program}{n:Nat}{ops:Array Oper}{h:zb}{k:Bool}{K:Env->Prop}{Q:Act->Prop}(B:World):
  ∀(l:List Oper) (e:Env) (a:Act),wQ P n ops h k K l e->Sat n e a->(∀e' a',Sat n e' a'->Same (xd l) a a'->K e'->Q a')->wpQuiet P ops (λw=>∃d,w=mk B d h) Q l a
 |[],e,a,H,hs,hQ=>hQ _ _ hs (Same.refl _ _) H
 |o::rest,e,a,H,hs,hQ=>by
  unfold wQ at H;split at H;rename_i c C;cases hd:jk n c o.dst with
  |false=>rw[hd]at H;exact H.elim
  |true=>
   rw[hd]at H;simp only[cond_true]at H;have y:=X3 hs C;have r:∀i,o.dst=Td i->i∈xd (o::rest):=λi hi=>by simp[xd,hi]
   have m:∀x∈xd rest,x∈xd (o::rest):=λx s=>by unfold xd;split;exact Ae _ s;exact s
   obtain⟨v,E,F⟩:=z2i H hs B;have b:∀u,(valid (zz a) c->u=v)->(¬valid (zz a) c->u=undef)->wpQuiet P ops (λw=>∃d,w=mk B d h) Q rest (a.put o.dst u):=λu h1 t=>
    zw4 B rest _ _ E (hs.putO hd h1 t) λe' a' G z D=>hQ e' a' G ((Same.put a o.dst u r).trans (z.mono m)) D
   unfold wpQuiet;by_cases q:valid (zz a) c;rw[if_pos (y.2 q)];refine⟨v,?_,b v (λ_=>rfl) (λp=>absurd q p)⟩;rintro w ⟨d,rfl⟩;unfold Oper.quietAt;rcases F q with h1|⟨_,f,args,h1,t⟩;rw[h1 d];exact⟨rfl,rfl⟩;rw[h1 d];refine⟨rfl,(t B d).mono ?_⟩;rintro e' w'' ⟨I,A,h',rfl,rfl,rfl,rfl⟩;exact⟨rfl,A,rfl⟩;rw[if_neg (λs=>q (y.1 s))];exact b undef (λp=>absurd p q) (λ_=>rfl)
  exact H.elim
end
section
variable {i:Nat} {a b:Act} {o:Oper} {h h':zb} {P:Program} {ρ:Operand -> Value} {ops:Array Oper} {listed:Array Bool}
def memN:List Nat->Nat->Bool
 |[],_=>Tc
 |j::l,i=>bif Nat.beq i j then Ta else memN l i
theorem Qp{l:List Nat}(h:memN l i=Tc):i∉l:=by
 induction l with
 |nil=>simp
 |cons j l c=>simp only[memN]at h;by_cases b:Nat.beq i j=Ta;simp[b]at h;simp only[b,cond_false]at h;simp only[Ai,not_or];exact⟨λe=>b (by rw[e];simp),c h⟩
def tmpsOf:List Operand->List Nat
 |[]=>[]
 |.tmp t::l=>t::tmpsOf l
 |_::l=>tmpsOf l
def Zo(ops:Array Oper)(o:Oper):List Nat:=(match o.guard with
 |some (j,_)=>match yv ops j with
  |some g=>[g]
  |none=>[]
 |none=>[])++tmpsOf o.op.operands.toList
def Qv(ops:Array Oper)(k:Nat)(S:List Nat):Nat->Bool
 |0=>Ta
 |p+1=>bif (match yv ops p with
  |some t=>bif memN S t then Region.waitsFor .any ops k p else Ta
  |none=>Ta)then Qv ops k S p else Tc
theorem Yo{ops:Array Oper}{k:Nat}{S:List Nat}:∀{m:Nat},Qv ops k S m=Ta->∀p t,p<m->yv ops p=Td t->t∈S->Region.waitsFor .any ops k p=Ta
 |0,_,p,t,hp,_,_=>by omega
 |m+1,h,p,t,hp,hd,ht=>by
  simp only[Qv]at h;cases hb:(match yv ops m with
   |some t=>bif memN S t then Region.waitsFor .any ops k m else Ta
   |none=>Ta)with
  |false=>rw[hb]at h;cases h
  |true=>
   rw[hb]at h;rcases AX p m with h1|h1;exact Yo h p t h1 hd ht;have:p=m:=by omega
   subst this;rw[hd]at hb;simp only at hb;cases hm:memN S t with
   |false=>exact absurd ht (Qp hm)
   |true=>rw[hm]at hb;exact hb
def jl(ops:Array Oper):Nat->Bool
 |0=>Ta
 |j+1=>bif (match ops[j]? with
  |some o=>o.after.toList.all λe=>!(Region.binds .any e)||Nat.blt e.on j
  |none=>Ta)then jl ops j else Tc
theorem yn{ops:Array Oper}:∀{n:Nat},jl ops n=Ta->∀j o,j<n->ops[j]?=Td o->∀e∈o.after,Region.binds .any e=Ta->e.on<j
 |0,_,j,_,hj,_,_,_,_=>by omega
 |n+1,h,j,o,hj,ho,e,he,hb=>by
  simp only[jl]at h;cases hc:(match ops[n]? with
   |some o=>o.after.toList.all λe=>!(Region.binds .any e)||Nat.blt e.on n
   |none=>Ta)with
  |false=>rw[hc]at h;cases h
  |true=>
   rw[hc]at h;rcases AX j n with h1|h1;exact yn h j o h1 ho e he hb;have:j=n:=by omega
   subst this;rw[ho]at hc;have:=Av.1 hc e (by simpa using he);rw[hb]at this;simpa[Cm]using this
def z2j(ops:Array Oper)(d:Nat):Nat->Bool
 |0=>Tc
 |p+1=>bif (match yv ops p with
  |some t=>Nat.beq t d
  |none=>Tc)then Ta else z2j ops d p
def Yp(ops:Array Oper):Nat->Bool
 |0=>Ta
 |p+1=>bif (match yv ops p with
  |some t=>!(z2j ops t p)
  |none=>Ta)then Yp ops p else Tc
theorem zfb{ops:Array Oper}{d:Nat}:∀{m:Nat},z2j ops d m=Tc->∀p,p<m->yv ops p≠Td d
 |0,_,p,hp=>by omega
 |m+1,h,p,hp=>by
  simp only[z2j]at h;cases hb:(match yv ops m with
   |some t=>Nat.beq t d
   |none=>Tc)with
  |true=>rw[hb]at h;cases h
  |false=>
   rw[hb]at h;rcases AX p m with h1|h1;exact zfb h p h1;have:p=m:=by omega
   subst this;intro e;rw[e]at hb;simp at hb
theorem wa{ops:Array Oper}:∀{m:Nat},Yp ops m=Ta->∀p q t,p<m->q<m->yv ops p=Td t->yv ops q=Td t->p=q
 |0,_,p,q,t,hp,_,_,_=>by omega
 |m+1,h,p,q,t,hp,hq,e1,e2=>by
  simp only[Yp]at h;cases hb:(match yv ops m with
   |some t=>!(z2j ops t m)
   |none=>Ta)with
  |false=>rw[hb]at h;cases h
  |true=>
   rw[hb]at h;rcases AX p m with h1|h1 <;> rcases AX q m with h2|h2;exact wa h p q t h1 h2 e1 e2;have:q=m:=by omega
   subst this;rw[e2]at hb;simp only[Dh]at hb;exact absurd e1 (zfb hb p h1);have:p=m:=by omega
   subst this;rw[e1]at hb;simp only[Dh]at hb;exact absurd e2 (zfb hb q h2);omega
def ziw(o:Oper):Option Bool:=match o.op with
 |.fieldAddr _ _ _=>Td Ta
 |.indexAddr _ _ _=>Td Ta
 |.move _=>Td Ta
 |.assign _=>match o.after.toList with
  |[]=>Td Ta
  |_=>Te
 |.nilCheck _=>Td Ta
 |.slice _ _ _ _ _=>Td Ta
 |.binOp _ _ _ _ _=>Td Ta
 |.load _ _=>Td Tc
 |_=>Te
def zdl(o:Oper):Bool:=match ziw o with
 |some _=>Ta
 |none=>Tc
def yx(o:Oper):Bool:=match ziw o with
 |some b=>!b
 |none=>Tc
def qek(ops:Array Oper)(i:Nat):List Nat->Bool
 |[]=>Tc
 |j::l=>bif Region.waitsFor .any ops j i then Ta else qek ops i l
theorem za6{a b:Act}:∀{l:List Operand},(∀t∈tmpsOf l,zz a t=zz b t)->∀x∈l,a.eval x=b.eval x
 |[],_,x,c=>by cases c
 |y::l,h,x,c=>by
  rcases Ai.1 c with rfl|c;cases x with
  |tmp t=>exact h t (by simp[tmpsOf])
  |const v=>rfl
  |global g=>rfl
  |func f=>rfl
  refine za6 (l:=l) (λt e=>h t ?_) x c;cases y <;> simp[tmpsOf,e]
theorem zfc(c:Yg o.op=Ta)(h:∀t∈tmpsOf o.op.operands.toList,zz a t=zz b t):execOp a.eval o=execOp b.eval o:= execOp_congr o (λcs b e=>by rw[e]at c;cases c) λx f=>za6 h x (by simpa using f)
theorem zuy{p:Addr}(e:h'[p.block]?=h[p.block]?)(i:Nat):zc h' (p.add i)=zc h (p.add i):=by
 have b:(p.add i).block=p.block:=by unfold Ad;split <;> rfl
 unfold zc;rw[b,e]
theorem zdm{h h':zb}{p:Addr}(e:h'[p.block]?=h[p.block]?):∀{vs:List Value} {i:Nat},zd h p i vs->zd h' p i vs
 |[],_,_=>trivial
 |v::vs,i,⟨h1,h2⟩=>⟨(zuy e i).trans h1,zdm e h2⟩
theorem zuz{t:TypeId}{x:Value}{K:Value->Prop}(H:zq1 P h t x Te K):∃v p,x=.pointer (Td p)/\K v/\∀h',h'[p.block]?=h[p.block]?->QExec P (Dp t x) h' v:=by unfold zq1 at H;split at H;rename_i q a c;obtain⟨x,h1,b⟩:=H;refine⟨_,q,rfl,b,λh' e=>zh5 c ?_⟩;have h1:zc h q=Td _:=h1;unfold zc at h1 ⊢;rw[e];exact h1;rename_i q l c;obtain⟨vs,h0,⟨h1,b⟩,_⟩:=Jc H (wq l);exact⟨_,q,rfl,b,λh' e=>zh6 c h0 (zdm e h1)⟩;exact H.elim
def LdOK(o:Oper)(ρ:Operand->Value)(h h':zb):Prop:=yx o=Tc\/Keep h.size h h'\/∀t a p,o.op=.load t a->ρ a=.pointer (Td p)->h'[p.block]?=h[p.block]?
theorem LdOK.congr{ρ b:Operand->Value}(e:∀x∈o.op.operands.toList,b x=ρ x)(H:LdOK o ρ h h'):LdOK o b h h':=by rcases H with H|H|H;exact .inl H;exact .inr (.inl H);refine .inr (.inr λt a p c f=>H t a p c ?_);rw[<-e a (by rw[c];simp[Op.operands])];exact f
theorem zzs(k:zdl o=Ta){K:Value->Prop}(H:J8 P o ρ Te h K):
  ∃v,K v/\∀h',LdOK o ρ h h'->QExec P (execOp ρ o) h' (.value v):=by
 cases ho:o.op with
 |load t x=>
  have e:zll o=Ta:=by unfold zll;rw[ho]
  obtain⟨l,q,k2⟩:=ze9 e H;unfold J8 at H;rw[ho]at H;simp only at H;obtain⟨v,p,f,h1,b⟩:=zuz H;have r:l=v:=by
   have n:=k2 trivial h (Keep.refl _ _) default 0;have a2:QExec P (execOp ρ o) h (.value v):=by simp only[execOp,ho];exact(b h rfl).val
   have a2:=a2 default 0;rw[n]at a2;injection a2 with a2 _;injection a2
  subst r;refine⟨l,q,λh' c=>?_⟩;rcases c with c|c|c;unfold yx ziw at c;rw[ho]at c;cases c;exact k2 trivial h' c;have:=b h' (c t x p ho f);simp only[execOp,ho];exact this.val
 |fieldAddr t x i=>unfold J8 at H;rw[ho]at H;obtain⟨v,h1,b⟩:=zt H Te;exact⟨v,h1,λh' _=>b trivial h'⟩
 |indexAddr t x i=>
  unfold J8 at H;rw[ho]at H;simp only at H;cases he:zbw P t with
  |false=>rw[he]at H;exact H.elim
  |true=>rw[he]at H;obtain⟨v,h1,b⟩:=Zu (Zn he) H;refine⟨v,h1,λh' _=>?_⟩;simp only[execOp,ho];exact(b trivial h').val
 |move x=>unfold J8 at H;rw[ho]at H;obtain⟨v,h1,b⟩:=zt H Te;exact⟨v,h1,λh' _=>b trivial h'⟩
 |assign x=>unfold J8 at H;rw[ho]at H;obtain⟨v,h1,b⟩:=zt H Te;exact⟨v,h1,λh' _=>b trivial h'⟩
 |slice t x lo hi mx=>
  unfold J8 at H;rw[ho]at H;simp only at H;cases he:zbw P t with
  |false=>rw[he]at H;exact H.elim
  |true=>rw[he]at H;obtain⟨v,h1,b⟩:=Yn (Zn he) H;refine⟨v,h1,λh' _=>?_⟩;simp only[execOp,ho];exact(b (show gok Te from trivial) h').val
 |binOp s t x y t'=>unfold J8 at H;rw[ho]at H;obtain⟨v,h1,b⟩:=zuu ho H;exact⟨v,h1,λh' _=>b trivial h'⟩
 |nilCheck x=>unfold J8 at H;rw[ho]at H;simp only at H;unfold qki at H;split at H;rename_i p f;obtain⟨a,h1,b⟩:=H;have m:=h1.out (g:=Te) trivial;subst m;refine⟨_,b,λh' _ B d=>?_⟩;simp only[execOp,ho,f];rfl;obtain⟨v,h1,b⟩:=zt H Te;exact⟨v,h1,λh' _=>b trivial h'⟩
 |_=>unfold zdl ziw at k;rw[ho]at k;cases k
theorem zdn(σ:Nat->Value):valid σ []:=by unfold valid;trivial
theorem xj{d:Option Nat}{u:Value}{s:Nat}(h:d≠Td s):zz (a.put d u) s=zz a s:=by
 cases d with
 |none=>rfl
 |some t=>exact qe λe=>h (by rw[e])
theorem zzt{next:Act->World->Prop}{Q:Exit->Act->World->Prop}{r:Result Next}(k:b.defers=[])
  (H:o.upon P b (λc w=>c.defers=[]/\∀v,c=b.put o.dst v->next (a.put o.dst v) w) (λ_ _ _=>False) r):o.upon P a next Q r:=by
 have lo:¬LetsOut (λ(_:Exit) (_:Act) (_:World)=>False):=λh=>by obtain⟨_,_,h⟩:=h;exact h
 cases r with
 |ok x w=>
  cases x with
  |value v=>exact H.2 v rfl
  |skip=>exact H.2 undef rfl
  |defer d=>have:=H.1;rw[xh]at this;cases this
  |enter f args=>
   refine Calls.mono (show Calls P f args w _ from H) λe w' i=>?_;cases e with
   |returned v=>exact i.2 v rfl
   |panicked c=>exact i.elim
   |outgrown=>exact absurd i lo
  |row row args=>exact Rows.mono (show Rows P row args w _ from H) λv w' i=>i.2 v rfl
  |_=>exact H
 |halt x w=>cases x <;> first|exact H.elim|exact H
theorem za7{i p:Nat}(hi:i∈Region.ready .any ops listed)(n:Region.waitsFor .any ops i p=Ta):listed.getD p Tc=Ta:=by obtain⟨l,c,e,h,k,f⟩:=Region.waitsFor_spec n;obtain⟨_,o,m,b⟩:=mem_ready.1 hi;have:l=o:=Az (c.symm.trans m);subst this;rw[<-f];exact b e h k
theorem Yq{n:Nat}(inv:HeadInv .any ops n listed){i p:Nat}(hi:listed.getD i Tc=Ta)(l:Region.waitsFor .any ops i p=Ta):listed.getD p Tc=Ta:=by obtain⟨k,b,e,f,h,c⟩:=Region.waitsFor_spec l;rw[<-c];exact inv.closed i k b hi e f h
theorem zu0{p:Nat->Bool}{N:Nat}(h:∃k,k<N/\p k=Tc):∃k,k<N/\p k=Tc/\∀j,j<k->p j=Ta:=by
 obtain⟨k,h1,l⟩:=h;induction k using Dc with
 |_ k e=>
  by_cases b:∃j,j<k/\p j=Tc;obtain⟨j,i,f⟩:=b;exact e j i (by omega) f;exact⟨k,h1,l,λj c=>by
   cases hb:p j with
   |true=>rfl
   |false=>exact absurd ⟨j,c,hb⟩ b⟩
theorem zw5{o:Oper}:∀{l:List Oper},o∈l->∀i,o.dst=Td i->i∈xd l
 |[],h,_,_=>by cases h
 |x::l,h,i,hi=>by unfold xd;rcases Ai.1 h with rfl|h;rw[hi];exact Am;have:=zw5 h i hi;split;exact Ae _ this;exact this
theorem js{k:Nat}(h:ops[k]?=Td o):yv ops k=o.dst:=by simp[yv,h]
def zqx(j:Nat):List Nat->List Nat
 |[]=>[]
 |k::l=>bif Nat.beq k j then zqx j l else k::zqx j l
theorem zdo{j x:Nat}:∀{l:List Nat},x∈zqx j l↔x∈l/\x≠j
 |[]=>by simp[zqx]
 |k::l=>by
  simp only[zqx];cases hb:Nat.beq k j with
  |true=>have:=Al hb;subst this;rw[cond_true,zdo,Ai];exact⟨λh=>⟨.inr h.1,h.2⟩,λh=>⟨h.1.resolve_left h.2,h.2⟩⟩
  |false=>
   have b:k≠j:=λe=>by rw[e]at hb;simp at hb
   rw[cond_false,Ai,Ai,zdo];constructor;rintro(rfl|h);exact⟨.inl rfl,b⟩;exact⟨.inr h.1,h.2⟩;rintro⟨rfl|h,c⟩;exact .inl rfl;exact .inr ⟨h,c⟩
theorem zfd{j:Nat}:∀{l:List Nat},l.Nodup->(zqx j l).Nodup
 |[],h=>h
 |k::l,h=>by
  simp only[zqx];rw[Ba]at h;cases Nat.beq k j with
  |true=>exact zfd h.2
  |false=>rw[cond_false,Ba];exact⟨λb=>h.1 (zdo.1 b).1,zfd h.2⟩
theorem z2k{j:Nat}:∀{l:List Nat},(zqx j l).length<=l.length
 |[]=>Ab _
 |k::l=>by
  simp only[zqx];have:=z2k (j:=j) (l:=l);cases Nat.beq k j with
  |true=>rw[cond_true,Aq];omega
  |false=>rw[cond_false,Aq,Aq];omega
theorem zw6{j:Nat}:∀{l:List Nat},j∈l->(zqx j l).length+1<=l.length
 |[],h=>by cases h
 |k::l,h=>by
  simp only[zqx];cases hb:Nat.beq k j with
  |true=>have:=z2k (j:=j) (l:=l);rw[cond_true,Aq];omega
  |false=>
   have b:k≠j:=λe=>by rw[e]at hb;simp at hb
   have:=zw6 (j:=j) (l:=l) (by rcases Ai.1 h with rfl|h;exact absurd rfl b;exact h);rw[cond_false,Aq,Aq];omega
def qk9(p:Nat->Prop):List Nat->Prop
 |[]=>True
 |[j]=>p j
 |j::k::l=>p j/\qk9 p (k::l)
theorem zw7{p:Nat->Prop}:∀{l:List Nat},qk9 p l->∀j∈l,p j
 |[],_,j,h=>by cases h
 |[k],H,j,h=>by simp at h;subst h;exact H
 |k::k2::l,H,j,h=>by rcases Ai.1 h with rfl|h;exact H.1;exact zw7 H.2 j h
def z2l(p:Nat->Bool):List Nat->List Nat
 |[]=>[]
 |j::l=>bif p j then j::z2l p l else z2l p l
theorem zix{p:Nat->Bool}{j:Nat}:∀{l:List Nat},j∈l->p j=Ta->j∈z2l p l
 |[],h,_=>by cases h
 |k::l,h,hp=>by
  simp only[z2l];rcases Ai.1 h with rfl|h;rw[hp];exact Am;cases p k with
  |true=>exact Ae _ (zix h hp)
  |false=>exact zix h hp
end
section
variable {l:List Nat} {i m n:Nat} {ops:Array Oper} {P:Program} {o:Oper} {h h0:zb} {md:Bool} {e:Env} {a b:Act}
def qc7(o:Oper):Bool:=match o.op with
 |.extract _ _=>Ta
 |_=>Tc
def zq7(o:Oper):Bool:=bif zdl o then Ta else qc7 o
def upL(ops:Array Oper):Nat->List Nat->List Nat
 |0,S=>S
 |k+1,S=>upL ops k (bif S.any λp=>Region.waitsFor .any ops p k then k::S else S)
theorem zn6{ops:Array Oper}{listed:Array Bool}(c:∀i p,listed.getD i Tc=Ta->Region.waitsFor .any ops i p=Ta->listed.getD p Tc=Ta):∀{m:Nat} {S:List Nat},(∀j∈S,listed.getD j Tc=Ta)->∀k∈upL ops m S,listed.getD k Tc=Ta
 |0,S,h,k,hk=>h k hk
 |m+1,S,h,k,hk=>by
  unfold upL at hk;refine zn6 c (m:=m) (λj b=>?_) k hk;cases ha:(S.any λp=>Region.waitsFor .any ops p m)with
  |false=>rw[ha]at b;exact h j b
  |true=>rw[ha,cond_true]at b;rcases Ai.1 b with rfl|b;obtain⟨p,e,f⟩:=List.any_eq_true.1 ha;exact c p _ (h p e) f;exact h j b
theorem J9(h:memN l i=Ta):i∈l:=by
 induction l with
 |nil=>cases h
 |cons j l b=>
  simp only[memN]at h;cases hb:Nat.beq i j with
  |true=>rw[Al hb];exact Am
  |false=>rw[hb]at h;exact Ae _ (b h)
theorem ziy(h:i∈l):memN l i=Ta:=by
 cases hm:memN l i with
 |true=>rfl
 |false=>exact absurd h (Qp hm)
def qla(ops:Array Oper)(k:Nat):Bool:=match ops[k]? with
 |some o=>!(zq7 o)
 |none=>Tc
def qnb(ops:Array Oper)(i:Nat):Bool:=(upL ops ops.size [i]).any (qla ops)
def gdd(o:Oper):Bool:=match o.guard with
 |none=>Tc
 |some _=>Ta
def qhv(ops:Array Oper)(t:Nat):Nat->Bool
 |0=>Tc
 |k+1=>bif (match ops[k]? with
  |some o=>memN (tmpsOf o.op.operands.toList) t
  |none=>Tc)then Ta else qhv ops t k
def qlb(ops:Array Oper)(i:Nat)(o:Oper):Bool:=match o.op with
 |.assign _=>(match o.dst with
  |some t=>qhv ops t i
  |none=>Tc)
 |_=>Tc
def Jd(ops:Array Oper)(i:Nat):Bool:=match ops[i]? with
 |some o=>bif gdd o then Ta else bif zq7 o then(bif yx o then qnb ops i else qlb ops i o)else Ta
 |none=>Ta
def hvL(ops:Array Oper):List Nat:=(Bj ops.size).filter (Jd ops)
theorem ziz{j:Nat}:j∈hvL ops↔j<ops.size/\Jd ops j=Ta:=by unfold hvL;rw[Cf,AU]
theorem z2m(ops:Array Oper):(hvL ops).Nodup:=List.nodup_range.filter _
def okW(ops:Array Oper)(done S:List Nat)(k:Nat):Nat->Bool
 |0=>Ta
 |p+1=>bif Region.waitsFor .any ops k p then(bif (bif Jd ops p then memN done p else memN S p)then okW ops done S k p else Tc)else okW ops done S k p
theorem zh7{ops:Array Oper}{done S:List Nat}{k:Nat}:∀{m:Nat},okW ops done S k m=Ta↔∀p,p<m->Region.waitsFor .any ops k p=Ta->(Jd ops p=Ta->p∈done)/\(Jd ops p=Tc->p∈S)
 |0=>⟨λ_ p f=>by omega,λ_=>rfl⟩
 |m+1=>by
  unfold okW;have i:=zh7 (ops:=ops) (done:=done) (S:=S) (k:=k) (m:=m);constructor
  ·intro h p f c;rcases AX p m with h1|h1
   ·refine i.1 ?_ p h1 c;revert h;cases Region.waitsFor .any ops k m with
    |false=>exact id
    |true=>
     cases(bif Jd ops m then memN done m else memN S m)with
     |false=>intro h;cases h
     |true=>exact id
   ·have:p=m:=by omega
    subst this;rw[c,cond_true]at h;cases hi:Jd ops p with
    |true=>
     rw[hi,cond_true]at h;cases hm:memN done p with
     |false=>rw[hm]at h;cases h
     |true=>exact⟨λ_=>J9 hm,(λe=>by cases e)⟩
    |false=>
     rw[hi,cond_false]at h;cases hm:memN S p with
     |false=>rw[hm]at h;cases h
     |true=>exact⟨(λe=>by cases e),λ_=>J9 hm⟩
  intro h;have h1:=i.2 λp f c=>h p (by omega) c;cases c:Region.waitsFor .any ops k m with
  |false=>exact h1
  |true=>
   obtain⟨a,b⟩:=h m (by omega) c;rw[cond_true];cases hi:Jd ops m with
   |true=>rw[cond_true,ziy (a hi)];exact h1
   |false=>rw[cond_false,ziy (b hi)];exact h1
def qkj(ops:Array Oper)(done S:List Nat)(k:Nat):List Nat:=bif Jd ops k then S else(bif okW ops done S k k then k::S else S)
def Je(ops:Array Oper)(done:List Nat):Nat->List Nat
 |0=>[]
 |k+1=>qkj ops done (Je ops done k) k
theorem xe{ops:Array Oper}{done:List Nat}:∀{m i:Nat},i∈Je ops done m->i<m/\Jd ops i=Tc/\okW ops done (Je ops done i) i i=Ta
 |0,i,h=>by cases h
 |m+1,i,h=>by
  unfold Je qkj at h;cases hi:Jd ops m with
  |true=>rw[hi,cond_true]at h;have:=xe h;exact⟨by omega,this.2⟩
  |false=>
   rw[hi,cond_false]at h;cases ho:okW ops done (Je ops done m) m m with
   |false=>rw[ho,cond_false]at h;have:=xe h;exact⟨by omega,this.2⟩
   |true=>rw[ho,cond_true]at h;rcases Ai.1 h with rfl|h;exact⟨by omega,hi,ho⟩;have:=xe h;exact⟨by omega,this.2⟩
theorem zi0{ops:Array Oper}{done:List Nat}{m:Nat}:∀{m' i:Nat},m<=m'->i∈Je ops done m->i∈Je ops done m'
 |0,i,h,hi=>by(have:m=0:=by omega);subst this;exact hi
 |m'+1,i,h,hi=>by
  rcases Nat.eq_or_lt_of_le h with e|e;rw[<-e];exact hi
  ·have:=zi0 (m':=m') (by omega) hi;unfold Je qkj;cases Jd ops m' with
   |true=>exact this
   |false=>
    rw[cond_false];cases okW ops done (Je ops done m') m' m' with
    |true=>exact Ae _ this
    |false=>exact this
theorem zn7{done:List Nat}(b:i<m)(h1:Jd ops i=Tc)(c:okW ops done (Je ops done i) i i=Ta):i∈Je ops done m:=by refine zi0 (m:=i+1) b ?_;unfold Je qkj;rw[h1,c];exact Am
theorem zw8{done:List Nat}{m i p:Nat}(h:i∈Je ops done m)(c:p<i)(f:Region.waitsFor .any ops i p=Ta):(Jd ops p=Ta->p∈done)/\(Jd ops p=Tc->p∈Je ops done m):=by obtain⟨h1,k,e⟩:=xe h;obtain⟨a,b⟩:=zh7.1 e p c f;exact⟨a,λhi=>zi0 (by omega) (b hi)⟩
def Jf(c b:List Nat)(n:Nat):List Nat:=(Bj n).filter λi=>bif memN b i then !(memN c i)else Tc
theorem zmf{c b:List Nat}:i∈Jf c b n↔i<n/\i∈b/\i∉c:=by
 unfold Jf;rw[Cf,AU];constructor;rintro⟨h1,e⟩;cases hn:memN b i with
 |false=>rw[hn]at e;cases e
 |true=>rw[hn,cond_true]at e;exact⟨h1,J9 hn,λh=>by rw[ziy h]at e;cases e⟩
 rintro⟨h1,e,f⟩;refine⟨h1,?_⟩;rw[ziy e,cond_true];cases hw:memN c i with
 |false=>rfl
 |true=>exact absurd (J9 hw) f
theorem zdp(c b:List Nat)(n:Nat):(Jf c b n).Pairwise (· < ·):=CM.filter _
def wI(P:Program)(n:Nat)(h:zb)(ld:Bool)(ops:Array Oper)(K:Env->Prop):List Nat->Env->Prop
 |[],e=>K e
 |i::l,e=>match ops[i]? with
  |some o=>bif zq7 o then(bif (bif ld then Ta else !(yx o))then(bif jk n [] o.dst then(bif Yg o.op then(bif known e [] o.op.operands.toList then J8 P o (rho e []) Te h λv=>wI P n h ld ops K l (putO e o.dst [] v)else False)else False)else False)else False)else False
  |none=>False
def ja(ops:Array Oper)(f:Nat->Value):List Nat->Act->Act
 |[],a=>a
 |i::l,a=>ja ops f l (a.put (yv ops i) (f i))
theorem z2n(b:zq7 o=Ta){ρ:Operand->Value}{K:Value->Prop}(H:J8 P o ρ Te h K):
  ∃v,K v/\∀h',LdOK o ρ h h'->QExec P (execOp ρ o) h' (.value v):=by
 unfold zq7 at b;cases hb:zdl o with
 |true=>exact zzs hb H
 |false=>rw[hb,cond_false]at b;unfold qc7 at b;split at b;rename_i x i e;unfold J8 at H;rw[e]at H;obtain⟨v,h1,c⟩:=zt H Te;exact⟨v,h1,λh' _=>c trivial h'⟩;cases b
theorem zmg{ops:Array Oper}{f:Nat->Value}:∀{l:List Nat} {a:Act},(ja ops f l a).tmps.size=a.tmps.size/\(ja ops f l a).defers=a.defers
 |[],_=>⟨rfl,rfl⟩
 |i::l,a=>by unfold ja;have:=zmg (ops:=ops) (f:=f) (l:=l) (a:=a.put (yv ops i) (f i));rw[this.1,this.2];exact⟨size_put _ _ _,xh _ _ _⟩
theorem xf{ops:Array Oper}{f:Nat->Value}{s:Nat}:∀{l:List Nat} {a:Act},(∀i∈l,yv ops i≠Td s)->zz (ja ops f l a) s=zz a s
 |[],_,_=>rfl
 |i::l,a,h=>by unfold ja;rw[xf λj b=>h j (Ae _ b)];exact xj (h i Am)
theorem zb7{ops:Array Oper}{f:Nat->Value}:∀{l m:List Nat} {a:Act},ja ops f (l++m) a=ja ops f m (ja ops f l a)
 |[],_,_=>rfl
 |i::l,m,a=>by rw[AD];show ja ops f (l++m) _=ja ops f m (ja ops f l _);exact zb7
theorem zn8{P:Program}{n:Nat}{h:zb}{ld:Bool}{ops:Array Oper}{K:Env->Prop}(t:Nat->Value):∀{l:List Nat} {e:Env} {a:Act},l.Nodup->wI P n h ld ops K l e->Sat n e a->∃(f:Nat->Value) (e':Env),K e'/\Sat n e' (ja ops f l a)/\(∀i,i∉l->f i=t i) /\
  ∀b i s,l=b++i::s->∃o,ops[i]?=Td o/\zq7 o=Ta/\(ld=Tc->yx o=Tc)/\Yg o.op=Ta/\jk n [] o.dst=Ta/\∀h',LdOK o (ja ops f b a).eval h h'->QExec P (execOp (ja ops f b a).eval o) h' (.value (f i))
 |[],e,a,_,H,hs=>⟨t,e,H,hs,λ_ _=>rfl,λb i s h=>by simp at h⟩
 |i::l,e,a,hnd,H,hs=>by
  unfold wI at H;cases ho:ops[i]? with
  |none=>rw[ho]at H;exact H.elim
  |some o=>
   rw[ho]at H;simp only at H;cases hq:zq7 o with
   |false=>rw[hq]at H;exact H.elim
   |true=>
    rw[hq,cond_true]at H;cases hld:(bif ld then Ta else !(yx o))with
    |false=>rw[hld]at H;exact H.elim
    |true=>
     rw[hld,cond_true]at H;cases hd:jk n [] o.dst with
     |false=>rw[hd]at H;exact H.elim
     |true=>
      rw[hd,cond_true]at H;cases hns:Yg o.op with
      |false=>rw[hns]at H;exact H.elim
      |true=>
       rw[hns,cond_true]at H;cases hk:known e [] o.op.operands.toList with
       |false=>rw[hk]at H;exact H.elim
       |true=>
        rw[hk,cond_true]at H;rw[Ba]at hnd;obtain⟨v,J,A⟩:=z2n hq H;have c:yv ops i=o.dst:=js ho;obtain⟨f,e',z,C,w,B⟩:=zn8 (λx=>if x=i then v else t x) (a:=a.put o.dst v) hnd.2 J (hs.putO hd (λ_=>rfl) λE=>absurd (zdn _) E);have m:f i=v:=by rw[w i hnd.1,if_pos rfl]
        have q:ja ops f (i::l) a=ja ops f l (a.put o.dst v):=by show ja ops f l (a.put (yv ops i) (f i))=_;rw[c,m]
        refine⟨f,e',z,by rw[q];exact C,λj u=>?_,λb j s p=>?_⟩;simp only[Ai,not_or]at u;rw[w j u.2,if_neg u.1];cases b with
        |nil=>simp only[A8,BN]at p;obtain⟨rfl,rfl⟩:=p;refine⟨o,ho,hq,λp=>by rw[p]at hld;simpa using hld,hns,hd,λh' r=>?_⟩;show QExec P (execOp a.eval o) h' _;rw[zh4 hs (zdn _) hns hk,m];exact A h' (LdOK.congr (λx N=>(J6 hs (zdn _) hk x N).symm) r)
        |cons O b=>
         simp only[AD,BN]at p;obtain⟨rfl,rfl⟩:=p;obtain⟨F,I,y,D,L,G,M⟩:=B b j s rfl;have k:ja ops f (i::b) a=ja ops f b (a.put o.dst v):=by show ja ops f b (a.put (yv ops i) (f i))=_;rw[c,m]
         refine⟨F,I,y,D,L,G,λh' r=>?_⟩;rw[k]at r ⊢;exact M h' r
def z2o(ops:Array Oper)(U:List Nat):Nat->Bool
 |0=>Tc
 |k+1=>bif (match ops[k]? with
  |some o=>bif yx o then(bif Jd ops k then Tc else !(memN U k))else Tc
  |none=>Tc)then Ta else z2o ops U k
theorem zmh{ops:Array Oper}{U:List Nat}:∀{m:Nat},z2o ops U m=Tc->∀k o,k<m->ops[k]?=Td o->yx o=Ta->Jd ops k=Tc->k∈U
 |0,_,k,o,hk,_,_,_=>by omega
 |m+1,h,k,o,hk,ho,hl,hi=>by
  unfold z2o at h;cases hb:(match ops[m]? with
   |some o=>bif yx o then(bif Jd ops m then Tc else !(memN U m))else Tc
   |none=>Tc)with
  |true=>rw[hb]at h;cases h
  |false=>
   rw[hb,cond_false]at h;rcases AX k m with h1|h1;exact zmh h k o h1 ho hl hi;have:k=m:=by omega
   subst this;rw[ho]at hb;simp only[hl,hi,cond_true,cond_false]at hb;exact J9 (by simpa using hb)
def zi1(ops:Array Oper)(U:List Nat)(e:Env)(h0 h':zb)(K:Prop):Nat->Prop
 |0=>K
 |k+1=>match ops[k]? with
  |some o=>bif (bif yx o then(bif Jd ops k then Tc else !(memN U k))else Tc)then(match o.op with
   |.load _ a=>bif known e [] [a]then(match rho e [] a with
    |.pointer (Td p)=>h'[p.block]?=h0[p.block]?/\zi1 ops U e h0 h' K k
    |_=>False)else False
   |_=>False)else zi1 ops U e h0 h' K k
  |none=>zi1 ops U e h0 h' K k
theorem zi2{ops:Array Oper}{U:List Nat}{e:Env}{h0 h':zb}{K:Prop}:∀{m:Nat},zi1 ops U e h0 h' K m->K/\∀k o,k<m->ops[k]?=Td o->yx o=Ta->Jd ops k=Tc->k∉U ->
  ∃t a p,o.op=.load t a/\known e [] [a]=Ta/\rho e [] a=.pointer (Td p)/\h'[p.block]?=h0[p.block]?
 |0,H=>⟨H,λk o f=>by omega⟩
 |m+1,H=>by
  unfold zi1 at H;have step:zi1 ops U e h0 h' K m->(∀o,ops[m]?=Td o->yx o=Ta->Jd ops m=Tc->m∉U->∃t a p,o.op=.load t a/\known e [] [a]=Ta/\rho e [] a=.pointer (Td p)/\h'[p.block]?=h0[p.block]?) ->
    K/\∀k o,k<m+1->ops[k]?=Td o->yx o=Ta->Jd ops k=Tc->k∉U->∃t a p,o.op=.load t a/\known e [] [a]=Ta/\rho e [] a=.pointer (Td p)/\h'[p.block]?=h0[p.block]?:=λw u=>by
   obtain⟨h1,i⟩:=zi2 w;refine⟨h1,λk o f c r hi q=>?_⟩;rcases AX k m with h|h;exact i k o h c r hi q;have:k=m:=by omega
   subst this;exact u o c r hi q
  cases c:ops[m]? with
  |none=>rw[c]at H;exact step H λo h1=>by rw[c]at h1;cases h1
  |some o=>
   rw[c]at H;simp only at H;have same:∀b,ops[m]?=Td b->b=o:=λb h1=>Az (h1.symm.trans c);cases hc:(bif yx o then(bif Jd ops m then Tc else !(memN U m))else Tc)with
   |false=>rw[hc]at H;refine step H λb h1 i h n=>?_;rw[same b h1]at i;rw[i,h,cond_true,cond_false]at hc;exact absurd (J9 (by simpa using hc)) n
   |true=>
    rw[hc,cond_true]at H;split at H;rename_i t a l;cases f:known e [] [a]with
    |false=>rw[f]at H;exact H.elim
    |true=>rw[f,cond_true]at H;split at H;rename_i p s;exact step H.2 λb h1 i h n=>⟨t,a,p,by rw[same b h1];exact l,f,s,H.1⟩;exact H.elim
    exact H.elim
def zq8(md:Bool)(ops:Array Oper)(T:List Nat)(e:Env)(h0 h':zb)(K:Prop):Prop:=bif z2o ops (upL ops ops.size T) ops.size then(bif md then zi1 ops (upL ops ops.size T) e h0 h' K ops.size else Keep h0.size h0 h'/\K)else K
def qap(ops:Array Oper)(todo:List Nat)(j:Nat):Bool:=todo.all λk=>bif Nat.beq k j then Ta else !(memN (upL ops ops.size [j]) k)
def wB7(P:Program)(n:Nat)(ops:Array Oper)(h0:zb)(K:Env->zb->Prop)(md:Bool):Nat->List Nat->List Nat->Env->zb->Prop
 |_,_,[],e,h=>K (clean e) h
 |0,_,_::_,_,_=>False
 |f+1,T,b::l0,e,h=>qk9 (λj=>match ops[j]? with
  |some o=>(match J7 ops e o.guard with|some c=>bif jk n c o.dst then opW P o e c h λv h'=>wI P n h' Tc ops (λe'=>zq8 md ops (j::T) e' h0 h' (wB7 P n ops h0 K md f (j::T) (zqx j (b::l0)) e' h')) (Jf (Je ops T ops.size) (Je ops (j::T) ops.size) ops.size) (putO e o.dst c v)else False|none=>False)
  |none=>False) (z2l (qap ops (b::l0)) (b::l0))
theorem zzu{K:Env->zb->Prop}{f:Nat}{T todo:List Nat}(H:wB7 P n ops h0 K md (f+1) T todo e h){j:Nat}(b:j∈todo)(i:qap ops todo j=Ta):match ops[j]? with
  |some o=>(match J7 ops e o.guard with|some c=>bif jk n c o.dst then opW P o e c h λv h'=>wI P n h' Tc ops (λe'=>zq8 md ops (j::T) e' h0 h' (wB7 P n ops h0 K md f (j::T) (zqx j todo) e' h')) (Jf (Je ops T ops.size) (Je ops (j::T) ops.size) ops.size) (putO e o.dst c v)else False|none=>False)
  |none=>False:=by
 cases todo with
 |nil=>cases b
 |cons k l=>exact zw7 H j (zix b i)
def za8(ops:Array Oper)(k:Nat)(S:List Nat):Nat->Bool
 |0=>Ta
 |p+1=>bif (match yv ops p with
  |some t=>bif memN S t then(bif Region.waitsFor .any ops k p then Ta else bif Jd ops p then Region.waitsFor .any ops p k else Tc)else Ta
  |none=>Ta)then za8 ops k S p else Tc
theorem Wa{ops:Array Oper}{k:Nat}{S:List Nat}:∀{m:Nat},za8 ops k S m=Ta->∀p t,p<m->yv ops p=Td t->t∈S->Region.waitsFor .any ops k p=Ta\/(Jd ops p=Ta/\Region.waitsFor .any ops p k=Ta)
 |0,_,p,t,hp,_,_=>by omega
 |m+1,h,p,t,hp,hd,ht=>by
  simp only[za8]at h;cases hb:(match yv ops m with
   |some t=>bif memN S t then(bif Region.waitsFor .any ops k m then Ta else bif Jd ops m then Region.waitsFor .any ops m k else Tc)else Ta
   |none=>Ta)with
  |false=>rw[hb]at h;cases h
  |true=>
   rw[hb]at h;rcases AX p m with h1|h1;exact Wa h p t h1 hd ht;have:p=m:=by omega
   subst this;rw[hd]at hb;simp only at hb;rw[ziy ht,cond_true]at hb;cases hw:Region.waitsFor .any ops k p with
   |true=>exact .inl rfl
   |false=>
    rw[hw,cond_false]at hb;cases hh:Jd ops p with
    |false=>rw[hh]at hb;cases hb
    |true=>rw[hh,cond_true]at hb;exact .inr ⟨rfl,hb⟩
def za9(ops:Array Oper):Nat->Bool
 |0=>Ta
 |k+1=>bif (match ops[k]? with
  |some o=>za8 ops k (tmpsOf o.op.operands.toList) ops.size
  |none=>Ta)then za9 ops k else Tc
theorem Wb{ops:Array Oper}:∀{m:Nat},za9 ops m=Ta->∀k o,k<m->ops[k]?=Td o->za8 ops k (tmpsOf o.op.operands.toList) ops.size=Ta
 |0,_,k,o,hk,_=>by omega
 |m+1,h,k,o,hk,ho=>by
  unfold za9 at h;cases hb:(match ops[m]? with
   |some o=>za8 ops m (tmpsOf o.op.operands.toList) ops.size
   |none=>Ta)with
  |false=>rw[hb]at h;cases h
  |true=>
   rw[hb,cond_true]at h;rcases AX k m with h1|h1;exact Wb h k o h1 ho;have:k=m:=by omega
   subst this;rw[ho]at hb;exact hb
def zzv(ops:Array Oper)(o:Oper):List Nat:=match o.guard with
 |none=>[]
 |some (j,_)=>match yv ops j with
  |some t=>[t]
  |none=>[]
def zmi(ops:Array Oper):Nat->Bool
 |0=>Ta
 |k+1=>bif (match ops[k]? with
  |some o=>bif Yg o.op then Qv ops k (zzv ops o) ops.size else Tc
  |none=>Ta)then zmi ops k else Tc
theorem zi3{ops:Array Oper}:∀{m:Nat},zmi ops m=Ta->∀k o,k<m->ops[k]?=Td o->Yg o.op=Ta/\Qv ops k (zzv ops o) ops.size=Ta
 |0,_,k,o,hk,_=>by omega
 |m+1,h,k,o,hk,ho=>by
  unfold zmi at h;cases hb:(match ops[m]? with
   |some o=>bif Yg o.op then Qv ops m (zzv ops o) ops.size else Tc
   |none=>Ta)with
  |false=>rw[hb]at h;cases h
  |true=>
   rw[hb,cond_true]at h;rcases AX k m with h1|h1;exact zi3 h k o h1 ho;have:k=m:=by omega
   subst this;rw[ho]at hb;simp only at hb;cases h2:Yg o.op with
   |false=>rw[h2]at hb;cases hb
   |true=>rw[h2,cond_true]at hb;exact⟨rfl,hb⟩
theorem zq9(h:∀t∈zzv ops o,zz a t=zz b t):BU o (yielded ops a.tmps)=BU o (yielded ops b.tmps):=by
 unfold BU;cases hg:o.guard with
 |none=>rfl
 |some f=>
  obtain⟨j,p⟩:=f;have:yielded ops a.tmps j=yielded ops b.tmps j:=by
   unfold yielded;cases hd:(ops[j]?).bind (·.dst)with
   |none=>rfl
   |some t=>
    have e:yv ops j=Td t:=by
     unfold yv;cases hoj:ops[j]? with
     |none=>rw[hoj]at hd;simp at hd
     |some i=>rw[hoj]at hd;simpa using hd
    have c:=h t (by unfold zzv;rw[hg];simp only;rw[e];simp);unfold zz at c;simp only[BI]at c;simp only[CC];cases h1:a.tmps[t]? <;> cases h2:b.tmps[t]? <;> rw[h1,h2]at c <;> simp at c <;> first|rfl|(subst c;rfl)|(rw[<-c];rfl)|(rw[c];rfl)
  simp only[this]
theorem z2p(h:gdd o=Tc):o.guard=Te:=by
 unfold gdd at h;cases hg:o.guard with
 |none=>rfl
 |some g=>rw[hg]at h;cases h
theorem qel(b:ops[i]?=Td o)(h:Jd ops i=Tc):o.guard=Te:=by
 unfold Jd at h;rw[b]at h;simp only at h;cases hg:gdd o with
 |true=>rw[hg]at h;cases h
 |false=>exact z2p hg
def zra(ops:Array Oper):Bool:=bif zmi ops ops.size then(bif jl ops ops.size then(bif Yp ops ops.size then za9 ops ops.size else Tc)else Tc)else Tc
theorem zmj(h:zra ops=Ta):zmi ops ops.size=Ta/\jl ops ops.size=Ta/\Yp ops ops.size=Ta/\za9 ops ops.size=Ta:=by unfold zra at h;cases h1:zmi ops ops.size <;> cases h2:jl ops ops.size <;> cases h3:Yp ops ops.size <;> simp[h1,h2,h3]at h ⊢;exact h
structure St7 (P:Program) (n:Nat) (ops:Array Oper) (h0:zb) (K:Env->zb->Prop) (md:Bool) (f:Nat->Value) (a0:Act) (listed:Array Bool) (a b:Act) (e:Env) (h:zb) (done todo:List Nat):Prop where
 inv:HeadInv .any ops ops.size listed
 ag:∀s,(∀i o,ops[i]?=Td o->Jd ops i=Tc->listed.getD i Tc=Tc->o.dst≠Td s)->zz a s=zz b s
 sz:a.tmps.size=n
 ad:a.defers=[]
 sb:Sat n e b
 qv:∀i o t,ops[i]?=Td o->i∈Je ops done ops.size->o.dst=Td t->zz b t=f i/\t<n
 qx:∀i o,ops[i]?=Td o->i∈Je ops done ops.size->listed.getD i Tc=Tc->∀h',LdOK o b.eval h0 h'->QExec P (execOp b.eval o) h' (.value (f i))
 tt:∀j,j∈hvL ops->(j∈todo↔listed.getD j Tc=Tc)
 ch:∀j,j∈hvL ops->(listed.getD j Tc=Ta↔j∈done)
 dn:∀j∈done,j∈hvL ops
 th:∀j∈todo,j∈hvL ops
 nd:todo.Nodup
 wt:∃fu,todo.length<=fu/\wB7 P n ops h0 K md fu done todo e h
 kp:∀i o,ops[i]?=Td o->yx o=Ta->Jd ops i=Tc->listed.getD i Tc=Tc->LdOK o b.eval h0 h
 sm:Same (xd ops.toList) a0 a
theorem zi4{ld:Bool}(s:jl ops ops.size=Ta)(D:Yp ops ops.size=Ta)(J:za9 ops ops.size=Ta){f:Nat->Value}(G:b.tmps.size=n)(r:∀i∈l,i<ops.size)(E:∀i∈l,Jd ops i=Tc)(e:l.Pairwise (· < ·)) (H:∀c i m,l=c++i::m->∃o,ops[i]?=Td o/\zq7 o=Ta/\(ld=Tc->yx o=Tc)/\Yg o.op=Ta/\jk n [] o.dst=Ta/\∀h',LdOK o (ja ops f c b).eval h h'->QExec P (execOp (ja ops f c b).eval o) h' (.value (f i))):
  ∀i o,ops[i]?=Td o->i∈l->(∀t,o.dst=Td t->zz (ja ops f l b) t=f i/\t<n)/\(ld=Tc->yx o=Tc)/\∀h',LdOK o (ja ops f l b).eval h h'->QExec P (execOp (ja ops f l b).eval o) h' (.value (f i)):=by
 intro i o L hi;obtain⟨c,m,rfl⟩:=List.append_of_mem hi;obtain⟨B,U,q2,O,Z,A,q6⟩:=H c i m rfl;have:B=o:=Az (U.symm.trans L);subst this;have u:i<ops.size:=r i (by simp);have N:∀j∈m,i<j:=λj k=>by rw[Cs]at e;exact(Be.1 e.2.1).1 j k
 have p:ja ops f (c++i::m) b=ja ops f m ((ja ops f c b).put (yv ops i) (f i)):=by rw[zb7];rfl
 have q:yv ops i=B.dst:=js L;refine⟨λt z=>?_,O,λh' Q=>?_⟩;have y:t<n:=by rw[z]at A;unfold jk at A;simp at A;exact A.2
 refine⟨?_,y⟩;rw[p,xf λj k I=>?_,q,z,w8 (by rw[zmg.1,G];exact y)];have:=wa D i j t u (r j (by simp[k])) (by rw[q,z]) I;have:=N j k;omega;have w:∀t∈tmpsOf B.op.operands.toList,zz (ja ops f (c++i::m) b) t=zz (ja ops f c b) t:=λt z=>by
  have e1:ja ops f (c++i::m) b=ja ops f (i::m) (ja ops f c b):=zb7;rw[e1];refine xf λj k I=>?_;have F:j<ops.size:=r j (by simp[k]);have V:Region.waitsFor .any ops i j=Ta:=by rcases Wa (Wb J i B u L) j t F I z with h|h;exact h;have:=E j (by simp[k]);rw[h.1]at this;cases this
  obtain⟨oj,C,x,M,S,Y⟩:=Region.waitsFor_spec V;have h1:=yn s i oj u C x M S;rcases Ai.1 k with rfl|k;omega;have:=N j k;omega
 rw[zfc Z w];exact q6 h' (LdOK.congr (λx M=>(za6 w x M).symm) Q)
theorem qaq{K:Env->zb->Prop}{Q:Exit->Act->World->Prop}(B:World)(hmix:zra ops=Ta){a0:Act}
    (hQ:∀e' a' d' h',Sat n e' a'->Same (xd ops.toList) a0 a'->K e' h'->Q .normal a' (mk B d' h')):
    ∀(N:Nat) (U:List Nat) (listed:Array Bool) (f:Nat->Value) (a b:Act) (e:Env) (h:zb) (d:Nat) (done todo:List Nat),U.length=N->U.Nodup->(∀k,k∈U↔k<ops.size/\listed.getD k Tc=Tc) ->
      St7 P n ops h0 K md f a0 listed a b e h done todo->wpAny P .any ops Q N listed a (mk B d h):=by
  obtain⟨hng,hback,hnd,hsl⟩:=zmj hmix
  have hgd:∀(i:Nat) (o:Oper),ops[i]?=Td o->Yg o.op=Ta/\Qv ops i (zzv ops o) ops.size=Ta:=λi o ho=>zi3 hng i o (An.1 ho).1 ho
  have hslot0:∀k o,ops[k]?=Td o->∀p t,p<ops.size->yv ops p=Td t->t∈tmpsOf o.op.operands.toList->Region.waitsFor .any ops k p=Ta\/(Jd ops p=Ta/\Region.waitsFor .any ops p k=Ta):=λk o ho p t hp hd ht=>
    Wa (Wb hsl k o (An.1 ho).1 ho) p t hp hd ht
  have hbk:∀k p,Region.waitsFor .any ops k p=Ta->p<k:=λk p hw=>by
    obtain⟨oj,hoj,x,hx,hb,hon⟩:=Region.waitsFor_spec hw
    have:=yn hback k oj (An.1 hoj).1 hoj x hx hb
    omega
  have fin:∀{listed:Array Bool} {f:Nat->Value} {a b:Act} {e:Env} {h:zb} {d:Nat} {done todo:List Nat},(∀k,k<ops.size->listed.getD k Tc=Ta)->St7 P n ops h0 K md f a0 listed a b e h done todo->Q .normal a (mk B d h):=by
    intro listed f a b e h d done todo hall S
    have htodo:todo=[]:=by
      cases htd:todo with
      |nil=>rfl
      |cons j l=>
        have hm:j∈todo:=by rw[htd];simp
        have hj:=S.th j hm
        have:=(S.tt j hj).1 hm
        rw[hall j (ziz.1 hj).1]at this;cases this
    obtain⟨fu,_,hw⟩:=S.wt
    rw[htodo]at hw
    have hw:K (clean e) h:=by cases fu <;> exact hw
    have hv:∀s,zz a s=zz b s:=λs=>S.ag s λi o ho hq hl=>by
      rw[hall i (An.1 ho).1]at hl;cases hl
    have hs:Sat n e a:=⟨S.ad,S.sz,λx hx=>by
      have:=S.sb.all x hx
      have e1:zz a=zz b:=funext hv
      rw[e1];exact this⟩
    exact hQ _ _ _ _ hs.clean S.sm hw
  intro N
  induction N with
  |zero=>
    intro U listed f a b e h d done todo hU _ hmem S
    have hUn:U=[]:=Bl.1 hU
    subst hUn
    have hall:∀k,k<ops.size->listed.getD k Tc=Ta:=λk hk=>by
      cases hb:listed.getD k Tc with
      |true=>rfl
      |false=>exact absurd ((hmem k).2 ⟨hk,hb⟩) (by simp)
    refine⟨?_,fin hall S⟩
    rw[List.eq_nil_iff_forall_not_mem]
    intro j hj
    obtain⟨h1,o,ho,_⟩:=mem_ready.1 hj
    have hlt:=(An.1 ho).1
    have:=hall j hlt
    have h2:=getD_both h1
    rw[this]at h2;cases h2
  |succ N ih=>
    intro U listed f a b e h d done todo hU hdup hmem S
    have hex:∃k,k<ops.size/\listed.getD k Tc=Tc:=by
      cases U with
      |nil=>cases hU
      |cons k U=>exact⟨k,(hmem k).1 Am⟩
    refine⟨λhr=>?_,λi hi=>?_⟩
    · exfalso
      obtain⟨k,hk1,hk2,hk3⟩:=zu0 hex
      have:k∈Region.ready .any ops listed:=mem_ready.2 ⟨by rw[<-hk2];simp[S.inv.size,hk1],ops[k],Bo hk1,λx hx hb=>hk3 _ (yn hback k ops[k] hk1 (Bo hk1) x hx hb)⟩
      rw[hr]at this;cases this
    · obtain⟨hun1,o,ho,hall⟩:=mem_ready.1 hi
      have hun:listed.getD i Tc=Tc:=getD_both hun1
      have hlt:i<ops.size:=(An.1 ho).1
      obtain⟨hns,hgs⟩:=hgd i o ho
      have hils:i<listed.size:=by rw[S.inv.size];exact hlt
      have hU':(U.erase i).length=N:=by rw[List.length_erase_of_mem ((hmem i).2 ⟨hlt,hun⟩),hU];rfl
      have hdup':(U.erase i).Nodup:=hdup.erase i
      have hmem':∀k,k∈U.erase i↔k<ops.size/\(listed.setIfInBounds i Ta).getD k Tc=Tc:=λk=>by
        rw[hdup.mem_erase_iff,hmem k]
        by_cases hk:i=k
        · subst hk;simp[hils]
        · rw[getD_set_ne Tc hk];exact⟨λhx=>hx.2,λhx=>⟨λe=>hk e.symm,hx⟩⟩
      have inv':=S.inv.set hi hlt
      have hset:∀k,k≠i->(listed.setIfInBounds i Ta).getD k Tc=listed.getD k Tc:=λk hk=>getD_set_ne Tc (Ne.symm hk)
      have hsetI:(listed.setIfInBounds i Ta).getD i Tc=Ta:=by simp[hils]
      have hops:∀t∈tmpsOf o.op.operands.toList,zz a t=zz b t:=λt ht=>S.ag t λk ok hok hq hl hd=>by
        rcases hslot0 i o ho k t (An.1 hok).1 (by rw[js hok,hd]) ht with hw|hw
        · rw[za7 hi hw]at hl;cases hl
        · rw[hw.1]at hq;cases hq
      have hexec:=zfc hns hops
      have hsame:∀v,Same (xd ops.toList) a0 (a.put o.dst v):=λv=>S.sm.trans (Same.put a o.dst _ λt ht=>zw5 (by
          obtain⟨hl2,e2⟩:=An.1 ho
          rw[<-e2];simp) t ht)
      unfold wpOp
      rw[ho]
      simp only
      have hwab:BU o (yielded ops a.tmps)=BU o (yielded ops b.tmps):=zq9 λt ht=>S.ag t λk ok hok hq hl hd=>by
        have hw:=Yo hgs k t (An.1 hok).1 (by rw[js hok,hd]) ht
        rw[za7 hi hw]at hl;cases hl
      cases hq:Jd ops i with
      |false=>
        have hwant:BU o (yielded ops a.tmps)=Ta:=by unfold BU;rw[qel ho hq]
        rw[if_pos hwant]
        left
        unfold Oper.wp
        rw[hexec]
        have hrdyG:∀m k ok,k<m->ops[k]?=Td ok->Jd ops k=Tc->(∀p,Region.waitsFor .any ops k p=Ta->listed.getD p Tc=Ta)->k∈Je ops done ops.size:=by
          intro m
          induction m with
          |zero=>intro k ok hk;omega
          |succ m ihm=>
            intro k ok hk hok hkh hkw
            refine zn7 (An.1 hok).1 hkh (zh7.2 λp hp hw=>⟨λhph=>?_,λhph=>?_⟩)
            · have hpl:=hkw p hw
              exact(S.ch p (ziz.2 ⟨by have:=(An.1 hok).1;omega,hph⟩)).1 hpl
            · have hps:p<ops.size:=by have:=(An.1 hok).1;omega
              have hin:=ihm p ops[p] (by omega) (Bo hps) hph λq hq2=>Yq S.inv (hkw p hw) hq2
              obtain⟨_,g2,g3⟩:=xe hin
              exact zn7 hp g2 g3
        have hrdy:=hrdyG (i+1) i o (by omega) ho hq λp hw=>za7 hi hw
        have hx:=S.qx i o ho hrdy hun h (by
          cases hl:yx o with
          |false=>exact .inl hl
          |true=>exact S.kp i o ho hl hq hun) B d
        rw[hx,Oper.upon_value]
        have hnot:i∉hvL ops:=λhm=>by rw[(ziz.1 hm).2]at hq;cases hq
        have hunset:∀k,(listed.setIfInBounds i Ta).getD k Tc=Tc->listed.getD k Tc=Tc:=λk hu=>by
          by_cases hki:k=i
          · subst hki;exact hun
          · rw[<-hset k hki];exact hu
        refine ih _ _ f _ b e h d done todo hU' hdup' hmem' { S with inv:=inv',ag:=λs hs=>?_,sz:=by rw[size_put];exact S.sz,ad:=by rw[xh];exact S.ad,tt:=λj hj=>(by have:j≠i:=λe=>hnot (e ▸ hj);rw[hset j this];exact S.tt j hj),ch:=λj hj=>?_,qx:=λk ok hok hk hu=>S.qx k ok hok hk (hunset k hu),kp:=λk ok hok hl hkh hk=>?_,sm:=hsame _ }
        · by_cases hd:o.dst=Td s
          · obtain⟨hv,hsn⟩:=S.qv i o s ho hrdy hd
            rw[hd,w8 (by rw[S.sz];exact hsn),hv]
          · rw[xj hd]
            refine S.ag s λk ok hok hqk hlk=>?_
            by_cases hki:k=i
            · subst hki
              have:ok=o:=Az (hok.symm.trans ho)
              subst this;exact hd
            · exact hs k ok hok hqk (by rw[hset k hki];exact hlk)
        · have:j≠i:=λe=>hnot (e ▸ hj)
          rw[hset j this];exact S.ch j hj
        · by_cases hki:k=i
          · subst hki;rw[hsetI]at hk;cases hk
          · rw[hset k hki]at hk;exact S.kp k ok hok hl hkh hk
      |true=>
        have hin:i∈hvL ops:=ziz.2 ⟨hlt,hq⟩
        have hit:i∈todo:=(S.tt i hin).2 hun
        obtain⟨fu,hfu,hW0⟩:=S.wt
        have hcl:∀p q,(listed.setIfInBounds i Ta).getD p Tc=Ta->Region.waitsFor .any ops p q=Ta->(listed.setIfInBounds i Ta).getD q Tc=Ta:=λp q h1 h2=>Yq inv' h1 h2
        have hcand:qap ops todo i=Ta:=by
          unfold qap
          rw[Av]
          intro k hk
          cases hki:Nat.beq k i with
          |true=>rfl
          |false=>
            have hne:k≠i:=λe=>by rw[e]at hki;simp at hki
            cases hr:memN (upL ops ops.size [i]) k with
            |false=>rfl
            |true=>
              exfalso
              have:=zn6 hcl (m:=ops.size) (S:=[i]) (λj hj=>by simp at hj;subst hj;exact hsetI) k (J9 hr)
              rw[hset k hne]at this
              have h2:=(S.tt k (S.th k hk)).1 hk
              rw[this]at h2;cases h2
        have hW:match ops[i]? with
            |some o=>(match J7 ops e o.guard with|some c=>bif jk n c o.dst then opW P o e c h λv h'=>wI P n h' Tc ops (λe'=>zq8 md ops (i::done) e' h0 h' (wB7 P n ops h0 K md (fu-1) (i::done) (zqx i todo) e' h')) (Jf (Je ops done ops.size) (Je ops (i::done) ops.size) ops.size) (putO e o.dst c v)else False|none=>False)
            |none=>False:=by
          cases fu with
          |zero=>(have:todo.length=0:=by omega);rw[Bl.1 this]at hit;cases hit
          |succ fu=>
            have:=zzu (show wB7 P n ops h0 K md (fu+1) done todo e h from hW0) hit hcand
            exact this
        rw[ho]at hW
        simp only at hW
        cases hch:J7 ops e o.guard with
        |none=>rw[hch]at hW;exact hW.elim
        |some c=>
        rw[hch]at hW
        simp only at hW
        cases hd:jk n c o.dst with
        |false=>rw[hd]at hW;exact hW.elim
        |true=>
          rw[hd,cond_true]at hW
          have hwv:=X3 S.sb hch
          have key:∀(v u:Value) (d':Nat) (h':zb),(valid (zz b) c->u=v)->(¬valid (zz b) c->u=undef)->wI P n h' Tc ops (λe'=>zq8 md ops (i::done) e' h0 h' (wB7 P n ops h0 K md (fu-1) (i::done) (zqx i todo) e' h')) (Jf (Je ops done ops.size) (Je ops (i::done) ops.size) ops.size) (putO e o.dst c v)->wpAny P .any ops Q N (listed.setIfInBounds i Ta) (a.put o.dst u) (mk B d' h'):=by
           intro v v2 d' h' hv1 hv0 hK
           have sb1:Sat n (putO e o.dst c v) (b.put o.dst v2):=S.sb.putO hd hv1 hv0
           generalize hbl:Jf (Je ops done ops.size) (Je ops (i::done) ops.size) ops.size=bl at hK
           have hbm:∀k,k∈bl↔k<ops.size/\k∈Je ops (i::done) ops.size/\k∉Je ops done ops.size:=λk=>by rw[<-hbl];exact zmf
           have hbsort:bl.Pairwise (· < ·):=by rw[<-hbl];exact zdp _ _ _
           have hbnd:bl.Nodup:=hbsort.imp λh=>by omega
           obtain⟨f',e2,HK,sb2,hf0,hfx⟩:=zn8 f hbnd hK sb1
           have hbf:=zi4 hback hnd hsl (f:=f') (l:=bl) (b:=b.put o.dst v2) sb1.size (λk hk=>((hbm k).1 hk).1) (λk hk=>(xe ((hbm k).1 hk).2.1).2.1) hbsort hfx
           have hbnh:∀k∈bl,Jd ops k=Tc:=λk hk=>(xe ((hbm k).1 hk).2.1).2.1
           have hlist':∀j,j∈hvL ops->((listed.setIfInBounds i Ta).getD j Tc=Ta↔j∈i::done):=λj hj=>by
             by_cases hji:j=i
             · subst hji;rw[hsetI];simp
             · rw[hset j hji,S.ch j hj];simp[hji]
           have hjl:∀j∈i::done,(listed.setIfInBounds i Ta).getD j Tc=Ta:=λj hj=>by
             rcases Ai.1 hj with rfl|hj
             · exact hsetI
             · exact getD_set_true ((S.ch j (S.dn j hj)).2 hj)
           have hup:∀k,k∈upL ops ops.size (i::done)->(listed.setIfInBounds i Ta).getD k Tc=Ta:=λk hk=>zn6 hcl hjl k hk
           have hundone:i∉done:=λhm=>by rw[(S.ch i hin).2 hm]at hun;cases hun
           have hslot1:∀k ok,ops[k]?=Td ok->k∈Je ops done ops.size->listed.getD k Tc=Tc->∀t∈tmpsOf ok.op.operands.toList,zz (b.put o.dst v2) t=zz b t:=λk ok hok hk hu t ht=>xj λhdo=>by
             rcases hslot0 k ok hok i t hlt (by rw[js ho,hdo]) ht with hw|hw
             · exact hundone ((zw8 hk (hbk k i hw) hw).1 hq)
             · rw[za7 hi hw.2]at hu;cases hu
           have hslot2:∀k ok,ops[k]?=Td ok->k∈Je ops done ops.size->listed.getD k Tc=Tc->∀t∈tmpsOf ok.op.operands.toList,zz (ja ops f' bl (b.put o.dst v2)) t=zz b t:=λk ok hok hk hu t ht=>by
             rw[xf λp hp hdp=>?_]
             · exact hslot1 k ok hok hk hu t ht
             · rcases hslot0 k ok hok p t ((hbm p).1 hp).1 hdp ht with hw|hw
               · exact((hbm p).1 hp).2.2 ((zw8 hk (hbk k p hw) hw).2 (hbnh p hp))
               · have:=hbnh p hp
                 rw[hw.1]at this;cases this
           have hdist:∀k ok t,ops[k]?=Td ok->k≠i->ok.dst=Td t->o.dst≠Td t:=λk ok t hok hki hdk hdo=>by
             have:=wa hnd k i t (An.1 hok).1 hlt (by rw[js hok,hdk]) (by rw[js ho,hdo])
             exact hki this
           have hne_i:∀k,Jd ops k=Tc->k≠i:=λk hk e=>by rw[e,hq]at hk;cases hk
           have hQK:wB7 P n ops h0 K md (fu-1) (i::done) (zqx i todo) e2 h'/\(∀k ok,ops[k]?=Td ok->yx ok=Ta->Jd ops k=Tc->(listed.setIfInBounds i Ta).getD k Tc=Tc->LdOK ok (ja ops f' bl (b.put o.dst v2)).eval h0 h'):=by
             unfold zq8 at HK
             cases hl:z2o ops (upL ops ops.size (i::done)) ops.size with
             |false=>
               rw[hl,cond_false]at HK
               exact⟨HK,λk ok hok hlo hkh hf=>by rw[hup k (zmh hl k ok (An.1 hok).1 hok hlo hkh)]at hf;cases hf⟩
             |true=>
               rw[hl,cond_true]at HK
               cases md with
               |false=>exact⟨HK.2,λ_ _ _ _ _ _=>.inr (.inl HK.1)⟩
               |true=>
                 rw[cond_true]at HK
                 obtain⟨g1,g2⟩:=zi2 HK
                 refine⟨g1,λk ok hok hlo hkh hf=>.inr (.inr λt a p hop hp=>?_)⟩
                 obtain⟨t',a',p',e1,e2',e3,e4⟩:=g2 k ok (An.1 hok).1 hok hlo hkh (λhm=>by rw[hup k hm]at hf;cases hf)
                 rw[hop]at e1
                 injection e1 with _ e1
                 subst e1
                 have eb:(ja ops f' bl (b.put o.dst v2)).eval a=rho e2 [] a:=J6 sb2 (zdn _) e2' a (by simp)
                 rw[eb,e3]at hp
                 injection hp with hp
                 injection hp with hp
                 rw[<-hp];exact e4
           have htt:∀j,j∈hvL ops->(j∈zqx i todo↔(listed.setIfInBounds i Ta).getD j Tc=Tc):=λj hj=>by
             rw[zdo]
             by_cases hji:j=i
             · subst hji;rw[hsetI];simp
             · rw[hset j hji,<-S.tt j hj];exact⟨λhx=>hx.1,λhx=>⟨hx,hji⟩⟩
           refine ih _ _ f' _ (ja ops f' bl (b.put o.dst v2)) e2 h' d' (i::done) (zqx i todo) hU' hdup' hmem' ⟨inv',λs hs=>?_,by rw[size_put];exact S.sz,by rw[xh];exact S.ad,sb2,λk ok t hok hk hdk=>?_,λk ok hok hk hu h'' hh=>?_,htt,hlist',(λj hj=>by
             rcases Ai.1 hj with rfl|hj
             · exact hin
             · exact S.dn j hj),(λj hj=>S.th j (zdo.1 hj).1),zfd S.nd,⟨fu-1,by have:=zw6 hit;omega,hQK.1⟩,hQK.2,hsame _⟩
           · -- slots
             have hs':∀k ok,ops[k]?=Td ok->Jd ops k=Tc->listed.getD k Tc=Tc->ok.dst≠Td s:=λk ok hok hqk hlk=>hs k ok hok hqk (by rw[hset k (hne_i k hqk)];exact hlk)
             have hbl:∀p∈bl,yv ops p≠Td s:=λp hp hdp=>by
               have hps:=((hbm p).1 hp).1
               have hok:ops[p]?=Td ops[p]:=Bo hps
               have hph:=hbnh p hp
               refine hs p _ hok hph ?_ (by rw[<-js hok];exact hdp)
               cases hlp:(listed.setIfInBounds i Ta).getD p Tc with
               |false=>rfl
               |true=>
                 exfalso
                 rw[hset p (hne_i p hph)]at hlp
                 have:∀m q,q<m->q<ops.size->Jd ops q=Tc->listed.getD q Tc=Ta->q∈Je ops done ops.size:=by
                   intro m
                   induction m with
                   |zero=>intro q hq;omega
                   |succ m ihm=>
                     intro q hqm hqs hqh hql
                     refine zn7 hqs hqh (zh7.2 λp2 hp2 hw2=>⟨λhph2=>?_,λhph2=>?_⟩)
                     · exact(S.ch p2 (ziz.2 ⟨by omega,hph2⟩)).1 (Yq S.inv hql hw2)
                     · have hin2:=ihm p2 (by omega) (by omega) hph2 (Yq S.inv hql hw2)
                       obtain⟨_,g2,g3⟩:=xe hin2
                       exact zn7 hp2 g2 g3
                 exact((hbm p).1 hp).2.2 (this (p+1) p (by omega) hps hph hlp)
             rw[xf hbl]
             by_cases hds:o.dst=Td s
             · rw[hds]
               have hsn:s<n:=by
                 rw[hds]at hd
                 unfold jk at hd
                 simp at hd;exact hd.2
               rw[w8 (by rw[S.sz];exact hsn),w8 (by rw[S.sb.size];exact hsn)]
             · rw[xj hds,xj hds];exact S.ag s hs'
           · by_cases hkb:k∈bl
             · exact(hbf k ok hok hkb).1 t hdk
             · have hk0:k∈Je ops done ops.size:=CB λhc=>hkb ((hbm k).2 ⟨(An.1 hok).1,hk,hc⟩)
               have hkh:=(xe hk0).2.1
               obtain⟨q1,q2⟩:=S.qv k ok t hok hk0 hdk
               refine⟨?_,q2⟩
               rw[xf λp hp hdp=>?_,xj (hdist k ok t hok (hne_i k hkh) hdk),q1,hf0 k hkb]
               have:=wa hnd p k t ((hbm p).1 hp).1 (An.1 hok).1 hdp (by rw[js hok,hdk])
               subst this;exact hkb hp
           · by_cases hkb:k∈bl
             · obtain⟨_,q2,q3⟩:=hbf k ok hok hkb
               exact q3 h'' (.inl (q2 rfl))
             · have hk0:k∈Je ops done ops.size:=CB λhc=>hkb ((hbm k).2 ⟨(An.1 hok).1,hk,hc⟩)
               have hu0:listed.getD k Tc=Tc:=by rw[<-hset k (hne_i k (xe hk0).2.1)];exact hu
               rw[zfc (b:=b) (hgd k ok hok).1 (hslot2 k ok hok hk0 hu0),hf0 k hkb]
               exact S.qx k ok hok hk0 hu0 h'' (LdOK.congr (λx hx=>(za6 (hslot2 k ok hok hk0 hu0) x hx).symm) hh)
          by_cases hv:valid (zz b) c
          · rw[if_pos (by rw[hwab];exact hwv.2 hv)]
            left
            unfold Oper.wp
            rw[hexec]
            refine zzt (b:=b) S.sb.defers ?_
            refine z2h hW S.sb hv B d λv d' h' hK=>⟨by rw[xh];exact S.sb.defers,λv2 hv2=>?_⟩
            have hbv:b.put o.dst v2=b.put o.dst v:=hv2.symm
            by_cases hds:∃t,o.dst=Td t
            · obtain⟨t,ht⟩:=hds
              have htn:t<n:=by
                have hd2:=hd
                rw[ht]at hd2
                unfold jk at hd2
                simp at hd2;exact hd2.2
              have:v2=v:=by
                have e1:zz (b.put o.dst v2) t=zz (b.put o.dst v) t:=by rw[hbv]
                rw[ht,w8 (by rw[S.sb.size];exact htn),w8 (by rw[S.sb.size];exact htn)]at e1
                exact e1
              subst this
              exact key v2 v2 d' h' (λ_=>rfl) (λhx=>absurd hv hx) hK
            · have hdn:o.dst=Te:=by
                cases hdx:o.dst with
                |none=>rfl
                |some t=>exact absurd ⟨t,hdx⟩ hds
              have e1:a.put o.dst v2=a.put o.dst v:=by rw[hdn];rfl
              rw[e1]
              exact key v v d' h' (λ_=>rfl) (λhx=>absurd hv hx) hK
          · rw[if_neg (by rw[hwab];exact λhx=>hv (hwv.1 hx))]
            obtain⟨v,hK⟩:=qc6 hW S.sb hv
            exact key v undef d h (λhx=>absurd hx hv) (λ_=>rfl) hK
theorem zmk{K:Env->zb->Prop}{Q:Exit->Act->World->Prop}(B:World)(q:zra ops=Ta) (H:wI P n h Ta ops (λe'=>wB7 P n ops h K md (hvL ops).length [] (hvL ops) e' h) (Jf [] (Je ops [] ops.size) ops.size) e) (A:Sat n e a)
  (Y:∀e' a' S h',Sat n e' a'->Same (xd ops.toList) a a'->K e' h'->Q .normal a' (mk B S h')) (d:Nat):wpAny P .any ops Q ops.size (BJ ops.size Tc) a (mk B d h):=by
 obtain⟨aa,r,F,I⟩:=zmj q;have m:∀k,k∈Jf [] (Je ops [] ops.size) ops.size↔k∈Je ops [] ops.size:=λk=>by rw[zmf];exact⟨λh=>h.2.1,λh=>⟨(xe h).1,h,by simp⟩⟩
 have c:=zdp [] (Je ops [] ops.size) ops.size;generalize Jf [] (Je ops [] ops.size) ops.size=bl at H m c;have w:bl.Nodup:=c.imp λh=>by omega
 obtain⟨f,U,V,G,_,C⟩:=zn8 (λ_=>undef) w H A;have z:=zi4 r F I (f:=f) (l:=bl) (b:=a) A.size (λk E=>(xe ((m k).1 E)).1) (λk E=>(xe ((m k).1 E)).2.1) c C;have x:∀s,(∀i o,ops[i]?=Td o->Jd ops i=Tc->(BJ ops.size Tc).getD i Tc=Tc->o.dst≠Td s)->zz a s=zz (ja ops f bl a) s:=λs D=>(xf λp N M=>by have L:=(xe ((m p).1 N)).1;have y:ops[p]?=Td ops[p]:=Bo L;exact D p _ y (xe ((m p).1 N)).2.1 (getD_replicate_false _ _) (by rw[<-js y];exact M)).symm;refine qaq B q Y ops.size (Bj ops.size) _ f a (ja ops f bl a) U h d [] (hvL ops) C3 List.nodup_range (λk=>by rw[AU,getD_replicate_false];simp) ⟨⟨by simp,λj oj _ O=>(by rw[getD_replicate_false]at O;cases O),λt ht Z=>by omega⟩,x,A.size,A.defers,G,λi o t J hi hd=>(z i o J ((m i).2 hi)).1 t hd,λi o J hi _=>(z i o J ((m i).2 hi)).2.2,(λj u=>by rw[getD_replicate_false];simp[u]),(λj u=>by rw[getD_replicate_false];simp),(λj u=>by cases u),(λj u=>u),z2m ops,⟨_,Ab _,V⟩,λ_ _ _ _ _ _=>.inr (.inl (Keep.refl _ _)),Same.refl _ _⟩
def z2q:List (Nat×Nat)->Nat->Option Nat
 |[],_=>Te
 |(j,m)::l,i=>bif Nat.beq i j then Td m else z2q l i
def regionF(P:Program)(n:Nat)(c:List (Nat×Nat))(id:Nat)(ops:Array Oper)(b:Bool)(K:Env->zb->Prop)(e:Env)(h:zb):Prop:=
 bif b then(match z2q c id with
  |none=>bif Region.lexB .any ops then wQ P n ops h Ta (λe'=>K (clean e') h) ops.toList e else False
  |some _=>bif zra ops then wI P n h Ta ops (λe'=>wB7 P n ops h K Ta (hvL ops).length [] (hvL ops) e' h) (Jf [] (Je ops [] ops.size) ops.size) e else False)
 else wR P n ops K ops.toList e h
theorem Qw(l m:List Oper):xd (l++m)=xd l++xd m:=by
 induction l with
 |nil=>rfl
 |cons o l b=>simp only[AD,xd];split <;> simp[b]
theorem zdq(k:P.follows .mixedOrders=Ta){m:List (Nat×Nat)}{id:Nat}{b:Bool}{K:Env->zb->Prop} (H:regionF P n m id ops b K e h) (B:World) (d:Nat) (f:Sat n e a) {Q:Exit->Act->World->Prop}
  (c:∀e' a' i h',Sat n e' a'->Same (xd ops.toList) a a'->K e' h'->Q .normal a' (mk B i h')):(DO id ops b).wp P Q a (mk B d h):=by
 unfold regionF at H;cases b with
 |false=>exact wp_region_list (zdk B _ _ _ _ _ H f c)
 |true=>
  simp only[cond_true]at H;split at H;cases hB:Region.lexB .any ops with
  |false=>rw[hB]at H;exact H.elim
  |true=>rw[hB]at H;refine wp_region_quiet (C:=λw=>∃d,w=mk B d h) k hB ⟨d+1,rfl⟩ ?_;refine zw4 B _ _ _ H f λe' a' o l p=>?_;rintro w' ⟨i,rfl⟩;exact c _ _ _ _ o.clean l p
  cases hB:zra ops with
  |false=>rw[hB]at H;exact H.elim
  |true=>rw[hB]at H;exact wp_region_any k (zmk B hB H f c (d+1))
end
section
variable {n:Nat} {e:Env} {a:Act} {ms:List Nat} {P:Program} {h:zb} {R:Value -> zb -> Prop} {f:FuncId}
@[reducible] def zzw:List Atom->Type->Type
 |[],X=>X
 |t::l,X=>t.den->zzw l X
def qhw{X:Type}:(l:List Atom)->zzw l X->(List Value->X->Prop)->Prop
 |[],f,k=>k [] f
 |t::l,f,k=>∀x:t.den,qhw l (f x) λvs y=>k (t.enc x::vs) y
def zrb{X:Type}:(l:List Atom)->List Value->zzw l X->Option X
 |[],[],f=>Td f
 |t::l,v::vs,f=>match t.dec v with
  |some x=>zrb l vs (f x)
  |none=>Te
 |_,_,_=>Te
def mkC{X:Type}:(l:List Atom)->(List Value->X)->zzw l X
 |[],f=>f []
 |t::l,f=>λx=>mkC l λvs=>f (t.enc x::vs)
def zzx{X Y:Type}:(l:List Atom)->zzw l X->zzw l Y->zzw l (X×Y)
 |[],f,g=>(f,g)
 |_::l,f,g=>λx=>zzx l (f x) (g x)
theorem zi5{X:Type}:∀{l:List Atom} {vs:List Value} {f:zzw l X} {x:X} {k:List Value->X->Prop},zrb l vs f=Td x->qhw l f k->k vs x
 |[],[],f,x,k,h,g=>by simp only[zrb,Ac]at h;subst h;exact g
 |[],_::_,f,x,k,h,g=>by simp[zrb]at h
 |_::_,[],f,x,k,h,g=>by simp[zrb]at h
 |t::l,v::vs,f,x,k,h,g=>by simp only[zrb]at h;split at h;rename_i y b;have:=zi5 h (g y);rw[Atom.enc_of_dec b]at this;exact this;cases h
theorem zn9{X:Type}:∀{l:List Atom} {vs:List Value} {f:List Value->X} {x:X},zrb l vs (mkC l f)=Td x->x=f vs
 |[],[],f,x,h=>by simp only[zrb,mkC,Ac]at h;exact h.symm
 |[],_::_,f,x,h=>by simp[zrb]at h
 |_::_,[],f,x,h=>by simp[zrb]at h
 |t::l,v::vs,f,x,h=>by simp only[zrb,mkC]at h;split at h;rename_i y b;have:=zn9 h;rw[Atom.enc_of_dec b]at this;exact this;cases h
theorem zoa{X:Type}:∀{l:List Atom} {f:List Value->X} {k:List Value->X->Prop},(∀vs,k vs (f vs))->qhw l (mkC l f) k
 |[],_,_,h=>h []
 |_::_,_,_,h=>λ_=>zoa λ_=>h _
abbrev Ann:=List (Nat×VT)
def wn:Ann->List Atom
 |[]=>[]
 |(_,.one t)::J=>t::wn J
 |(_,.agg l)::J=>l++wn J
def zbl(σ:Nat->Option Value):Ann->Option (List Value)
 |[]=>Td []
 |(i,.one _)::J=>match σ i,zbl σ J with
  |some v,some vs=>Td (v::vs)
  |_,_=>Te
 |(i,.agg l)::J=>match σ i,zbl σ J with
  |some (.agg cs),some vs=>bif Nat.beq cs.toList.length l.length then Td (cs.toList++vs)else Te
  |_,_=>Te
def Yr:Ann->List Value->Env
 |[],_=>[]
 |(i,.one _)::J,v::vs=>(i,[],v)::Yr J vs
 |(_,.one _)::_,[]=>[]
 |(i,.agg l)::J,vs=>(i,[],.agg (vs.take l.length).toArray)::Yr J (vs.drop l.length)
def zu1(e:Env)(i:Nat):Option Value:=match look e i with
 |some ([],v)=>Td v
 |_=>Te
theorem Wc(h:Sat n e a){i:Nat}{v:Value}(b:zu1 e i=Td v):zz a i=v:=by unfold zu1 at b;split at b;rename_i u c;simp only[Ac]at b;subst b;exact(h.all _ (za5 c)).1 trivial;cases b
theorem ju{n:Nat}{e:Env}{a:Act}(h:Sat n e a):∀{J:Ann} {vs:List Value},zbl (zu1 e) J=Td vs->zbl (λi=>Td (zz a i)) J=Td vs
 |[],vs,hv=>hv
 |(i,.one t)::J,vs,hv=>by simp only[zbl]at hv ⊢;split at hv;rename_i v us h1 b;simp only[ju h b,Wc h h1];exact hv;cases hv
 |(i,.agg l)::J,vs,hv=>by simp only[zbl]at hv ⊢;split at hv;rename_i cs us h1 b;simp only[ju h b,Wc h h1];exact hv;cases hv
theorem X7{σ:Nat->Value}:∀{J:Ann} {vs:List Value},zbl (λi=>Td (σ i)) J=Td vs->∀x∈Yr J vs,fact σ x
 |[],vs,_,x,b=>by cases b
 |(i,.one t)::J,vs,hv,x,b=>by simp only[zbl]at hv;split at hv;rename_i v us h1 f;simp only[Ac]at h1 hv;subst hv;simp only[Yr,Ai]at b;rcases b with rfl|b;exact⟨λ_=>h1,λe=>absurd trivial e⟩;exact X7 f x b;cases hv
 |(i,.agg l)::J,vs,hv,x,b=>by
  simp only[zbl]at hv;split at hv;rename_i cs us h1 f;simp only[Ac]at h1;cases hb:Nat.beq cs.toList.length l.length with
  |false=>rw[hb]at hv;cases hv
  |true=>rw[hb]at hv;simp only[cond_true,Ac]at hv;subst hv;have c:cs.toList.length=l.length:=Al hb;simp only[Yr,Ai]at b;rcases b with rfl|b;refine⟨λ_=>?_,λe=>absurd trivial e⟩;simp only;rw[h1,<-c,Cu];rw[<-c,Dl]at b;exact X7 f x b
  cases hv
def X8(ms:List Nat):Env->Env
 |[]=>[]
 |(i,[],v)::e=>bif memN ms i then X8 ms e else(i,[],v)::X8 ms e
 |(_,_::_,_)::e=>X8 ms e
theorem z2r{x:Nat×zx×Value}(h:x∈X8 ms e):x∈e/\x.2.1=[]/\x.1∉ms:=by
 induction e with
 |nil=>cases h
 |cons y e b=>
  obtain⟨i,c,v⟩:=y;cases c with
  |nil=>
   simp only[X8]at h;cases hm:memN ms i with
   |true=>rw[hm]at h;exact⟨Ae _ (b h).1,(b h).2⟩
   |false=>rw[hm]at h;simp only[cond_false]at h;rcases Ai.1 h with rfl|h;exact⟨Am,rfl,Qp hm⟩;exact⟨Ae _ (b h).1,(b h).2⟩
  |cons g c=>simp only[X8]at h;exact⟨Ae _ (b h).1,(b h).2⟩
theorem zdr{a f:Act}(l:Sat n e a)(k:f.defers=[])(r:f.tmps.size=n)(b:Same ms a f){J:Ann}{vs:List Value}
  (o:zbl (λi=>Td (zz f i)) J=Td vs):Sat n (Yr J vs++X8 ms e) f:=by
 refine⟨k,r,λx c=>?_⟩;rcases Aw.1 c with c|c;exact X7 o x c;obtain⟨h1,h,p⟩:=z2r c;have q:=l.all x h1;refine⟨λ_=>?_,λm=>absurd (by rw[h];trivial) m⟩;rw[b _ p];exact q.1 (by rw[h];trivial)
def j6:Code->Option Nat
 |.region id _ _=>Td id
 |.seq a b=>match j6 a with
  |some i=>Td i
  |none=>j6 b
 |.cond _ a b=>match j6 a with
  |some i=>Td i
  |none=>j6 b
 |.block _ b=>j6 b
 |.loop b=>j6 b
 |_=>Te
def Qd:Code->List Nat
 |.region _ ops _=>xd ops.toList
 |.seq a b=>Qd a++Qd b
 |.cond _ a b=>Qd a++Qd b
 |.block _ b=>Qd b
 |.loop b=>Qd b
 |_=>[]
structure Plan where
 tails:List (Nat×Nat)
 loops:List (Nat×Ann)
 joins:List (Nat×Ann)
def qhx:List (Nat×Ann)->Nat->Option Ann
 |[],_=>Te
 |(j,m)::l,i=>bif Nat.beq i j then Td m else qhx l i
def qar(l:List (Nat×Ann)):Option Nat->Option Ann
 |some i=>qhx l i
 |none=>Te
abbrev zb8:=Exit->Env->zb->Prop
def zu2(K:Env->zb->Prop)(Q:zb8):zb8
 |.normal,e,h=>K e h
 |x,e,h=>Q x e h
def zi6(id:Nat)(Q:zb8):zb8
 |.exit i,e,h=>bif Nat.beq i id then Q .normal e h else Q (.exit i) e h
 |x,e,h=>Q x e h
def atC{X:Type}(J:Ann)(F:zzw (wn J) X)(e:Env)(k:X->Prop):Prop:=
 match zbl (zu1 e) J with
 |some vs=>match zrb (wn J) vs F with
  |some q=>k q
  |none=>False
 |none=>False
def qhy(J:Ann)(rest:Env->zb->Prop)(F:(Env->zb->Prop)->Prop)(b:Env):Prop:=
 ∀K:zzw (wn J) (zb->Prop),qhw (wn J) K (λvs q=>∀h,rest (Yr J vs++b) h->q h)->F λe h=>atC J K e λq=>q h
def qhz(J:Ann)(body:(Env->zb->Prop)->Env->zb->Prop)(b e:Env)(h:zb):Prop:=
 ∃(I:zzw (wn J) (zb->Prop)) (μ:zzw (wn J) (zb->Nat)),(atC J (zzx (wn J) I μ) e λp=>p.1 h) /\
  qhw (wn J) (zzx (wn J) I μ) λvs p=>∀h,p.1 h->body (λe' h'=>atC J (zzx (wn J) I μ) e' λq=>q.1 h'/\q.2 h'<p.2 h) (Yr J vs++b) h
def W(P:Program)(n:Nat)(pl:Plan):Code->zb8->Env->zb->Prop
 |.skip,Q,e,h=>Q .normal e h
 |.ret,Q,e,h=>Q .ret e h
 |.exit id,Q,e,h=>Q (.exit id) e h
 |.label _,Q,e,h=>Q .normal e h
 |.goto l,Q,e,h=>Q (.goto l) e h
 |.region id ops draw,Q,e,h=>regionF P n pl.tails id ops draw (λe h=>Q .normal e h) e h
 |.seq x y,Q,e,h=>match qar pl.joins (j6 y)with
  |none=>W P n pl x (zu2 (λe h=>W P n pl y Q e h) Q) e h
  |some J=>qhy J (λe h=>W P n pl y Q e h) (λK=>W P n pl x (zu2 K Q) e h) (X8 (Qd x) e)
 |.cond c x y,Q,e,h=>match X1 e [] c with
  |some (.bool b)=>(b=Ta->W P n pl x Q e h)/\(b=Tc->W P n pl y Q e h)
  |_=>False
 |.block id x,Q,e,h=>W P n pl x (zi6 id Q) e h
 |.loop x,Q,e,h=>match qar pl.loops (j6 x)with
  |some J=>qhz J (λf e h=>W P n pl x (zu2 f Q) e h) (X8 (Qd x) e) e h
  |none=>False
 |_,_,_,_=>False
def qh0(n:Nat)(B:World)(ms:List Nat)(a0:Act)(Q:zb8):Exit->Act->World->Prop:=
 λx a w=>∃e d h,w=mk B d h/\Sat n e a/\Same ms a0 a/\Q x e h
theorem zfe{X:Type}{J:Ann}{F:zzw (wn J) X}{k:X->Prop}(h:atC J F e k):∃vs q,zbl (zu1 e) J=Td vs/\zrb (wn J) vs F=Td q/\k q:=by unfold atC at h;split at h;rename_i vs b;split at h;rename_i q c;exact⟨vs,q,b,c,h⟩;exact h.elim;exact h.elim
theorem qem(hm:P.follows .mixedOrders=Ta){pl:Plan}:∀(c:Code) (Q:zb8) (e:Env) (h:zb),W P n pl c Q e h ->
  ∀(B:World) (d:Nat) (a:Act),Sat n e a->c.wp P (qh0 n B (Qd c) a Q) a (mk B d h):=by
 intro c;induction c with
 |skip=>exact λQ e h H B d a f=>wp_skip ⟨e,d,h,rfl,f,Same.refl _ _,H⟩
 |ret=>exact λQ e h H B d a f=>wp_ret ⟨e,d,h,rfl,f,Same.refl _ _,H⟩
 |exit id=>exact λQ e h H B d a f=>wp_exit ⟨e,d,h,rfl,f,Same.refl _ _,H⟩
 |label l=>exact λQ e h H B d a f=>wp_label ⟨e,d,h,rfl,f,Same.refl _ _,H⟩
 |goto l=>exact λQ e h H B d a f=>wp_goto ⟨e,d,h,rfl,f,Same.refl _ _,H⟩
 |region id ops an=>exact λQ e h H B d a f=>zdq hm H B d f λe' a' d' h' o s q3=>⟨e',d',h',rfl,o,s,q3⟩
 |seq x y A C=>
  intro Q e h H B d a f;simp only[W]at H;have M:∀i∈Qd x,i∈Qd (x.seq y):=λi hi=>Ar _ hi;have O:∀i∈Qd y,i∈Qd (x.seq y):=λi hi=>AC _ hi;split at H;refine wp_seq (wp_mono (A _ _ _ H B d a f) ?_);rintro ex k w1 ⟨D,r,h1,rfl,s1,z,o⟩;cases ex with
  |normal=>refine wp_mono (C _ _ _ o B r k s1) ?_;rintro ex a2 w2 ⟨t,d2,u,rfl,s2,w,s⟩;exact⟨t,d2,u,rfl,s2,(z.mono M).trans (w.mono O),s⟩
  |_=>exact⟨D,r,h1,rfl,s1,z.mono M,o⟩
  rename_i J hJ;have H':=H (mkC (wn J) λvs=>λh=>W P n pl y Q (Yr J vs++X8 (Qd x) e) h) (zoa λvs h L=>L);refine wp_seq (wp_mono (A _ _ _ H' B d a f) ?_);rintro ex k w1 ⟨D,r,h1,rfl,s1,z,o⟩;cases ex with
  |normal=>obtain⟨vs,q,S,L,hk⟩:=zfe o;have Y:=zn9 L;subst Y;have af:Sat n (Yr J vs++X8 (Qd x) e) k:=zdr f s1.defers s1.size z (ju s1 S);refine wp_mono (C _ _ _ hk B r k af) ?_;rintro ex a2 w2 ⟨t,d2,u,rfl,s2,w,s⟩;exact⟨t,d2,u,rfl,s2,(z.mono M).trans (w.mono O),s⟩
  |_=>exact⟨D,r,h1,rfl,s1,z.mono M,o⟩
 |cond c x y A C=>intro Q e h H B d a f;simp only[W]at H;have M:∀i∈Qd x,i∈Qd (DL c x y):=λi hi=>Ar _ hi;have O:∀i∈Qd y,i∈Qd (DL c x y):=λi hi=>AC _ hi;split at H;rename_i b E;refine wp_cond_split (qn f (c:=[]) trivial E) (λZ=>?_) (λaj=>?_);refine wp_mono (A _ _ _ (H.1 Z) B d a f) ?_;rintro ex a2 w2 ⟨t,d2,u,rfl,s2,w,s⟩;exact⟨t,d2,u,rfl,s2,w.mono M,s⟩;refine wp_mono (C _ _ _ (H.2 aj) B d a f) ?_;rintro ex a2 w2 ⟨t,d2,u,rfl,s2,w,s⟩;exact⟨t,d2,u,rfl,s2,w.mono O,s⟩;exact H.elim
 |block id x ih=>
  intro Q e h H B d a f;refine wp_block (wp_mono (ih _ _ _ H B d a f) ?_);rintro ex k w1 ⟨D,r,h1,rfl,s1,z,o⟩;cases ex with
  |exit i=>simp only[zi6]at o;simp only[Exit.inBlock];by_cases E:Nat.beq i id=Ta;rw[if_pos (Al E)];simp only[E,cond_true]at o;exact⟨D,r,h1,rfl,s1,z,o⟩;rw[if_neg (λhe=>E (by rw[he];simp))];simp only[E,cond_false]at o;exact⟨D,r,h1,rfl,s1,z,o⟩
  |_=>exact⟨D,r,h1,rfl,s1,z,o⟩
 |loop x ih=>
  intro Q e h H B d a f;simp only[W]at H;split at H;rename_i J hJ;obtain⟨I,μ,h0,G⟩:=H;obtain⟨ae,p0,U,V,am⟩:=zfe h0;let F:=zzx (wn J) I μ;let at_:Act->Option ((zb->Prop)×(zb->Nat)):=λk=>(zbl (λi=>Td (zz k i)) J).bind λvs=>zrb (wn J) vs F;refine wp_loop (λk w1=>∃r h1 vs p,w1=mk B r h1/\k.defers=[]/\k.tmps.size=n/\Same (Qd x) a k/\zbl (λi=>Td (zz k i)) J=Td vs/\zrb (wn J) vs F=Td p/\p.1 h1) (λk w1=>match at_ k with|some p=>p.2 w1.heap|none=>0) ⟨d,h,ae,p0,rfl,f.defers,f.size,Same.refl _ _,ju f U,V,am⟩ ?_;rintro k w1 ⟨r,h1,vs,p,rfl,ah,aa,m,S,hp,hI⟩;have s1:Sat n (Yr J vs++X8 (Qd x) e) k:=zdr f ah aa m S;have E:=zi5 hp G h1 hI;refine wp_mono (ih _ _ _ E B r k s1) ?_;rintro ex a2 w2 ⟨t,d2,u,rfl,s2,w,s⟩;cases ex with
  |normal=>
   obtain⟨ak,q,N,L,ab,ai⟩:=zfe s;refine⟨⟨d2,u,ak,q,rfl,s2.defers,s2.size,m.trans w,ju s2 N,L,ab⟩,?_⟩;have D:at_ k=Td p:=by simp only[at_,S,CC];exact hp
   have t:at_ a2=Td q:=by simp only[at_,ju s2 N,CC];exact L
   rw[D,t];exact ai
  |_=>exact⟨t,d2,u,rfl,s2,m.trans w,s⟩
  exact H.elim
 |_=>exact λQ e h H=>H.elim
def z2s:Nat->List Value->Env
 |_,[]=>[]
 |i,v::vs=>(i,[],v)::z2s (i+1) vs
def z2t(P:Program)(h:zb)(e:Env):List ResultVar->(List Value->Prop)->Prop
 |[],K=>K []
 |.tmp t::l,K=>match zu1 e t with
  |some v=>z2t P h e l λvs=>K (v::vs)
  |none=>False
 |.cell a t::l,K=>match zu1 e a with
  |some p=>zq1 P h t p Te λv=>z2t P h e l λvs=>K (v::vs)
  |none=>False
def zi7:List Value->Value
 |[v]=>v
 |vs=>.tuple vs.toArray
def qkk(P:Program)(rs:List ResultVar)(R:Value->zb->Prop):zb8
 |.normal,e,h=>z2t P h e rs λvs=>R (zi7 vs) h
 |.ret,e,h=>z2t P h e rs λvs=>R (zi7 vs) h
 |_,_,_=>False
def zi8(tmps:Array Value):ResultVar->Sem Value
 |.tmp t=>pure (tmps.getD t undef)
 |.cell a t=>do loadVar t (<-asAddr (tmps.getD a undef))
theorem zff{P:Program}{n:Nat}{h:zb}{e:Env}{a:Act}(c:Sat n e a):∀{l:List ResultVar} {K:List Value->Prop},z2t P h e l K->∃vs,K vs/\vs.length=l.length/\QExec P (l.mapM (zi8 a.tmps)) h vs
 |[],K,H=>⟨[],H,rfl,λ_ _=>by simp⟩
 |.tmp t::l,K,H=>by simp only[z2t]at H;split at H;rename_i v r;obtain⟨vs,h1,i,f⟩:=zff c H;refine⟨v::vs,h1,by simp[i],?_⟩;rw[DC];refine QExec.bind (x:=v) ?_ (f.bind (QExec.pure _));rw[<-Wc c r];exact QExec.pure _;exact H.elim
 |.cell x t::l,K,H=>by simp only[z2t]at H;split at H;rename_i p k;obtain⟨v,q,o⟩:=ziq H;obtain⟨vs,h1,i,f⟩:=zff c q;refine⟨v::vs,h1,by simp[i],?_⟩;rw[DC];refine QExec.bind (x:=v) ?_ (f.bind (QExec.pure _));have m:a.tmps.getD x undef=p:=Wc c k;simp only[zi8,m];have b:=o trivial;unfold Dp at b;unfold zq1 at H;split at H;exact b;exact b;exact H.elim;exact H.elim
theorem Qx{fn:Func}(i:Sat n e a){rs:List ResultVar}(c:fn.results.toList=rs)(H:z2t P h e rs λvs=>R (zi7 vs) h):
  ∃v,R v h/\QExec P (results fn a.tmps) h v:=by
 obtain⟨vs,h1,k,f⟩:=zff i H;refine⟨_,h1,?_⟩;intro B d;have b:results fn a.tmps=(fn.results.mapM (zi8 a.tmps) >>= λvs=>C2 (if h:vs.size=1 then vs[0]else .tuple vs)):=by unfold results;congr 1
 rw[b,Array.mapM_eq_mapM_toList,c,Sem.run_bind,Sem.run_map,f B d];simp only[Result.andThen_ok,Sem.run_pure]
 match vs,k with
 |[],_=>rfl
 |[v],_=>rfl
 |v::u::vs,_=>simp[zi7]
theorem zba(args:Array Value)(k:Nat):∀(vs:List Value) (i:Nat),(∀j v,vs[j]?=Td v->(args++BJ k undef).getD (i+j) undef=v) ->
  ∀x∈z2s i vs,fact (λi=>(args++BJ k undef).getD i undef) x
 |[],_,_,x,b=>by cases b
 |v::vs,i,h,x,b=>by simp only[z2s,Ai]at b;rcases b with rfl|b;exact⟨λ_=>h 0 v rfl,λe=>absurd trivial e⟩;exact zba args k vs (i+1) (λj u c=>by have:=h (j+1) u (by simpa using c);rwa[show i+(j+1)=i+1+j by omega]at this) x b
theorem qen(u:P.follows .mixedOrders=Ta){fn:Func}{c:Code}(pl:Plan)(vs:List Value){rs:List ResultVar}(x:P.funcs[f]?=Td fn)(q:fn.body=Td c)(o:fn.results.toList=rs)(s:fn.ntmps=n)
  (p:Nat.ble vs.length n=Ta) (H:W P n pl c (qkk P rs R) (z2s 0 vs) h):XC P f vs.toArray h R:=by
 intro B d;subst s;refine calls_of_wp x q ?_;have t:vs.length<=fn.ntmps:=BS p;have r:Sat fn.ntmps (z2s 0 vs) { tmps:=vs.toArray++BJ (fn.ntmps-vs.toArray.size) undef,defers:=[] }:=by
  refine⟨rfl,by simp;omega,?_⟩;refine zba vs.toArray _ vs 0 λj v k=>?_;have e:j<vs.length:=by rcases AX j vs.length with h|h;exact h;rw[BH h]at k;cases k
  simp only[AL,BI];rw[Cv (by simpa using e)];simp[k]
 refine wp_mono (qem u c _ _ _ H B d _ r) ?_;rintro ex a w ⟨y,b,h1,rfl,s1,z,l⟩;cases ex with
 |normal=>obtain⟨v,i,m⟩:=Qx s1 o l;exact⟨s1.defers,v,m B b,v,b,h1,rfl,rfl,i⟩
 |ret=>obtain⟨v,i,m⟩:=Qx s1 o l;exact⟨s1.defers,v,m B b,v,b,h1,rfl,rfl,i⟩
 |_=>exact l.elim
def codeOf(fn:Func):Code:=match fn.body with
 |some c=>c
 |none=>.skip
def Qy(fn:Func):Bool:=match fn.body with
 |some _=>Ta
 |none=>Tc
theorem zzy(m:P.follows .mixedOrders=Ta)(pl:Plan)(vs:List Value){fn:Func}{rs:List ResultVar}(o:P.funcs[f]?=Td fn)(e:Qy fn=Ta)(k:fn.results.toList=rs)(l:fn.ntmps=n)
  (p:Nat.ble vs.length n=Ta) (H:W P n pl (codeOf fn) (qkk P rs R) (z2s 0 vs) h):XC P f vs.toArray h R:=by
 have b:fn.body=Td (codeOf fn):=by unfold Qy at e;unfold codeOf;split at e;rename_i c i;rw[i];cases e
 exact qen m pl vs o b k l p H
end
section
variable {n:Nat} {h h':zb} {e t ty:TypeId} {s:Sl} {xs news:List Value} {P:Program} {z:Value}
theorem yd(h:zb)(o:Obj):(h.push o)[h.size]?=Td o:=by simp
def Arr(n:Nat)(h:zb)(a:Option Addr)(cs:List Value):Prop:=
 cs=[]\/∃b o,a=Td ⟨b,o,Te⟩/\b<n/\∀i v,cs[i]?=Td v->zc h ⟨b,o+i,Te⟩=Td v
theorem zi(b o i:Nat):(⟨b,o,Te⟩:Addr).add i=⟨b,o+i,Te⟩:=by unfold Ad;split;rename_i h;rw[h];rfl;rfl
theorem z2u(a:Option Addr)(sz m:Nat):ze7 a sz 0 m=a:=by
 unfold ze7;split;rfl;cases a with
 |none=>rfl
 |some p=>simp[Ad]
theorem wrap64{n:Int}(h1:-9223372036854775808<=n)(c:n<=9223372036854775807):Aa .i64 n=n:=by
 unfold Aa;have e:(2:Int) ^ Bm .i64=18446744073709551616:=by decide
 have e':(2:Int) ^ (Bm .i64-1)=9223372036854775808:=by decide
 simp only[e,e'];have b:Dm .i64=Ta:=rfl;simp only[b,Cc,decide_eq_true_eq];split <;> omega
theorem z2v{k:Nat}(h:k<9223372036854775807):Aa .i64 ((k:Int)+1)=((k+1:Nat):Int):=by rw[wrap64 (by omega) (by omega)];omega
def Owns(h:zb)(base:Nat)(e:TypeId)(sz:Nat)(s:Sl)(xs:List Value):Prop:=
 (mk default 0 h).ownsRow base e sz (.slice s.a s.len s.cap) s.len xs
theorem Owns.nil(h:zb)(base:Nat)(e:TypeId)(sz:Nat):Owns h base e sz ⟨Te,0,0⟩ []:=World.ownsRow_nil _ _ _ _
theorem Owns.length{base:Nat}{sz:Nat}(H:Owns h base e sz s xs):xs.length=s.len*sz:=H.1
theorem Owns.arr{base:Nat}{sz:Nat}(H:Owns h base e sz s xs):Arr h.size h s.a xs:=by rcases H.2 with⟨k,h0⟩|⟨g,cap,f,k,q,m,n,r,p,o⟩;have l:=H.1;rw[h0]at l;exact .inl (by simpa using l);simp only[AP]at k;have c:g<h.size:=(An.1 m).1;refine .inr ⟨g,0,k.1,c,λi v hi=>?_⟩;have b:h[g]?=Td (.cells f e (0,0)):=m;unfold zc;simp only[b,AL,Option.isSome_none,Bc,if_false];rw[<-o,AK]at hi;split at hi;simpa using hi;cases hi
theorem Owns.base_le{base:Nat}{sz:Nat}(H:Owns h base e sz s xs):∀p,s.a=Td p->base<=p.block/\p.block<h.size:=by intro p b;exact World.ownsRow.lt H p.block (by simp[Value.ownBlock,b])
theorem Owns.keep{base:Nat}{sz:Nat}(H:Owns h base e sz s xs)(k:∀p,s.a=Td p->h'[p.block]?=h[p.block]?):Owns h' base e sz s xs:=by refine⟨H.1,?_⟩;rcases H.2 with l|⟨g,cap,c,b,i,f,rest⟩;exact .inl l;simp only[AP]at b;refine .inr ⟨g,cap,c,by simp[b],i,?_,rest⟩;have:=k _ b.1;exact this.trans f
theorem Owns.keepN{base:Nat}{sz:Nat}(H:Owns h base e sz s xs)(k:Keep h.size h h'):Owns h' base e sz s xs:= H.keep λp b=>k.get _ (H.base_le p b).2
structure ElemT (P:Program) (t e:TypeId) (z:Value) (sz bytes:Nat):Prop where
 slice:P.underlying t=Td (.slice e)
 info:∃i,P.info? e=Td i/\i.zero=Td z/\i.size=sz/\i.bytes=bytes
 zero:z.cells.size=sz
 pos:0<sz
theorem zg1{w:World}{i:TypeInfo}{sz bytes base:Nat}(B:P.underlying t=Td (.slice e))(hi:P.info? e=Td i)(J:i.zero=Td z)(G:i.size=sz)(D:i.bytes=bytes) {v:Value} (q:w.ownsRow base e sz v n xs) {a:Addr} {m c:Nat} (A:news.length=m*sz) (f:∀j u,news[j]?=Td u->w.cell? (a.add j)=Td u) (h1:∀u∈news,u.oneCell'=Ta) (M:n+m<=4611686018427387904) (h:(n+m)*bytes<=140737488355328) {I:Value} {w':World} (k:(Au #[t,t] ty #[v,.slice (Td a) m c]).run P w=.ok I w'):
  ∀C l H,I=.slice (Td C) l H->(∃p U c0,v=.slice (Td p) U c0/\C.block=p.block)\/C.block=w.heap.size:=by
 subst G D;intro C l H b;rcases q.2 with⟨rfl,rfl⟩|⟨g,cap,x,rfl,V,N,L,O,E,F⟩;by_cases Y:m=0;subst Y;have S:news=[]:=AO (by simpa using A);subst S;have r:(Au #[t,t] ty #[.slice Te 0 0,.slice (Td a) 0 c]).run P w=.ok (.slice Te 0 0) w:=by simp[Au,run_underlying B,sizeOf,typeInfo,hi,Builtin.lenOf,CE,loadCells,loadCellsFrom]
 rw[r]at k;simp only[DT]at k;rw[<-k.1]at b;cases b;have r:=run_append_nil (P:=P) (ty:=ty) w t e i z B hi J a m c news A f (by omega) (by omega) (by have Q:=h;simp only[AL]at Q;omega);rw[r]at k;simp only[DT]at k;rw[<-k.1]at b;simp only[AP,Ac]at b;exact .inr (by rw[<-b.1]);by_cases o:n+m<=cap;have y:n*i.size+news.length<=x.size:=by rw[A,E,<-BZ];exact AQ _ o
 have r:=run_append_room (P:=P) (ty:=ty) w t e i B hi g n cap x N a m c news A f h1 o y;rw[r]at k;simp only[DT]at k;rw[<-k.1]at b;simp only[AP,Ac]at b;exact .inl ⟨_,_,_,rfl,by rw[<-b.1]⟩;have s:∀j u,xs[j]?=Td u->w.cell? ((⟨g,0,Te⟩:Addr).add j)=Td u:=q.cells (g:=g) rfl;have r:=run_append_grow (P:=P) (ty:=ty) w t e i z B hi J ⟨g,0,Te⟩ n cap xs q.1 s a m c news A f (by omega) (by omega) (growslice_fits (by omega) h);rw[r]at k;simp only[DT]at k;rw[<-k.1]at b;simp only[AP,Ac]at b;exact .inr (by rw[<-b.1])
theorem zbb{sz bytes:Nat}(T:ElemT P t e z sz bytes){base:Nat}(H:Owns h base e sz s xs) {src:Sl} (hs:Arr n h src.a news) (hl:news.length=src.len*sz) (h1:∀u∈news,u.oneCell'=Ta) (c:(s.len+src.len)*bytes<=140737488355328) (x:s.len+src.len<=4611686018427387904) (y:base<=h.size) {K:Value->zb->Prop} (hK:∀(k:Sl) (h':zb),k.len=s.len+src.len->Owns h' base e sz k (xs++news)->(∀i,i<h.size->(∀p,s.a=Td p->i≠p.block)->h'[i]?=h[i]?)->h.size<=h'.size->(∀m,k.a=Td m->(∃p,s.a=Td p/\m.block=p.block)\/m.block=h.size)->K (.slice k.a k.len k.cap) h'):
  XRun P (Au #[t,t] ty #[.slice s.a s.len s.cap,.slice src.a src.len src.cap]) h K:=by
 intro B d;obtain⟨i,hi,V,E,C⟩:=T.info;have key:∃D w',(Au #[t,t] ty #[.slice s.a s.len s.cap,.slice src.a src.len src.cap]).run P (mk B d h)=.ok D w'/\w'.ownsRow base e sz D (s.len+src.len) (xs++news)/\(mk B d h).grownBy w' (Value.ownBlock (.slice s.a s.len s.cap)) /\
   ∀m l N,D=.slice (Td m) l N->(∃p,s.a=Td p/\m.block=p.block)\/m.block=h.size:=by
  have f:(mk B d h).ownsRow base e sz (.slice s.a s.len s.cap) s.len xs:=H;rcases hs with e0|⟨b,o,e0,U,hc⟩;subst e0;have h0:src.len=0:=by rcases CX src.len with h0|h0;exact h0;have:=Nat.mul_pos h0 T.pos;simp at hl;omega
  rw[h0];have O:∃q,q=src.a:=⟨_,rfl⟩;obtain⟨q,M⟩:=O;rw[<-M];cases q with
  |none=>
   refine⟨_,mk B d h,?_,by simpa using f,⟨rfl,rfl,rfl,Ab _,λ_ _ _=>rfl⟩,λm l N r=>.inl ⟨m,by simp only[AP]at r;exact r.1,rfl⟩⟩;have hT:=T.slice;have ab:s.len<=s.cap:=by rcases f.2 with⟨G,S⟩|⟨g,cap,Y,G,_,_,ae,_⟩;omega;simp only[AP]at G;omega
   generalize s.a=sa at *;cases sa <;> simp[Au,run_underlying hT,sizeOf,typeInfo,hi,Builtin.lenOf,CE,ab,storeCells]
  |some p=>obtain⟨D,w',I,L,A,_⟩:=run_append_own (P:=P) (w:=mk B d h) base t ty e i z sz bytes T.slice hi V E C T.zero T.pos (.slice s.a s.len s.cap) s.len xs f p 0 src.cap [] (by simp) (by simp) (by simp) (by unfold maxLen;omega) (by rw[h0]at c;exact c) y;refine⟨D,w',I,L,A,λm l N r=>?_⟩;rcases zg1 T.slice hi V E C f (news:=[]) (by simp) (by simp) (by simp) (by rw[h0]at x;exact x) (by rw[h0]at c;exact c) I m l N r with⟨q,l0,c0,M,U⟩|U;simp only[AP]at M;exact .inl ⟨q,M.1,U⟩;exact .inr U
  rw[e0];obtain⟨D,w',I,L,A,_⟩:=run_append_own (P:=P) (w:=mk B d h) base t ty e i z sz bytes T.slice hi V E C T.zero T.pos (.slice s.a s.len s.cap) s.len xs f ⟨b,o,Te⟩ src.len src.cap news hl (λj u hu=>by rw[zi];exact hc j u hu) h1 (by unfold maxLen;omega) c y;refine⟨D,w',I,L,A,λm l N r=>?_⟩;rcases zg1 T.slice hi V E C f hl (λj u hu=>by rw[zi];exact hc j u hu) h1 x c I m l N r with⟨q,l0,c0,M,J⟩|J;simp only[AP]at M;exact .inl ⟨q,M.1,J⟩;exact .inr J
 obtain⟨D,w',I,L,A,r4⟩:=key;have hw:w'=mk B w'.drawn w'.heap:=by have G:=A.os;have S:=A.tape;have e3:=A.output;cases w';simp only[mk]at *;subst G;subst S;subst e3;rfl
 rw[hw]at I;have hv:∃k:Sl,D=.slice k.a k.len k.cap/\k.len=s.len+src.len:=by rcases L.2 with⟨G,S⟩|⟨g,cap,Y,G,_⟩;exact⟨⟨Te,0,0⟩,G,S.symm⟩;exact⟨⟨Td ⟨g,0,Te⟩,s.len+src.len,cap⟩,G,rfl⟩
 obtain⟨k,rfl,F⟩:=hv;refine⟨_,_,_,I,hK k w'.heap F ?_ ?_ A.size λm Z=>r4 m k.len k.cap (by rw[Z])⟩;rw[<-F]at L;exact L;intro j hj aa;refine A.block j hj λQ=>?_;cases O:s.a with
 |none=>rw[O]at Q;cases Q
 |some p=>rw[O]at Q;simp only[Value.ownBlock,Ac]at Q;exact aa p O Q
end
section
variable {h:zb} {m:Nat} {P:Program} {kt t et:TypeId} {z:Value}
def zdg(l:List (Bt×Value))(k:Bt):Option Value:=match l with
 |[]=>Te
 |p::l=>if p.1=k then Td p.2 else zdg l k
def z2w(l:List (Bt×Value))(k:Bt)(v:Value):List (Bt×Value):=match l with
 |[]=>[(k,v)]
 |p::l=>if p.1=k then(k,v)::l else p::z2w l k v
theorem zrc(l:List (Bt×Value))(k b:Bt)(v:Value):zdg (z2w l k v) b=if k=b then Td v else zdg l b:=by
 induction l with
 |nil=>simp[z2w,zdg]
 |cons p l f=>simp only[z2w];split;rename_i h;simp only[zdg];split <;> rename_i c;rfl;rw[h];simp[c];rename_i h;simp only[zdg,f];split <;> rename_i c;rw[if_neg (λe=>h (c.trans e.symm))];rfl
def MapAt(h:zb)(m:Nat)(l:List (Bt×Value)):Prop:=∃c b,h[m]?=Td (.map c b)/\c.toList.map (λe=>(e.key,e.val))=l.map λp=>(A3 p.1,p.2)
theorem MapAt.keep{h h':zb}{l:List (Bt×Value)}(H:MapAt h m l)(k:h'[m]?=h[m]?):MapAt h' m l:=by obtain⟨e,c,h1,b⟩:=H;exact⟨e,c,k.trans h1,b⟩
theorem MapAt.lt{l:List (Bt×Value)}(H:MapAt h m l):m<h.size:=by obtain⟨b,c,h1,e⟩:=H;exact(An.1 h1).1
theorem MapAt.new(h:zb):MapAt (h.push (.map #[] 0)) h.size []:=⟨#[],0,yd _ _,rfl⟩
structure MapT (P:Program) (t kt et:TypeId) (z:Value):Prop where
 map:P.underlying t=Td (.map kt et)
 key:P.underlying kt=Td .string
 zero:∃i,P.info? et=Td i/\i.zero=Td z
theorem zml(a b:Bt):(a==b)=decide (a=b):=by show ByteArray.beq a b=_;cases a;cases b;rw[AM];simp[ByteArray.beq]
instance lawfulBA:LawfulBEq Bt where
 eq_of_beq:=λ {a b} h=>by rw[zml]at h;simpa using h
 rfl:=λ {a}=>by rw[zml];simp
theorem Wd(k:Bt):∀(f:List MapEntry) (l:List (Bt×Value)) (i:Nat),f.map (λe=>(e.key,e.val))=l.map (λp=>(A3 p.1,p.2)) ->
  (zdg l k=Te/\Cr .string (.string k) f i=Td Te)\/(∃j v e,zdg l k=Td v/\f[j]?=Td e/\e.key=.string k/\e.val=v/\Cr .string (.string k) f i=Td (Td (i+j,v)) /\ ∀w,(f.modify j λe=>{ e with key:=.string k,val:=w }).map (λe=>(e.key,e.val))=(z2w l k w).map λp=>(A3 p.1,p.2))
 |[],l,i,h=>by
  have:l=[]:=by cases l <;> simp_all
  subst this;exact .inl ⟨rfl,rfl⟩
 |e::f,l,i,h=>by
  cases l with
  |nil=>simp at h
  |cons p l=>
   simp only[As,BN,Bi]at h;obtain⟨⟨h1,o⟩,q⟩:=h;by_cases c:p.1=k;refine .inr ⟨0,p.2,e,by simp[zdg,c],rfl,by rw[h1,c],o,?_,λw=>?_⟩;have b:(k==p.1)=Ta:=by rw[zml];simpa using c.symm
   simp[Cr,Dv,h1,o,b];simp[z2w,c,q];have b:(k==p.1)=Tc:=by rw[zml];simpa using λe=>c e.symm
   rcases Wd k f l (i+1) q with⟨m,n⟩|⟨j,v,e',m,n,u,t,r,s⟩;refine .inl ⟨by simp[zdg,c,m],?_⟩;simp[Cr,Dv,h1,b,n];refine .inr ⟨j+1,v,e',by simp[zdg,c,m],by simpa using n,u,t,?_,λw=>?_⟩;simp[Cr,Dv,h1,b,r];omega;simp[z2w,c,h1,o,s w]
theorem X9(e:P.underlying kt=Td .string)(b:Bool)(k:Bt)(h:zb):QExec P (Instr.checkKey b 10000 kt (.string k)) h ():=by intro B d;have c:=QExec.underlying (h:=h) e B d;unfold Instr.checkKey;rw[Sem.run_bind,c];rfl
theorem Zp(e:P.underlying kt=Td .string)(k:Bt)(b:List MapEntry)(r:Option (Nat×Value))(h:zb)(f:Cr .string (.string k) b 0=Td r):
  QExec P (Instr.findKey kt (.string k) b) h r:=by
 intro B d;have c:=QExec.underlying (h:=h) e B d;unfold Instr.findKey;rw[Sem.run_bind,c];simp only[Result.andThen_ok,f];rfl
theorem Qq{b:Array MapEntry}{c:Nat}(e:h[m]?=Td (.map b c)):QExec P (getObj m) h (.map b c):=by intro B d;have:(mk B d h).heap[m]?=Td (.map b c):=e;simp[getObj,Sem.run,this]
theorem qas(b:∃i,P.info? t=Td i/\i.zero=Td z):QExec P (zeroValue t) h z:=by obtain⟨i,h1,c⟩:=b;intro B d;simp[zeroValue,typeInfo,program,h1,c,Sem.run]
def zw9(l:List (Bt×Value))(k:Bt)(z:Value):Value:=(zdg l k).getD z
theorem We(T:MapT P t kt et z){l:List (Bt×Value)}(H:MapAt h m l)(k:Bt)(ok:Bool):
  QExec P (C9 t (.map (Td m)) (.string k) ok) h (if ok then .tuple #[zw9 l k z,.bool (zdg l k).isSome]else zw9 l k z):=by
 obtain⟨b,c,h1,s⟩:=H;intro B d;have o:=QExec.underlying (h:=h) T.map B d;have q:=Qq (P:=P) h1 B d;have r:=X9 T.key b.isEmpty k h B d;unfold C9;rw[Sem.run_bind,o];simp only[Result.andThen_ok,Sem.run_bind,q,Sem.run_pure,r];rcases Wd k b.toList l 0 s with⟨f,i⟩|⟨j,v,e,f,i,w,u,n,_⟩;rw[Zp T.key k b.toList Te h i B d];have p:=qas (h:=h) T.zero B d;simp only[Result.andThen_ok,Sem.run_bind,p,Sem.run_pure,zw9,f];cases ok <;> rfl;rw[Zp T.key k b.toList _ h n B d];simp only[Result.andThen_ok,zw9,f];cases ok <;> rfl
theorem zb9{l:List (Bt×Value)}{k:Bt}{v:Value}(g:zdg l k=Te):z2w l k v=l++[(k,v)]:=by
 induction l with
 |nil=>rfl
 |cons p l c=>simp only[zdg]at g;split at g;cases g;rename_i b;simp[z2w,b,c g]
theorem zrd(T:MapT P t kt et z){l:List (Bt×Value)}(H:MapAt h m l)(k:Bt)(v:Value){K:zb->Prop}
  (y:∀h':zb,MapAt h' m (z2w l k v)->h'.size=h.size->(∀i,i≠m->h'[i]?=h[i]?)->K h'):XRunU P (Ce t (.map (Td m)) (.string k) v) h K:=by
 have n:=H.lt;obtain⟨f,c,h1,A⟩:=H;intro B d;have u:=QExec.underlying (h:=h) T.map B d;have w:=Qq (P:=P) h1 B d;have x:=X9 T.key Tc k h B d;have b:∀o:Obj,(setObj m o).run P (mk B d h)=.ok () (mk B d (h.setIfInBounds m o)):=by intro o;have:(mk B d h).heap[m]?=Td (.map f c):=h1;simp[setObj,Sem.run,this];rfl
 unfold Ce;rcases Wd k f.toList l 0 A with⟨s,q⟩|⟨j,G,e,s,q,F,I,C,E⟩;refine⟨d,h.setIfInBounds m (.map (f.push { key:=.string k,val:=v,born:=c }) (c+1)),?_,y _ ⟨f.push { key:=.string k,val:=v,born:=c },c+1,by simp[n],?_⟩ (by simp) (λi hi=>by rw[AB (Ne.symm hi)])⟩;rw[Sem.run_bind,u];simp only[Result.andThen_ok,Sem.run_bind,w,x];rw[Zp T.key k f.toList Te h q B d];simp only[Result.andThen_ok];exact b _;rw[zb9 s];simp[A];have r:j<f.size:=by have:=(A1.1 q).1;simpa using this
 refine⟨d,_,?_,y (h.setIfInBounds m (.map (f.modify j λe=>{ e with key:=.string k,val:=v }) c)) ⟨f.modify j λe=>{ e with key:=.string k,val:=v },c,by simp[n],?_⟩ (by simp) (λi hi=>by rw[AB (Ne.symm hi)])⟩;rw[Sem.run_bind,u];simp only[Result.andThen_ok,Sem.run_bind,w,x];rw[Zp T.key k f.toList _ h C B d];simp only[Result.andThen_ok,AL];have p:((f[j]?).map (·.key)).getD (.string k)=.string k:=by
  have:f[j]?=Td e:=by simpa using q
  rw[this];exact F
 rw[p];have D:CY (.string k) (.string k)=pure (.string k):=by unfold CY;rw[if_pos (by show(k==k)=Ta;rw[zml];simp)]
 rw[D];exact b _;have:=E v;simpa using this
end
section
variable {h h':zb} {b n o:Nat} {cs:Array Value} {v:Value} {P:Program}
def Blk(h:zb)(b:Nat)(cs:Array Value):Prop:=∃T,h[b]?=Td (.cells cs T (0,0))
theorem Blk.keep(H:Blk h b cs)(k:h'[b]?=h[b]?):Blk h' b cs:=by obtain⟨T,e⟩:=H;exact⟨T,k.trans e⟩
theorem Blk.keepN(H:Blk h b cs)(k:Keep n h h')(c:b<n):Blk h' b cs:=H.keep (k.get b c)
theorem Blk.new(h:zb)(cs:Array Value)(T:TypeId):Blk (h.push (.cells cs T)) h.size cs:=⟨T,yd _ _⟩
theorem Blk.lt(H:Blk h b cs):b<h.size:=by obtain⟨T,e⟩:=H;exact(An.1 e).1
theorem Blk.cell(H:Blk h b cs)(c:cs[o]?=Td v):zc h ⟨b,o,Te⟩=Td v:=by obtain⟨T,e⟩:=H;unfold zc;simp[e,c]
theorem Blk.cellAdd{b o k:Nat}(H:Blk h b cs)(c:cs[o+k]?=Td v):zc h ((⟨b,o,Te⟩:Addr).add k)=Td v:=by rw[zi];exact H.cell c
theorem Blk.ld{cs:List Value}(H:Blk h b cs.toArray):zd h ⟨b,0,Te⟩ 0 cs:=by
 have key:∀(l:List Value) (i:Nat),(∀j v,l[j]?=Td v->cs[i+j]?=Td v)->zd h ⟨b,0,Te⟩ i l:=by
  intro l;induction l with
  |nil=>intro i _;trivial
  |cons v l c=>intro i hi;refine⟨?_,c (i+1) λj u e=>?_⟩;rw[zi,AL];exact H.cell (by have:=hi 0 v rfl;simpa using this);have:=hi (j+1) u (by simpa using e);rwa[show i+(j+1)=i+1+j by omega]at this
 exact key cs 0 λj v f=>by simpa using f
theorem Keep.setBlk(o:Obj)(c:n<=b):Keep n h (h.setIfInBounds b o):= ⟨by simp,λi hi=>by rw[AB (by omega)]⟩
theorem zfg(H:Blk h b cs)(B:World)(d:Nat):(mk B d h).frozen? ⟨b,o,Te⟩=Tc:=by obtain⟨T,e⟩:=H;have:(mk B d h).heap[b]?=Td (.cells cs T (0,0)):=e;simp[World.frozen?,this]
theorem zds{T:TypeId}(e:h[b]?=Td (.cells cs T (0,0)))(m:o<cs.size)(k:v.oneCell'=Ta)(B:World)(d:Nat):
  (store ⟨b,o,Te⟩ v).run P (mk B d h)=.ok () (mk B d (h.setIfInBounds b (.cells (cs.setIfInBounds o v) T (0,0)))):=by
 have l:(mk B d h).cell? ⟨b,o,Te⟩=Td cs[o]:=Blk.cell (h:=h) ⟨T,e⟩ (by simp[m]);have n:=zfg (o:=o) (⟨T,e⟩:Blk h b cs) B d;have c:(mk B d h).setCell ⟨b,o,Te⟩ v=mk B d (h.setIfInBounds b (.cells (cs.setIfInBounds o v) T (0,0))):=by
  unfold World.setCell mk;simp only;congr 1;have f:b<h.size:=(An.1 e).1;apply Array.ext_getElem?;intro i;rw[Array.getElem?_modify];by_cases hi:i=b;subst hi;have e':h[i]=.cells cs T (0,0):=by have:=Bo f;rw[e]at this;exact(Az this).symm
  simp[f,e'];rw[if_neg (Ne.symm hi),AB (Ne.symm hi)]
 cases v with
 |agg x=>simp[Value.oneCell']at k
 |tuple x=>simp[Value.oneCell']at k
 |_=>simp only[store,Sem.run,l,n,Bc,if_false,c]
theorem cells_one(b:v.oneCell'=Ta):v.cells=#[v]:=by cases v <;> first|rfl|simp[Value.oneCell']at b
theorem yg{t:TypeId}(hi:qc P t=Ta)(l:qi P t=1)(H:Blk h b cs)(k:o<cs.size)(c:v.oneCell'=Ta){K:zb->Prop}
  (n:∀h':zb,Blk h' b (cs.setIfInBounds o v)->h'.size=h.size->(∀i,i≠b->h'[i]?=h[i]?)->K h'):XRunU P (Af t (.pointer (Td ⟨b,o,Te⟩)) v) h K:=by
 obtain⟨T,e⟩:=H;have f:b<h.size:=(An.1 e).1;intro B d;refine⟨d,_,?_,n (h.setIfInBounds b (.cells (cs.setIfInBounds o v) T (0,0))) ⟨T,by simp[f]⟩ (by simp) λi hi=>by rw[AB (Ne.symm hi)]⟩;have p:=QExec.sizeOf (P:=P) (h:=h) (je hi).choose_spec B d;unfold Af Dj;simp only[Sem.run_bind,Sem.run_pure,Result.andThen_ok];unfold storeVar;rw[Sem.run_bind,p];simp only[Result.andThen_ok];rw[l,cells_one c];simp only[List.size_toArray,Aq,A4,AL,ne_eq,not_true_eq_false,if_false];show Sem.run P (storeCells ⟨b,o,Te⟩ [v]) _=_;unfold storeCells;rw[Sem.run_bind];have m:(⟨b,o,Te⟩:Addr).add 0=⟨b,o,Te⟩:=by rw[zi];rfl
 rw[m,zds e k c B d];rfl
theorem Y2{P:Program}{b:Nat}{T:TypeId}(B:World)(d:Nat):∀(vs:List Value) (i:Nat) (h:zb) (cs:Array Value),h[b]?=Td (.cells cs T (0,0))->i+vs.length<=cs.size->(∀v∈vs,v.oneCell'=Ta) ->
  ∃h',(storeCells ⟨b,0,Te⟩ vs i).run P (mk B d h)=.ok () (mk B d h')/\h'[b]?=Td (.cells (cs.toList.take i++vs++cs.toList.drop (i+vs.length)).toArray T (0,0))/\h'.size=h.size/\∀j,j≠b->h'[j]?=h[j]?
 |[],i,h,cs,e,_,_=>⟨h,rfl,by simpa using e,rfl,λ_ _=>rfl⟩
 |v::vs,i,h,cs,e,hl,hv=>by
  have l:b<h.size:=(An.1 e).1;simp only[Aq]at hl;have h1:=zds (P:=P) e (o:=i) (by omega) (hv v Am) B d;have e':(h.setIfInBounds b (.cells (cs.setIfInBounds i v) T (0,0)))[b]?=Td (.cells (cs.setIfInBounds i v) T (0,0)):=by simp[l]
  have c:i+1+vs.length<=(cs.setIfInBounds i v).size:=by rw[A0];omega
  obtain⟨h',r,p,n,k⟩:=Y2 (P:=P) B d vs (i+1) (h.setIfInBounds b (.cells (cs.setIfInBounds i v) T (0,0))) (cs.setIfInBounds i v) e' c λu m=>hv u (Ae _ m);refine⟨h',?_,?_,by rw[n];simp,λj f=>by rw[k j f,AB (Ne.symm f)]⟩;unfold storeCells;rw[Sem.run_bind,zi,AL,h1];simp only[Result.andThen_ok];exact r;rw[p];congr 3;have hi:i<cs.toList.length:=by simp;omega
  simp only[Array.toList_setIfInBounds,Aq];rw[List.take_set,List.drop_set_of_lt (by omega)];have q:(cs.toList.take (i+1)).set i v=cs.toList.take i++[v]:=by
   rw[Ay hi,List.set_append_right _ _ (by simp;omega)];have:i-(cs.toList.take i).length=0:=by simp;omega
   rw[this];rfl
  rw[q,show i+(vs.length+1)=i+1+vs.length by omega];simp
theorem Owns.base{h:zb}{base b:Nat}{e:TypeId}{sz:Nat}{s:Sl}{xs:List Value}(H:Owns h base e sz s xs)(l:b<=base):Owns h b e sz s xs:=by refine⟨H.1,?_⟩;rcases H.2 with k|⟨g,cap,c,i,f,rest⟩;exact .inl k;exact .inr ⟨g,cap,c,i,by omega,rest⟩
end
end Go.X
end
section
namespace Go.X
variable {cs:List Value}
inductive Tr where
 |mk (kind:Int) (text:Bt) (keys:List Bt) (items:List Tr)
namespace Tr
@[reducible] def kind:Tr->Int|mk k _ _ _=>k
@[reducible] def text:Tr->Bt|mk _ s _ _=>s
@[reducible] def keys:Tr->List Bt|mk _ _ ks _=>ks
@[reducible] def items:Tr->List Tr|mk _ _ _ xs=>xs
@[simp] theorem eta(t:Tr):mk t.kind t.text t.keys t.items=t:=by cases t;rfl
instance:Inhabited Tr:=⟨mk 0 ⟨#[]⟩ [] []⟩
end Tr
inductive Ty where
 |int (k:IntKind)|bool|str|row (t:Ty)|tree|unit|pair (a b:Ty)|ptr (t:Ty)|iter|err
 deriving DecidableEq
@[reducible] def El:Ty->Type
 |.int _=>Int
 |.bool=>Bool
 |.str=>Bt
 |.row t=>List (El t)
 |.tree=>Tr
 |.unit=>Unit
 |.pair a b=>El a×El b
 |.ptr t=>El t
 |.iter=>Bt×Nat
 |.err=>Bool
def qh1:(t:Ty)->El t
 |.int _=>(0:Int)
 |.bool=>Tc
 |.str=>(⟨#[]⟩:Bt)
 |.row _=>[]
 |.tree=>default
 |.unit=>()
 |.pair a b=>(qh1 a,qh1 b)
 |.ptr t=>qh1 t
 |.iter=>(⟨#[]⟩,0)
 |.err=>Ta
def sz:Ty->Nat
 |.tree=>4
 |.unit=>0
 |.pair a b=>sz a+sz b
 |_=>1
abbrev Fr:=Nat->Option (Array Value)
def Fr.le(M M':Fr):Prop:=∀b cs,M b=Td cs->M' b=Td cs
theorem Fr.le.refl(M:Fr):Fr.le M M:=λ_ _ h=>h
theorem Fr.le.trans{a b c:Fr}(h:Fr.le a b)(k:Fr.le b c):Fr.le a c:=λ_ _ e=>k _ _ (h _ _ e)
def cut(cs:Array Value)(o n:Nat):List Value:=(cs.toList.drop o).take n
def RowAt(M:Fr){α:Type}(R:α->List Value->Prop)(z:Nat)(xs:List α)(v:Value):Prop:=
 ∃a c,v=.slice a xs.length c/\(xs.length<=140737488355328/\xs.length<=c)/\(xs=[]\/∃b o cs,a=Td ⟨b,o,Te⟩/\M b=Td cs/\∀i (h:i<xs.length),R xs[i] (cut cs (o+i*z) z))
inductive TrRd (M:Fr):Tr->List Value->Prop where
 |mk {k:Int} {s:Bt} {ks:List Bt} {xs:List Tr} {vk:Value} {a:Option Addr} {c b o:Nat} {cs:Array Value}
  (hk:RowAt M (λs cs=>cs=[.string s]) 1 ks vk) (hn:xs.length<=140737488355328/\xs.length<=c) (hz:xs=[]\/(a=Td ⟨b,o,Te⟩/\M b=Td cs))
  (hi:∀i (h:i<xs.length),TrRd M xs[i] (cut cs (o+i*4) 4)):TrRd M (.mk k s ks xs) [.int .i64 k,.string s,vk,.slice a xs.length c]
def Zq(s:Bt)(p:Nat):Value:=.iface 0 (.agg #[.string s,.int .i64 p])
def Rd(M:Fr):(t:Ty)->El t->List Value->Prop
 |.int k,i,cs=>cs=[.int k i]
 |.bool,b,cs=>cs=[.bool b]
 |.str,s,cs=>cs=[.string s]
 |.row t,xs,cs=>∃v,cs=[v]/\RowAt M (Rd M t) (sz t) xs v
 |.tree,t,cs=>TrRd M t cs
 |.unit,_,cs=>cs=[]
 |.pair a b,x,cs=>∃c1 c2,cs=c1++c2/\Rd M a x.1 c1/\Rd M b x.2 c2
 |.ptr t,x,cs=>∃b o c,cs=[.pointer (Td ⟨b,o,Te⟩)]/\M b=Td c/\Rd M t x (cut c o (sz t))
 |.iter,x,cs=>cs=[Zq x.1 x.2]
 |.err,b,cs=>∃v,cs=[v]/\((b=Ta/\v=.nilIface)\/(b=Tc/\∃t u,v=.iface t u))
theorem RowAt.mono{M M':Fr}(p:Fr.le M M'){α:Type}{R f:α->List Value->Prop}{z:Nat}{xs:List α}{v:Value}(H:RowAt M R z xs v)(q:∀x∈xs,∀cs,R x cs->f x cs):RowAt M' f z xs v:=by obtain⟨a,c,e,k,h⟩:=H;refine⟨a,c,e,k,h.imp id ?_⟩;rintro⟨b,o,cs,l,m,n⟩;exact⟨b,o,cs,l,p _ _ m,λi h=>q _ (AE _) _ (n i h)⟩
theorem TrRd.mono{M M':Fr}(b:Fr.le M M'){t:Tr}(H:TrRd M t cs):TrRd M' t cs:=by
 induction H with
 |mk f e i _ c=>exact .mk (f.mono b λ_ _ _ h=>h) e (i.imp id λh=>⟨h.1,b _ _ h.2⟩) c
theorem Rd.mono{M M':Fr}(c:Fr.le M M'):∀{t:Ty} {x:El t} {cs:List Value},Rd M t x cs->Rd M' t x cs
 |.int _,_,_,h=>h
 |.bool,_,_,h=>h
 |.str,_,_,h=>h
 |.row _,_,_,⟨v,e,h⟩=>⟨v,e,h.mono c λ_ _ _ h=>Rd.mono c h⟩
 |.tree,_,_,h=>TrRd.mono c h
 |.unit,_,_,h=>h
 |.pair _ _,_,_,⟨c1,c2,e,h1,h2⟩=>⟨c1,c2,e,Rd.mono c h1,Rd.mono c h2⟩
 |.ptr _,_,_,⟨b,o,cc,e,h1,h2⟩=>⟨b,o,cc,e,c _ _ h1,Rd.mono c h2⟩
 |.iter,_,_,h=>h
 |.err,_,_,h=>h
theorem Rd.len{M:Fr}:∀{t:Ty} {x:El t} {cs:List Value},Rd M t x cs->cs.length=sz t
 |.int _,_,_,h=>by rw[h];rfl
 |.bool,_,_,h=>by rw[h];rfl
 |.str,_,_,h=>by rw[h];rfl
 |.row t,_,_,⟨v,e,_⟩=>by rw[e];rfl
 |.tree,_,_,h=>by cases h;rfl
 |.unit,_,_,h=>by rw[h];rfl
 |.pair _ _,_,_,⟨c1,c2,e,h1,h2⟩=>by rw[e,Ah,Rd.len h1,Rd.len h2];rfl
 |.ptr _,_,_,⟨b,o,cc,e,_⟩=>by rw[e];rfl
 |.iter,_,_,h=>by rw[h];rfl
 |.err,_,_,⟨v,e,_⟩=>by rw[e];rfl
theorem Rd.one{M:Fr}:∀{t:Ty} {x:El t} {cs:List Value},Rd M t x cs->∀v∈cs,v.oneCell'=Ta
 |.int _,_,_,h=>by rw[h];simp[Value.oneCell']
 |.bool,_,_,h=>by rw[h];simp[Value.oneCell']
 |.str,_,_,h=>by rw[h];simp[Value.oneCell']
 |.row t,_,_,⟨v,e,a,c,e2,_⟩=>by rw[e,e2];simp[Value.oneCell']
 |.tree,_,_,h=>by
  cases h with
  |mk i _ _ _=>obtain⟨a,c,e,_⟩:=i;rw[e];simp[Value.oneCell']
 |.unit,_,_,h=>by rw[h];simp
 |.pair _ _,_,_,⟨c1,c2,e,h1,h2⟩=>by intro v f;rw[e]at f;rcases Aw.1 f with f|f;exact Rd.one h1 v f;exact Rd.one h2 v f
 |.ptr _,_,_,⟨b,o,cc,e,_⟩=>by rw[e];simp[Value.oneCell']
 |.iter,_,_,h=>by rw[h];simp[Value.oneCell',Zq]
 |.err,_,_,⟨v,e,h⟩=>by rw[e];rcases h with⟨_,rfl⟩|⟨_,t,u,rfl⟩ <;> simp[Value.oneCell']
theorem TrRd.keys{M:Fr}{t:Tr}(H:TrRd M t cs):∃e f,cs=[.int .i64 t.kind,.string t.text,e,f]/\Rd M (.row .str) t.keys [e]/\Rd M (.row .tree) t.items [f]:=by
 cases H with
 | @mk k s ks xs e a c b o cs hk hn hz hi=>exact⟨e,_,rfl,⟨e,rfl,hk⟩,⟨_,rfl,a,c,rfl,hn,hz.imp id λh=>⟨b,o,cs,h.1,h.2,hi⟩⟩⟩
theorem TrRd.of{M:Fr}{k:Int}{s:Bt}{ks:List Bt}{xs:List Tr}{p n:Value}(h1:Rd M (.row .str) ks [p])(l:Rd M (.row .tree) xs [n]):TrRd M (.mk k s ks xs) [.int .i64 k,.string s,p,n]:=by
 obtain⟨v,e,h1⟩:=h1;obtain⟨t,e',a,c,f,m,l⟩:=l;cases e;cases e';subst f;rcases l with rfl|⟨b,o,cs,q,f,r⟩;exact .mk (b:=0) (o:=0) (cs:=#[]) h1 m (.inl rfl) λi h=>absurd h (by simp)
 exact .mk h1 m (.inr ⟨q,f⟩) r
def Bd:(t:Ty)->El t->Prop
 |.row _,xs=>xs.length<=140737488355328
 |.tree,t=>t.keys.length<=140737488355328/\t.items.length<=140737488355328
 |.pair a b,x=>Bd a x.1/\Bd b x.2
 |_,_=>True
theorem Rd.bd{M:Fr}:∀{t:Ty} {x:El t} {cs:List Value},Rd M t x cs->Bd t x
 |.int _,_,_,_=>trivial
 |.bool,_,_,_=>trivial
 |.str,_,_,_=>trivial
 |.row t,_,_,⟨v,_,a,c,_,h,_⟩=>h.1
 |.tree,_,_,h=>by
  cases h with
  |mk f b _ _=>obtain⟨a,c,e,h,_⟩:=f;exact⟨h.1,b.1⟩
 |.unit,_,_,_=>trivial
 |.pair _ _,_,_,⟨_,_,_,h1,h2⟩=>⟨Rd.bd h1,Rd.bd h2⟩
 |.ptr _,_,_,_=>trivial
 |.iter,_,_,_=>trivial
 |.err,_,_,_=>trivial
inductive AA where
 |v (x:Value)
 |d (t:Ty) (x:El t)
 |box (c o:Nat)
 |own (c:Nat)
 |oelt (c z:Nat) (i:Nat) (o:Nat)
 |elt (t:Ty) (x:El t) (o:Nat)
 |dc (t:Ty) (xs:List (El t))
inductive AG where
 |a (x:AA)
 |agg (l:List AA)
inductive AV where
 |g (x:AG)
 |tup (l:List AG)
 |nx (b:Bool) (p:Int) (c:Int)
structure Gh where
 M:Fr
 β:Nat->Nat
 σ:Nat->Sl
def All2{α β:Type}(R:α->β->Prop):List α->List β->Prop
 |[],[]=>True
 |x::xs,y::ys=>R x y/\All2 R xs ys
 |_,_=>False
def slV(s:Sl):Value:=.slice s.a s.len s.cap
abbrev iV(x : Int): Value := .int .i64 x
abbrev tA(a : Int)(b : Bt)(c d : Sl): Value := .agg #[.int .i64 a, .string b, slV c, slV d]
abbrev tL(a : Int)(b : Bt)(c d : Sl): List Value := [.int .i64 a, .string b, slV c, slV d]
abbrev tC: Array Value := #[.int .i64 0, .string ⟨#[]⟩, .slice Te 0 0, .slice Te 0 0]
abbrev tZ: Value := .agg tC
def DenA(γ:Gh):AA->Value->Prop
 |.v x,u=>u=x
 |.d t x,u=>Rd γ.M t x [u]
 |.box c o,u=>u=.pointer (Td ⟨γ.β c,o,Te⟩)
 |.own c,u=>u=slV (γ.σ c)
 |.oelt c z i o,u=>∃g,(γ.σ c).a=Td ⟨g,0,Te⟩/\u=.pointer (Td ⟨g,i*z+o,Te⟩)
 |.elt t x o,u=>∃b f cs,u=.pointer (Td ⟨b,f+o,Te⟩)/\γ.M b=Td cs/\Rd γ.M t x (cut cs f (sz t))
 |.dc t xs,u=>∃s:Sl,u=slV s/\s.cap=s.len/\Rd γ.M (.row t) xs [u]
def DenG(γ:Gh):AG->Value->Prop
 |.a x,u=>DenA γ x u
 |.agg l,u=>∃us,u=.agg us.toArray/\All2 (DenA γ) l us
def DenV(γ:Gh):AV->Value->Prop
 |.g x,u=>DenG γ x u
 |.tup l,u=>∃us,u=.tuple us.toArray/\All2 (DenG γ) l us
 |.nx b p c,u=>(b=Ta->u=.tuple #[.bool Ta,.int .i64 p,.int .i32 c])/\(b=Tc->u=.tuple #[.bool Tc])
theorem All2.length{α β:Type}{R:α->β->Prop}:∀{l:List α} {m:List β},All2 R l m->l.length=m.length
 |[],[],_=>rfl
 |[],_::_,h=>h.elim
 |_::_,[],h=>h.elim
 |_::_,_::_,h=>by simp[All2.length h.2]
theorem All2.imp{α β:Type}{R b:α->β->Prop}:∀{l:List α} {m:List β},All2 R l m->(∀x∈l,∀y,R x y->b x y)->All2 b l m
 |[],[],_,_=>trivial
 |[],_::_,h,_=>h.elim
 |_::_,[],h,_=>h.elim
 |_::_,_::_,h,k=>⟨k _ Am _ h.1,All2.imp h.2 λx e y c=>k x (Ae _ e) y c⟩
theorem All2.append{α β:Type}{R:α->β->Prop}:∀{l b:List α} {m m':List β},All2 R l m->All2 R b m'->All2 R (l++b) (m++m')
 |[],_,[],_,_,h=>h
 |[],_,_::_,_,h,_=>h.elim
 |_::_,_,[],_,h,_=>h.elim
 |_::_,_,_::_,_,h,k=>⟨h.1,All2.append h.2 k⟩
theorem All2.take{α β:Type}{R:α->β->Prop}:∀(n:Nat) {l:List α} {m:List β},All2 R l m->All2 R (l.take n) (m.take n)
 |0,_,_,_=>by simp[All2]
 |_+1,[],[],_=>trivial
 |_+1,[],_::_,h=>h.elim
 |_+1,_::_,[],h=>h.elim
 |n+1,_::_,_::_,h=>⟨h.1,All2.take n h.2⟩
theorem All2.drop{α β:Type}{R:α->β->Prop}:∀(n:Nat) {l:List α} {m:List β},All2 R l m->All2 R (l.drop n) (m.drop n)
 |0,_,_,h=>by simpa using h
 |_+1,[],[],_=>trivial
 |_+1,[],_::_,h=>h.elim
 |_+1,_::_,[],h=>h.elim
 |n+1,_::_,_::_,h=>by simpa using All2.drop n h.2
theorem All2.get{α β:Type}{R:α->β->Prop}:∀{l:List α} {m:List β} {i:Nat} {x:α},All2 R l m->l[i]?=Td x->∃y,m[i]?=Td y/\R x y
 |[],[],_,_,_,h=>by simp at h
 |[],_::_,_,_,h,_=>h.elim
 |_::_,[],_,_,h,_=>h.elim
 |_::_,y::_,0,_,h,e=>by simp at e;subst e;exact⟨y,rfl,h.1⟩
 |_::_,_::_,i+1,_,h,e=>by simpa using All2.get h.2 (by simpa using e)
def Jg:(t:Ty)->El t->List AA
 |.int k,i=>[.v (.int k i)]
 |.bool,b=>[.v (.bool b)]
 |.str,s=>[.v (.string s)]
 |.row t,xs=>[.d (.row t) xs]
 |.tree,t=>[.v (.int .i64 t.kind),.v (.string t.text),.d (.row .str) t.keys,.d (.row .tree) t.items]
 |.unit,_=>[]
 |.pair a b,x=>Jg a x.1++Jg b x.2
 |.ptr t,x=>[.elt t x 0]
 |.iter,x=>[.d .iter x]
 |.err,x=>[.d .err x]
theorem xm{γ:Gh}:∀{t:Ty} {x:El t} {cs:List Value},Rd γ.M t x cs->All2 (DenA γ) (Jg t x) cs
 |.int _,_,_,h=>by rw[h];exact⟨rfl,trivial⟩
 |.bool,_,_,h=>by rw[h];exact⟨rfl,trivial⟩
 |.str,_,_,h=>by rw[h];exact⟨rfl,trivial⟩
 |.row t,_,_,⟨v,e,h⟩=>by rw[e];exact⟨⟨v,rfl,h⟩,trivial⟩
 |.tree,_,_,h=>by obtain⟨i,f,e,h1,c⟩:=TrRd.keys h;rw[e];exact⟨rfl,rfl,h1,c,trivial⟩
 |.unit,_,_,h=>by rw[h];trivial
 |.pair _ _,_,_,⟨c1,c2,e,h1,c⟩=>by rw[e];exact(xm h1).append (xm c)
 |.ptr t,x,_,⟨b,o,cc,e,h1,c⟩=>by rw[e];exact⟨⟨b,o,cc,rfl,h1,c⟩,trivial⟩
 |.iter,x,_,h=>by rw[h];exact⟨rfl,trivial⟩
 |.err,x,_,⟨v,e,h⟩=>by rw[e];exact⟨⟨v,rfl,h⟩,trivial⟩
def zu3:Ty->Bool
 |.iter=>Ta
 |.err=>Ta
 |.pair a b=>bif zu3 a then Ta else zu3 b
 |_=>Tc
theorem Rd.noIt{M:Fr}:∀{t:Ty} {x:El t} {cs:List Value},zu3 t=Tc->Rd M t x cs->∀s p,Zq s p∉cs
 |.int _,_,_,_,h,s,p=>by rw[h];simp[Zq]
 |.bool,_,_,_,h,s,p=>by rw[h];simp[Zq]
 |.str,_,_,_,h,s,p=>by rw[h];simp[Zq]
 |.row t,_,_,_,⟨v,e,a,c,e2,_⟩,s,p=>by rw[e,e2];simp[Zq]
 |.tree,_,_,_,h,s,p=>by
  cases h with
  |mk i _ _ _=>obtain⟨a,c,e,_⟩:=i;rw[e];simp[Zq]
 |.unit,_,_,_,h,s,p=>by rw[h];simp
 |.pair a b,_,_,hi,⟨c1,c2,e,h1,h2⟩,s,p=>by
  simp only[zu3]at hi;cases ha:zu3 a with
  |true=>rw[ha]at hi;cases hi
  |false=>rw[ha]at hi;rw[e];intro f;rcases Aw.1 f with f|f;exact Rd.noIt ha h1 s p f;exact Rd.noIt hi h2 s p f
 |.ptr _,_,_,_,⟨b,o,cc,e,_⟩,s,p=>by rw[e];simp[Zq]
 |.iter,_,_,hi,_,_,_=>by cases hi
 |.err,_,_,hi,_,_,_=>by cases hi
def itB:List AA->Bool
 |[.d t _]=>zu3 t
 |[.v (.iface _ _)]=>Ta
 |_=>Tc
theorem zxa{γ:Gh}{l:List AA}{us:List Value}(h:itB l=Tc)(k:All2 (DenA γ) l us)(s:Bt)(p:Nat):us≠[Zq s p]:=by
 intro e;subst e
 match l,k with
 |[x],k=>
  cases x with
  |v y=>rw[<-show Zq s p=y from k.1]at h;simp[itB,Zq]at h
  |d t y=>exact Rd.noIt (show zu3 t=Tc from h) (show Rd γ.M t y [Zq s p]from k.1) s p (by simp)
  |box c o=>have:Zq s p=_:=k.1;simp[Zq]at this
  |own c=>have:Zq s p=_:=k.1;simp[Zq,slV]at this
  |oelt c z i o=>obtain⟨g,_,e⟩:=k.1;simp[Zq]at e
  |elt t y o=>obtain⟨b,f,cs,e,_⟩:=k.1;simp[Zq]at e
  |dc t xs=>obtain⟨m,e,_⟩:=k.1;simp[Zq,slV]at e
 |[],k=>exact k.elim
 |_::_::_,k=>exact k.2.elim
inductive Ch where
 |box (l:List AA)
 |row (e:TypeId) (t:Ty) (xs:List (El t))
 |fz (t:Ty) (xs:List (El t))
abbrev CS:=List (Nat×Ch)
def Qz:CS->Nat->Option Ch
 |[],_=>Te
 |(j,k)::l,i=>bif Nat.beq i j then Td k else Qz l i
theorem qa{l:CS}{i:Nat}{k:Ch}(h:Qz l i=Td k):(i,k)∈l:=by
 induction l with
 |nil=>cases h
 |cons x l c=>obtain⟨j,e⟩:=x;simp only[Qz]at h;by_cases b:Nat.beq i j=Ta;simp only[b,cond_true,Ac]at h;subst h;rw[Al b];exact Am;simp only[b,cond_false]at h;exact Ae _ (c h)
def Z6(t t':Ty)(x:El t):Option (El t'):=if h:t=t' then Td (h ▸ x)else Te
theorem Wg{M:Fr}{t t':Ty}{x:El t}{y:El t'}(h:Z6 t t' x=Td y)(r:Rd M t x cs):Rd M t' y cs:=by unfold Z6 at h;split at h;rename_i e;subst e;simp only[Ac]at h;subst h;exact r;cases h
def zlm(cs:CS):(t:Ty)->AA->Option (El t)
 |.int k,.v (.int k' i)=>if k=k' then Td i else Te
 |.bool,.v (.bool b)=>Td b
 |.str,.v (.string s)=>Td s
 |.row t,.v (.slice Te 0 0)=>Td ([]:List (El t))
 |.row t,.d t' x=>Z6 t' (.row t) x
 |.row t,.dc t' x=>Z6 (.row t') (.row t) x
 |.row t,.own c=>match Qz cs c with
  |some (.fz t' xs)=>Z6 (.row t') (.row t) xs
  |_=>Te
 |.ptr t,.elt t' x 0=>Z6 t' t x
 |.ptr t,.d t' x=>Z6 t' (.ptr t) x
 |.iter,.d t' x=>Z6 t' .iter x
 |.err,.d t' x=>Z6 t' .err x
 |.err,.v .nilIface=>Td Ta
 |.err,.v (.iface _ _)=>Td Tc
 |_,_=>Te
def collect(cs:CS):(t:Ty)->List AA->Option (El t×List AA)
 |.unit,l=>Td ((),l)
 |.pair a b,l=>match collect cs a l with
  |some (x,l')=>match collect cs b l' with
   |some (y,l'')=>Td ((x,y),l'')
   |none=>Te
  |none=>Te
 |.tree,k::s::ks::xs::l=>match zlm cs (.int .i64) k,zlm cs .str s,zlm cs (.row .str) ks,zlm cs (.row .tree) xs with
  |some k,Td s,Td ks,some xs=>Td (Tr.mk k s ks xs,l)
  |_,_,_,_=>Te
 |.tree,_=>Te
 |t,x::l=>match zlm cs t x with
  |some y=>Td (y,l)
  |none=>Te
 |_,[]=>Te
def qag(γ:Gh)(cs:CS):Prop:=∀c t xs,(c,Ch.fz t xs)∈cs->Rd γ.M (.row t) xs [slV (γ.σ c)]
theorem j7{γ:Gh}{cs:CS}(l:qag γ cs){t:Ty}{x:AA}{y:El t}(h:zlm cs t x=Td y){u:Value}(c:DenA γ x u):Rd γ.M t y [u]:=by unfold zlm at h;split at h;split at h;rename_i k;simp only[Ac]at h;subst h;subst k;exact congrArg (λu=>[u]) c;cases h;simp only[Ac]at h;subst h;exact congrArg (λu=>[u]) c;simp only[Ac]at h;subst h;exact congrArg (λu=>[u]) c;simp only[Ac]at h;subst h;exact⟨u,rfl,Te,0,c,by simp,.inl rfl⟩;exact Wg h c;obtain⟨s,_,_,c⟩:=c;exact Wg h c;split at h;rename_i t' xs i;rw[show u=_ from c];exact Wg h (l _ _ _ (qa i));cases h;rename_i t t' x;obtain⟨b,f,cs',e,h1,m⟩:=c;exact⟨b,f,cs',by rw[e];rfl,h1,by unfold Z6 at h;split at h;rename_i e;subst e;simp only[Ac]at h;subst h;exact m;cases h⟩;exact Wg h c;exact Wg h c;exact Wg h c;simp only[Ac]at h;subst h;exact⟨u,rfl,.inl ⟨rfl,c⟩⟩;rename_i t' n;simp only[Ac]at h;subst h;exact⟨u,rfl,.inr ⟨rfl,_,_,c⟩⟩;cases h
theorem Jh{γ:Gh}{cs:CS}(c:qag γ cs):∀{t:Ty} {l f:List AA} {y:El t},collect cs t l=Td (y,f)->∀{us:List Value},All2 (DenA γ) l us->∃c1 c2,us=c1++c2/\Rd γ.M t y c1/\All2 (DenA γ) f c2
 |.unit,l,f,y,h,us,hu=>by simp only[collect,Ac,Bi]at h;obtain⟨_,rfl⟩:=h;exact⟨[],us,rfl,rfl,hu⟩
 |.pair a b,l,f,y,h,us,hu=>by simp only[collect]at h;split at h;rename_i x L h1;split at h;rename_i z N o;simp only[Ac,Bi]at h;obtain⟨rfl,rfl⟩:=h;obtain⟨c1,c2,rfl,p,n⟩:=Jh c h1 hu;obtain⟨c3,B,rfl,m,i⟩:=Jh c o n;exact⟨c1++c3,B,by simp,⟨c1,c3,rfl,p,m⟩,i⟩;cases h;cases h
 |.tree,l,f,y,h,us,hu=>by
  match l,us,hu,h with
  |k::s::ks::xs::l,u1::u2::u3::u4::us,hu,h=>simp only[collect]at h;split at h;rename_i r E q F h1 o J G;simp only[Ac,Bi]at h;obtain⟨rfl,rfl⟩:=h;obtain⟨w,d2,H,A,C⟩:=hu;have p:=j7 c h1 w;have n:=j7 c o d2;have m:=j7 c J H;have i:=j7 c G A;refine⟨[u1,u2,u3,u4],us,rfl,?_,C⟩;have I:[u1]=[Bn .i64 r]:=p;have D:[u2]=[A3 E]:=n;cases I;cases D;exact TrRd.of m i;cases h
  |[],_,_,h=>simp[collect]at h
  |[_],_,_,h=>simp[collect]at h
  |[_,_],_,_,h=>simp[collect]at h
  |[_,_,_],_,_,h=>simp[collect]at h
  |_::_::_::_::_,[],hu,_=>exact hu.elim
  |_::_::_::_::_,[_],hu,_=>exact hu.2.elim
  |_::_::_::_::_,[_,_],hu,_=>exact hu.2.2.elim
  |_::_::_::_::_,[_,_,_],hu,_=>exact hu.2.2.2.elim
 |.int k,x::l,f,y,h,u::us,hu=>by simp only[collect]at h;split at h;rename_i z e;simp only[Ac,Bi]at h;obtain⟨rfl,rfl⟩:=h;exact⟨[u],us,rfl,j7 c e hu.1,hu.2⟩;cases h
 |.bool,x::l,f,y,h,u::us,hu=>by simp only[collect]at h;split at h;rename_i z e;simp only[Ac,Bi]at h;obtain⟨rfl,rfl⟩:=h;exact⟨[u],us,rfl,j7 c e hu.1,hu.2⟩;cases h
 |.str,x::l,f,y,h,u::us,hu=>by simp only[collect]at h;split at h;rename_i z e;simp only[Ac,Bi]at h;obtain⟨rfl,rfl⟩:=h;exact⟨[u],us,rfl,j7 c e hu.1,hu.2⟩;cases h
 |.row _,x::l,f,y,h,u::us,hu=>by simp only[collect]at h;split at h;rename_i z e;simp only[Ac,Bi]at h;obtain⟨rfl,rfl⟩:=h;exact⟨[u],us,rfl,j7 c e hu.1,hu.2⟩;cases h
 |.ptr _,x::l,f,y,h,u::us,hu=>by simp only[collect]at h;split at h;rename_i z e;simp only[Ac,Bi]at h;obtain⟨rfl,rfl⟩:=h;exact⟨[u],us,rfl,j7 c e hu.1,hu.2⟩;cases h
 |.iter,x::l,f,y,h,u::us,hu=>by simp only[collect]at h;split at h;rename_i z e;simp only[Ac,Bi]at h;obtain⟨rfl,rfl⟩:=h;exact⟨[u],us,rfl,j7 c e hu.1,hu.2⟩;cases h
 |.iter,_::_,_,_,_,[],hu=>hu.elim
 |.iter,[],_,_,h,_,_=>by simp[collect]at h
 |.err,x::l,f,y,h,u::us,hu=>by simp only[collect]at h;split at h;rename_i z e;simp only[Ac,Bi]at h;obtain⟨rfl,rfl⟩:=h;exact⟨[u],us,rfl,j7 c e hu.1,hu.2⟩;cases h
 |.err,_::_,_,_,_,[],hu=>hu.elim
 |.err,[],_,_,h,_,_=>by simp[collect]at h
 |.int _,_::_,_,_,_,[],hu=>hu.elim
 |.bool,_::_,_,_,_,[],hu=>hu.elim
 |.str,_::_,_,_,_,[],hu=>hu.elim
 |.row _,_::_,_,_,_,[],hu=>hu.elim
 |.ptr _,_::_,_,_,_,[],hu=>hu.elim
 |.int _,[],_,_,h,_,_=>by simp[collect]at h
 |.bool,[],_,_,h,_,_=>by simp[collect]at h
 |.str,[],_,_,h,_,_=>by simp[collect]at h
 |.row _,[],_,_,h,_,_=>by simp[collect]at h
 |.ptr _,[],_,_,h,_,_=>by simp[collect]at h
end Go.X
end
section
namespace Go.X
section
variable {M M':Fr} {h h':zb} {b c o n0:Nat} {γ γ':Gh} {us:List Value} {u:Value} {t:Ty} {cs C R:CS} {e:TypeId}
def AgM(M:Fr)(h:zb):Prop:=∀b c,M b=Td c->∃T m,h[b]?=Td (.cells c T m)
theorem AgM.lt(H:AgM M h){c:Array Value}(e:M b=Td c):b<h.size:=by obtain⟨T,m,e'⟩:=H b c e;exact(An.1 e').1
theorem AgM.none{M:Fr}{h:zb}(H:AgM M h){b:Nat}(f:h.size<=b):M b=Te:=by
 cases e:M b with
 |none=>rfl
 |some c=>have:=H.lt e;omega
theorem AgM.cell(H:AgM M h){c:Array Value}{v:Value}(e:M b=Td c)(f:c[o]?=Td v):zc h ⟨b,o,Option.none⟩=Td v:=by obtain⟨T,m,e'⟩:=H b c e;unfold zc;simp[e',f]
def Gx(c:Option Nat)(γ γ':Gh):Prop:=Fr.le γ.M γ'.M/\∀i,c≠Td i->γ'.β i=γ.β i/\γ'.σ i=γ.σ i
theorem Gx.refl(c:Option Nat)(γ:Gh):Gx c γ γ:=⟨Fr.le.refl _,λ_ _=>⟨rfl,rfl⟩⟩
def zzz(c:Nat):AA->Bool
 |.box j _=>Nat.beq j c
 |.own j=>Nat.beq j c
 |.oelt j _ _ _=>Nat.beq j c
 |_=>Tc
def zqy(c:Nat):List AA->Bool
 |[]=>Tc
 |x::l=>bif zzz c x then Ta else zqy c l
def zfh(c:Nat):Ch->Bool
 |.box l=>zqy c l
 |_=>Tc
def qh2(c:Nat):AG->Bool
 |.a x=>zzz c x
 |.agg l=>zqy c l
def qat(c:Nat):List AG->Bool
 |[]=>Tc
 |x::l=>bif qh2 c x then Ta else qat c l
def z2x(c:Nat):AV->Bool
 |.g x=>qh2 c x
 |.tup l=>qat c l
 |.nx _ _ _=>Tc
def z2y{α:Type}(f:Nat->α->Bool):Option Nat->α->Bool
 |none,_=>Tc
 |some c,x=>f c x
theorem zre{j c:Nat}(h:Nat.beq j c=Tc):Td c≠Td j:=by intro e;simp only[Ac]at e;subst e;simp at h
theorem DenA.gx{c:Option Nat}(g:Gx c γ γ'):∀{x:AA} {u:Value},z2y zzz c x=Tc->DenA γ x u->DenA γ' x u
 |.v _,_,_,h=>h
 |.d _ _,_,_,h=>Rd.mono g.1 h
 |.box j o,u,hm,h=>by
  have:c≠Td j:=by cases c with|none=>simp|some c=>exact zre hm
  rw[show u=_ from h];simp only[DenA,(g.2 j this).1]
 |.own j,u,hm,h=>by
  have:c≠Td j:=by cases c with|none=>simp|some c=>exact zre hm
  rw[show u=_ from h];simp only[DenA,(g.2 j this).2]
 |.oelt j z i o,u,hm,h=>by
  have:c≠Td j:=by cases c with|none=>simp|some c=>exact zre hm
  obtain⟨b,l,k⟩:=h;exact⟨b,by rw[(g.2 j this).2];exact l,k⟩
 |.elt _ _ _,_,_,⟨b,f,cs,e,h1,h2⟩=>⟨b,f,cs,e,g.1 _ _ h1,Rd.mono g.1 h2⟩
 |.dc _ _,_,_,⟨s,l,k,h⟩=>⟨s,l,k,Rd.mono g.1 h⟩
theorem qau{l:List AA}(h:zqy c l=Tc):∀x∈l,zzz c x=Tc:=by
 induction l with
 |nil=>intro x b;cases b
 |cons y l e=>
  intro x b;simp only[zqy]at h;cases hy:zzz c y with
  |true=>simp[hy]at h
  |false=>simp only[hy,cond_false]at h;rcases Ai.1 b with rfl|b;exact hy;exact e h x b
theorem DenL.gx{c:Option Nat}(g:Gx c γ γ'){l:List AA}(e:z2y zqy c l=Tc)(h:All2 (DenA γ) l us):All2 (DenA γ') l us:= h.imp λx f u b=>DenA.gx g (by cases c with|none=>rfl|some c=>exact qau e x f) b
theorem DenG.gx{c:Option Nat}(g:Gx c γ γ'){x:AG}(b:z2y qh2 c x=Tc)(h:DenG γ x u):DenG γ' x u:=by
 cases x with
 |a x=>exact DenA.gx g (by cases c <;> exact b) h
 |agg l=>obtain⟨us,e,h⟩:=h;exact⟨us,e,DenL.gx g (by cases c <;> exact b) h⟩
theorem z2z{l:List AG}(h:qat c l=Tc):∀x∈l,qh2 c x=Tc:=by
 induction l with
 |nil=>intro x b;cases b
 |cons y l e=>
  intro x b;simp only[qat]at h;cases hy:qh2 c y with
  |true=>simp[hy]at h
  |false=>simp only[hy,cond_false]at h;rcases Ai.1 b with rfl|b;exact hy;exact e h x b
theorem DenV.gx{c:Option Nat}(g:Gx c γ γ'){x:AV}(f:z2y z2x c x=Tc)(h:DenV γ x u):DenV γ' x u:=by
 cases x with
 |g x=>exact DenG.gx g (by cases c <;> exact f) h
 |tup l=>obtain⟨us,e,h⟩:=h;exact⟨us,e,h.imp λx i u k=>DenG.gx g (by cases c with|none=>rfl|some c=>exact z2z f x i) k⟩
 |nx b p c=>exact h
def RowC(M:Fr)(t:Ty)(xs:List (El t))(cells:List Value):Prop:=
 cells.length=xs.length*sz t/\∀i (h:i<xs.length),Rd M t xs[i] ((cells.drop (i*sz t)).take (sz t))
theorem RowC.mono(b:Fr.le M M'){xs:List (El t)}{cells:List Value}(H:RowC M t xs cells):RowC M' t xs cells:=⟨H.1,λi h=>Rd.mono b (H.2 i h)⟩
theorem RowC.nil(M:Fr)(t:Ty):RowC M t [] []:=⟨by simp,λi h=>absurd h (by simp)⟩
theorem RowC.single{x:El t}{cs:List Value}(h:Rd M t x cs):RowC M t [x] cs:=by
 have b:=h.len;refine⟨by simp[b],λi hi=>?_⟩;have:i=0:=by simpa using hi
 subst this;simp only[DD,BQ,List.getElem_cons_zero,<-b,A5];exact h
theorem RowC.append{xs ys:List (El t)}{c1 c2:List Value}(h1:RowC M t xs c1)(k:RowC M t ys c2):RowC M t (xs++ys) (c1++c2):=by
 refine⟨by rw[Ah,Ah,h1.1,k.1,BZ],λi hi=>?_⟩;by_cases b:i<xs.length;rw[BL b];have f:(i+1)*sz t<=c1.length:=by rw[h1.1];exact AQ _ b
 rw[BZ,Dn]at f;rw[List.drop_append_of_le_length (by omega),CH (by rw[AI];omega)];exact h1.2 i b;have c:xs.length<=i:=by omega
 rw[BW c];have h:i-xs.length<ys.length:=by rw[Ah]at hi;omega
 have:=k.2 (i-xs.length) h;have e:(c1++c2).drop (i*sz t)=c2.drop ((i-xs.length)*sz t):=by
  rw[List.drop_append];have:c1.length<=i*sz t:=by rw[h1.1];exact AQ _ c
  rw[Br this,A8,h1.1,<-Nat.sub_mul]
 rw[e];exact this
theorem RowC.one{xs:List (El t)}{cells:List Value}(H:RowC M t xs cells):∀v∈cells,v.oneCell'=Ta:=by
 intro v c;obtain⟨j,b,rfl⟩:=List.getElem_of_mem c;have e:0<sz t:=by rcases CX (sz t)with h|h;rw[H.1,h,Nat.mul_zero]at b;omega;exact h
 have hi:j / sz t<xs.length:=by rw[H.1]at b;exact Nat.div_lt_of_lt_mul (by rw[C4];exact b)
 refine Rd.one (H.2 _ hi) _ ?_;rw[List.mem_iff_getElem?];refine⟨j % sz t,?_⟩;rw[AK,if_pos (Nat.mod_lt _ e),A9,C4,Nat.div_add_mod,Ak b]
theorem RowC.rd{xs:List (El t)}{cells:List Value}(H:RowC M t xs cells){cs:Array Value}(k:M b=Td cs)(h:(cs.toList.drop o).take (xs.length*sz t)=cells)(l:xs.length<=140737488355328/\xs.length<=c):
  Rd M (.row t) xs [.slice (Td ⟨b,o,Te⟩) xs.length c]:=by
 refine⟨_,rfl,_,_,rfl,l,.inr ⟨b,o,cs,rfl,k,λi hi=>?_⟩⟩;have:=H.2 i hi;rw[<-h]at this;have f:(i+1)*sz t<=xs.length*sz t:=AQ _ hi;rw[BZ,Dn]at f;have e:(((cs.toList.drop o).take (xs.length*sz t)).drop (i*sz t)).take (sz t)=cut cs (o+i*sz t) (sz t):=by unfold cut;rw[List.drop_take,DF,BM,Cj (by omega)]
 rw[e]at this;exact this
theorem Rd.rowC(ag:AgM M h){xs:List (El t)}(H:Rd M (.row t) xs [u]):∃s:Sl,u=slV s/\s.len=xs.length/\(xs.length<=140737488355328/\xs.length<=s.cap)/\∃cells,RowC M t xs cells/\Arr h.size h s.a cells:=by
 obtain⟨v,e,a,c,rfl,q,H⟩:=H;cases e;refine⟨⟨a,xs.length,c⟩,rfl,rfl,q,?_⟩;rcases H with rfl|⟨b,o,cs,rfl,p,hi⟩;exact⟨[],RowC.nil _ _,.inl rfl⟩;have f:xs=[]\/xs.length*sz t<=(cs.toList.drop o).length:=by
  rcases CX xs.length with h0|h0;exact .inl (AO h0);right;have:=(hi (xs.length-1) (by omega)).len;unfold cut at this;rw[AN,AI]at this;rw[AI];rcases CX (sz t)with n|n;rw[n];simp;have e:xs.length*sz t=(xs.length-1)*sz t+sz t:=by rw[<-CN];congr 1;omega
  rw[e];omega
 rcases f with rfl|f;exact⟨[],RowC.nil _ _,.inl rfl⟩;refine⟨(cs.toList.drop o).take (xs.length*sz t),⟨by rw[AN];omega,λi k=>?_⟩,.inr ⟨b,o,rfl,ag.lt p,λi v l=>?_⟩⟩;have:=hi i k;have m:(i+1)*sz t<=xs.length*sz t:=AQ _ k;rw[BZ,Dn]at m;unfold cut at this;rw[List.drop_take,DF,BM,Cj (by omega)];exact this;refine ag.cell p ?_;rw[AK]at l;split at l;rw[A9]at l;simpa using l;cases l
def qeo(o:Option Obj)(us:List Value):Prop:=((∃T,o=Td (.cells us.toArray T (0,0)))/\∀s p,us≠[Zq s p])\/(∃s p,us=[Zq s p]/\o=Td (.stringIter s p))
def DenC(n0:Nat)(γ:Gh)(h:zb)(c:Nat):Ch->Prop
 |.box l=>∃us,qeo h[γ.β c]? us/\All2 (DenA γ) l us
 |.row e t xs=>∃cells,Owns h n0 e (sz t) (γ.σ c) cells/\RowC γ.M t xs cells/\xs.length<=140737488355328/\(γ.σ c).len=xs.length
 |.fz t xs=>Rd γ.M (.row t) xs [slV (γ.σ c)]
def blk(γ:Gh)(c:Nat):Ch->Option Nat
 |.box _=>Td (γ.β c)
 |.row _ _ _=>(γ.σ c).a.map (·.block)
 |.fz _ _=>Te
structure Inv (h0:zb) (W:Nat->Prop) (M0:Fr) (cs:CS) (γ:Gh) (h:zb):Prop where
 ag:AgM γ.M h
 frame:∀i,i<h0.size->¬W i->h[i]?=h0[i]?
 size:h0.size<=h.size
 old:∀b,b<h0.size->γ.M b=M0 b
 le:Fr.le M0 γ.M
 den:∀x∈cs,DenC h0.size γ h x.1 x.2
 sep:∀x∈cs,∀b,blk γ x.1 x.2=Td b->(h0.size<=b\/W b)/\γ.M b=Te
 apart:cs.Pairwise λx y=>∀b,blk γ x.1 x.2=Td b->blk γ y.1 y.2≠Td b
variable {h0 : zb} {W : Nat -> Prop} {M0 : Fr}
theorem DenC.lt{k:Ch}(H:DenC n0 γ h c k):∀b,blk γ c k=Td b->b<h.size:=by
 intro b f;cases k with
 |box l=>obtain⟨us,e,_⟩:=H;simp only[blk,Ac]at f;subst f;rcases e with⟨⟨T,e⟩,_⟩|⟨s,p,_,e⟩;exact(An.1 e).1;exact(An.1 e).1
 |row e t xs=>obtain⟨cells,h1,_⟩:=H;simp only[blk,Ck]at f;obtain⟨p,i,rfl⟩:=f;exact(h1.base_le p i).2
 |fz t xs=>cases f
theorem DenC.gx{c:Option Nat}(g:Gx c γ γ'){j:Nat}{k:Ch}(n:c≠Td j)(s:z2y zfh c k=Tc)(H:DenC n0 γ h j k)(i:∀b,blk γ j k=Td b->h'[b]?=h[b]?):DenC n0 γ' h' j k:=by
 obtain⟨q,f⟩:=g.2 j n;cases k with
 |box l=>obtain⟨us,e,h1⟩:=H;exact⟨us,by rw[q,i _ rfl];exact e,DenL.gx g (by cases c <;> exact s) h1⟩
 |row e t xs=>obtain⟨cells,h1,u,r,o⟩:=H;refine⟨cells,?_,u.mono g.1,r,by rw[f];exact o⟩;rw[f];exact h1.keep λp m=>i _ (by simp[blk,m])
 |fz t xs=>simp only[DenC,f];exact Rd.mono g.1 H
theorem zmm{c:Option Nat}(g:Gx c γ γ'){j:Nat}(k:Ch)(f:c≠Td j):blk γ' j k=blk γ j k:=by obtain⟨e,b⟩:=g.2 j f;cases k <;> simp[blk,e,b]
theorem Inv.rest{cs rest:CS}{γ γ':Gh}{h h':zb}(I:Inv h0 W M0 cs γ h)(hsub:rest.Sublist cs){c:Option Nat}(g:Gx c γ γ') (hmen:∀x∈rest,c≠Td x.1/\z2y zfh c x.2=Tc) (hk:∀x∈rest,∀b,blk γ x.1 x.2=Td b->h'[b]?=h[b]?/\γ'.M b=Te)
  (ag:AgM γ'.M h') (hframe:∀i,i<h0.size->¬W i->h'[i]?=h[i]?) (hsize:h.size<=h'.size) (hold:∀b,b<h0.size->γ'.M b=γ.M b):Inv h0 W M0 rest γ' h' where
 ag:=ag
 frame:=λi hi hw=>(hframe i hi hw).trans (I.frame i hi hw)
 size:=BX I.size hsize
 old:=λb hb=>(hold b hb).trans (I.old b hb)
 le:=I.le.trans g.1
 den:=λx hx=>(I.den x (hsub.subset hx)).gx g (hmen x hx).1 (hmen x hx).2 λb hb=>(hk x hx b hb).1
 sep:=λx hx b hb=>by rw[zmm g _ (hmen x hx).1]at hb;exact⟨(I.sep x (hsub.subset hx) b hb).1,(hk x hx b hb).2⟩
 apart:=by refine(I.apart.sublist hsub).imp_of_mem λ {x y} hx hy h=>?_;intro b hb;rw[zmm g _ (hmen x hx).1]at hb;rw[zmm g _ (hmen y hy).1];exact h b hb
theorem Inv.cons{rest:CS}(I:Inv h0 W M0 rest γ h){k:Ch}(hd:DenC h0.size γ h c k)(hs:∀b,blk γ c k=Td b->(h0.size<=b\/W b)/\γ.M b=Te)
  (ha:∀b,blk γ c k=Td b->∀x∈rest,blk γ x.1 x.2≠Td b):Inv h0 W M0 ((c,k)::rest) γ h where
 ag:=I.ag
 frame:=I.frame
 size:=I.size
 old:=I.old
 le:=I.le
 den:=λx hx=>by rcases Ai.1 hx with rfl|hx;exact hd;exact I.den x hx
 sep:=λx hx=>by rcases Ai.1 hx with rfl|hx;exact hs;exact I.sep x hx
 apart:=Be.2 ⟨λy hy b hb=>ha b hb y hy,I.apart⟩
theorem Inv.sub{cs rest:CS}(I:Inv h0 W M0 cs γ h)(hsub:rest.Sublist cs):Inv h0 W M0 rest γ h where
 ag:=I.ag
 frame:=I.frame
 size:=I.size
 old:=I.old
 le:=I.le
 den:=λx hx=>I.den x (hsub.subset hx)
 sep:=λx hx=>I.sep x (hsub.subset hx)
 apart:=I.apart.sublist hsub
theorem Inv.fz(I:Inv h0 W M0 cs γ h):qag γ cs:=λc t xs b=>I.den _ b
theorem Inv.call(I:Inv h0 W M0 cs γ h)(k:Keep h.size h h')(n:Fr.le γ.M M')(e:∀b,b<h.size->M' b=γ.M b)(ag:AgM M' h'):Inv h0 W M0 cs { γ with M:=M' } h':= I.rest (List.Sublist.refl _) (c:=Te) ⟨n,λ_ _=>⟨rfl,rfl⟩⟩ (λx _=>⟨by simp,rfl⟩) (λx m b l=>by have f:=(I.den x m).lt b l;exact⟨k.get b f,(e b f).trans (I.sep x m b l).2⟩) ag (λi hi _=>k.get i (CV hi I.size)) k.size (λb l=>e b (CV l I.size))
def qk(c:Nat):CS->CS
 |[]=>[]
 |(j,k)::l=>bif (bif Nat.beq j c then Ta else zfh c k)then qk c l else(j,k)::qk c l
def qh(c:Nat):CS->Bool
 |[]=>Ta
 |(j,k)::l=>bif (bif Nat.beq j c then Ta else zfh c k)then Tc else qh c l
def Wh(c:Nat):CS->CS
 |[]=>[]
 |(j,k)::l=>bif Nat.beq j c then Wh c l else(j,k)::Wh c l
theorem wl(c:Nat):∀l:CS,(qk c l).Sublist l
 |[]=>.slnil
 |(j,k)::l=>by
  simp only[qk];cases(bif Nat.beq j c then Ta else zfh c k)with
  |true=>exact(wl c l).cons _
  |false=>exact(wl c l).cons_cons _
theorem xb(c:Nat):∀l:CS,(Wh c l).Sublist l
 |[]=>.slnil
 |(j,k)::l=>by
  simp only[Wh];cases Nat.beq j c with
  |true=>exact(xb c l).cons _
  |false=>exact(xb c l).cons_cons _
theorem zfi{c:Nat}:∀{l:CS} {x:Nat×Ch},x∈qk c l->Td c≠Td x.1/\zfh c x.2=Tc
 |(j,k)::l,x,h=>by
  simp only[qk]at h;cases hb:(bif Nat.beq j c then Ta else zfh c k)with
  |true=>rw[hb]at h;exact zfi h
  |false=>
   rw[hb]at h;rcases Ai.1 h with rfl|h;cases hj:Nat.beq j c with
   |true=>simp[hj]at hb
   |false=>simp only[hj,cond_false]at hb;exact⟨zre hj,hb⟩
   exact zfi h
theorem Q0{c:Nat}:∀{l:CS},qh c l=Ta->∀x∈l,Td c≠Td x.1/\zfh c x.2=Tc
 |[],_,x,h=>by cases h
 |(j,k)::l,hn,x,h=>by
  simp only[qh]at hn;cases hb:(bif Nat.beq j c then Ta else zfh c k)with
  |true=>rw[hb]at hn;cases hn
  |false=>
   rw[hb]at hn;rcases Ai.1 h with rfl|h;cases hj:Nat.beq j c with
   |true=>simp[hj]at hb
   |false=>simp only[hj,cond_false]at hb;exact⟨zre hj,hb⟩
   exact Q0 hn x h
theorem Ys{c:Nat}:∀{l:CS} {x:Nat×Ch},x∈Wh c l->x∈l/\x.1≠c
 |(j,k)::l,x,h=>by
  simp only[Wh]at h;cases hb:Nat.beq j c with
  |true=>rw[hb]at h;exact⟨Ae _ (Ys h).1,(Ys h).2⟩
  |false=>rw[hb]at h;rcases Ai.1 h with rfl|h;refine⟨Am,λe=>?_⟩;simp only at e;subst e;simp at hb;exact⟨Ae _ (Ys h).1,(Ys h).2⟩
def z1x(γ:Gh)(c b:Nat):Gh:={ γ with β:=λi=>bif Nat.beq i c then b else γ.β i }
def zu4(γ:Gh)(c:Nat)(s:Sl):Gh:={ γ with σ:=λi=>bif Nat.beq i c then s else γ.σ i }
theorem zaa(γ:Gh)(c b:Nat):Gx (Td c) γ (z1x γ c b):=⟨Fr.le.refl _,λi hi=>by
 have:Nat.beq i c=Tc:=by
  cases h:Nat.beq i c with
  |false=>rfl
  |true=>exact absurd (congrArg Td (Al h).symm) hi
 simp[z1x,this]⟩
theorem Z7(γ:Gh)(c:Nat)(s:Sl):Gx (Td c) γ (zu4 γ c s):=⟨Fr.le.refl _,λi hi=>by
 have:Nat.beq i c=Tc:=by
  cases h:Nat.beq i c with
  |false=>rfl
  |true=>exact absurd (congrArg Td (Al h).symm) hi
 simp[zu4,this]⟩
theorem Zv(γ:Gh)(c b:Nat):(z1x γ c b).β c=b:=by simp[z1x]
theorem qo(γ:Gh)(c:Nat)(s:Sl):(zu4 γ c s).σ c=s:=by simp[zu4]
theorem zca(e:qh c R=Ta):∀x∈qk c C++R,Td c≠Td x.1/\z2y zfh (Td c) x.2=Tc:=by intro x b;rcases Aw.1 b with b|b;exact zfi b;exact Q0 e x b
theorem Inv.newBoxO(I:Inv h0 W M0 (C++R) γ h)(q:qh c R=Ta){l:List AA}(s:All2 (DenA γ) l us)(t:zqy c l=Tc){o:Obj}(p:qeo (Td o) us):
  Inv h0 W M0 ((c,.box l)::qk c C++R) (z1x γ c h.size) (h.push o):=by
 have n:∀x∈qk c C++R,∀b,blk γ x.1 x.2=Td b->b<h.size:=λx k b f=>(I.den x (((wl c C).append_right R).subset k)).lt b f;have w:Inv h0 W M0 (qk c C++R) (z1x γ c h.size) (h.push o):=by refine I.rest ((wl c C).append_right R) (zaa γ c h.size) (zca q) (λx k b f=>?_) (λb u e=>?_) (λi hi _=>?_) (by simp) (λb f=>rfl);have:=n x k b f;exact⟨by rw[BV,if_neg (by omega)],(I.sep x (((wl c C).append_right R).subset k) b f).2⟩;have:=I.ag.lt e;obtain⟨r,m,e'⟩:=I.ag b u e;exact⟨r,m,by rw[BV,if_neg (by omega)];exact e'⟩;have:=I.size;rw[BV,if_neg (by omega)]
 refine w.cons ⟨us,by rw[Zv,yd];exact p,DenL.gx (zaa γ c h.size) t s⟩ (λb f=>?_) (λb f x k e=>?_);simp only[blk,Zv,Ac]at f;subst f;exact⟨.inl I.size,I.ag.none (Ab _)⟩;simp only[blk,Zv,Ac]at f;subst f;rw[zmm (zaa γ c h.size) _ (zca q x k).1]at e;have:=n x k _ e;omega
theorem Inv.newBox(I:Inv h0 W M0 (C++R) γ h)(i:qh c R=Ta){l:List AA}(e:All2 (DenA γ) l us)(f:zqy c l=Tc)(b:itB l=Tc)(T:TypeId):
  Inv h0 W M0 ((c,.box l)::qk c C++R) (z1x γ c h.size) (h.push (.cells us.toArray T)):=
 Inv.newBoxO I i e f (.inl ⟨⟨T,rfl⟩,λs p=>zxa b e s p⟩)
theorem zdt{α:Type}{R:α->α->Prop}(f:∀x y,R x y->R y x):∀{l:List α},l.Pairwise R->∀{x y:α},x∈l->y∈l->x≠y->R x y
 |[],_,_,_,hx,_,_=>by cases hx
 |z::l,h,x,y,hx,hy,hne=>by rw[Be]at h;rcases Ai.1 hx with e|h1;rcases Ai.1 hy with b|c;exact absurd (e.trans b.symm) hne;rw[e];exact h.1 _ c;rcases Ai.1 hy with b|c;rw[b];exact f _ _ (h.1 _ h1);exact zdt f h.2 h1 c hne
theorem Inv.setBox(I:Inv h0 W M0 (C++R) γ h){l u:List AA}(z:(c,Ch.box l)∈C)(e:qeo h'[γ.β c]? us)
  (r:∀i,i≠γ.β c->h'[i]?=h[i]?) (L:h'.size=h.size) (E:All2 (DenA γ) u us) (J:∀x∈R,x.1≠c):Inv h0 W M0 ((c,.box u)::Wh c C++R) γ h':=by
 have k:=I.sep _ (Ar R z) _ rfl;have o:∀x∈Wh c C++R,blk γ x.1 x.2≠Td (γ.β c):=by
  intro x n;have s:x≠(c,Ch.box l):=by rintro rfl;rcases Aw.1 n with n|n;exact(Ys n).2 rfl;exact J _ n rfl
  have q:x∈C++R:=((xb c C).append_right R).subset n;have B:=@zdt _ (λ(x y:Nat×Ch)=>∀b,blk γ x.1 x.2=Td b->blk γ y.1 y.2≠Td b) (λx y h b f t=>h b t f) _ I.apart;intro f;exact B (Ar R z) q (λe=>s e.symm) _ rfl f
 have G:Inv h0 W M0 (Wh c C++R) γ h':=by refine I.rest ((xb c C).append_right R) (c:=Te) (Gx.refl _ _) (λx _=>⟨by simp,rfl⟩) (λx n b f=>?_) (λb H p=>?_) (λi hi w=>?_) (by omega) (λb f=>rfl);exact⟨r b λe'=>o x n (e' ▸ f),(I.sep x (((xb c C).append_right R).subset n) b f).2⟩;obtain⟨D,m,e'⟩:=I.ag b H p;exact⟨D,m,by rw[r b λF=>by rw[F,k.2]at p;cases p];exact e'⟩;refine r i λe'=>?_;have A:=k.1;simp only at A;rcases A with h1|h1;omega;rw[e']at w;exact w h1
 refine G.cons ⟨us,e,E⟩ (λb f=>?_) (λb f x n=>?_);simp only[blk,Ac]at f;subst f;exact k;simp only[blk,Ac]at f;subst f;exact o x n
theorem Inv.newRow(I:Inv h0 W M0 (C++R) γ h)(D:qh c R=Ta)(F:h.size<=h'.size){p:Option Nat}(z:∀i,i<h.size->p≠Td i->h'[i]?=h[i]?) (o:∀b,p=Td b->h0.size<=b/\γ.M b=Te/\∀x∈C++R,blk γ x.1 x.2≠Td b) {s:Sl} {xs:List (El t)} {cells:List Value} (w:Owns h' h0.size e (sz t) s cells) (l:∀q,s.a=Td q->p=Td q.block\/q.block=h.size) (u:RowC γ.M t xs cells) (G:xs.length<=140737488355328) (H:s.len=xs.length):
  Inv h0 W M0 ((c,.row e t xs)::qk c C++R) (zu4 γ c s) h':=by
 have f:=(wl c C).append_right R;have r:∀x∈qk c C++R,∀b,blk γ x.1 x.2=Td b->b<h.size:=λx n b l=>(I.den x (f.subset n)).lt b l;have L:Inv h0 W M0 (qk c C++R) (zu4 γ c s) h':=by refine I.rest f (Z7 γ c s) (zca D) (λx n b l=>?_) (λb B y=>?_) (λi hi N=>?_) F (λb l=>rfl);exact⟨z b (r x n b l) λe'=>(o b e').2.2 x (f.subset n) l,(I.sep x (f.subset n) b l).2⟩;obtain⟨E,m,e'⟩:=I.ag b B y;exact⟨E,m,by rw[z b (I.ag.lt y) λJ=>by have:=(o b J).2.1;rw[show γ.M b=Td B from y]at this;cases this];exact e'⟩;have:=I.size;refine z i (by omega) λe'=>?_;have:=(o i e').1;omega
 refine L.cons ⟨cells,by rw[qo];exact w,u,G,by rw[qo];exact H⟩ (λb k=>?_) (λb k x n e'=>?_);simp only[blk,qo,Ck]at k;obtain⟨q,A,rfl⟩:=k;rcases l q A with h1|h1;exact⟨.inl (o _ h1).1,(o _ h1).2.1⟩;rw[h1];exact⟨.inl I.size,I.ag.none (Ab _)⟩;simp only[blk,qo,Ck]at k;obtain⟨q,A,rfl⟩:=k;rw[zmm (Z7 γ c s) _ (zca D x n).1]at e';rcases l q A with h1|h1;exact(o _ h1).2.2 x (f.subset n) e';rw[h1]at e';have:=r x n _ e';omega
def qep(c:Nat):CS->CS
 |[]=>[]
 |(j,k)::l=>bif Nat.beq j c then(match k with
  |.row _ t xs=>(j,.fz t xs)::qep c l
  |k=>(j,k)::qep c l)else(j,k)::qep c l
def zg3(γ:Gh)(b:Nat)(cs:Array Value):Gh:={ γ with M:=λi=>bif Nat.beq i b then Td cs else γ.M i }
theorem Inv.freeze1{A C:CS}{xs:List (El t)}(I:Inv h0 W M0 (A++(c,.row e t xs)::C) γ h):∃γ',Inv h0 W M0 (A++(c,.fz t xs)::C) γ' h/\Gx Te γ γ':=by
 obtain⟨cells,D,s,Y,U⟩:=I.den (c,.row e t xs) (by simp);have O:=s.1;rcases D.2 with⟨n,h1⟩|⟨g,cap,k,n,m,P,V,S,aa,w⟩;refine⟨γ,?_,Gx.refl _ _⟩;have L:xs=[]:=AO (by omega);have N:DenC h0.size γ h c (.fz t xs):=by subst L;simp only[AP]at n;exact⟨_,rfl,Te,0,by simp[slV,n],⟨by simp,by simp⟩,.inl rfl⟩
 have l:∀x,x∈A++(c,Ch.fz t xs)::C->x∈A++(c,Ch.row e t xs)::C\/x=(c,Ch.fz t xs):=by intro x f;simp only[Aw,Ai]at f ⊢;rcases f with h|h|h;exact .inl (.inl h);exact .inr h;exact .inl (.inr (.inr h))
 refine⟨I.ag,I.frame,I.size,I.old,I.le,λx f=>?_,λx f b i=>?_,?_⟩;rcases l x f with h|rfl;exact I.den x h;exact N;rcases l x f with h|rfl;exact I.sep x h b i;cases i;have:=I.apart;simp only[Cs,Be]at this ⊢;obtain⟨F,⟨a2,E⟩,z⟩:=this;refine⟨F,⟨λy p b i=>(by simp[blk]at i),E⟩,λx f y p b i=>?_⟩;rcases Ai.1 p with rfl|p;simp[blk];exact z x f y (Ae _ p) b i;simp only[AP]at n;have G:γ.M g=Te:=(I.sep (c,.row e t xs) (by simp) g (by simp[blk,n.1])).2;have B:Fr.le γ.M (zg3 γ g k).M:=by
  intro b J q;have:Nat.beq b g=Tc:=by
   cases i:Nat.beq b g with
   |false=>rfl
   |true=>rw[Al i,G]at q;cases q
  simp[zg3,this,q]
 have gx:Gx Te γ (zg3 γ g k):=⟨B,λ_ _=>⟨rfl,rfl⟩⟩;have Q:g<h.size:=(An.1 P).1;have H:∀x,x∈A++C->blk γ x.1 x.2≠Td g:=by intro x f;have:=I.apart;simp only[Cs,Be]at this;obtain⟨F,⟨a2,E⟩,z⟩:=this;rcases Aw.1 f with f|f;intro i;exact z x f (c,.row e t xs) Am g i (by simp[blk,n.1]);exact a2 x f g (by simp[blk,n.1])
 have u:∀b,b≠g->(zg3 γ g k).M b=γ.M b:=by
  intro b i;have:Nat.beq b g=Tc:=by
   cases h:Nat.beq b g with
   |false=>rfl
   |true=>exact absurd (Al h) i
  simp[zg3,this]
 have r:Inv h0 W M0 (A++C) (zg3 γ g k) h:=by
  refine I.rest (by simp) gx (λx _=>⟨by simp,rfl⟩) (λx f b i=>?_) (λb J q=>?_) (λ_ _ _=>rfl) (Ab _) (λb i=>u b (by omega));have m:b≠g:=λe'=>H x f (e' ▸ i);refine⟨rfl,(u b m).trans (I.sep x ?_ b i).2⟩;simp only[Aw,Ai]at f ⊢;rcases f with h|h;exact .inl h;exact .inr (.inr h);by_cases m:b=g;subst m;have:J=k:=by simp[zg3]at q;exact q.symm
  subst this;exact⟨_,_,P⟩;rw[u b m]at q;exact I.ag b J q
 refine⟨zg3 γ g k,?_,gx⟩;have N:DenC h0.size (zg3 γ g k) h c (.fz t xs):=by
  have:=(s.mono B).rd (b:=g) (o:=0) (c:=cap) (cs:=k) (by simp[zg3]) (by rw[BQ,<-U];exact w) ⟨Y,by omega⟩;show Rd _ _ _ [slV (γ.σ c)];have Z:slV (γ.σ c)=.slice (Td ⟨g,0,Te⟩) xs.length cap:=by unfold slV;rw[n.1,U,n.2.2]
  rw[Z];exact this
 have l:∀x,x∈A++(c,Ch.fz t xs)::C->x∈A++C\/x=(c,Ch.fz t xs):=by intro x f;simp only[Aw,Ai]at f ⊢;rcases f with h|h|h;exact .inl (.inl h);exact .inr h;exact .inl (.inr h)
 refine⟨r.ag,r.frame,r.size,r.old,r.le,λx f=>?_,λx f b i=>?_,?_⟩;rcases l x f with h|rfl;exact r.den x h;exact N;rcases l x f with h|rfl;exact r.sep x h b i;cases i;have:=r.apart;simp only[Cs,Be]at this ⊢;obtain⟨F,E,z⟩:=this;refine⟨F,⟨λy p b i=>(by simp[blk]at i),E⟩,λx f y p b i=>?_⟩;rcases Ai.1 p with rfl|p;simp[blk];exact z x f y p b i
theorem Inv.freeze{R:CS}{h:zb}(c:Nat):∀(C A:CS) {γ:Gh},Inv h0 W M0 (A++C++R) γ h->∃γ',Inv h0 W M0 (A++qep c C++R) γ' h/\Gx Te γ γ'
 |[],A,γ,I=>⟨γ,I,Gx.refl _ _⟩
 |(j,k)::l,A,γ,I=>by
  have go:∀(k:Ch) {γ:Gh},Inv h0 W M0 (A++(j,k)::l++R) γ h->∃γ',Inv h0 W M0 (A++(j,k)::qep c l++R) γ' h/\Gx Te γ γ':=by intro k γ I;have:=Inv.freeze c l (A++[(j,k)]) (R:=R) (γ:=γ) (by simpa using I);simpa using this
  simp only[qep];cases Nat.beq j c with
  |true=>
   cases k with
   |row e t xs=>obtain⟨o,n,b⟩:=Inv.freeze1 (A:=A) (C:=l++R) (γ:=γ) (by simpa using I);obtain⟨m,p,f⟩:=go (.fz t xs) (γ:=o) (by simpa using n);exact⟨m,p,b.1.trans f.1,λi hi=>⟨(f.2 i hi).1.trans (b.2 i hi).1,(f.2 i hi).2.trans (b.2 i hi).2⟩⟩
   |box q=>exact go _ I
   |fz t xs=>exact go _ I
  |false=>exact go _ I
end
section
variable {i n:Nat} {c:zx} {v:AV} {γ γ':Gh} {a:Act} {u:Value} {o:Oper} {g:Option Bool} {σ:Operand -> Value}
abbrev qg:=List (Nat×zx×AV)
def zob:qg->Nat->Option (zx×AV)
 |[],_=>Te
 |(j,c,v)::e,i=>bif Nat.beq i j then Td (c,v)else zob e i
def zoc(γ:Gh)(σ:Nat->Value)(x:Nat×zx×AV):Prop:=(valid σ x.2.1->DenV γ x.2.2 (σ x.1))/\(¬valid σ x.2.1->σ x.1=undef)
structure SatA (n:Nat) (e:qg) (γ:Gh) (a:Act):Prop where
 defers:a.defers=[]
 size:a.tmps.size=n
 all:∀x∈e,zoc γ (zz a) x
def qh3:qg->Nat->qg
 |[],_=>[]
 |(j,c,v)::e,i=>bif (bif Nat.beq i j then Ta else mentions c i)then qh3 e i else(j,c,v)::qh3 e i
def qm4(e:qg)(i:Nat)(c:zx)(v:AV):qg:=(i,c,v)::qh3 e i
def qav(e:qg):Option Nat->zx->AV->qg
 |none,_,_=>e
 |some d,c,v=>qm4 e d c v
def zg4:qg->qg
 |[]=>[]
 |(j,[],v)::e=>(j,[],v)::zg4 e
 |(_,_::_,_)::e=>zg4 e
def zrf(c:Nat):qg->qg
 |[]=>[]
 |(j,ch,v)::e=>bif z2x c v then zrf c e else(j,ch,v)::zrf c e
def zxb:Option Nat->qg->qg
 |none,e=>e
 |some c,e=>zrf c e
theorem Zw{e:qg}(h:zob e i=Td (c,v)):(i,c,v)∈e:=by
 induction e with
 |nil=>cases h
 |cons x e f=>obtain⟨j,k,l⟩:=x;simp only[zob]at h;by_cases b:Nat.beq i j=Ta;simp only[b,cond_true,Ac,Bi]at h;obtain⟨rfl,rfl⟩:=h;rw[Al b];exact Am;simp only[b,cond_false]at h;exact Ae _ (f h)
theorem qaw{e:qg}{x:Nat×zx×AV}(h:x∈qh3 e i):x∈e/\x.1≠i/\mentions x.2.1 i=Tc:=by
 induction e with
 |nil=>cases h
 |cons y e b=>
  obtain⟨j,m,o⟩:=y;simp only[qh3]at h;by_cases k:Nat.beq i j=Ta;simp only[k,cond_true]at h;exact⟨Ae _ (b h).1,(b h).2⟩;have l:Nat.beq i j=Tc:=Bool.eq_false_iff.2 k;simp only[l,cond_false]at h;by_cases n:mentions m i=Ta;simp only[n,cond_true]at h;exact⟨Ae _ (b h).1,(b h).2⟩;have c:mentions m i=Tc:=by simpa using n
  simp only[c,cond_false]at h;rcases Ai.1 h with rfl|h;refine⟨Am,λf=>?_,c⟩;simp only at f;rw[f]at k;exact k (by simp);exact⟨Ae _ (b h).1,(b h).2⟩
theorem zz0{e:qg}{x:Nat×zx×AV}(h:x∈zg4 e):x∈e/\x.2.1=[]:=by
 induction e with
 |nil=>cases h
 |cons y e b=>
  obtain⟨j,f,i⟩:=y;cases f with
  |nil=>simp only[zg4]at h;rcases Ai.1 h with rfl|h;exact⟨Am,rfl⟩;exact⟨Ae _ (b h).1,(b h).2⟩
  |cons c cs=>simp only[zg4]at h;exact⟨Ae _ (b h).1,(b h).2⟩
theorem zz1{c:Option Nat}{e:qg}{x:Nat×zx×AV}(h:x∈zxb c e):x∈e/\z2y z2x c x.2.2=Tc:=by
 cases c with
 |none=>exact⟨h,rfl⟩
 |some c=>
  have key:∀e:qg,x∈zrf c e->x∈e/\z2x c x.2.2=Tc:=by
   intro e;induction e with
   |nil=>intro h;cases h
   |cons y e b=>
    obtain⟨j,i,f⟩:=y;intro h;simp only[zrf]at h;cases hm:z2x c f with
    |true=>rw[hm]at h;exact⟨Ae _ (b h).1,(b h).2⟩
    |false=>rw[hm]at h;rcases Ai.1 h with rfl|h;exact⟨Am,hm⟩;exact⟨Ae _ (b h).1,(b h).2⟩
  exact key e h
theorem SatA.sub{e e':qg}(h:SatA n e γ a)(b:∀x∈e',x∈e):SatA n e' γ a:=⟨h.defers,h.size,λx c=>h.all x (b x c)⟩
theorem SatA.clean{e:qg}(h:SatA n e γ a):SatA n (zg4 e) γ a:=h.sub λ_ b=>(zz0 b).1
theorem SatA.gx{e:qg}{c:Option Nat}(h:SatA n e γ a)(g:Gx c γ γ'):SatA n (zxb c e) γ' a:= ⟨h.defers,h.size,λx b=>by obtain⟨h1,i⟩:=zz1 b;exact⟨λf=>((h.all x h1).1 f).gx g i,(h.all x h1).2⟩⟩
theorem SatA.gx0{e:qg}(h:SatA n e γ a)(g:Gx Te γ γ'):SatA n e γ' a:=h.gx g
theorem SatA.put{e:qg}(h:SatA n e γ a)(hi:i<n)(w:mentions c i=Tc)
  (t:valid (zz a) c->DenV γ v u) (r:¬valid (zz a) c->u=undef):SatA n (qm4 e i c v) γ (a.put (Td i) u):=by
 refine⟨by rw[xh];exact h.defers,by rw[size_put];exact h.size,λx o=>?_⟩;have k:i<a.tmps.size:=by rw[h.size];exact hi
 rcases Ai.1 o with rfl|o;have l:=Zl (σ:=zz (a.put (Td i) u)) (τ:=zz a) w (λj m=>qe m);refine⟨λf=>?_,λf=>?_⟩;simp only;rw[w8 k];exact t (l.1 f);exact(w8 k).trans (r (λb=>f (l.2 b)));obtain⟨h1,q,s⟩:=qaw o;have l:=Zl (σ:=zz (a.put (Td i) u)) (τ:=zz a) s (λj m=>qe m);have p:=h.all x h1;refine⟨λf=>?_,λf=>?_⟩;rw[qe q];exact p.1 (l.1 f);exact(qe q).trans (p.2 (λb=>f (l.2 b)))
theorem SatA.putO{e:qg}(h:SatA n e γ a){d:Option Nat}(f:jk n c d=Ta)
  (m:valid (zz a) c->DenV γ v u) (l:¬valid (zz a) c->u=undef):SatA n (qav e d c v) γ (a.put d u):=by
 cases d with
 |none=>exact h
 |some i=>
  simp only[jk]at f;by_cases k:mentions c i=Ta;simp[k]at f;have b:mentions c i=Tc:=by simpa using k
  simp only[b,cond_false]at f;exact h.put (by simpa[Cm]using f) b m l
def qlc:Value->AG
 |.agg cs=>.agg (cs.toList.map .v)
 |v=>.a (.v v)
def zz2:Value->AV
 |.tuple vs=>.tup (vs.toList.map qlc)
 |v=>.g (qlc v)
theorem zxc(γ:Gh)(v:Value):DenG γ (qlc v) v:=by
 cases v with
 |agg cs=>
  refine⟨cs.toList,by simp,?_⟩;generalize cs.toList=l;induction l with
  |nil=>trivial
  |cons x l b=>exact⟨rfl,b⟩
 |_=>exact rfl
theorem Ji(γ:Gh)(v:Value):DenV γ (zz2 v) v:=by
 cases v with
 |tuple vs=>
  refine⟨vs.toList,by simp,?_⟩;generalize vs.toList=l;induction l with
  |nil=>trivial
  |cons x l b=>exact⟨zxc γ x,b⟩
 |agg cs=>exact zxc γ (.agg cs)
 |_=>exact rfl
def exL:List AA->Option (List Value)
 |[]=>Td []
 |.v x::l=>match exL l with
  |some vs=>Td (x::vs)
  |none=>Te
 |_::_=>Te
def exV:AV->Option Value
 |.g (.a (.v x))=>Td x
 |.g (.agg l)=>match exL l with
  |some vs=>Td (.agg vs.toArray)
  |none=>Te
 |_=>Te
theorem z3a{γ:Gh}:∀{l:List AA} {vs us:List Value},exL l=Td vs->All2 (DenA γ) l us->us=vs
 |[],vs,[],h,_=>by simp only[exL,Ac]at h;exact h
 |[],_,_::_,_,h=>h.elim
 |.v x::l,vs,u::us,h,hd=>by simp only[exL]at h;split at h;rename_i c b;simp only[Ac]at h;subst h;rw[show u=x from hd.1,z3a b hd.2];cases h
 |.v _::_,_,[],_,h=>h.elim
 |.d _ _::_,_,_,h,_=>by simp[exL]at h
 |.box _ _::_,_,_,h,_=>by simp[exL]at h
 |.own _::_,_,_,h,_=>by simp[exL]at h
 |.oelt _ _ _ _::_,_,_,h,_=>by simp[exL]at h
 |.elt _ _ _::_,_,_,h,_=>by simp[exL]at h
 |.dc _ _::_,_,_,h,_=>by simp[exL]at h
theorem zu5{x:AV}{v u:Value}(h:exV x=Td v)(b:DenV γ x u):u=v:=by unfold exV at h;split at h;simp only[Ac]at h;subst h;exact b;rename_i l;split at h;rename_i vs c;simp only[Ac]at h;subst h;obtain⟨us,rfl,e⟩:=b;rw[z3a c e];cases h;cases h
def zhe(e:qg)(c:zx):Operand->Option AV
 |.tmp t=>match zob e t with
  |some (cs,v)=>bif suf cs c then Td v else Te
  |none=>Te
 |.const v=>Td (zz2 v)
 |.global g=>Td (.g (.a (.v (.pointer (Td ⟨g,0,Te⟩)))))
 |.func f=>Td (.g (.a (.v (.func (.func f) #[] #[]))))
theorem zo{e:qg}(h:SatA n e γ a)(l:valid (zz a) c){x:Operand}(b:zhe e c x=Td v):DenV γ v (a.eval x):=by
 cases x with
 |tmp t=>simp only[zhe]at b;split at b;rename_i cs u k;by_cases i:suf cs c=Ta;simp only[i,cond_true,Ac]at b;subst b;exact(h.all _ (Zw k)).1 (Jb i l);simp[i]at b;cases b
 |const u=>simp only[zhe,Ac]at b;subst b;exact Ji γ u
 |global g=>simp only[zhe,Ac]at b;subst b;exact rfl
 |func f=>simp only[zhe,Ac]at b;subst b;exact rfl
def zz3:AV->Option Bool
 |.g (.a (.v (.bool b)))=>Td b
 |_=>Te
theorem zi9{b:Bool}(h:zz3 v=Td b)(c:DenV γ v u):u=.bool b:=by unfold zz3 at h;split at h;simp only[Ac]at h;subst h;exact c;cases h
def Yt(ops:Array Oper)(e:qg):Option (Nat×Bool)->Option zx
 |none=>Td []
 |some (j,p)=>match yv ops j with
  |some g=>match zob e g with
   |some (cg,v)=>match zz3 v with
    |some _=>Td ((g,p)::cg)
    |none=>Te
   |none=>Te
  |none=>Te
def zrg(e:qg):zx->Option Bool
 |[]=>Td Ta
 |(g,p)::c=>match zob e g with
  |some (cg,v)=>match zz3 v with
   |some b=>bif Zm cg c then(match zrg e c with
    |some f=>Td (f&&(bif p then b else !b))
    |none=>Te)else Te
   |none=>Te
  |none=>Te
theorem zab{n:Nat}{e:qg}{γ:Gh}{a:Act}(h:SatA n e γ a):∀{c:zx} {b:Bool},zrg e c=Td b->(b=Ta↔valid (zz a) c)
 |[],b,hb=>by simp only[zrg,Ac]at hb;simp[<-hb,valid]
 |(g,p)::c,b,hb=>by
  simp only[zrg]at hb;split at hb;rename_i t v s;split at hb;rename_i q l;by_cases k:Zm t c=Ta;simp only[k,cond_true]at hb;split at hb;rename_i m i;simp only[Ac]at hb;have o:=zab h i;have r:=h.all _ (Zw s);rw[Ja k]at r;by_cases f:valid (zz a) c;have h1:zz a g=.bool q:=zi9 l (r.1 f);have u:=o.2 f;subst hb;simp only[valid,h1,f,u,Cc,and_true,Value.bool.injEq];cases p <;> cases q <;> simp;have h1:m=Tc:=by cases m with|false=>rfl|true=>exact absurd (o.1 rfl) f
  subst hb;simp[valid,f,h1];cases hb;simp[k]at hb;cases hb;cases hb
theorem xt{ops:Array Oper}{e:qg}(h:SatA n e γ a)(f:Yt ops e o.guard=Td c):
  BU o (yielded ops a.tmps)=Ta↔valid (zz a) c:=by
 unfold BU;cases hg:o.guard with
 |none=>rw[hg]at f;simp only[Yt,Ac]at f;simp[<-f,valid]
 |some q=>
  obtain⟨j,p⟩:=q;rw[hg]at f;simp only[Yt]at f;split at f;rename_i g i;split at f;rename_i s v r;split at f;rename_i b x;simp only[Ac]at f;subst f;have k:((ops[j]?).bind (·.dst))=Td g:=by simp only[yv]at i;split at i;rename_i w l;simp[l,i];cases i
  have u:=h.all _ (Zw r);have t:yielded ops a.tmps j=Td p↔zz a g=.bool p:=by
   unfold yielded zz;rw[k];simp only[CC];cases ht:a.tmps[g]? with
   |none=>simp[BI,ht,undef]
   |some v=>cases v <;> simp[BI,ht]
  simp only[beq_iff_eq,t,valid];constructor;intro h1;refine⟨h1,?_⟩;by_cases m:valid (zz a) s;exact m;have:=u.2 m;simp only at this;rw[h1]at this;exact absurd this.symm zdh;exact λh1=>h1.1;cases f;cases f;cases f
def Wi(e:qg):zx->Option (Option Bool)
 |[]=>Td Te
 |c=>match zrg e c with
  |some b=>Td (Td b)
  |none=>Te
theorem xn{e:qg}(i:SatA n e γ a)(h:Wi e c=Td g)(f:valid (zz a) c):gok g:=by unfold Wi at h;split at h;simp only[Ac]at h;subst h;trivial;split at h;rename_i b k;simp only[Ac]at h;subst h;exact(zab i k).2 f;cases h
theorem zcb{e:qg}(i:SatA n e γ a)(h:Wi e c=Td g)(f:¬valid (zz a) c):g=Td Tc:=by
 unfold Wi at h;split at h;exact absurd trivial f;split at h;rename_i b k;simp only[Ac]at h;subst h;cases b with
 |false=>rfl
 |true=>exact absurd ((zab i k).1 rfl) f
 cases h
def qkl(ρ:Operand->Option AV)(x:Operand):Value:=match ρ x with
 |some av=>match exV av with
  |some v=>v
  |none=>undef
 |none=>undef
def zja(ρ:Operand->Option AV):List Operand->Bool
 |[]=>Ta
 |x::l=>match ρ x with
  |some av=>match exV av with
   |some _=>zja ρ l
   |none=>Tc
  |none=>Tc
theorem zrh{ρ:Operand->Option AV}(i:∀x av,ρ x=Td av->DenV γ av (σ x)){l:List Operand}(b:zja ρ l=Ta):∀x∈l,σ x=qkl ρ x:=by
 induction l with
 |nil=>intro x e;cases e
 |cons y l h=>intro x e;simp only[zja]at b;split at b;rename_i av f;split at b;rename_i v c;rcases Ai.1 e with rfl|e;rw[zu5 c (i _ _ f)];simp[qkl,f,c];exact h b x e;cases b;cases b
theorem zri{ρ:Operand->Option AV}(h:∀x av,ρ x=Td av->DenV γ av (σ x))(c:Yg o.op=Ta)(f:zja ρ o.op.operands.toList=Ta):
  execOp σ o=execOp (qkl ρ) o:=
 execOp_congr o (λcs b e=>by rw[e]at c;cases c) λx i=>zrh h f x (by simpa using i)
end
section
variable {o n f k:Nat} {h:zb} {u:Value} {us:List Value} {cs:CS} {γ:Gh} {t ty:TypeId} {P:Program} {s:Option Nat}
variable {h0 : zb} {W : Nat -> Prop} {M0 : Fr}
def takeN(l:List AA)(o n:Nat):Option (List AA):=bif Nat.beq ((l.drop o).take n).length n then Td ((l.drop o).take n)else Te
theorem zbc{l r:List AA}(h:takeN l o n=Td r):r=(l.drop o).take n/\r.length=n:=by
 unfold takeN at h;cases hb:Nat.beq ((l.drop o).take n).length n with
 |false=>rw[hb]at h;cases h
 |true=>rw[hb]at h;simp only[cond_true,Ac]at h;subst h;exact⟨rfl,Al hb⟩
theorem zrj{h:zb}{p:Addr}:∀{us:List Value} {i:Nat},(∀j v,us[j]?=Td v->zc h (p.add (i+j))=Td v)->zd h p i us
 |[],_,_=>trivial
 |v::us,i,H=>⟨by have:=H 0 v rfl;simpa using this,zrj λj u b=>by have:=H (j+1) u (by simpa using b);rwa[show i+(j+1)=i+1+j by omega]at this⟩
def Behind(h:zb)(u:Value)(us:List Value):Prop:=∃b o,u=.pointer (Td ⟨b,o,Te⟩)/\∀j v,us[j]?=Td v->zc h ⟨b,o+j,Te⟩=Td v
theorem Behind.ld(H:Behind h u us):∃p:Addr,u=.pointer (Td p)/\zd h p 0 us/\∀v,us=[v]->zc h p=Td v:=by obtain⟨b,o,e,f⟩:=H;refine⟨_,e,zrj λj v c=>?_,λv c=>?_⟩;rw[zi,AL];exact f j v c;have:=f 0 v (by rw[c];rfl);simpa using this
theorem qeq{cs:Array Value}{f n j:Nat}{v:Value}(h:(cut cs f n)[j]?=Td v):cs[f+j]?=Td v:=by unfold cut at h;rw[AK]at h;split at h;rw[A9]at h;simpa using h;cases h
def qax(cs:CS)(n:Nat):AA->Option (List AA)
 |.box c o=>match Qz cs c with
  |some (.box l)=>bif itB l then Te else takeN l o n
  |_=>Te
 |.elt t x o=>takeN (Jg t x) o n
 |_=>Te
theorem zu6(I:Inv h0 W M0 cs γ h){y:AA}{r:List AA}(k:qax cs n y=Td r)(w:DenA γ y u):
  ∃us,Behind h u us/\us.length=n/\All2 (DenA γ) r us:=by
 unfold qax at k;split at k
 ·rename_i c o;split at k
  ·rename_i l B;cases hit:itB l with
   |true=>rw[hit]at k;cases k
   |false=>
   rw[hit]at k;obtain⟨rfl,q⟩:=zbc k;obtain⟨us,e,z⟩:=I.den _ (qa B);rcases e with⟨⟨T,e⟩,_⟩|⟨s,p,e,_⟩;case inr=>exact absurd e (zxa hit z s p)
   have m:=(z.drop o).take n;refine⟨(us.drop o).take n,⟨_,_,w,λj v i=>?_⟩,by rw[<-m.length];exact q,m⟩;rw[AK]at i;split at i;rw[A9]at i;unfold zc;simp only[e];simp;exact i;cases i
  cases k
 rename_i t x o;obtain⟨rfl,q⟩:=zbc k;obtain⟨b,f,D,e,C,A⟩:=w;have m:=((xm (γ:=γ) A).drop o).take n;refine⟨_,⟨_,_,e,λj v i=>?_⟩,by rw[<-m.length];exact q,m⟩;rw[AK]at i;split at i;rw[A9]at i;have:=qeq i;exact I.ag.cell C (by rw[show f+o+j=f+(o+j)by omega];exact this);cases i;cases k
theorem qer(I:Inv h0 W M0 cs γ h){c:Nat}{e:TypeId}{t:Ty}{xs:List (El t)}(E:Qz cs c=Td (.row e t xs)){i:Nat}{y:El t}(z:xs[i]?=Td y){r:List AA}(D:takeN (Jg t y) o n=Td r)(C:DenA γ (.oelt c (sz t) i o) u):∃us,Behind h u us/\us.length=n/\All2 (DenA γ) r us:=by
 obtain⟨rfl,G⟩:=zbc D;obtain⟨g,x,rfl⟩:=C;obtain⟨cells,f,m,_,H⟩:=I.den _ (qa E);simp only at H f;rcases f.2 with⟨k,h1⟩|⟨g',cap,p,k,_,s,_,_,_,l⟩;simp only[AP]at k;rw[x]at k;cases k.1;simp only[AP]at k;rw[x]at k;have q:g=g':=by have:=k.1;simp only[Ac,Addr.mk.injEq]at this;exact this.1
 subst q;have hi:i<xs.length:=(A1.1 z).1;have w:xs[i]=y:=(A1.1 z).2;have A:=m.2 i hi;rw[w]at A;have B:=((xm (γ:=γ) A).drop o).take n;refine⟨_,⟨_,_,rfl,λj v b=>?_⟩,by rw[<-B.length];exact G,B⟩;rw[AK]at b;split at b;rw[A9,AK]at b;split at b;rw[A9,<-l,AK]at b;split at b;have F:h[g]?=Td (.cells p e (0,0)):=s;unfold zc;simp only[F];simp;rw[show i*sz t+o+j=i*sz t+(o+j)by omega];simpa using b;cases b;cases b;cases b
def zod:Option Nat->List AA->Option AG
 |none,[x]=>Td (.a x)
 |some _,l=>Td (.agg l)
 |_,_=>Te
def zac(P:Program)(t:TypeId):Option (Option Nat):=match z1w P t with
 |some (.one _)=>Td Te
 |some (.agg l)=>Td (Td l.length)
 |none=>Te
def qah:Option Nat->Nat
 |none=>1
 |some n=>n
theorem zfj(c:zac P t=Td s)(n:Behind h u us)(m:us.length=qah s){r:List AA}(b:All2 (DenA γ) r us){ag:AG}(i:zod s r=Td ag):
  ∃v,DenG γ ag v/\QExec P (Dp t u) h v:=by
 obtain⟨p,e,q,h1⟩:=n.ld;subst e;have f:∀v,QExec P (loadVar t p) h v->QExec P (Dp t (.pointer (Td p))) h v:=λv o B d=>by unfold Dp Dj;simp only[Sem.run_bind,Sem.run_pure,Result.andThen_ok];exact o B d
 unfold zac at c;split at c;rename_i a k;simp only[Ac]at c;subst c
 match us,m,r,b with
 |[v],_,[x],b=>simp only[zod,Ac]at i;subst i;exact⟨v,b.1,f v (zh5 k (h1 v rfl))⟩
 |[v],_,[],b=>exact b.elim
 |[v],_,_::_::_,b=>exact b.2.elim
 rename_i l k;simp only[Ac]at c;subst c;simp only[zod,Ac]at i;subst i;exact⟨.agg us.toArray,⟨us,rfl,b⟩,f _ (zh6 k m q)⟩;cases c
def zz4(P:Program)(cs:CS)(t:TypeId)(b:AA)(g:Option Bool)(K:AV->Prop):Prop:=
 match zac P t with
 |some s=>match b with
  |.oelt c z i o=>match Qz cs c with
   |some (.row e ty xs)=>bif Nat.beq z (sz ty)then(∃y:El ty,req g (xs[i]?=Td y)/\match takeN (Jg ty y) o (qah s)with
    |some r=>match zod s r with
     |some ag=>K (.g ag)
     |none=>False
    |none=>False)else False
   |_=>False
  |b=>match qax cs (qah s) b with
   |some r=>match zod s r with
    |some ag=>K (.g ag)
    |none=>False
   |none=>False
 |none=>False
theorem zjb{n:AA}{g:Option Bool}{K:AV->Prop}(H:zz4 P cs t n g K):
  ∃av,K av/\(gok g->∀γ h u,Inv h0 W M0 cs γ h->DenA γ n u->∃v,DenV γ av v/\QExec P (Dp t u) h v):=by
 unfold zz4 at H;split at H;rename_i s p;split at H;rename_i c z i o;split at H;rename_i e ty xs w;cases hz:Nat.beq z (sz ty)with
 |false=>rw[hz]at H;exact H.elim
 |true=>rw[hz]at H;obtain⟨y,x,H⟩:=H;split at H;rename_i r k;split at H;rename_i ag f;refine⟨_,H,λq γ h u I b=>?_⟩;rw[Al hz]at b;obtain⟨us,h1,m,l⟩:=qer I w (x.out q) k b;exact zfj p h1 m l f;exact H.elim;exact H.elim
 exact H.elim;split at H;rename_i r k;split at H;rename_i ag f;refine⟨_,H,λq γ h u I b=>?_⟩;obtain⟨us,h1,m,l⟩:=zu6 I k b;exact zfj p h1 m l f;exact H.elim;exact H.elim;exact H.elim
def z3b(P:Program)(t:TypeId)(f:Nat):Option (Nat×TypeId):=match P.underlying t with
 |some (.struct fs)=>match fs[f]? with
  |some b=>match P.info? b.type with
   |some i=>bif Nat.beq i.size 0 then Te else Td (b.offset,b.type)
   |none=>Te
  |none=>Te
 |_=>Te
def qkm(k:Nat):AA->Option AA
 |.box c o=>Td (.box c (o+k))
 |.elt t x o=>Td (.elt t x (o+k))
 |.oelt c z i o=>Td (.oelt c z i (o+k))
 |_=>Te
theorem z3c(c:z3b P t f=Td (k,ty))(b o:Nat):QExec P (Instr.fieldAt t (.pointer (Td ⟨b,o,Te⟩)) f) h (.pointer (Td ⟨b,o+k,Te⟩)):=by
 unfold z3b at c;split at c;rename_i s p;split at c;rename_i r m;split at c;rename_i i hi;cases hz:Nat.beq i.size 0 with
 |true=>rw[hz]at c;cases c
 |false=>
  rw[hz]at c;simp only[cond_false,Ac,Bi]at c;obtain⟨rfl,rfl⟩:=c;intro B d;have n:=QExec.underlying (h:=h) p B d;have q:=QExec.sizeOf (h:=h) hi B d;have l:¬(qi P r.type=0):=by unfold qi;rw[hi];intro e;simp only at e;rw[e]at hz;simp at hz
  unfold Instr.fieldAt Dj fieldPlace;simp only[Sem.run_bind,n,Result.andThen_ok,m,Sem.run_pure,q,l,if_false,zi]
 cases c;cases c;cases c
theorem zxd{l c:AA}(h:qkm k l=Td c)(i:DenA γ l u):∃b o,u=.pointer (Td ⟨b,o,Te⟩)/\DenA γ c (.pointer (Td ⟨b,o+k,Te⟩)):=by unfold qkm at h;split at h;simp only[Ac]at h;subst h;exact⟨_,_,i,rfl⟩;simp only[Ac]at h;subst h;obtain⟨b,f,cs,e,h1,p⟩:=i;exact⟨_,_,e,b,f,cs,by rw[CP],h1,p⟩;simp only[Ac]at h;subst h;obtain⟨g,m,n⟩:=i;exact⟨_,_,n,g,m,by rw[CP]⟩;cases h
def z3d(P:Program)(ty:TypeId)(l:List AA)(k:Nat):Option AG:=match zac P ty with
 |some s=>match takeN l k (qah s)with
  |some r=>zod s r
  |none=>Te
 |none=>Te
theorem zrk(f:zac P t=Td s)(h:zb):QExec P (isAgg t) h s.isSome:=by
 unfold zac at f;split at f
 ·rename_i a b;simp only[Ac]at f;subst f;unfold z1w at b;split at b
  ·exact absurd b (by split <;> (first|(intro h;cases h;done)|(cases Nat.beq _ _ <;> intro h <;> cases h)))
  ·exact absurd b (by split <;> (first|(intro h;cases h;done)|(cases Nat.beq _ _ <;> intro h <;> cases h)))
  rename_i d i o c;intro B e;have k:=QExec.underlying (h:=h) c B e;unfold isAgg;rw[Sem.run_bind,k];cases d <;> first|rfl|exact(i _ rfl).elim|exact(o _ _ rfl).elim
  cases b
 rename_i l b;simp only[Ac]at f;subst f;unfold z1w at b;have c:(∃p,P.underlying t=Td (.struct p))\/∃n e,P.underlying t=Td (.array n e):=by split at b;exact .inl ⟨_,by assumption⟩;exact .inr ⟨_,_,by assumption⟩;simp at b;cases b
 intro B e;rcases c with⟨p,c⟩|⟨m,e',c⟩;have k:=QExec.underlying (h:=h) c B e;unfold isAgg;rw[Sem.run_bind,k];rfl;have k:=QExec.underlying (h:=h) c B e;unfold isAgg;rw[Sem.run_bind,k];rfl;cases f
theorem qay(e:zac P t=Td (Td n)):qi P t=n/\∃i,P.info? t=Td i:=by
 unfold zac at e;split at e;cases e
 ·rename_i l c;simp only[Ac]at e;subst e;unfold z1w at c;have key:∀x:Option (List Atom),(match x with
    |some l=>bif Nat.beq l.length (qi P t)then Td (VT.agg l)else Te
    |none=>Te)=Td (.agg l)->qi P t=l.length:=by
   intro x b;split at b;rename_i f;cases hb:Nat.beq f.length (qi P t)with
   |false=>rw[hb]at b;cases b
   |true=>rw[hb]at b;simp only[cond_true,Ac,VT.agg.injEq]at b;rw[<-b];exact(Al hb).symm
   cases b
  split at c;exact⟨key _ c,info_of_underlying (by assumption)⟩;exact⟨key _ c,info_of_underlying (by assumption)⟩;simp at c;cases c
 cases e
theorem zcc{l:List AA}{ag:AG}(b:z3d P ty l k=Td ag)(p:All2 (DenA γ) l us)(h:zb):∃v,DenG γ ag v/\QExec P (part ty us.toArray k) h v:=by
 unfold z3d at b;split at b;rename_i s o;split at b;rename_i r t;obtain⟨rfl,z⟩:=zbc t;have c:=(p.drop k).take (qah s);have e:((us.drop k).take (qah s)).length=qah s:=by rw[<-c.length];exact z
 cases s with
 |none=>
  generalize m:(us.drop k).take (qah Te)=q at *
  match q,e,m with
  |[v],_,m=>
   generalize y:(l.drop k).take (qah Te)=r' at *
   match r',c with
   |[x],c=>
    simp only[zod,Ac]at b;subst b;refine⟨v,c.1,λB d=>?_⟩;have f:=zrk o h B d;have w:us[k]?=Td v:=by
     have:((us.drop k).take 1)[0]?=Td v:=by rw[show(us.drop k).take 1=[v]from m];rfl
     rw[AK,if_pos (by omega),A9]at this;simpa using this
    unfold part;rw[Sem.run_bind,f];simp[w]
   |[],c=>exact c.elim
   |_::_::_,c=>exact c.2.elim
 |some n=>simp only[zod,Ac]at b;subst b;refine⟨.agg ((us.drop k).take n).toArray,⟨_,rfl,c⟩,λB d=>?_⟩;have f:=zrk o h B d;obtain⟨A,i,hi⟩:=qay o;have u:=QExec.sizeOf (h:=h) hi B d;unfold part;rw[Sem.run_bind,f];simp only[Option.isSome_some,Result.andThen_ok,if_true];rw[Sem.run_bind,u,A];simp
 cases b;cases b
end
end Go.X
end
