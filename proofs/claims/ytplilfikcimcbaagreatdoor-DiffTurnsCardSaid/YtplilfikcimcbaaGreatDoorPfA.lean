/- A part of the proof: nothing is stated here for its own sake. -/
import Derived.Deep.Quiet
import Derived.StillTail
import Derived.Laws.Cover3
import Derived.Laws.Pointers
import Derived.Scope
import Derived.Laws.OwnMore
import Derived.Laws.StructEq
open _root_.Go.Addr renaming add->zab
open _root_.Array renaming ext'->zfb,ext_getElem?->ze4,getD_eq_getD_getElem?->zcb,getElem?_append_left->zdg,getElem?_eq_getElem->zcl,getElem?_eq_some_iff->zat,getElem?_setIfInBounds_ne->zb4,replicate->zc4,size_setIfInBounds->zbg
open _root_.Bool renaming and_eq_true->zam,eq_false_iff->zen,eq_iff_iff->zbe,false_eq_true->zcj,not_eq_true'->zd4,true_and->zct
open _root_.Go.Builtin renaming append_->zao,clear_->zer,copy_->zd9,firstCells->zc3,lenOf->zfn,len_->zdm,zeroCells->zb7
open _root_.Go.Code renaming cond->zfa,region->zfj
open _root_.Go.Deferred renaming ofValue->zev
open _root_.Go.Instr renaming entry->zes,findNow->zc8,indexAt->zfd,keyThatStays->zdy,loadAt->zee,lookup->zc1,makeSlice->zbp,mapUpdate->zcz,next->zdx,range->ze5,sameNow->ze2,sliceAt->ze1,storeAt->zag,sureAddr->zeq
open _root_.Go.IntKind renaming bits->zb1,signed->zfi,wrap->zaa
open _root_.List.Sublist renaming refl->zd8
open _root_.List renaming all_eq_true->za7,cons_append->zbz,drop_drop->zdh,drop_eq_nil_of_le->zce,drop_take->ze7,eq_nil_of_length_eq_zero->zbb,getElem?_cons_zero->zeb,getElem?_drop->zb6,getElem?_eq_getElem->zai,getElem?_eq_some_iff->za5,getElem?_take->zbk,getElem?_toArray->zel,getElem_append_left->zcp,getElem_append_right->zcx,getElem_mem->zak,getElem_of_mem->zdj,length_append->zah,length_cons->zaw,length_drop->zb8,length_eq_zero_iff->zds,length_nil->zb5,length_take->zbl,mapM_cons->ze6,map_cons->za1,mem_append->zaj,mem_append_left->zau,mem_append_right->zbf,mem_cons->zan,mem_cons_of_mem->za3,mem_cons_self->za2,mem_filter->zbv,mem_range->zbn,nil_append->zck,nodup_cons->zbq,pairwise_append->zd5,pairwise_cons->zcy,range->zaq,replicate->zcv,size_toArray->zeo,take_append_of_le_length->zdp,take_succ_eq_append_getElem->zal,take_take->zet
open _root_.List.cons renaming injEq->zc9
open _root_.Nat renaming add_mul->zcs,eq_of_beq_eq_true->za4,eq_zero_or_pos->zef,le_of_ble_eq_true->zc0,le_refl->zac,le_trans->zch,lt_of_lt_of_le->zdb,lt_or_ge->zb0,min_eq_left->zda,mul_comm->zd7,mul_le_mul_right->za8,one_mul->zd6,succ_mul->zdn,zero_add->zas
open _root_.Go.Next renaming value->zep
open _root_.Go.Op renaming equal->zfh
open _root_.Option renaming bind_some->zcr,map_eq_some_iff->zc6,map_some->zd2
open _root_.Option.some renaming inj->zbi,injEq->zad
open _root_.Prod.mk renaming injEq->zci
open _root_.Pure renaming pure->zek
open _root_.Go.Region renaming wanted->zbr
open _root_.Go.Value renaming int->zcn,string->zaz
open _root_.Go.Value.slice renaming injEq->zbo
set_option linter.unusedVariables false
set_option maxRecDepth 100000
namespace Go.X
end Go.X
namespace Go.Proofs
end Go.Proofs
open Go Go.X Go.Proofs
open _root_.Bool renaming true->Ta,false->Tc
open _root_.Option renaming some->Td,none->Te
namespace Go.X
section
section
theorem zv{c:Prop}{h:Decidable c}(n:¬c){α:Sort _}{t e:α}:@ite α c h t e=e:=if_neg n
theorem zA{c:Prop}{h:Decidable c}(n:c){α:Sort _}{t e:α}:@ite α c h t e=t:=if_pos n
theorem zG{p:Prop}[Decidable p]:(decide p=true)=p:=decide_eq_true_eq
theorem zH{p:Prop}[Decidable p](h:decide p=true):p:=of_decide_eq_true h
theorem zI{p:Prop}[Decidable p](h:decide p=false):¬p:=of_decide_eq_false h
theorem zJ{p:Prop}[Decidable p](h:p):decide p=true:=decide_eq_true h
theorem zK{α:Sort _}(a b:α):cond true a b=a:=rfl
theorem zL{α:Sort _}(a b:α):cond false a b=b:=rfl
abbrev Bt:= ByteArray
variable {i n m:Nat} {v u:Value} {a:Act} {o:Oper}
abbrev zc:=Array Obj
abbrev w6(n:Int):Int:=IntKind.wrap .i64 n
abbrev hZ(g h:Array Obj)(a:Addr):Prop:=g[a.block]?=h[a.block]?
abbrev q0:Array Value:=(List.replicate 65 (.int .u8 0)).toArray
abbrev q01:Array Value:=(List.replicate 24 (.int .u8 0)).toArray
abbrev qw:=List (Nat×Bool)
abbrev bR:=List (Nat×qw×Value)
def mk(B:World)(d:Nat)(h:zc):World:={ B with heap:=h,drawn:=d }
def look:bR->Nat->Option (qw×Value)
 |[],_=>Te
 |(j,c,v)::e,i=>bif Nat.beq i j then Td (c,v)else look e i
def valid(σ:Nat->Value):qw->Prop
 |[]=>True
 |(g,p)::c=>σ g=.bool p/\valid σ c
def qk(a:Act)(i:Nat):Value:=a.tmps.getD i undef
def fact(σ:Nat->Value)(x:Nat×qw×Value):Prop:=(valid σ x.2.1->σ x.1=x.2.2)/\(¬valid σ x.2.1->σ x.1=undef)
structure Sat (n:Nat) (e:bR) (a:Act):Prop where
 defers:a.defers=[]
 size:a.tmps.size=n
 all:∀x∈e,fact (qk a) x
def mentions:qw->Nat->Bool
 |[],_=>Tc
 |(g,_)::c,i=>bif Nat.beq i g then Ta else mentions c i
def del:bR->Nat->bR
 |[],_=>[]
 |(j,c,v)::e,i=>bif (bif Nat.beq i j then Ta else mentions c i)then del e i else(j,c,v)::del e i
def put(e:bR)(i:Nat)(c:qw)(v:Value):bR:=(i,c,v)::del e i
def putO(e:bR):Option Nat->qw->Value->bR
 |none,_,_=>e
 |some d,c,v=>put e d c v
def clean:bR->bR
 |[]=>[]
 |(j,[],v)::e=>(j,[],v)::clean e
 |(_,_::_,_)::e=>clean e
theorem pp{e:bR}{c:qw}(h:look e i=Td (c,v)):(i,c,v)∈e:=by
 induction e with
 |nil=>cases h
 |cons x e f=>obtain⟨j,k,b⟩:=x;simp only[look]at h;by_cases l:Nat.beq i j=Ta;simp_all;simp_all
theorem VQ{e:bR}{x:Nat×qw×Value}(h:x∈del e i):x∈e/\x.1≠i/\mentions x.2.1 i=Tc:=by
 induction e with
 |nil=>cases h
 |cons y e o=>
  obtain⟨j,f,n⟩:=y;simp only[del]at h;by_cases k:Nat.beq i j=Ta;simp_all;have c:Nat.beq i j=Tc:=zen.2 k;simp only[c,zL]at h;by_cases l:mentions f i=Ta;simp_all;have b:mentions f i=Tc:=by simpa using l
  simp only[b,zL]at h;rcases zan.1 h with rfl|h;refine⟨za2,λm=>?_,b⟩;simp_all;simp_all
theorem Mh{e:bR}{x:Nat×qw×Value}(h:x∈clean e):x∈e/\x.2.1=[]:=by
 induction e with
 |nil=>cases h
 |cons y e i=>
  obtain⟨j,b,f⟩:=y;cases b with
  |nil=>simp only[clean]at h;grind
  |cons c cs=>simp only[clean]at h;simp_all
theorem Sat.sub{e b:bR}(h:Sat n e a)(c:∀x∈b,x∈e):Sat n b a:=⟨h.defers,h.size,λx f=>h.all x (c x f)⟩
theorem Sat.clean{n:Nat}{e:bR}{a:Act}(h:Sat n e a):Sat n (clean e) a:=h.sub λ_ b=>(Mh b).1
theorem J7{σ τ:Nat->Value}{c:qw}(b:mentions c i=Tc)(h:∀j,j≠i->σ j=τ j):valid σ c↔valid τ c:=by
 induction c with
 |nil=>exact Iff.rfl
 |cons x c k=>obtain⟨g,p⟩:=x;simp only[mentions]at b;by_cases f:Nat.beq i g=Ta;grind;simp only[f,zL]at b;have l:g≠i:=λe=>f (by rw[e];simp);simp only[valid,h g l,k b]
theorem Z3(hi:i<a.tmps.size):qk (a.put (Td i) u) i=u:=by simp[qk,Act.put,hi]
theorem yz{i j:Nat}(h:j≠i):qk (a.put (Td i) u) j=qk a j:=by simp[qk,Act.put,zb4 (Ne.symm h)]
theorem size_put(a:Act)(d:Option Nat)(u:Value):(a.put d u).tmps.size=a.tmps.size:=by cases d <;> simp[Act.put]
theorem Zt(a:Act)(d:Option Nat)(u:Value):(a.put d u).defers=a.defers:=by cases d <;> simp[Act.put]
theorem Sat.put{n:Nat}{e:bR}{a:Act}(h:Sat n e a){i:Nat}{c:qw}{v u:Value}(hi:i<n)(z:mentions c i=Tc)
  (t:valid (qk a) c->u=v) (y:¬valid (qk a) c->u=undef):Sat n (put e i c v) (a.put (Td i) u):=by
 refine⟨by rw[Zt];exact h.defers,by rw[size_put];exact h.size,λx m=>?_⟩;have k:i<a.tmps.size:=by rw[h.size];exact hi
 rcases zan.1 m with rfl|m;have l:=J7 (σ:=qk (a.put (Td i) u)) (τ:=qk a) z (λj o=>yz o);refine⟨λf=>?_,λf=>?_⟩;exact(Z3 k).trans (t (l.1 f));exact(Z3 k).trans (y (λb=>f (l.2 b)));obtain⟨h1,r,w⟩:=VQ m;have l:=J7 (σ:=qk (a.put (Td i) u)) (τ:=qk a) w (λj o=>yz o);have q:=h.all x h1;refine⟨λf=>?_,λf=>?_⟩;exact(yz r).trans (q.1 (l.1 f));exact(yz r).trans (q.2 (λb=>f (l.2 b)))
def xj(n:Nat)(c:qw):Option Nat->Bool
 |none=>Ta
 |some d=>bif mentions c d then Tc else Nat.blt d n
theorem Sat.putO{n:Nat}{e:bR}{a:Act}(h:Sat n e a){d:Option Nat}{c:qw}{v u:Value}(f:xj n c d=Ta)
  (k:valid (qk a) c->u=v) (l:¬valid (qk a) c->u=undef):Sat n (putO e d c v) (a.put d u):=by
 cases d with
 |none=>exact h
 |some i=>
  simp only[xj]at f;by_cases j:mentions c i=Ta;grind;have b:mentions c i=Tc:=by simpa using j
  simp only[b,zL]at f;exact h.put (by simp_all) b k l
def Zu:qw->qw->Bool
 |[],[]=>Ta
 |(g,p)::c,(g',p')::c'=>bif Nat.beq g g' then(bif p then(bif p' then Zu c c' else Tc)else(bif p' then Tc else Zu c c'))else Tc
 |_,_=>Tc
theorem Je:∀{c b:qw},Zu c b=Ta->c=b
 |[],[],_=>rfl
 |[],_::_,h=>by simp[Zu]at h
 |_::_,[],h=>by simp[Zu]at h
 |(g,p)::c,(g',p')::b,h=>by simp only[Zu]at h;by_cases e:Nat.beq g g'=Ta;simp only[e,zK]at h;have f:=za4 e;cases p <;> cases p' <;> simp at h <;> rw[f,Je h];grind
def lm(cs:qw):qw->Bool
 |[]=>Zu cs []
 |x::c=>bif Zu cs (x::c)then Ta else lm cs c
theorem Jf{σ:Nat->Value}{cs:qw}:∀{c:qw},lm cs c=Ta->valid σ c->valid σ cs
 |[],h,_=>by rw[Je h];trivial
 |x::c,h,hv=>by simp only[lm]at h;by_cases b:Zu cs (x::c)=Ta;rw[Je b];exact hv;simp only[b,zL]at h;exact Jf h hv.2
def Xn(e:bR)(c:qw):Operand->Option Value
 |.tmp t=>match look e t with
  |some (cs,v)=>bif lm cs c then Td v else Te
  |none=>Te
 |.const v=>Td v
 |.global g=>Td (.pointer (Td ⟨g,0,Te⟩))
 |.func f=>Td (.func (.func f) #[] #[])
theorem qy{e:bR}(h:Sat n e a){c:qw}(k:valid (qk a) c){x:Operand}(b:Xn e c x=Td v):a.eval x=v:=by
 cases x with
 |tmp t=>simp only[Xn]at b;split at b;rename_i cs u j;by_cases i:lm cs c=Ta;simp only[i,zK,zad]at b;subst b;exact(h.all _ (pp j)).1 (Jf i k);grind;cases b
 |const u=>simp only[Xn,zad]at b;exact b
 |global g=>simp only[Xn,zad]at b;exact b
 |func f=>simp only[Xn,zad]at b;exact b
def jG(e:bR)(c:qw)(x:Operand):Value:=match Xn e c x with
 |some v=>v
 |none=>undef
def known(e:bR)(c:qw):List Operand->Bool
 |[]=>Ta
 |x::l=>match Xn e c x with
  |some _=>known e c l
  |none=>Tc
theorem J8{e:bR}(h:Sat n e a){c:qw}(j:valid (qk a) c){l:List Operand}(b:known e c l=Ta):∀x∈l,a.eval x=jG e c x:=by
 induction l with
 |nil=>simp
 |cons y l k=>intro x i;simp only[known]at b;split at b;rename_i v f;rcases zan.1 i with rfl|i;rw[qy h j f];simp[jG,f];grind;cases b
def J9:Op->Bool
 |.select _ _=>Tc
 |_=>Ta
theorem uB{e:bR}(h:Sat n e a){c:qw}(k:valid (qk a) c)(f:J9 o.op=Ta)(i:known e c o.op.operands.toList=Ta):
  execOp a.eval o=execOp (jG e c) o:=
 execOp_congr o (λcs b j=>by rw[j]at f;cases f) λx l=>J8 h k i x (by simpa using l)
def w8(ops:Array Oper)(j:Nat):Option Nat:=match ops[j]? with
 |some o=>o.dst
 |none=>Te
def xz(ops:Array Oper)(e:bR):Option (Nat×Bool)->Option qw
 |none=>Td []
 |some (j,p)=>match w8 ops j with
  |some g=>match look e g with
   |some (cg,.bool _)=>Td ((g,p)::cg)
   |_=>Te
  |none=>Te
def sD(e:bR):qw->Option Bool
 |[]=>Td Ta
 |(g,p)::c=>match look e g with
  |some (cg,.bool b)=>bif Zu cg c then(match sD e c with
    |some cb=>Td (cb&&(bif p then b else !b))
    |none=>Te)else Te
  |_=>Te
theorem DV{b:Bool}:undef≠.bool b:=by simp[undef]
theorem wP{n:Nat}{e:bR}{a:Act}(h:Sat n e a):∀{c:qw} {b:Bool},sD e c=Td b->(b=Ta↔valid (qk a) c)
 |[],b,hb=>by simp only[sD,zad]at hb;simp[<-hb,valid]
 |(g,p)::c,b,hb=>by
  simp only[sD]at hb;split at hb;rename_i r l m;by_cases k:Zu r c=Ta;simp only[k,zK]at hb;split at hb;rename_i cb i;simp only[zad]at hb;have q:=wP h i;have j:=h.all _ (pp m);rw[Je k]at j;by_cases f:valid (qk a) c;have h1:qk a g=.bool l:=j.1 f;have o:=q.2 f;subst hb;simp only[valid,h1,f,o,zct,and_true,Value.bool.injEq];grind;have h1:cb=Tc:=by cases cb with|false=>rfl|true=>simp_all
  subst hb;simp[valid,f,h1];cases hb;grind;cases hb
theorem Z6{ops:Array Oper}{e:bR}(h:Sat n e a){c:qw}(f:xz ops e o.guard=Td c):
  zbr o (yielded ops a.tmps)=Ta↔valid (qk a) c:=by
 unfold zbr;cases hg:o.guard with
 |none=>rw[hg]at f;simp only[xz,zad]at f;simp[<-f,valid]
 |some t=>
  obtain⟨j,p⟩:=t;rw[hg]at f;simp only[xz]at f;split at f;rename_i g i;split at f;rename_i u b q;simp only[zad]at f;subst f;have k:((ops[j]?).bind (·.dst))=Td g:=by simp only[w8]at i;split at i;simp_all;cases i
  have m:=h.all _ (pp q);have r:yielded ops a.tmps j=Td p↔qk a g=.bool p:=by
   unfold yielded qk;rw[k];simp only[zcr];cases ht:a.tmps[g]? with
   |none=>simp[zcb,ht,undef]
   |some v=>cases v <;> simp[zcb,ht]
  simp only[beq_iff_eq,r,valid];constructor;intro h1;refine⟨h1,?_⟩;by_cases l:valid (qk a) u;exact l;have:=m.2 l;simp only at this;rw[h1]at this;exact absurd this.symm DV;simp_all;cases f;cases f
structure Keep (n:Nat) (h h':zc):Prop where
 size:h.size<=h'.size
 get:∀i,i<n->h'[i]?=h[i]?
theorem Keep.refl(n:Nat)(h:zc):Keep n h h:=⟨zac _,λ_ _=>rfl⟩
theorem Keep.trans{a b c:zc}(h:Keep n a b)(k:Keep m b c)(e:n<=m):Keep n a c:= ⟨zch h.size k.size,λi hi=>(k.get i (zdb hi e)).trans (h.get i hi)⟩
theorem Keep.mono{a b:zc}(h:Keep n a b)(c:m<=n):Keep m a b:=⟨h.size,λi hi=>h.get i (zdb hi c)⟩
theorem Keep.push(h:zc)(o:Obj)(b:n<=h.size):Keep n h (h.push o):= ⟨by simp,λi hi=>by grind⟩
end
section
variable {P:Program} {α:Type} {h:zc} {v x i:Value} {t:TypeId} {g:Option Bool} {n l r:Int}
def zd(h:zc)(a:Addr):Option Value:=
 match h[a.block]? with
 |some (.cells c _ _)=>if a.spot.isSome then Te else c[a.off]?
 |_=>Te
theorem yV(B:World)(d:Nat)(h:zc)(a:Addr):(mk B d h).cell? a=zd h a:=rfl
def Yw(P:Program){α:Type}:Sem α->Option α
 |.pure a=>Td a
 |.program k=>Yw P (k P)
 |.mark _ k=>Yw P k
 |_=>Te
def QExec(P:Program){α:Type}(s:Sem α)(h:zc)(x:α):Prop:=∀B d,s.run P (mk B d h)=.ok x (mk B d h)
theorem IF{s:Sem α}{x:α}(h:Yw P s=Td x)(w:World):s.run P w=.ok x w:=by
 induction s with
 |pure a=>simp only[Yw,zad]at h;subst h;rfl
 |program k b=>exact b P h
 |mark m k b=>exact b h
 |_=>simp[Yw]at h
theorem LZ{s:Sem α}{x:α}(h:Yw P s=Td x)(b:zc):QExec P s b x:=λ_ _=>IF h _
theorem QExec.bind{α β:Type}{s:Sem α}{f:α->Sem β}{x:α}{y:β}(h1:QExec P s h x)(b:QExec P (f x) h y):QExec P (s >>= f) h y:=by intro B d;rw[Sem.run_bind,h1 B d];exact b B d
theorem QExec.pure(x:α):QExec P (zek x) h x:=λ_ _=>rfl
theorem QExec.val{s:Sem Value}(h1:QExec P s h v):QExec P (s >>= λx=>zek (zep x)) h (zep v):=h1.bind (QExec.pure _)
theorem QExec.underlying{d:TypeDesc}(b:P.underlying t=Td d):QExec P (Go.underlying t) h d:=by intro B e;simp[Go.underlying,program,b,Sem.run]
def j4(P:Program)(t:TypeId):Nat:=match P.info? t with
 |some i=>i.size
 |none=>0
theorem QExec.sizeOf{i:TypeInfo}(hi:P.info? t=Td i):QExec P (Go.sizeOf t) h (j4 P t):=by intro B d;simp[Go.sizeOf,typeInfo,program,hi,Sem.run,j4]
theorem info_of_underlying{d:TypeDesc}(b:P.underlying t=Td d):∃i,P.info? t=Td i:=by unfold Program.underlying at b;grind
inductive Atom where
 |int (k:IntKind)|bool|str|sl|mp|ptr|raw|ad
structure Sl where
 a:Option Addr
 len:Nat
 cap:Nat
@[reducible] def Atom.den:Atom->Type
 |.int _=>Int | .bool=>Bool | .str=>Bt | .sl=>Sl | .mp=>Option Nat | .ptr=>Option Addr | .raw=>Value | .ad=>Addr
def Atom.enc:(t:Atom)->t.den->Value
 |.int k,n=>.int k n
 |.bool,b=>.bool b
 |.str,s=>.string s
 |.sl,s=>.slice s.a s.len s.cap
 |.mp,m=>.map m
 |.ptr,p=>.pointer p
 |.raw,v=>v
 |.ad,p=>.pointer (Td p)
def Atom.dec:(t:Atom)->Value->Option t.den
 |.int k,.int k' n=>if k=k' then Td n else Te
 |.bool,.bool b=>Td b
 |.str,.string s=>Td s
 |.sl,.slice a l c=>Td ⟨a,l,c⟩
 |.mp,.map m=>Td m
 |.ptr,.pointer p=>Td p
 |.raw,v=>Td v
 |.ad,.pointer (Td p)=>Td p
 |_,_=>Te
theorem Atom.enc_of_dec{t:Atom}{x:t.den}(h:t.dec v=Td x):t.enc x=v:=by
 cases t with
 |ad=>
  cases v with
  |pointer p=>
   cases p with
   |none=>simp[Atom.dec]at h
   |some a=>simp[Atom.dec]at h;rw[h];rfl
  |_=>simp[Atom.dec]at h
 |_=>cases v <;> simp_all[Atom.dec,Atom.enc] <;> (grind)
inductive VT where
 |one (t:Atom)
 |agg (l:List Atom)
inductive RT where
 |one (v:VT)
 |tup (l:List VT)
def tX:List Atom->(List Value->Prop)->Prop
 |[],F=>F []
 |t::l,F=>∃x:t.den,tX l λvs=>F (t.enc x::vs)
def vJ:VT->(Value->Prop)->Prop
 |.one t,F=>∃x:t.den,F (t.enc x)
 |.agg l,F=>tX l λvs=>F (.agg vs.toArray)
def yC:List VT->(List Value->Prop)->Prop
 |[],F=>F []
 |t::l,F=>vJ t λv=>yC l λvs=>F (v::vs)
def mU:RT->(Value->Prop)->Prop
 |.one v,F=>vJ v F
 |.tup l,F=>yC l λvs=>F (.tuple vs.toArray)
def rE:List Atom->(List Value->Prop)->Prop
 |[],F=>F []
 |t::l,F=>∀x:t.den,rE l λvs=>F (t.enc x::vs)
def rT:VT->(Value->Prop)->Prop
 |.one t,F=>∀x:t.den,F (t.enc x)
 |.agg l,F=>rE l λvs=>F (.agg vs.toArray)
def pF:List VT->(List Value->Prop)->Prop
 |[],F=>F []
 |t::l,F=>rT t λv=>pF l λvs=>F (v::vs)
def H6:RT->(Value->Prop)->Prop
 |.one v,F=>rT v F
 |.tup l,F=>pF l λvs=>F (.tuple vs.toArray)
theorem Jg:∀{l:List Atom} {F G:List Value->Prop},tX l F->rE l G->∃vs,vs.length=l.length/\F vs/\G vs
 |[],_,_,h,g=>⟨[],rfl,h,g⟩
 |_::_,_,_,⟨x,h⟩,g=>let ⟨vs,h0,h1,h2⟩:=Jg h (g x);⟨_,by simp[h0],h1,h2⟩
theorem w9:∀(l:List Atom),rE l λ_=>True
 |[]=>trivial
 |_::l=>λ_=>w9 l
theorem Bi{v:VT}{F G:Value->Prop}(h:vJ v F)(g:rT v G):∃u,F u/\G u:=by
 cases v with
 |one t=>obtain⟨x,h⟩:=h;exact⟨_,h,g x⟩
 |agg l=>obtain⟨vs,_,h1,b⟩:=Jg h g;grind
theorem Vj(v:VT):rT v λ_=>True:=by
 cases v with
 |one t=>exact λ_=>trivial
 |agg l=>exact w9 l
theorem AN:∀{l:List VT} {F G:List Value->Prop},yC l F->pF l G->∃vs,F vs/\G vs
 |[],_,_,h,g=>⟨[],h,g⟩
 |_::_,_,_,h,g=>let ⟨_,h1,h2⟩:=Bi h g;let ⟨_,h3,h4⟩:=AN h1 h2;⟨_,h3,h4⟩
theorem Ep:∀(l:List VT),pF l λ_=>True
 |[]=>trivial
 |v::l=>by
  have h:=Ep l;simp only[pF];cases v with
  |one t=>exact λ_=>h
  |agg b=>
   simp only[rT];have key:∀(b:List Atom) (f:List Value->List Value),rE b λ_=>pF l λ_=>True:=λb _=>by
    induction b with
    |nil=>exact h
    |cons t b c=>exact λ_=>c
   exact key b id
theorem G0{r:RT}{F G:Value->Prop}(h:mU r F)(g:H6 r G):∃v,F v/\G v:=by
 cases r with
 |one v=>exact Bi h g
 |tup l=>obtain⟨vs,h1,b⟩:=AN h g;grind
theorem vd{r:RT}{F:Value->Prop}(h:mU r F):∃v,F v:=by
 cases r with
 |one v=>obtain⟨u,h1,_⟩:=Bi h (Vj v);grind
 |tup l=>obtain⟨vs,h1,_⟩:=AN h (Ep l);grind
def Du:TypeDesc->Atom
 |.int k=>.int k
 |.bool=>.bool
 |.string=>.str
 |.slice _=>.sl
 |.map _ _=>.mp
 |.pointer _=>.ptr
 |_=>.raw
def sU(P:Program):Nat->TypeId->Option (List Atom)
 |0,_=>Te
 |n+1,t=>match P.underlying t with
  |some (.struct fs)=>fs.toList.foldr (λf l=>match sU P n f.type,l with
    |some x,some y=>Td (x++y)
    |_,_=>Te) (Td [])
  |some (.array m e)=>match sU P n e with
    |some x=>Td (zcv m x).flatten
    |none=>Te
  |some d=>Td [Du d]
  |none=>Te
def kv(P:Program)(t:TypeId):Option VT:=match P.underlying t with
 |some (.struct _)|some (.array _ _)=>match sU P 8 t with
  |some l=>bif Nat.beq l.length (j4 P t)then Td (.agg l)else Te
  |none=>Te
 |some d=>Td (.one (Du d))
 |none=>Te
def H8(P:Program):List TypeId->Option (List VT)
 |[]=>Td []
 |t::l=>match kv P t,H8 P l with
  |some x,some y=>Td (x::y)
  |_,_=>Te
def sH(P:Program)(t:TypeId):Option RT:=match P.underlying t with
 |some (.tuple ts)=>match H8 P ts.toList with
  |some l=>Td (.tup l)
  |none=>Te
 |_=>match kv P t with
  |some v=>Td (.one v)
  |none=>Te
def req:Option Bool->Prop->Prop
 |none,p=>p
 |some b,p=>b=Ta->p
def im:Option Bool->Prop
 |none=>True
 |some b=>b=Ta
theorem req.out{p:Prop}(h:req g p)(c:im g):p:=by
 cases g with
 |none=>exact h
 |some b=>exact h c
def ze(h:zc)(p:Addr):Nat->List Value->Prop
 |_,[]=>True
 |i,v::vs=>zd h (p.add i)=Td v/\ze h p (i+1) vs
def nj(P:Program)(h:zc)(t:TypeId)(p:Value)(g:Option Bool)(K:Value->Prop):Prop:=
 match p,kv P t with
 |.pointer (Td p),Td (.one a)=>∃x:a.den,req g (zd h p=Td (a.enc x))/\K (a.enc x)
 |.pointer (Td p),Td (.agg l)=>tX l λvs=>req g (ze h p 0 vs)/\K (.agg vs.toArray)
 |_,_=>False
theorem X1{P:Program}{h:zc}{p:Addr}:∀(vs:List Value) (i:Nat) (b:Array Value),ze h p i vs->QExec P (loadCellsFrom p i vs.length b) h (b++vs.toArray)
 |[],i,b,_=>by intro B d;simp[loadCellsFrom]
 |v::vs,i,b,⟨h1,h2⟩=>by have c:=X1 (P:=P) vs (i+1) (b.push v) h2;intro B d;simp only[zaw,loadCellsFrom,Sem.run_bind,run_load];rw[yV,h1];simp only[Result.andThen_ok];rw[c B d];simp
theorem re{a:Atom}{p:Addr}(c:kv P t=Td (.one a))(i:zd h p=Td v):QExec P (loadVar t p) h v:=by
 unfold kv at c;cases hu:P.underlying t with
 |none=>simp_all
 |some d=>
  rw[hu]at c;intro B e;have f:=QExec.underlying (h:=h) hu B e;have b:(isAgg t).run P (mk B e h)=.ok Tc (mk B e h):=by unfold isAgg;rw[Sem.run_bind,f];cases d <;> first|rfl|grind
  unfold loadVar;rw[Sem.run_bind,b];simp only[Result.andThen_ok,zcj,if_false,run_load];rw[yV,i]
theorem rO{l:List Atom}{p:Addr}{vs:List Value}(c:kv P t=Td (.agg l))(u:vs.length=l.length)(q:ze h p 0 vs):QExec P (loadVar t p) h (.agg vs.toArray):=by
 unfold kv at c;cases hu:P.underlying t with
 |none=>simp_all
 |some d=>
  rw[hu]at c;obtain⟨i,hi⟩:=info_of_underlying hu;have b:(∃f,d=.struct f)\/(∃n e,d=.array n e):=by cases d <;> first|exact Or.inl ⟨_,rfl⟩|exact Or.inr ⟨_,_,rfl⟩|(simp at c)
  have r:j4 P t=l.length:=by
   have j:(match sU P 8 t with
     |some l=>bif Nat.beq l.length (j4 P t)then Td (VT.agg l)else Te
     |none=>Te)=Td (.agg l):=by
    rcases b with⟨f,rfl⟩|⟨n,e,rfl⟩ <;> exact c
   split at j;rename_i o _;cases hb:Nat.beq o.length (j4 P t)with
   |false=>simp_all
   |true=>simp_all
   cases j
  intro B e;have k:=QExec.underlying (h:=h) hu B e;have hA:(isAgg t).run P (mk B e h)=.ok Ta (mk B e h):=by unfold isAgg;rw[Sem.run_bind,k];rcases b with⟨f,rfl⟩|⟨n,w,rfl⟩ <;> rfl
  have m:=QExec.sizeOf (h:=h) hi B e;unfold loadVar;rw[Sem.run_bind,hA];simp only[Result.andThen_ok,if_true];rw[Sem.run_bind,m];simp only[Result.andThen_ok];have hL:=X1 (P:=P) vs 0 #[] q B e;unfold loadCells;simp_all
theorem HZ{p:Value}{K:Value->Prop}(H:nj P h t p g K):
  ∃v,K v/\(im g->QExec P (zee t p) h v):=by
 unfold nj at H;split at H;rename_i q a b;obtain⟨x,h1,c⟩:=H;exact⟨_,c,λe=>re b (h1.out e)⟩;rename_i q l b;obtain⟨vs,h0,⟨h1,c⟩,_⟩:=Jg H (w9 l);exact⟨_,c,λe=>rO b h0 (h1.out e)⟩;exact H.elim
def qK(P:Program)(t:TypeId)(x i:Value)(g:Option Bool)(K:Value->Prop):Prop:=
 match P.underlying t with
 |some (.slice el)=>match x,i with
  |.slice base len _,.int _ n=>∃a:Addr,req g (base=Td a/\0<=n/\n<(len:Int))/\K (.pointer (Td (a.add (n.toNat*j4 P el))))
  |_,_=>False
 |some (.array len el)=>match x,i with
  |.pointer base,.int _ n=>∃a:Addr,req g (base=Td a/\0<=n/\n<(len:Int))/\K (.pointer (Td (a.add (n.toNat*j4 P el))))
  |_,_=>False
 |_=>False
def yb(P:Program)(t:TypeId):Bool:=match P.info? t with
 |some _=>Ta
 |none=>Tc
theorem wb(h:yb P t=Ta):∃i,P.info? t=Td i:=by unfold yb at h;grind
theorem xh(t:TypeId)(B:World)(d:Nat):(∃i,P.info? t=Td i)->(Go.sizeOf t).run P (mk B d h)=.ok (j4 P t) (mk B d h):=λ⟨_,hi⟩=>QExec.sizeOf hi B d
theorem Z7{K:Value->Prop} (c:∀el,(P.underlying t=Td (.slice el)\/∃n,P.underlying t=Td (.array n el))->∃i,P.info? el=Td i) (H:qK P t x i g K):
  ∃v,K v/\(im g->∀h:zc,QExec P (zfd t x i) h v):=by
 unfold qK at H;split at H;rename_i el b;split at H;rename_i base len cap k n;obtain⟨a,h1,e⟩:=H;refine⟨_,e,λl=>?_⟩;obtain⟨rfl,f,o⟩:=h1.out l;intro h B d;have m:=QExec.underlying (h:=h) b B d;have j:=xh (h:=h) el B d (c el (Or.inl b));unfold zfd;simp[asIntOf,Sem.run_bind,m,j,f,o];exact H.elim;rename_i len el b;split at H;rename_i base k n;obtain⟨a,h1,e⟩:=H;refine⟨_,e,λl=>?_⟩;obtain⟨rfl,f,o⟩:=h1.out l;intro h B d;have m:=QExec.underlying (h:=h) b B d;have j:=xh (h:=h) el B d (c el (Or.inr ⟨_,b⟩));unfold zfd;simp[asIntOf,Sem.run_bind,m,j,f,o,zeq];exact H.elim;exact H.elim
def yf(s:Bt)(i:Nat):Int:=((s.data[i]?.getD 0).toNat:Int)
def Al(x i:Value)(g:Option Bool)(K:Value->Prop):Prop:=
 match x,i with
 |.string s,.int _ n=>req g (0<=n/\n<(s.size:Int))/\K (.int .u8 (yf s n.toNat))
 |_,_=>False
theorem WU(s:Bt)(i:Nat)(h:i<s.size):s[i]?=Td (s.data[i]?.getD 0):=by have h':i<s.data.size:=h;rw[getElem?_pos s i h];simp[zcl h'];rfl
theorem X3{K:Value->Prop}(e:P.underlying t=Td .string)(H:Al x i g K):
  ∃v,K v/\(im g->∀h:zc,QExec P (Instr.index t x i) h v):=by
 unfold Al at H;split at H;rename_i s k n;obtain⟨h1,c⟩:=H;refine⟨_,c,λl=>?_⟩;obtain⟨f,m⟩:=h1.out l;intro h B d;have b:=QExec.underlying (h:=h) e B d;unfold Instr.index;have j:=WU s n.toNat (by omega);simp only[asIntOf,Sem.run_bind,b,Sem.run_pure,Result.andThen_ok,f,if_true,j,yf];exact H.elim
def x9(a:Option Addr)(sz l m:Nat):Option Addr:=if m=l then a else a.map (·.add (l*sz))
def y0:Option Value->Int->Option Int
 |none,d=>Td d
 |some (.int _ n),_=>Td n
 |some _,_=>Te
def s4(P:Program)(t:TypeId)(x:Value)(lo hi mx:Option Value)(g:Option Bool)(K:Value->Prop):Prop:=
 match P.underlying t with
 |some .string=>match x,mx with
  |.string s,none=>match y0 lo 0,y0 hi (s.size:Int)with
   |some l,some r=>req g (0<=l/\l<=r/\r<=(s.size:Int))/\K (.string (s.extract l.toNat r.toNat))
   |_,_=>False
  |_,_=>False
 |some (.slice el)=>match x with
  |.slice a len cap=>match y0 lo 0,y0 hi (len:Int),y0 mx (cap:Int)with
   |some l,Td r,some m=>(mx=Te\/∃v,hi=Td v)/\req g (0<=l/\l<=r/\r<=m/\m<=(cap:Int))/\K (.slice (x9 a (j4 P el) l.toNat m.toNat) (r.toNat-l.toNat) (m.toNat-l.toNat))
   |_,_,_=>False
  |_=>False
 |some (.array n el)=>match x,mx with
  |.pointer (Td a),none=>match y0 lo 0,y0 hi (n:Int)with
   |some l,some r=>req g (0<=l/\l<=r/\r<=(n:Int))/\K (.slice (x9 (Td a) (j4 P el) l.toNat n) (r.toNat-l.toNat) (n-l.toNat))
   |_,_=>False
  |_,_=>False
 |_=>False
theorem jm{v:Option Value}{d n:Int}(h:y0 v d=Td n):(v=Te/\n=d)\/∃k,v=Td (.int k n):=by unfold y0 at h;grind
theorem ja{k:IntKind}{y:Nat}{c:BoundsCode}(h0:0<=n)(h1:n<=(y:Int)):QExec P (Instr.sliceBound (.int k n) y c) h n.toNat:=by intro B d;simp[Instr.sliceBound,asIntOf,h0,h1]
theorem JN{n:Nat}{lo hi:Option Value}(f:y0 lo 0=Td l)(j:y0 hi (n:Int)=Td r)(c:0<=l)(i:l<=r)(b:r<=(n:Int)):
  QExec P (Instr.sliceBounds Tc n n lo hi Te) h (l.toNat,r.toNat,n):=by
 have e:(r.toNat:Int)=r:=Int.toNat_of_nonneg (by omega);rcases jm f with⟨rfl,rfl⟩|⟨k,rfl⟩ <;> rcases jm j with⟨rfl,rfl⟩|⟨k',rfl⟩;exact QExec.pure _;exact QExec.bind (QExec.pure n) (QExec.bind (ja (by omega) b) (QExec.pure _));exact QExec.bind (QExec.pure n) (QExec.bind (QExec.pure n) (QExec.bind (ja c i) (QExec.pure _)));exact QExec.bind (QExec.pure n) (QExec.bind (ja (by omega) b) (QExec.bind (ja c (by omega)) (QExec.pure _)))
theorem Rj{len cap:Nat}{lo hi mx:Option Value}{l r m:Int}(f:y0 lo 0=Td l)(i:y0 hi (len:Int)=Td r)(o:y0 mx (cap:Int)=Td m) (h0:mx=Te\/∃v,hi=Td v) (b:0<=l) (q:l<=r) (n:r<=m) (j:m<=(cap:Int)):
  QExec P (Instr.sliceBounds Ta len cap lo hi mx) h (l.toNat,r.toNat,m.toNat):=by
 have e:(r.toNat:Int)=r:=Int.toNat_of_nonneg (by omega);have w:(m.toNat:Int)=m:=Int.toNat_of_nonneg (by omega);rcases jm o with⟨rfl,rfl⟩|⟨u,rfl⟩;rcases jm f with⟨rfl,rfl⟩|⟨k,rfl⟩ <;> rcases jm i with⟨rfl,rfl⟩|⟨t,rfl⟩;exact QExec.pure _;exact QExec.bind (QExec.pure cap) (QExec.bind (ja (by omega) n) (QExec.pure _));exact QExec.bind (QExec.pure cap) (QExec.bind (QExec.pure len) (QExec.bind (ja b q) (QExec.pure _)));exact QExec.bind (QExec.pure cap) (QExec.bind (ja (by omega) n) (QExec.bind (ja b (by omega)) (QExec.pure _)));rcases h0 with h0|⟨v,rfl⟩;cases h0;rcases jm i with⟨c,_⟩|⟨t,c⟩;cases c;cases c;rcases jm f with⟨rfl,rfl⟩|⟨k,rfl⟩;exact QExec.bind (x:=m.toNat) (ja (by omega) j) (QExec.bind (ja (by omega) (by omega)) (QExec.pure _));exact QExec.bind (x:=m.toNat) (ja (by omega) j) (QExec.bind (ja (by omega) (by omega)) (QExec.bind (ja b (by omega)) (QExec.pure _)))
theorem Yx{lo hi mx:Option Value}{K:Value->Prop} (q:∀el,(P.underlying t=Td (.slice el)\/∃n,P.underlying t=Td (.array n el))->∃i,P.info? el=Td i) (H:s4 P t x lo hi mx g K):
  ∃v,K v/\(im g->∀h:zc,QExec P (ze1 t x lo hi mx) h v):=by
 unfold s4 at H;split at H;rename_i b;split at H;rename_i s;split at H;rename_i l r e j;obtain⟨h1,f⟩:=H;refine⟨_,f,λo=>?_⟩;obtain⟨k,u,w⟩:=h1.out o;intro h B d;have c:=QExec.underlying (h:=h) b B d;have bb:=JN (P:=P) (h:=h) e j k u w B d;unfold ze1;rw[Sem.run_bind,c];simp only[Result.andThen_ok];unfold Instr.slice;simp_all;exact H.elim;exact H.elim;rename_i el b;split at H;rename_i a len cap;split at H;rename_i l r m e j z;obtain⟨h0,h1,f⟩:=H;refine⟨_,f,λo=>?_⟩;obtain⟨k,u,w,A⟩:=h1.out o;intro h B d;have c:=QExec.underlying (h:=h) b B d;have y:=xh (h:=h) el B d (q el (.inl b));have bb:=Rj (P:=P) (h:=h) e j z h0 k u w A B d;unfold ze1;rw[Sem.run_bind,c];simp only[Result.andThen_ok];unfold Instr.slice;rw[Sem.run_bind,c];simp[bb,y,x9];exact H.elim;exact H.elim;rename_i n el b;split at H;rename_i a;split at H;rename_i l r e j;obtain⟨h1,f⟩:=H;refine⟨_,f,λo=>?_⟩;obtain⟨k,u,w⟩:=h1.out o;intro h B d;have c:=QExec.underlying (h:=h) b B d;have y:=xh (h:=h) el B d (q el (.inr ⟨n,b⟩));have bb:=JN (P:=P) (h:=h) e j k u w B d;unfold ze1;rw[Sem.run_bind,c];simp only[Result.andThen_ok,zeq,Sem.run_bind,Sem.run_pure,bb,y];unfold x9;split <;> rfl;exact H.elim;exact H.elim;exact H.elim
end
section
variable {P:Program} {f:FuncId} {h:zc} {K:Value -> zc -> Prop} {t ty t':TypeId} {g:Option Bool} {w w':World} {v:Value} {o:Oper} {ρ:Operand -> Value} {a:Act}
def XC(P:Program)(f:FuncId)(args:Array Value)(h:zc)(R:Value->zc->Prop):Prop:=
 ∀B d,Calls P f args (mk B d h) λe w'=>∃v b h',e=.returned v/\w'=mk B b h'/\R v h'
theorem XC.mono{args:Array Value}{R b:Value->zc->Prop}(H:XC P f args h R)(e:∀v h',R v h'->b v h'):XC P f args h b:= λB d=>(H B d).mono λ_ _ ⟨v,i,h',c,j,r⟩=>⟨v,i,h',c,j,e _ _ r⟩
def qu(P:Program)(s:Sem Value)(h:zc)(K:Value->zc->Prop):Prop:=∀B d,∃v b h',s.run P (mk B d h)=.ok v (mk B b h')/\K v h'
def XRunU(P:Program)(s:Sem Unit)(h:zc)(K:zc->Prop):Prop:=∀B d,∃b h',s.run P (mk B d h)=.ok () (mk B b h')/\K h'
theorem XRunU.mono{s:Sem Unit}{K b:zc->Prop}(H:XRunU P s h K)(c:∀h',K h'->b h'):XRunU P s h b:= λB d=>let ⟨d',h',e,k⟩:=H B d;⟨d',h',e,c _ k⟩
def j6(n:Nat):Prop:=n<=9223372036854775807
def kw(P:Program)(s:Sem Next)(K:Value->Prop):Prop:=match Yw P s with
 |some (.value v)=>K v
 |_=>False
def s7(P:Program)(ty:TypeId)(s:Sem Value)(g:Option Bool)(h:zc)(K:Value->Prop):Prop:=match sH P ty with
 |some b=>mU b λv=>req g (QExec P s h v)/\K v
 |none=>False
def pD(P:Program)(t:TypeId):Bool:=match P.underlying t with
 |some (.slice _)=>Ta
 |_=>Tc
def oZ(P:Program)(t:TypeId):Bool:=match P.underlying t with
 |some (.pointer e)=>Nat.beq e (P.pointee t)
 |_=>Tc
theorem HE(h:oZ P t=Ta):P.underlying t=Td (.pointer (P.pointee t)):=by unfold oZ at h;grind [za4]
def vC(P:Program)(t:TypeId)(s:Sem Next)(c:BinOp)(x y:Value)(g:Option Bool)(K:Value->Prop):Prop:=
 match c,x,y with
 |.eql,.slice a _ _,.slice Te 0 0=>bif pD P t then K (.bool a.isNone)else kw P s K
 |.neq,.slice a _ _,.slice Te 0 0=>bif pD P t then K (.bool (!a.isNone))else kw P s K
 |.eql,.pointer a,.pointer none=>bif oZ P t then K (.bool a.isNone)else kw P s K
 |.neq,.pointer a,.pointer none=>bif oZ P t then K (.bool (!a.isNone))else kw P s K
 |.quo,.int k a,.int k' b=>k=k'/\req g (b≠0)/\K (.int k (k.wrap (a.tdiv b)))
 |.rem,.int k a,.int k' b=>k=k'/\req g (b≠0)/\K (.int k (a.tmod b))
 |.add,.string a,.string b=>req g (j6 (a.size+b.size))/\K (.string (a++b))
 |_,_,_=>kw P s K
def AU(b:BinOp)(y:Operand):Bool:=match y with
 |.const _=>Tc
 |_=>match b with
  |.shl | .shr=>Ta
  |_=>Tc
def u6(c:BinOp)(x y:Value)(g:Option Bool)(K:Value->Prop):Prop:=
 match x,y with
 |.int k a,.int _ b=>match c with
  |.shl=>req g (0<=b)/\K (.int k (k.wrap (a*2 ^ (min b.toNat k.bits))))
  |.shr=>req g (0<=b)/\K (.int k (a.fdiv (2 ^ (min b.toNat k.bits))))
  |_=>False
 |_,_=>False
def qF(P:Program)(t:TypeId)(y:Operand):Bool:=match y with
 |.const .nilIface=>match P.underlying t with
  |some (.interface _)=>Ta
  |_=>Tc
 |_=>Tc
def nX:Value->Bool
 |.nilIface=>Ta
 |.iface _ _=>Ta
 |_=>Tc
def pG:Value->Bool
 |.nilIface=>Ta
 |_=>Tc
def uf(b:BinOp)(x y:Value)(g:Option Bool)(K:Value->Prop):Prop:=match y with
 |.nilIface=>match b with
  |.eql=>req g (nX x=Ta)/\K (.bool (pG x))
  |.neq=>req g (nX x=Ta)/\K (.bool (!pG x))
  |_=>False
 |_=>False
def Gs(b:Builtin)(c:Array TypeId)(e:TypeId)(args:Array Value):Option (Sem Value):=
 match b with
 |.append=>Td (zao c e args)
 |.copy=>Td (zd9 c e args)
 |.clear=>Td (zer c e args)
 |.delete=>Td (Builtin.delete_ c e args)
 |.len=>Td (zdm c e args)
 |_=>Te
def xB(P:Program)(s:Sem Next)(ty:TypeId)(b:Array TypeId)(args:Array Value)(g:Option Bool)(h:zc)(K:Value->Prop):Prop:=
 match (args[0]?:Option Value)with
 |some (Value.map _)=>s7 P ty (zdm b ty args) g h K
 |_=>kw P s K
def l6(P:Program)(t:TypeId):Bool:=match P.underlying t with
 |some (.slice el)=>yb P el
 |some (.array _ el)=>yb P el
 |_=>Ta
theorem Zv(h:l6 P t=Ta):∀el,(P.underlying t=Td (.slice el)\/∃n,P.underlying t=Td (.array n el))->∃i,P.info? el=Td i:=by intro el b;unfold l6 at h;grind [wb]
def qL(P:Program)(t:TypeId):Bool:=match P.underlying t with
 |some .string=>Ta
 |_=>Tc
theorem HV(h:qL P t=Ta):P.underlying t=Td .string:=by unfold qL at h;grind
def sY(P:Program)(s:Sem Next)(x:Value)(g:Option Bool)(K:Value->Prop):Prop:=match x with
 |.pointer p=>∃a:Addr,req g (p=Td a)/\K (.pointer (Td a))
 |_=>kw P s K
def X4(P:Program)(o:Oper)(ρ:Operand->Value)(g:Option Bool)(h:zc)(K:Value->Prop):Prop:=
 match o.op with
 |.load t a=>nj P h t (ρ a) g K
 |.indexAddr t x i=>bif l6 P t then qK P t (ρ x) (ρ i) g K else False
 |.index t x i=>bif qL P t then Al (ρ x) (ρ i) g K else kw P (execOp ρ o) K
 |.slice t x lo hi mx=>bif l6 P t then s4 P t (ρ x) (lo.map ρ) (hi.map ρ) (mx.map ρ) g K else False
 |.binOp b t x y _=>bif AU b y then u6 b (ρ x) (ρ y) g K else bif qF P t y then uf b (ρ x) (ρ y) g K else vC P t (execOp ρ o) b (ρ x) (ρ y) g K
 |.lookup t m k ok=>s7 P o.type (zc1 t (ρ m) (ρ k) ok) g h K
 |.nilCheck x=>sY P (execOp ρ o) (ρ x) g K
 |.call c=>match c.callee with
  |.builtin .len=>xB P (execOp ρ o) o.type c.argTypes (c.args.map ρ) g h K
  |_=>kw P (execOp ρ o) K
 |_=>kw P (execOp ρ o) K
theorem qg{s:Sem Next}{K:Value->Prop}(H:kw P s K)(g:Option Bool):∃v,K v/\(im g->∀h:zc,QExec P s h (.value v)):=by unfold kw at H;grind [LZ]
theorem DX{s:Sem Value}{K:Value->Prop}(H:s7 P ty s g h K):∃v,K v/\(im g->QExec P s h v):=by unfold s7 at H;split at H;obtain⟨v,h1,c⟩:=vd H;exact⟨v,c,λb=>h1.out b⟩;exact H.elim
theorem Za{c:BinOp}(t:TypeId)(x y:Operand)(a b:Value)(h1:(c matches .eql | .neq)=Tc):eqGuard c t x y a b=pure ():=by unfold eqGuard;grind
theorem tW{s:Sem Value}(h:s.run P w=.ok v w'):(s >>= λx=>(zek (zep x):Sem Next)).run P w=.ok (.value v) w':=by simp_all
theorem pv{s:Sem Next}{K:Value->Prop}(h:zc)(H:∃v,K v/\(im g->∀h:zc,QExec P s h (.value v))):∃v,K v/\(im g->QExec P s h (.value v)):=
 let ⟨v,h1,h2⟩:=H;⟨v,h1,λb=>h2 b h⟩
theorem SH{q:BinOp}{x y:Operand}(r:o.op=.binOp q t x y t'){K:Value->Prop}
  (H:vC P t (execOp ρ o) q (ρ x) (ρ y) g K):∃v,K v/\(im g->∀h:zc,QExec P (execOp ρ o) h (.value v)):=by
 have f:∀(q:BinOp) (x y:Operand) (a b:Option Addr) (l c C A:Nat) (w:World),(eqGuard q t x y (.slice a l c) (.slice b C A)).run P w=.ok () w:=λq x y a b l c C A w=>by unfold eqGuard;simp
 have e:∀(q:BinOp) (x y:Operand) (a b:Option Addr) (w:World),(eqGuard q t x y (.pointer a) (.pointer b)).run P w=.ok () w:=λq x y a b w=>by unfold eqGuard;simp
 unfold vC at H;split at H;rename_i a l c j i;cases hs:pD P t with
 |false=>rw[hs]at H;exact qg H g
 |true=>
  rw[hs,zK]at H;refine⟨_,H,λn h B d=>?_⟩;have m:∃el,P.underlying t=Td (.slice el):=by unfold pD at hs;split at hs;simp_all;cases hs
  obtain⟨el,m⟩:=m;simp only[execOp,r,j,i];refine tW ?_;rw[Sem.run_bind,f];simp only[Result.andThen_ok,binOp,Sem.run_bind,run_equal_slice_nil _ t _ _ _ _ m];rfl
 rename_i a l c j i;cases hs:pD P t with
 |false=>rw[hs]at H;exact qg H g
 |true=>
  rw[hs,zK]at H;refine⟨_,H,λn h B d=>?_⟩;have m:∃el,P.underlying t=Td (.slice el):=by unfold pD at hs;split at hs;simp_all;cases hs
  obtain⟨el,m⟩:=m;simp only[execOp,r,j,i];refine tW ?_;rw[Sem.run_bind,f];simp only[Result.andThen_ok,binOp,Sem.run_bind,run_equal_slice_nil _ t _ _ _ _ m];rfl
 rename_i a j i;cases hs:oZ P t with
 |false=>rw[hs]at H;exact qg H g
 |true=>rw[hs,zK]at H;refine⟨_,H,λn h B d=>?_⟩;have m:=HE hs;simp only[execOp,r,j,i];refine tW ?_;rw[Sem.run_bind,e];simp only[Result.andThen_ok,binOp,Sem.run_bind,run_equal_pointer_nil _ t _ m];rfl
 rename_i a j i;cases hs:oZ P t with
 |false=>rw[hs]at H;exact qg H g
 |true=>rw[hs,zK]at H;refine⟨_,H,λn h B d=>?_⟩;have m:=HE hs;simp only[execOp,r,j,i];refine tW ?_;rw[Sem.run_bind,e];simp only[Result.andThen_ok,binOp,Sem.run_bind,run_equal_pointer_nil _ t _ m];rfl
 rename_i k a E b j i;obtain⟨rfl,h1,u⟩:=H;refine⟨_,u,λn=>?_⟩;have z:=h1.out n;intro h B d;simp only[execOp,r,j,i];rw[Za _ _ _ _ _ rfl];simp[binOp,Op.intDiv,z];rename_i k a E b j i;obtain⟨rfl,h1,u⟩:=H;refine⟨_,u,λn=>?_⟩;have z:=h1.out n;intro h B d;simp only[execOp,r,j,i];rw[Za _ _ _ _ _ rfl];simp[binOp,Op.intDiv,z];rename_i a b j i;obtain⟨h1,u⟩:=H;refine⟨_,u,λn=>?_⟩;have z:=h1.out n;intro h B d;simp only[execOp,r,j,i];rw[Za _ _ _ _ _ rfl];have D:¬((a.size+b.size:Nat):Int)>IntKind.i64.max:=by
  unfold j6 at z;have:IntKind.i64.max=9223372036854775807:=by decide
  omega
 simp only[binOp,Op.stringOp,zv D];rfl;exact qg H g
theorem Sq{l:BinOp}{x y:Operand}(f:o.op=.binOp l t x y t'){K:Value->Prop}
  (H:u6 l (ρ x) (ρ y) g K):∃v,K v/\(im g->∀h:zc,QExec P (execOp ρ o) h (.value v)):=by
 unfold u6 at H;split at H;rename_i k a n b j i;split at H;obtain⟨h1,c⟩:=H;refine⟨_,c,λe h B d=>?_⟩;have m:=h1.out e;simp only[execOp,f,j,i];rw[Za _ _ _ _ _ rfl];simp only[binOp,Op.shift,zv (show¬b<0 by omega)];rfl;obtain⟨h1,c⟩:=H;refine⟨_,c,λe h B d=>?_⟩;have m:=h1.out e;simp only[execOp,f,j,i];rw[Za _ _ _ _ _ rfl];simp only[binOp,Op.shift,zv (show¬b<0 by omega)];rfl;exact H.elim;exact H.elim
theorem WC{b:BinOp}{x y:Operand}(j:o.op=.binOp b t x y t'){K:Value->Prop}
  (i:qF P t y=Ta) (H:uf b (ρ x) (ρ y) g K):∃v,K v/\(im g->∀h:zc,QExec P (execOp ρ o) h (.value v)):=by
 have f:∃ms,P.underlying t=Td (.interface ms)/\y=.const .nilIface:=by unfold qF at i;split at i;grind;cases i
 obtain⟨ms,f,rfl⟩:=f;have key:∀{u:Value} (h:zc),nX u=Ta->QExec P (zfh t u .nilIface) h (pG u):=by intro u h hi B d;have m:=QExec.underlying (h:=h) f B d;unfold zfh Op.maxDepth;cases u <;> first|(cases hi;done)|(unfold Op.equalIn;rw[Sem.run_bind,m];rfl)
 have l:∀b u (h:zc),nX u=Ta->QExec P (eqGuard b t x (.const .nilIface) u .nilIface) h ():=by intro b u h hi B d;unfold eqGuard;cases u <;> first|simp|simp
 have c:∀b u,nX u=Ta->(binOp b t u .nilIface=match b with | .eql=>(do pure (.bool (<-zfh t u .nilIface))) | .neq=>(do pure (.bool (!(<-zfh t u .nilIface))))|_=>binOp b t u .nilIface):=by intro b u hi;cases u <;> first|(cases hi;done)|(cases b <;> rfl)
 unfold uf at H;split at H;rename_i k;split at H;refine⟨_,H.2,λe h=>?_⟩;have hi:=H.1.out e;simp only[execOp,j,k];refine QExec.val ((l _ _ h hi).bind ?_);rw[c _ _ hi];exact(key h hi).bind (QExec.pure _);refine⟨_,H.2,λe h=>?_⟩;have hi:=H.1.out e;simp only[execOp,j,k];refine QExec.val ((l _ _ h hi).bind ?_);rw[c _ _ hi];exact(key h hi).bind (QExec.pure _);exact H.elim;exact H.elim
theorem zY{b:BinOp}{x y:Operand}(c:o.op=.binOp b t x y t'){K:Value->Prop}
  (H:bif AU b y then u6 b (ρ x) (ρ y) g K else bif qF P t y then uf b (ρ x) (ρ y) g K else vC P t (execOp ρ o) b (ρ x) (ρ y) g K):∃v,K v/\(im g->∀h:zc,QExec P (execOp ρ o) h (.value v)):=by
 cases hb:AU b y with
 |true=>rw[hb]at H;exact Sq c H
 |false=>
  rw[hb]at H;cases hn:qF P t y with
  |true=>rw[hn]at H;exact WC c hn H
  |false=>rw[hn]at H;exact SH c H
theorem Nf{c:Call}(b:o.op=.call c)(i:c.callee=.builtin .len){K:Value->Prop}
  (H:xB P (execOp ρ o) o.type c.argTypes (c.args.map ρ) g h K):∃v,K v/\(im g->QExec P (execOp ρ o) h (.value v)):=by
 unfold xB at H;split at H;obtain⟨v,h1,e⟩:=DX H;refine⟨v,h1,λf=>?_⟩;have:=e f;intro B d;simp only[execOp,b,resolve,i,Sem.run_bind,Sem.run_pure,Result.andThen_ok,invoke,builtin];rw[this B d];rfl;exact pv h (qg H g)
theorem Ah{K:Value->Prop}(H:X4 P o ρ g h K):∃v,K v/\(im g->QExec P (execOp ρ o) h (.value v)):=by
 unfold X4 at H;split at H;rename_i t a b;obtain⟨v,h1,e⟩:=HZ H;refine⟨v,h1,λf=>?_⟩;simp only[execOp,b];exact(e f).val;rename_i t x i b;cases he:l6 P t with
 |false=>simp_all
 |true=>rw[he]at H;obtain⟨v,h1,e⟩:=Z7 (Zv he) H;refine⟨v,h1,λf=>?_⟩;simp only[execOp,b];exact(e f h).val
 rename_i t x i b;cases he:qL P t with
 |false=>rw[he]at H;exact pv h (qg H g)
 |true=>rw[he]at H;obtain⟨v,h1,e⟩:=X3 (HV he) H;refine⟨v,h1,λf=>?_⟩;simp only[execOp,b];exact(e f h).val
 rename_i t x lo hi mx b;cases he:l6 P t with
 |false=>simp_all
 |true=>rw[he]at H;obtain⟨v,h1,e⟩:=Yx (Zv he) H;refine⟨v,h1,λf=>?_⟩;simp only[execOp,b];exact(e f h).val
 rename_i n t x y t' b;exact pv h (zY b H);rename_i t m k ok b;obtain⟨v,h1,e⟩:=DX H;refine⟨v,h1,λf=>?_⟩;simp only[execOp,b];exact(e f).val;rename_i x b;unfold sY at H;split at H;rename_i p l;obtain⟨a,h1,e⟩:=H;refine⟨_,e,λf=>?_⟩;have j:=h1.out f;subst j;intro B d;simp only[execOp,b,l];rfl;exact pv h (qg H g);rename_i c b;split at H;simp_all[Nf];exact pv h (qg H g);exact pv h (qg H g)
def mT(o:Oper):Bool:=match o.op with
 |.lookup .. => Tc
 |.call c=>match c.callee with
  |.builtin .len=>Tc
  |_=>Ta
 |_=>Ta
theorem Up{p:Addr}(H:zd h p=Td v):p.block<h.size:=by unfold zd at H;grind
theorem E5{h h':zc}(k:Keep h.size h h'){p:Addr}(H:zd h p=Td v):zd h' p=Td v:=by have:=Up H;unfold zd at H ⊢;rw[k.get _ this];exact H
theorem GB{h h':zc}(k:Keep h.size h h'){p:Addr}:∀{vs:List Value} {i:Nat},ze h p i vs->ze h' p i vs
 |[],_,_=>trivial
 |_::_,_,⟨h1,h2⟩=>⟨E5 k h1,GB k h2⟩
theorem Ba{K:Value->Prop}(w:mT o=Ta)(H:X4 P o ρ g h K):∃v,K v/\(im g->∀h',Keep h.size h h'->QExec P (execOp ρ o) h' (.value v)):=by
 unfold X4 at H;split at H;rename_i t a e;unfold nj at H;split at H;rename_i q b n u;obtain⟨x,h1,f⟩:=H;refine⟨_,f,λj h' r=>?_⟩;simp only[execOp,e,n];exact(re u (E5 r (h1.out j))).val;rename_i q l n u;obtain⟨vs,h0,⟨h1,f⟩,_⟩:=Jg H (w9 l);refine⟨_,f,λj h' r=>?_⟩;simp only[execOp,e,n];exact(rO u h0 (GB r (h1.out j))).val;exact H.elim;rename_i t x i e;cases he:l6 P t with
 |false=>simp_all
 |true=>rw[he]at H;obtain⟨v,h1,f⟩:=Z7 (Zv he) H;refine⟨v,h1,λj h' _=>?_⟩;simp only[execOp,e];exact(f j h').val
 rename_i t x i e;cases he:qL P t with
 |false=>rw[he]at H;obtain⟨v,h1,f⟩:=qg H g;grind
 |true=>rw[he]at H;obtain⟨v,h1,f⟩:=X3 (HV he) H;refine⟨v,h1,λj h' _=>?_⟩;simp only[execOp,e];exact(f j h').val
 rename_i t x lo hi mx e;cases he:l6 P t with
 |false=>simp_all
 |true=>rw[he]at H;obtain⟨v,h1,f⟩:=Yx (Zv he) H;refine⟨v,h1,λj h' _=>?_⟩;simp only[execOp,e];exact(f j h').val
 rename_i C t x y t' e;obtain⟨v,h1,f⟩:=zY e H;grind;rename_i t m k ok e;simp[mT,e]at w;rename_i x e;unfold sY at H;split at H;rename_i p z;obtain⟨a,h1,f⟩:=H;refine⟨_,f,λj h' _=>?_⟩;have n:=h1.out j;subst n;intro B d;simp only[execOp,e,z];rfl;obtain⟨v,h1,f⟩:=qg H g;grind;rename_i c e;split at H;rename_i A;simp[mT,e,A]at w;obtain⟨v,h1,f⟩:=qg H g;grind;obtain⟨v,h1,f⟩:=qg H g;grind
def mR(P:Program){α:Type}:Sem α->zc->(α->zc->Prop)->Prop
 |.pure a,h,K=>K a h
 |.program k,h,K=>mR P (k P) h K
 |.mark _ k,h,K=>mR P k h K
 |.new o k,h,K=>mR P (k h.size) (h.push o) K
 |_,_,_=>False
theorem xT{α:Type}{s:Sem α}{K:α->zc->Prop}(H:mR P s h K)(B:World)(d:Nat):∃x h',s.run P (mk B d h)=.ok x (mk B d h')/\K x h':=by
 induction s generalizing h with
 |pure a=>exact⟨a,h,rfl,H⟩
 |program k b=>exact b P H
 |mark m k b=>exact b H
 |new o k b=>obtain⟨x,h',h1,c⟩:=b h.size H;exact⟨x,h',h1,c⟩
 |_=>exact H.elim
def typed(P:Program)(ty:TypeId)(v:Value)(K:Value->Prop):Prop:=match sH P ty with
 |some c=>mU c λb=>v=b/\K b
 |none=>False
theorem Zb{K:Value->Prop}(H:typed P ty v K):K v:=by unfold typed at H;split at H;obtain⟨b,h1,c⟩:=vd H;grind;exact H.elim
def zo(P:Program)(f:FuncId):Bool:=match P.funcs[f]? with
 |some fn=>(match fn.body with
  |some _=>Ta
  | none => false) && !(fn.name == "runtime.NumGoroutine")
 |none=>Tc
theorem X5(h:zo P f=Ta)(args:Array Value)(w:World):(callFunc f args).run P w=.ok (.enter f args) w:=by unfold zo at h;split at h;rename_i fn b;simp only[zam,zd4]at h;obtain⟨h1,c⟩:=h;unfold callFunc;simp only[program,Sem.run_bind,Sem.run,Result.andThen_ok,b];split at h1;simp_all;cases h1;cases h
def kU(P:Program)(v:Value)(args:Array Value)(K:FuncId->Array Value->Prop):Prop:=match v with
 |.func (.func f) first cap=>zo P f=Ta/\K f (first++args++cap)
 |_=>False
theorem DF{c:Call}{x:Operand}(b:o.op=.call c)(i:c.callee=.value x){K:FuncId->Array Value->Prop}(H:kU P (ρ x) (c.args.map ρ) K):
  ∃f args,K f args/\∀w,(execOp ρ o).run P w=.ok (.enter f args) w:=by
 unfold kU at H;split at H;rename_i f first cap e
 obtain⟨h1,h⟩:=H;refine⟨_,_,h,λw=>?_⟩;simp only[execOp,b,resolve,i,e,zev,Sem.run_bind,Sem.run_pure,Result.andThen_ok,invoke];exact X5 h1 _ w;exact H.elim
def sL:Operand->Bool
 |.func _=>Ta
 |_=>Tc
def UM(P:Program)(f:FuncId):Bool:=match P.funcs[f]? with
 |some fn=>(match fn.body with
  |some _=>Tc
  |none=>Ta)
 |none=>Tc
def Ay(P:Program)(f:FuncId)(args:Array Value)(h:zc)(K:Value->zc->Prop):Prop:=∀B d,∃v b h',(callFunc f args).run P (mk B d h)=.ok (.value v) (mk B b h')/\K v h'
def JQ(P:Program):Operand->Bool
 |.func f=>UM P f
 |_=>Tc
def AJ(P:Program)(v:Value)(args:Array Value)(h:zc)(K:Value->zc->Prop):Prop:=match v with
 |.func (.func f) first cap=>Ay P f (first++args++cap) h K
 |_=>False
theorem S5{c:Call}{x:Operand}(e:o.op=.call c)(k:c.callee=.value x)(H:AJ P (ρ x) (c.args.map ρ) h K)(B:World)(d:Nat):
  ∃v b h',(execOp ρ o).run P (mk B d h)=.ok (.value v) (mk B b h')/\K v h':=by
 unfold AJ at H;split at H;rename_i f first cap i
 obtain⟨v,b,h',h1,j⟩:=H B d;refine⟨v,b,h',?_,j⟩;simp only[execOp,e,resolve,k,i,zev,Sem.run_bind,Sem.run_pure,Result.andThen_ok,invoke];exact h1;exact H.elim
def Cm(P:Program)(t:TypeId):Bool:=match P.underlying t with
 |some (.map _ _)=>Ta
 |_=>Tc
def sX(P:Program)(o:Oper)(ρ:Operand->Value)(h:zc)(K:Value->zc->Prop):Prop:=
 match o.op with
 |.store t a x=>XRunU P (zag t (ρ a) (ρ x)) h λh'=>K undef h'
 |.mapUpdate t m k x=>XRunU P (zcz t (ρ m) (ρ k) (ρ x)) h λh'=>K undef h'
 |.insert t m k x=>XRunU P (zcz t (ρ m) (ρ k) (ρ x)) h λh'=>K undef h'
 |.entryStore t m s x=>XRunU P (Instr.entryStore t (ρ m) (ρ s) (ρ x)) h λh'=>K undef h'
 |.mapEntry t m k=>qu P (Instr.mapEntry t (ρ m) (ρ k)) h λv h'=>typed P o.type v λe=>K e h'
 |.makeSlice t l c=>qu P (zbp t (ρ l) (ρ c)) h λv h'=>typed P o.type v λe=>K e h'
 |.convert s t x=>qu P (convert s t (ρ x)) h λv h'=>typed P o.type v λe=>K e h'
 |.typeAssert x t t' ok=>qu P (Instr.typeAssert (ρ x) t t' ok) h λv h'=>typed P o.type v λe=>K e h'
 |.range t x=>bif Cm P t then qu P (ze5 t (ρ x)) h λv h'=>∃q:Option Addr,v=.pointer q/\K (.pointer q) h' else mR P (execOp ρ o) h λi h'=>match i with
   |.value v=>K v h'
   |.skip=>K undef h'
   |_=>False
 |.next x s=>bif s then qu P (zdx (ρ x) s o.type) h λv h'=>(v=.tuple #[.bool Tc]/\K (.tuple #[.bool Tc]) h')\/∃k u:Int,v=.tuple #[.bool Ta,.int .i64 k,.int .i32 u]/\K (.tuple #[.bool Ta,.int .i64 k,.int .i32 u]) h'
  else qu P (zdx (ρ x) s o.type) h λv h'=>(v=.tuple #[.bool Tc]/\K (.tuple #[.bool Tc]) h')\/∃k u:Value,v=.tuple #[.bool Ta,k,u]/\K (.tuple #[.bool Ta,k,u]) h'
 |.entry x=>qu P (zes (ρ x)) h λv h'=>∃k u:Value,v=.tuple #[k,u]/\K (.tuple #[k,u]) h'
 |.call c=>match c.callee with
  |.builtin b=>match Gs b c.argTypes o.type (c.args.map ρ)with
   |some s=>qu P s h λv h'=>typed P o.type v λe=>K e h'
   |none=>False
  |.value x=>bif JQ P x then AJ P (ρ x) (c.args.map ρ) h (λv h'=>typed P o.type v λe=>K e h')else bif sL x then(mR P (execOp ρ o) h λi h'=>match i with
   |.enter f args=>XC P f args h' λv h''=>typed P o.type v λe=>K e h''
   |.value v=>K v h'
   |_=>False)else kU P (ρ x) (c.args.map ρ) λf args=>XC P f args h λv h''=>typed P o.type v λe=>K e h''
  |_=>False
 |_=>mR P (execOp ρ o) h λi h'=>match i with
   |.value v=>K v h'
   |.skip=>K undef h'
   |_=>False
def UJ:Builtin->Bool
 |.append | .copy | .clear | .delete=>Ta
 |_=>Tc
def NZ(P:Program)(s t:TypeId):Bool:=match P.underlying s,P.underlying t with
 |some (.int _),Td (.int _)=>Ta
 |some .string,Td .string=>Ta
 |_,_=>Tc
def mL(P:Program)(o:Oper):Bool:=
 match o.op with
 |.load _ _ | .indexAddr _ _ _ | .index _ _ _ | .slice _ _ _ _ _ | .binOp _ _ _ _ _ | .lookup _ _ _ _ | .nilCheck _=>Ta
 |.move _ | .assign _ | .unOp _ _ _ | .build _ _ | .makeFunc _ _ _ | .makeInterface _ _ | .extract _ _ | .field _ _ _ | .fieldAddr _ _ _=>Ta
 |.convert s t _=>NZ P s t
 |.call c=>match c.callee with
  |.builtin b=>!UJ b
  |_=>Tc
 |_=>Tc
def BG(P:Program)(o:Oper)(ρ:Operand->Value)(b:Bool)(h:zc)(K:Value->zc->Prop):Prop:=
 match sH P o.type with
 |some c=>∃J:Value->zc->Prop,(b=Ta->sX P o ρ h J)/\(b=Tc->mU c λv=>J v h)/\(b=Ta->∀v h',J v h'->mU c λe=>v=e)/\H6 c λv=>∀h',J v h'->K v h'
 |none=>False
def stepW(P:Program)(o:Oper)(ρ:Operand->Value)(g:Option Bool)(h:zc)(K:Value->zc->Prop):Prop:=
 bif mL P o then X4 P o ρ g h (λv=>K v h)else match g with
  |none=>sX P o ρ h K
  |some b=>BG P o ρ b h K
theorem upon_value{next:Act->World->Prop}{Q:Exit->Act->World->Prop}{s:Sem Next}(h:s.run P w=.ok (.value v) w')(b:next (a.put o.dst v) w'): o.upon P a next Q (s.run P w):=by rw[h];exact b
theorem upon_skip{next:Act->World->Prop}{Q:Exit->Act->World->Prop}{s:Sem Next}(h:s.run P w=.ok .skip w')(b:next (a.put o.dst undef) w'): o.upon P a next Q (s.run P w):=by rw[h];exact b
theorem jF{s:Sem Value}(h:s.run P w=.ok v w'):(s >>= λx=>(zek (zep x):Sem Next)).run P w=.ok (.value v) w':=by simp_all
theorem pB{s:Sem Unit}(h:s.run P w=.ok () w'):(s >>= λ_=>(zek Next.skip:Sem Next)).run P w=.ok .skip w':=by simp_all
theorem Ek(H:sX P o ρ h K)(B:World)(d:Nat){next:Act->World->Prop}{Q:Exit->Act->World->Prop}
  (j:∀v i h',K v h'->next (a.put o.dst v) (mk B i h')):o.upon P a next Q ((execOp ρ o).run P (mk B d h)):=by
 unfold sX at H;split at H;case h_1 t x y ho=>obtain⟨i,h',h1,e⟩:=H B d;exact upon_skip (by simp only[execOp,ho];exact pB h1) (j _ _ _ e)
 case h_2 t m k x ho=>obtain⟨i,h',h1,e⟩:=H B d;exact upon_skip (by simp only[execOp,ho];exact pB h1) (j _ _ _ e)
 case h_3 t m k x ho=>obtain⟨i,h',h1,e⟩:=H B d;exact upon_skip (by simp only[execOp,ho];exact pB h1) (j _ _ _ e)
 case h_4 t m s x ho=>obtain⟨i,h',h1,e⟩:=H B d;exact upon_skip (by simp only[execOp,ho];exact pB h1) (j _ _ _ e)
 case h_5 t m k ho=>obtain⟨v,i,h',h1,e⟩:=H B d;exact upon_value (by simp only[execOp,ho];exact jF h1) (j _ _ _ (Zb e))
 case h_6 t l c ho=>obtain⟨v,i,h',h1,e⟩:=H B d;exact upon_value (by simp only[execOp,ho];exact jF h1) (j _ _ _ (Zb e))
 case h_7 s t x ho=>obtain⟨v,i,h',h1,e⟩:=H B d;exact upon_value (by simp only[execOp,ho];exact jF h1) (j _ _ _ (Zb e))
 case h_8 x t t' ok ho=>obtain⟨v,i,h',h1,e⟩:=H B d;exact upon_value (by simp only[execOp,ho];exact jF h1) (j _ _ _ (Zb e))
 case h_9 t x ho=>
  cases hm:Cm P t with
  |true=>rw[hm]at H;obtain⟨v,i,h',h1,q,rfl,e⟩:=H B d;exact upon_value (by simp only[execOp,ho];exact jF h1) (j _ _ _ e)
  |false=>rw[hm]at H;obtain⟨r,h',h1,e⟩:=xT H B d;grind [upon_value,upon_skip]
 case h_10 x s ho=>
  cases s with
  |true=>simp only[zK]at H;obtain⟨v,i,h',h1,e⟩:=H B d;refine upon_value (v:=v) (w':=mk B i h') (by simp only[execOp,ho];exact jF h1) (j _ _ _ ?_);grind
  |false=>simp only[zL]at H;obtain⟨v,i,h',h1,e⟩:=H B d;refine upon_value (v:=v) (w':=mk B i h') (by simp only[execOp,ho];exact jF h1) (j _ _ _ ?_);grind
 case h_11 x ho=>obtain⟨v,i,h',h1,k,u,rfl,e⟩:=H B d;exact upon_value (by simp only[execOp,ho];exact jF h1) (j _ _ _ e)
 case h_12 c ho=>
  split at H;rename_i b z;split at H;rename_i s n;obtain⟨v,i,h',h1,e⟩:=H B d;refine upon_value (w':=mk B i h') ?_ (j _ _ _ (Zb e));have key:execOp ρ o=s >>= λx=>(zek (zep x):Sem Next):=by
   simp only[execOp,ho,resolve,z];unfold Gs at n;split at n <;> first
    |(simp only[zad]at n;subst n;rfl)
    |cases n
  simp_all;exact H.elim
  ·rename_i x w;cases hex:JQ P x with
   |true=>rw[hex]at H;obtain⟨v,i,h',h1,e⟩:=S5 ho w H B d;exact upon_value h1 (j _ _ _ (Zb e))
   |false=>
   rw[hex]at H;simp only[zL]at H;cases hst:sL x with
   |true=>
    rw[hst]at H;obtain⟨r,h',h1,e⟩:=xT H B d;cases r with
    |enter f args=>rw[h1];refine(e B d).mono ?_;grind [Zb]
    |value v=>exact upon_value h1 (j _ _ _ e)
    |_=>exact e.elim
   |false=>rw[hst]at H;simp only[zL]at H;obtain⟨f,args,h1,e⟩:=DF ho w H;rw[e];refine(h1 B d).mono ?_;grind [Zb]
  exact H.elim
 case h_13=>obtain⟨r,h',h1,e⟩:=xT H B d;grind [upon_value,upon_skip]
theorem Ra(H:stepW P o ρ g h K)(c:im g)(B:World)(d:Nat){next:Act->World->Prop}{Q:Exit->Act->World->Prop}
  (e:∀v i h',K v h'->next (a.put o.dst v) (mk B i h')):o.upon P a next Q ((execOp ρ o).run P (mk B d h)):=by
 unfold stepW at H;cases hq:mL P o with
 |true=>rw[hq]at H;obtain⟨v,h1,f⟩:=Ah H;exact upon_value (f c B d) (e _ _ _ h1)
 |false=>
  rw[hq]at H;cases g with
  |none=>exact Ek H B d e
  |some b=>have j:b=Ta:=c;subst j;simp only[zL]at H;unfold BG at H;grind [Ek,G0]
theorem WH(H:stepW P o ρ (Td Tc) h K):∃v,K v h:=by
 unfold stepW at H;cases hq:mL P o with
 |true=>grind [Ah]
 |false=>rw[hq]at H;simp only[zL]at H;unfold BG at H;grind [G0]
end
section
variable {n:Nat} {e:bR} {a b:Act} {c:qw} {g:Option Bool} {P:Program} {o:Oper} {h:zc} {K:Value -> zc -> Prop} {ms:List Nat}
def Q8(e:bR):qw->Option (Option Bool)
 |[]=>Td Te
 |c=>match sD e c with
  |some b=>Td (Td b)
  |none=>Te
theorem Q9(i:Sat n e a)(h:Q8 e c=Td g)(j:valid (qk a) c):im g:=by unfold Q8 at h;split at h;simp only[zad]at h;subst h;trivial;split at h;rename_i b f;simp only[zad]at h;subst h;exact(wP i f).2 j;cases h
theorem Nv(j:Sat n e a)(h:Q8 e c=Td g)(f:¬valid (qk a) c):g=Td Tc:=by
 unfold Q8 at h;split at h;exact absurd trivial f;split at h;rename_i b i;simp only[zad]at h;subst h;cases b with
 |false=>rfl
 |true=>exact absurd ((wP j i).1 rfl) f
 cases h
def sI(b:Bool):Value->Value->Value
 |.bool x,.bool y=>.bool (bif b then x else y)
 |x,y=>bif b then x else y
theorem Fw(b:Bool)(x y:Value):sI b x y=if b=Ta then x else y:=by unfold sI;grind
def vr:Option Value->Option Value->Option Value
 |some v,_=>Td v
 |none,w=>w
def un(e:bR)(c:qw)(x a b:Operand)(K:Value->Prop):Prop:=
 match x with
 |.tmp s=>match look e s with
  |some (cs,.bool t)=>bif lm cs c then(match vr (Xn e c a) (Xn e ((s,Ta)::cs) a),vr (Xn e c b) (Xn e ((s,Tc)::cs) b)with
    |some va,some vb=>K (sI t va vb)
    |_,_=>False)else False
  |_=>False
 |_=>False
theorem AF{f:Act}(i:Sat n e f){x a b:Operand}{K:Value->Prop}(H:un e c x a b K):
  ∃v,K v/\(valid (qk f) c->∃t,f.eval x=.bool t/\(if t=Ta then f.eval a else f.eval b)=v):=by
 unfold un at H;split at H;rename_i s;split at H;rename_i cs t l;cases hsf:lm cs c with
 |false=>simp_all
 |true=>
  rw[hsf]at H;simp only[zK]at H;split at H;rename_i q r k j;refine⟨_,H,λo=>⟨t,?_,?_⟩⟩;exact(i.all _ (pp l)).1 (Jf hsf o);have h:=Jf hsf o;have m:qk f s=.bool t:=(i.all _ (pp l)).1 h;rw[Fw];cases t with
  |true=>simp only[if_true];unfold vr at k;split at k;grind [zad,qy];exact qy i (c:=(s,Ta)::cs) ⟨m,h⟩ k
  |false=>simp only[zcj,if_false];unfold vr at j;split at j;grind [zad,qy];exact qy i (c:=(s,Tc)::cs) ⟨m,h⟩ j
  exact H.elim
 exact H.elim;exact H.elim
def mK(P:Program)(o:Oper)(e:bR)(c:qw)(h:zc)(K:Value->zc->Prop):Prop:=
 match o.op with
 |.pick x a b=>un e c x a b λv=>K v h
 |_=>bif J9 o.op then(bif known e c o.op.operands.toList then(match Q8 e c with
   |some g=>stepW P o (jG e c) g h K
   |none=>False)else False)else False
def wR(P:Program)(n:Nat)(ops:Array Oper)(K:bR->zc->Prop):List Oper->bR->zc->Prop
 |[],e,h=>K (clean e) h
 |o::rest,e,h=>match xz ops e o.guard with
  |some c=>bif xj n c o.dst then mK P o e c h λv h'=>wR P n ops K rest (putO e o.dst c v) h' else False
  |none=>False
theorem Gf(H:mK P o e c h K)(k:Sat n e a)(m:valid (qk a) c)(B:World)(d:Nat)
  {next:Act->World->Prop} {Q:Exit->Act->World->Prop} (l:∀v i h',K v h'->next (a.put o.dst v) (mk B i h')):o.wp P a (mk B d h) next Q:=by
 unfold mK at H;unfold Oper.wp;split at H;rename_i x y z b;obtain⟨v,h1,f⟩:=AF k H;obtain⟨t,j,q⟩:=f m;refine upon_value (w':=mk B d h) (v:=v) ?_ (l _ _ _ h1);simp only[execOp,b,j,asBool,Sem.run_bind,Sem.run_pure,Result.andThen_ok];rw[q];cases hns:J9 o.op with
 |false=>simp_all
 |true=>
  rw[hns]at H;cases hk:known e c o.op.operands.toList with
  |false=>simp_all
  |true=>rw[hk]at H;simp only[zK]at H;grind [uB,Ra,Q9]
theorem Ck(H:mK P o e c h K)(f:Sat n e a)(b:¬valid (qk a) c):∃v,K v h:=by
 unfold mK at H;split at H;grind [AF];cases hns:J9 o.op with
 |false=>simp_all
 |true=>
  rw[hns]at H;cases hk:known e c o.op.operands.toList with
  |false=>simp_all
  |true=>rw[hk]at H;simp only[zK]at H;grind [Nv,WH]
def xy:List Oper->List Nat
 |[]=>[]
 |o::l=>match o.dst with
  |some d=>d::xy l
  |none=>xy l
def Same(ms:List Nat)(a b:Act):Prop:=∀i,i∉ms->qk b i=qk a i
theorem Same.refl(ms:List Nat)(a:Act):Same ms a a:=λ_ _=>rfl
theorem Same.trans{a b c:Act}(h:Same ms a b)(k:Same ms b c):Same ms a c:=λi hi=>(k i hi).trans (h i hi)
theorem Same.mono{ms c:List Nat}(h:Same ms a b)(f:∀x∈ms,x∈c):Same c a b:=λi hi=>h i λe=>hi (f i e)
theorem Same.put(a:Act)(d:Option Nat)(v:Value)(h:∀i,d=Td i->i∈ms):Same ms a (a.put d v):=by
 intro i hi;cases d with
 |none=>rfl
 |some j=>grind [yz]
theorem rD{P:Program}{n:Nat}{ops:Array Oper}{K:bR->zc->Prop}{Q:Exit->Act->World->Prop}(B:World):
  ∀(l:List Oper) (e:bR) (h:zc) (a:Act) (d:Nat),wR P n ops K l e h->Sat n e a->(∀k f m h',Sat n k f->Same (xy l) a f->K k h'->Q .normal f (mk B m h'))->wpList P ops Q l a (mk B d h)
 |[],e,h,a,d,H,hs,hQ=>hQ _ _ _ _ hs.clean (Same.refl _ _) H
 |o::rest,e,h,a,d,H,hs,hQ=>by
  unfold wR at H;split at H;rename_i c E;cases hd:xj n c o.dst with
  |false=>simp_all
  |true=>
   rw[hd]at H;simp only[zK]at H;have r:=Z6 hs E;have j:∀i,o.dst=Td i->i∈xy (o::rest):=λi hi=>by simp[xy,hi]
   have b:∀x∈xy rest,x∈xy (o::rest):=λx t=>by unfold xy;grind
   have y:∀v u m h',(valid (qk a) c->u=v)->(¬valid (qk a) c->u=undef)->wR P n ops K rest (putO e o.dst c v) h'->wpList P ops Q rest (a.put o.dst u) (mk B m h'):=λv u m h' h1 z D=>
    rD B rest _ _ _ _ D (hs.putO hd h1 z) λk f q h'' A F C=>hQ k f q h'' A ((Same.put a o.dst u j).trans (F.mono b)) C
   unfold wpList;by_cases w:valid (qk a) c;rw[zA (r.2 w)];grind [Gf];rw[zv (λt=>w (r.1 t))];grind [Ck]
  exact H.elim
def AZ(P:Program)(o:Oper)(ρ:Operand->Value)(g:Option Bool)(h:zc)(K:Value->Prop):Prop:=
 match o.op with
 |.call c=>match c.callee with
  |.value x=>bif sL x then(match Yw P (execOp ρ o)with
    |some (.enter f args)=>match sH P o.type with
     |some b=>mU b λv=>req g (XC P f args h λe h'=>e=v/\h'=h)/\K v
     |none=>False
    |_=>False)else(match sH P o.type with
     |some b=>mU b λv=>req g (kU P (ρ x) (c.args.map ρ) λf args=>XC P f args h λe h'=>e=v/\h'=h)/\K v
     |none=>False)
  |_=>False
 |_=>False
theorem Nx{ρ:Operand->Value}{K:Value->Prop}(H:AZ P o ρ g h K):
  ∃v,K v/\(im g->∃f args,(∀w,(execOp ρ o).run P w=.ok (.enter f args) w)/\XC P f args h λj h'=>j=v/\h'=h):=by
 unfold AZ at H;split at H;rename_i c i;split at H;rename_i x k;cases hst:sL x with
 |true=>rw[hst]at H;simp only[zK]at H;split at H;rename_i f args l;split at H;obtain⟨v,h1,b⟩:=vd H;exact⟨v,b,λe=>⟨f,args,λw=>IF l w,h1.out e⟩⟩;exact H.elim;exact H.elim
 |false=>rw[hst]at H;simp only[zL]at H;split at H;obtain⟨v,h1,b⟩:=vd H;refine⟨v,b,λe=>?_⟩;obtain⟨f,args,m,n⟩:=DF i k (h1.out e);grind;exact H.elim
 exact H.elim;exact H.elim
def r8(o:Oper):Bool:=match o.op with
 |.call c=>match c.callee with
  |.builtin _=>Tc
  |_=>Ta
 |_=>Tc
def AP(P:Program)(o:Oper)(e:bR)(c:qw)(h:zc)(f:Bool)(K:Value->Prop):Prop:=
 match o.op with
 |.pick x a b=>un e c x a b K
 |_=>bif J9 o.op then(bif known e c o.op.operands.toList then(match Q8 e c with
   |some g=>bif r8 o then(bif f then AZ P o (jG e c) g h K else False)else X4 P o (jG e c) g h K
   |none=>False)else False)else False
def wQ(P:Program)(n:Nat)(ops:Array Oper)(h:zc)(b:Bool)(K:bR->Prop):List Oper->bR->Prop
 |[],e=>K e
 |o::rest,e=>match xz ops e o.guard with
  |some c=>bif xj n c o.dst then AP P o e c h b λv=>wQ P n ops h b K rest (putO e o.dst c v)else False
  |none=>False
def YQ(P:Program)(o:Oper)(a:Act)(B:World)(h:zc)(b:Bool)(v:Value):Prop:=
 (∀d,(execOp a.eval o).run P (mk B d h)=.ok (.value v) (mk B d h)) \/
 (b=Ta/\∃f args,(∀d,(execOp a.eval o).run P (mk B d h)=.ok (.enter f args) (mk B d h))/\XC P f args h λc h'=>c=v/\h'=h)
theorem WQ{b:Bool}{K:Value->Prop}(H:AP P o e c h b K)(k:Sat n e a)(B:World):
  ∃v,K v/\(valid (qk a) c->YQ P o a B h b v):=by
 unfold AP at H;split at H;rename_i x y z r;obtain⟨v,h1,j⟩:=AF k H;refine⟨v,h1,λi=>?_⟩;obtain⟨t,m,l⟩:=j i;refine .inl λd=>?_;simp only[execOp,r,m,asBool,Sem.run_bind,Sem.run_pure,Result.andThen_ok];rw[l];cases hns:J9 o.op with
 |false=>simp_all
 |true=>
  rw[hns]at H;cases hk:known e c o.op.operands.toList with
  |false=>simp_all
  |true=>
   rw[hk]at H;simp only[zK]at H;split at H;rename_i g q;cases hc:r8 o with
   |false=>rw[hc]at H;obtain⟨v,h1,j⟩:=Ah H;refine⟨v,h1,λi=>.inl λd=>?_⟩;rw[uB k i hns hk];exact j (Q9 k q i) B d
   |true=>
    rw[hc]at H;cases b with
    |false=>exact H.elim
    |true=>simp only[zK]at H;obtain⟨v,h1,j⟩:=Nx H;refine⟨v,h1,λi=>?_⟩;obtain⟨f,args,m,l⟩:=j (Q9 k q i);refine .inr ⟨rfl,f,args,λd=>?_,l⟩;grind [uB]
   exact H.elim
theorem Ds{P:Program}{n:Nat}{ops:Array Oper}{h:zc}{j:Bool}{K:bR->Prop}{Q:Act->Prop}(B:World):
  ∀(l:List Oper) (e:bR) (a:Act),wQ P n ops h j K l e->Sat n e a->(∀r k,Sat n r k->Same (xy l) a k->K r->Q k)->wpQuiet P ops (λw=>∃d,w=mk B d h) Q l a
 |[],e,a,H,hs,hQ=>hQ _ _ hs (Same.refl _ _) H
 |o::rest,e,a,H,hs,hQ=>by
  unfold wQ at H;split at H;rename_i c G;cases hd:xj n c o.dst with
  |false=>simp_all
  |true=>
   rw[hd]at H;simp only[zK]at H;have E:=Z6 hs G;have m:∀i,o.dst=Td i->i∈xy (o::rest):=λi hi=>by simp[xy,hi]
   have b:∀x∈xy rest,x∈xy (o::rest):=λx J=>by unfold xy;grind
   obtain⟨v,C,F⟩:=WQ H hs B;have q:∀u,(valid (qk a) c->u=v)->(¬valid (qk a) c->u=undef)->wpQuiet P ops (λw=>∃d,w=mk B d h) Q rest (a.put o.dst u):=λu h1 t=>
    Ds B rest _ _ C (hs.putO hd h1 t) λr k A I D=>hQ r k A ((Same.put a o.dst u m).trans (I.mono b)) D
   unfold wpQuiet;by_cases z:valid (qk a) c;rw[zA (E.2 z)];refine⟨v,?_,q v (λ_=>rfl) (λy=>absurd z y)⟩;rintro w ⟨d,rfl⟩;unfold Oper.quietAt;rcases F z with h1|⟨_,f,args,h1,t⟩;rw[h1 d];exact⟨rfl,rfl⟩;rw[h1 d];refine⟨rfl,(t B d).mono ?_⟩;simp;simp_all
  exact H.elim
end
section
variable {i:Nat} {a b:Act} {o:Oper} {h h':zc} {ρ:Operand -> Value} {P:Program} {g:Option Bool} {ops:Array Oper} {listed:Array Bool}
def Xo:List Nat->Nat->Bool
 |[],_=>Tc
 |j::l,i=>bif Nat.beq i j then Ta else Xo l i
theorem Jh{l:List Nat}(h:Xo l i=Tc):i∉l:=by
 induction l with
 |nil=>simp
 |cons j l c=>simp only[Xo]at h;by_cases b:Nat.beq i j=Ta;grind;simp_all
def tmpsOf:List Operand->List Nat
 |[]=>[]
 |.tmp t::l=>t::tmpsOf l
 |_::l=>tmpsOf l
def oc(ops:Array Oper)(k:Nat)(S:List Nat):Nat->Bool
 |0=>Ta
 |p+1=>bif (match w8 ops p with
  |some t=>bif Xo S t then Region.waitsFor .any ops k p else Ta
  |none=>Ta)then oc ops k S p else Tc
theorem Yy{ops:Array Oper}{k:Nat}{S:List Nat}:∀{m:Nat},oc ops k S m=Ta->∀p t,p<m->w8 ops p=Td t->t∈S->Region.waitsFor .any ops k p=Ta
 |0,_,p,t,hp,_,_=>by omega
 |m+1,h,p,t,hp,hd,ht=>by
  simp only[oc]at h;cases hb:(match w8 ops m with
   |some t=>bif Xo S t then Region.waitsFor .any ops k m else Ta
   |none=>Ta)with
  |false=>simp_all
  |true=>rw[hb]at h;rcases zb0 p m with h1|h1;exact Yy h p t h1 hd ht;grind [Jh]
def Ji(ops:Array Oper):Nat->Bool
 |0=>Ta
 |j+1=>bif (match ops[j]? with
  |some o=>o.after.toList.all λe=>!(Region.binds .any e)||Nat.blt e.on j
  |none=>Ta)then Ji ops j else Tc
theorem Z4{ops:Array Oper}:∀{n:Nat},Ji ops n=Ta->∀j o,j<n->ops[j]?=Td o->∀e∈o.after,Region.binds .any e=Ta->e.on<j
 |0,_,j,_,hj,_,_,_,_=>by omega
 |n+1,h,j,o,hj,ho,e,he,hb=>by
  simp only[Ji]at h;cases hc:(match ops[n]? with
   |some o=>o.after.toList.all λe=>!(Region.binds .any e)||Nat.blt e.on n
   |none=>Ta)with
  |false=>simp_all
  |true=>
   rw[hc]at h;rcases zb0 j n with h1|h1;exact Z4 h j o h1 ho e he hb;have:j=n:=by omega
   subst this;rw[ho]at hc;have:=za7.1 hc e (by simpa using he);simp_all
def sw(ops:Array Oper)(d:Nat):Nat->Bool
 |0=>Tc
 |p+1=>bif (match w8 ops p with
  |some t=>Nat.beq t d
  |none=>Tc)then Ta else sw ops d p
def pS(ops:Array Oper):Nat->Bool
 |0=>Ta
 |p+1=>bif (match w8 ops p with
  |some t=>!(sw ops t p)
  |none=>Ta)then pS ops p else Tc
theorem A2{ops:Array Oper}{d:Nat}:∀{m:Nat},sw ops d m=Tc->∀p,p<m->w8 ops p≠Td d
 |0,_,p,hp=>by omega
 |m+1,h,p,hp=>by
  simp only[sw]at h;cases hb:(match w8 ops m with
   |some t=>Nat.beq t d
   |none=>Tc)with
  |true=>simp_all
  |false=>
   rw[hb]at h;rcases zb0 p m with h1|h1;exact A2 h p h1;have:p=m:=by omega
   subst this;intro e;simp_all
theorem Wa{ops:Array Oper}:∀{m:Nat},pS ops m=Ta->∀p q t,p<m->q<m->w8 ops p=Td t->w8 ops q=Td t->p=q
 |0,_,p,q,t,hp,_,_,_=>by omega
 |m+1,h,p,q,t,hp,hq,e1,e2=>by
  simp only[pS]at h;cases hb:(match w8 ops m with
   |some t=>!(sw ops t m)
   |none=>Ta)with
  |false=>simp_all
  |true=>rw[hb]at h;rcases zb0 p m with h1|h1 <;> rcases zb0 q m with h2|h2;exact Wa h p q t h1 h2 e1 e2;grind [zd4,A2];grind [zd4,A2];omega
def oh(o:Oper):Option Bool:=match o.op with
 |.fieldAddr _ _ _=>Td Ta
 |.indexAddr _ _ _=>Td Ta
 |.move _=>Td Ta
 |.assign _=>match o.after.toList with
  |[]=>Td Ta
  |_=>Te
 |.nilCheck _=>Td Ta
 |.slice _ _ _ _ _=>Td Ta
 |.binOp _ _ _ _ _=>Td Ta
 |.load _ _=>Td Tc
 |_=>Te
def pY(o:Oper):Bool:=match oh o with
 |some _=>Ta
 |none=>Tc
def jb(o:Oper):Bool:=match oh o with
 |some b=>!b
 |none=>Tc
theorem tc{a b:Act}:∀{l:List Operand},(∀t∈tmpsOf l,qk a t=qk b t)->∀x∈l,a.eval x=b.eval x
 |[],_,x,c=>by cases c
 |y::l,h,x,c=>by
  rcases zan.1 c with rfl|c;cases x with
  |tmp t=>exact h t (by simp[tmpsOf])
  |const v=>rfl
  |global g=>rfl
  |func f=>rfl
  refine tc (l:=l) (λt e=>h t ?_) x c;cases y <;> simp[tmpsOf,e]
theorem A7(c:J9 o.op=Ta)(h:∀t∈tmpsOf o.op.operands.toList,qk a t=qk b t):execOp a.eval o=execOp b.eval o:= execOp_congr o (λcs b e=>by rw[e]at c;cases c) λx f=>tc h x (by simpa using f)
theorem ZM{p:Addr}(e:h'[p.block]?=h[p.block]?)(i:Nat):zd h' (p.add i)=zd h (p.add i):=by
 have b:(p.add i).block=p.block:=by unfold zab;split <;> rfl
 unfold zd;rw[b,e]
theorem Hv{h h':zc}{p:Addr}(e:h'[p.block]?=h[p.block]?):∀{vs:List Value} {i:Nat},ze h p i vs->ze h' p i vs
 |[],_,_=>trivial
 |v::vs,i,⟨h1,h2⟩=>⟨(ZM e i).trans h1,Hv e h2⟩
def LdOK(o:Oper)(ρ:Operand->Value)(h h':zc):Prop:=jb o=Tc\/Keep h.size h h'\/∀t a p,o.op=.load t a->ρ a=.pointer (Td p)->h'[p.block]?=h[p.block]?
theorem LdOK.congr{ρ c:Operand->Value}(e:∀x∈o.op.operands.toList,c x=ρ x)(H:LdOK o ρ h h'):LdOK o c h h':=by rcases H with H|H|H;exact .inl H;exact .inr (.inl H);refine .inr (.inr λt a p b f=>H t a p b ?_);rw[<-e a (by rw[b];simp[Op.operands])];exact f
theorem VH{t:TypeId}{x:Value}{K:Value->Prop}(H:nj P h t x g K):∃v p,x=.pointer (Td p)/\K v/\(im g->QExec P (zee t x) h v/\∀h',h'[p.block]?=h[p.block]?->QExec P (zee t x) h' v):=by unfold nj at H;split at H;rename_i q a b;obtain⟨x,h1,f⟩:=H;refine⟨_,q,rfl,f,λc=>?_⟩;have h1:zd h q=Td _:=h1.out c;refine⟨re b h1,λh' e=>re b ?_⟩;unfold zd at h1 ⊢;rw[e];exact h1;rename_i q l b;obtain⟨vs,h0,⟨h1,f⟩,_⟩:=Jg H (w9 l);exact⟨_,q,rfl,f,λc=>⟨rO b h0 (h1.out c),λh' e=>rO b h0 (Hv e (h1.out c))⟩⟩;exact H.elim
theorem TY(n:pY o=Ta){K:Value->Prop}(H:X4 P o ρ g h K):
  ∃v,K v/\(im g->∀h',LdOK o ρ h h'->QExec P (execOp ρ o) h' (.value v)):=by
 cases ho:o.op with
 |load t x=>
  have f:mT o=Ta:=by unfold mT;rw[ho]
  by_cases b:im g;obtain⟨j,k,k2⟩:=Ba f H;unfold X4 at H;rw[ho]at H;simp only at H;obtain⟨v,p,l,h1,c⟩:=VH H;have r:j=v:=by
   have a1:=k2 b h (Keep.refl _ _) default 0;have a2:QExec P (execOp ρ o) h (.value v):=by simp only[execOp,ho];exact(c b).1.val
   have a2:=a2 default 0;rw[a1]at a2;injection a2 with a2 _;injection a2
  subst r;refine⟨j,k,λ_ h' e=>?_⟩;rcases e with e|e|e;unfold jb oh at e;rw[ho]at e;cases e;exact k2 b h' e;have:=(c b).2 h' (e t x p ho l);simp only[execOp,ho];exact this.val;obtain⟨j,k,_⟩:=Ba f H;exact⟨j,k,λm=>absurd m b⟩
 |indexAddr t x i=>
  unfold X4 at H;rw[ho]at H;simp only at H;cases he:l6 P t with
  |false=>rw[he]at H;exact H.elim
  |true=>rw[he]at H;obtain⟨v,h1,c⟩:=Z7 (Zv he) H;refine⟨v,h1,λb h' _=>?_⟩;simp only[execOp,ho];exact(c b h').val
 |slice t x lo hi mx=>
  unfold X4 at H;rw[ho]at H;simp only at H;cases he:l6 P t with
  |false=>rw[he]at H;exact H.elim
  |true=>rw[he]at H;obtain⟨v,h1,c⟩:=Yx (Zv he) H;refine⟨v,h1,λb h' _=>?_⟩;simp only[execOp,ho];exact(c b h').val
 |binOp u t x y t'=>unfold X4 at H;rw[ho]at H;obtain⟨v,h1,c⟩:=zY ho H;exact⟨v,h1,λb h' _=>c b h'⟩
 |nilCheck x=>unfold X4 at H;rw[ho]at H;simp only at H;unfold sY at H;split at H;rename_i p l;obtain⟨a,h1,c⟩:=H;refine⟨_,c,λb h' _ B d=>?_⟩;have q:=h1.out b;subst q;simp only[execOp,ho,l];rfl;obtain⟨v,h1,c⟩:=qg H g;exact⟨v,h1,λb h' _=>c b h'⟩
 |_=>first|(unfold pY oh at n;rw[ho]at n;cases n;done)|(unfold X4 at H;rw[ho]at H;obtain⟨v,h1,c⟩:=qg H g;exact⟨v,h1,λb h' _=>c b h'⟩)
theorem we{d:Option Nat}{u:Value}{s:Nat}(h:d≠Td s):qk (a.put d u) s=qk a s:=by
 cases d with
 |none=>rfl
 |some t=>grind [yz]
theorem VY{next:Act->World->Prop}{Q:Exit->Act->World->Prop}{r:Result Next}(j:b.defers=[])
  (H:o.upon P b (λc w=>c.defers=[]/\∀v,c=b.put o.dst v->next (a.put o.dst v) w) (λ_ _ _=>False) r):o.upon P a next Q r:=by
 have lo:¬LetsOut (λ(_:Exit) (_:Act) (_:World)=>False):=λh=>by obtain⟨_,_,h⟩:=h;exact h
 cases r with
 |ok x w=>
  cases x with
  |value v=>exact H.2 v rfl
  |skip=>exact H.2 undef rfl
  |defer d=>have:=H.1;rw[Zt]at this;cases this
  |enter f args=>refine Calls.mono (show Calls P f args w _ from H) λe w' i=>?_;grind
  |row row args=>exact Rows.mono (show Rows P row args w _ from H) λv w' i=>i.2 v rfl
  |_=>exact H
 |halt x w=>cases x <;> first|exact H.elim|exact H
theorem uH{i p:Nat}(hi:i∈Region.ready .any ops listed)(f:Region.waitsFor .any ops i p=Ta):listed.getD p Tc=Ta:=by obtain⟨m,h,e,k,l,c⟩:=Region.waitsFor_spec f;obtain⟨_,o,j,b⟩:=mem_ready.1 hi;grind
theorem Yz{n:Nat}(inv:HeadInv .any ops n listed){i p:Nat}(hi:listed.getD i Tc=Ta)(f:Region.waitsFor .any ops i p=Ta):listed.getD p Tc=Ta:=by obtain⟨k,c,e,h,j,b⟩:=Region.waitsFor_spec f;rw[<-b];exact inv.closed i k c hi e h j
theorem Sx{p:Nat->Bool}{N:Nat}(h:∃k,k<N/\p k=Tc):∃k,k<N/\p k=Tc/\∀j,j<k->p j=Ta:=by
 obtain⟨k,h1,c⟩:=h;induction k using Nat.strongRecOn with
 |_ k b=>grind
theorem IX{o:Oper}:∀{l:List Oper},o∈l->∀i,o.dst=Td i->i∈xy l
 |[],h,_,_=>by cases h
 |x::l,h,i,hi=>by unfold xy;rcases zan.1 h with rfl|h;simp_all;have:=IX h i hi;grind
theorem yu{k:Nat}(h:ops[k]?=Td o):w8 ops k=o.dst:=by simp[w8,h]
def i8(j:Nat):List Nat->List Nat
 |[]=>[]
 |k::l=>bif Nat.beq k j then i8 j l else k::i8 j l
theorem pT{j x:Nat}:∀{l:List Nat},x∈i8 j l↔x∈l/\x≠j
 |[]=>by simp[i8]
 |k::l=>by
  simp only[i8];cases hb:Nat.beq k j with
  |true=>have:=za4 hb;subst this;rw[zK,pT,zan];simp_all
  |false=>
   have b:k≠j:=λe=>by simp_all
   rw[zL,zan,zan,pT];grind
theorem BD{j:Nat}:∀{l:List Nat},l.Nodup->(i8 j l).Nodup
 |[],h=>h
 |k::l,h=>by
  simp only[i8];rw[zbq]at h;cases Nat.beq k j with
  |true=>exact BD h.2
  |false=>rw[zL,zbq];exact⟨λb=>h.1 (pT.1 b).1,BD h.2⟩
theorem Cz{j:Nat}:∀{l:List Nat},(i8 j l).length<=l.length
 |[]=>zac _
 |k::l=>by simp only[i8];have:=Cz (j:=j) (l:=l);grind
theorem FT{j:Nat}:∀{l:List Nat},j∈l->(i8 j l).length+1<=l.length
 |[],h=>by cases h
 |k::l,h=>by
  simp only[i8];cases hb:Nat.beq k j with
  |true=>simp[Cz,zaw]
  |false=>
   have b:k≠j:=λe=>by simp_all
   have:=FT (j:=j) (l:=l) (by grind);simp_all
def yF(p:Nat->Prop):List Nat->Prop
 |[]=>True
 |[j]=>p j
 |j::k::l=>p j/\yF p (k::l)
theorem EU{p:Nat->Prop}:∀{l:List Nat},yF p l->∀j∈l,p j
 |[],_,j,h=>by cases h
 |[k],H,j,h=>by simp at h;subst h;exact H
 |k::k2::l,H,j,h=>by rcases zan.1 h with rfl|h;exact H.1;exact EU H.2 j h
def rz(p:Nat->Bool):List Nat->List Nat
 |[]=>[]
 |j::l=>bif p j then j::rz p l else rz p l
theorem xA{p:Nat->Bool}{j:Nat}:∀{l:List Nat},j∈l->p j=Ta->j∈rz p l
 |[],h,_=>by cases h
 |k::l,h,hp=>by
  simp only[rz];rcases zan.1 h with rfl|h;simp_all;cases p k with
  |true=>exact za3 _ (xA h hp)
  |false=>exact xA h hp
end
section
variable {l:List Nat} {i m n:Nat} {ops:Array Oper} {P:Program} {o:Oper} {h h0:zc} {e:bR} {a b:Act}
def EN(o:Oper):Bool:=match o.op with
 |.extract _ _=>Ta
 |_=>Tc
variable {gq : Bool}
def pq(o:Oper):Bool:=bif pY o then Ta else EN o
def lN(ops:Array Oper):Nat->List Nat->List Nat
 |0,S=>S
 |k+1,S=>lN ops k (bif S.any λp=>Region.waitsFor .any ops p k then k::S else S)
theorem xQ{ops:Array Oper}{listed:Array Bool}(b:∀i p,listed.getD i Tc=Ta->Region.waitsFor .any ops i p=Ta->listed.getD p Tc=Ta):∀{m:Nat} {S:List Nat},(∀j∈S,listed.getD j Tc=Ta)->∀k∈lN ops m S,listed.getD k Tc=Ta
 |0,S,h,k,hk=>h k hk
 |m+1,S,h,k,hk=>by unfold lN at hk;refine xQ b (m:=m) (λj c=>?_) k hk;grind
theorem Wb(h:Xo l i=Ta):i∈l:=by
 induction l with
 |nil=>cases h
 |cons j l b=>simp only[Xo]at h;grind [za4,za2,za3]
theorem vD(h:i∈l):Xo l i=Ta:=by grind [Jh]
def Kn(ops:Array Oper)(k:Nat):Bool:=match ops[k]? with
 |some o=>!(pq o)
 |none=>Tc
def Vl(ops:Array Oper)(i:Nat):Bool:=(lN ops ops.size [i]).any (Kn ops)
def SX(o:Oper):Bool:=match o.guard with
 |none=>Tc
 |some _=>Ta
def Ev(ops:Array Oper)(t:Nat):Nat->Bool
 |0=>Tc
 |k+1=>bif (match ops[k]? with
  |some o=>Xo (tmpsOf o.op.operands.toList) t
  |none=>Tc)then Ta else Ev ops t k
def MY(ops:Array Oper)(i:Nat)(o:Oper):Bool:=match o.op with
 |.assign _=>(match o.dst with
  |some t=>Ev ops t i
  |none=>Tc)
 |_=>Tc
def X6(gq:Bool)(ops:Array Oper)(i:Nat):Bool:=match ops[i]? with
 |some o=>bif (bif SX o then !gq else Tc)then Ta else bif pq o then(bif jb o then Vl ops i else MY ops i o)else Ta
 |none=>Ta
def i0(gq:Bool)(ops:Array Oper):List Nat:=(zaq ops.size).filter (X6 gq ops)
theorem qX{j:Nat}:j∈i0 gq ops↔j<ops.size/\X6 gq ops j=Ta:=by unfold i0;simp
theorem XK(ops:Array Oper):(i0 gq ops).Nodup:=List.nodup_range.filter _
def m9(gq:Bool)(ops:Array Oper)(done S:List Nat)(k:Nat):Nat->Bool
 |0=>Ta
 |p+1=>bif Region.waitsFor .any ops k p then(bif (bif X6 gq ops p then Xo done p else Xo S p)then m9 gq ops done S k p else Tc)else m9 gq ops done S k p
theorem vc{ops:Array Oper}{done S:List Nat}{k:Nat}:∀{m:Nat},m9 gq ops done S k m=Ta↔∀p,p<m->Region.waitsFor .any ops k p=Ta->(X6 gq ops p=Ta->p∈done)/\(X6 gq ops p=Tc->p∈S)
 |0=>⟨λ_ p c=>by omega,λ_=>rfl⟩
 |m+1=>by
  unfold m9;have e:=vc (ops:=ops) (done:=done) (S:=S) (k:=k) (m:=m);constructor;intro h p c b;rcases zb0 p m with h1|h1;grind;have:p=m:=by omega
  subst this;rw[b,zK]at h;cases hi:X6 gq ops p with
  |true=>simp_all[Wb]
  |false=>simp_all[Wb]
  intro h;have h1:=e.2 λp c b=>h p (by omega) b;cases b:Region.waitsFor .any ops k m with
  |false=>exact h1
  |true=>simp_all[vD]
def uO(gq:Bool)(ops:Array Oper)(done S:List Nat)(k:Nat):List Nat:=bif X6 gq ops k then S else(bif m9 gq ops done S k k then k::S else S)
def Jj(gq:Bool)(ops:Array Oper)(done:List Nat):Nat->List Nat
 |0=>[]
 |k+1=>uO gq ops done (Jj gq ops done k) k
theorem xm{ops:Array Oper}{done:List Nat}:∀{m i:Nat},i∈Jj gq ops done m->i<m/\X6 gq ops i=Tc/\m9 gq ops done (Jj gq ops done i) i i=Ta
 |0,i,h=>by cases h
 |m+1,i,h=>by
  unfold Jj uO at h;cases hi:X6 gq ops m with
  |true=>rw[hi,zK]at h;have:=xm h;grind
  |false=>
   rw[hi,zL]at h;cases ho:m9 gq ops done (Jj gq ops done m) m m with
   |false=>rw[ho,zL]at h;have:=xm h;grind
   |true=>rw[ho,zK]at h;rcases zan.1 h with rfl|h;simp_all;have:=xm h;grind
theorem Ak{ops:Array Oper}{done:List Nat}{m:Nat}:∀{m' i:Nat},m<=m'->i∈Jj gq ops done m->i∈Jj gq ops done m'
 |0,i,h,hi=>by simp_all
 |m'+1,i,h,hi=>by rcases Nat.eq_or_lt_of_le h with e|e;simp_all;have:=Ak (m':=m') (by omega) hi;unfold Jj uO;grind
theorem uI{done:List Nat}(b:i<m)(h1:X6 gq ops i=Tc)(c:m9 gq ops done (Jj gq ops done i) i i=Ta):i∈Jj gq ops done m:=by refine Ak (m:=i+1) b ?_;unfold Jj uO;simp_all
theorem u9{done:List Nat}{m i p:Nat}(h:i∈Jj gq ops done m)(c:p<i)(e:Region.waitsFor .any ops i p=Ta):(X6 gq ops p=Ta->p∈done)/\(X6 gq ops p=Tc->p∈Jj gq ops done m):=by obtain⟨h1,j,f⟩:=xm h;obtain⟨a,b⟩:=vc.1 f p c e;exact⟨a,λhi=>Ak (by omega) (b hi)⟩
def Jk(b c:List Nat)(n:Nat):List Nat:=(zaq n).filter λi=>bif Xo c i then !(Xo b i)else Tc
theorem Hn{c b:List Nat}:i∈Jk c b n↔i<n/\i∈b/\i∉c:=by
 unfold Jk;rw[zbv,zbn];constructor;rintro⟨h1,e⟩;cases hn:Xo b i with
 |false=>simp_all
 |true=>rw[hn,zK]at e;grind [Wb,vD]
 rintro⟨h1,e,f⟩;refine⟨h1,?_⟩;rw[vD e,zK];grind [Wb]
theorem I8(b c:List Nat)(n:Nat):(Jk b c n).Pairwise (· < ·):=List.pairwise_lt_range.filter _
def wI(P:Program)(n:Nat)(h:zc)(ld:Bool)(ops:Array Oper)(K:bR->Prop):List Nat->bR->Prop
 |[],e=>K e
 |i::l,e=>match ops[i]? with
  |some o=>bif pq o then(bif (bif ld then Ta else !(jb o))then(bif J9 o.op then(match xz ops e o.guard with
   |some c=>bif xj n c o.dst then(bif known e c o.op.operands.toList then(match Q8 e c with
    |some g=>X4 P o (jG e c) g h λv=>wI P n h ld ops K l (putO e o.dst c v)
    |none=>False)else False)else False
   |none=>False)else False)else False)else False
  |none=>False
def yj(ops:Array Oper)(f:Nat->Value):List Nat->Act->Act
 |[],a=>a
 |i::l,a=>yj ops f l (a.put (w8 ops i) (f i))
theorem QD(b:pq o=Ta){ρ:Operand->Value}{g:Option Bool}{K:Value->Prop}(H:X4 P o ρ g h K):
  ∃v,K v/\(im g->∀h',LdOK o ρ h h'->QExec P (execOp ρ o) h' (.value v)):=by
 unfold pq at b;cases hb:pY o with
 |true=>exact TY hb H
 |false=>rw[hb,zL]at b;unfold EN at b;split at b;rename_i x i c;unfold X4 at H;rw[c]at H;obtain⟨v,h1,e⟩:=qg H g;grind;cases b
theorem Ia{ops:Array Oper}{f:Nat->Value}:∀{l:List Nat} {a:Act},(yj ops f l a).tmps.size=a.tmps.size/\(yj ops f l a).defers=a.defers
 |[],_=>⟨rfl,rfl⟩
 |i::l,a=>by unfold yj;have:=Ia (ops:=ops) (f:=f) (l:=l) (a:=a.put (w8 ops i) (f i));rw[this.1,this.2];exact⟨size_put _ _ _,Zt _ _ _⟩
theorem jo{ops:Array Oper}{f:Nat->Value}{s:Nat}:∀{l:List Nat} {a:Act},(∀i∈l,w8 ops i≠Td s)->qk (yj ops f l a) s=qk a s
 |[],_,_=>rfl
 |i::l,a,h=>by unfold yj;rw[jo λj b=>h j (za3 _ b)];exact we (h i za2)
theorem Bl{ops:Array Oper}{f:Nat->Value}:∀{l m:List Nat} {a:Act},yj ops f (l++m) a=yj ops f m (yj ops f l a)
 |[],_,_=>rfl
 |i::l,m,a=>by rw[zbz];show yj ops f (l++m) _=yj ops f m (yj ops f l _);exact Bl
theorem wO{P:Program}{n:Nat}{h:zc}{ld:Bool}{ops:Array Oper}{K:bR->Prop}(C:Nat->Value):∀{l:List Nat} {e:bR} {a:Act},l.Nodup->wI P n h ld ops K l e->Sat n e a->∃(f:Nat->Value) (z:bR),K z/\Sat n z (yj ops f l a)/\(∀i,i∉l->f i=C i) /\
  ∀b i D,l=b++i::D->∃o,ops[i]?=Td o/\(ld=Tc->jb o=Tc)/\J9 o.op=Ta/\(∀t,o.dst=Td t->t<n) /\ (zbr o (yielded ops (yj ops f b a).tmps)=Ta->∀h',LdOK o (yj ops f b a).eval h h'->QExec P (execOp (yj ops f b a).eval o) h' (.value (f i)))/\(zbr o (yielded ops (yj ops f b a).tmps)≠Ta->f i=undef)
 |[],e,a,_,H,hs=>⟨C,e,H,hs,λ_ _=>rfl,λb i D h=>by simp at h⟩
 |i::l,e,a,hnd,H,hs=>by
  unfold wI at H;cases ho:ops[i]? with
  |none=>simp_all
  |some o=>
   rw[ho]at H;simp only at H;cases hq:pq o with
   |false=>simp_all
   |true=>
    rw[hq,zK]at H;cases hld:(bif ld then Ta else !(jb o))with
    |false=>simp_all
    |true=>
     rw[hld,zK]at H;cases hns:J9 o.op with
     |false=>simp_all
     |true=>
      rw[hns,zK]at H;split at H;rename_i c L;cases hd:xj n c o.dst with
      |false=>simp_all
      |true=>
       rw[hd,zK]at H;cases hk:known e c o.op.operands.toList with
       |false=>simp_all
       |true=>
        rw[hk,zK]at H;split at H;rename_i g M;rw[zbq]at hnd;obtain⟨v,G,J⟩:=QD hq H;have w:w8 ops i=o.dst:=yu ho;obtain⟨u,y,q⟩:∃u,(valid (qk a) c->u=v)/\(¬valid (qk a) c->u=undef):=by by_cases k:valid (qk a) c;simp_all;simp_all
        have r:=Z6 hs L;obtain⟨f,z,g1,g2,O,Q⟩:=wO (λx=>if x=i then u else C x) (a:=a.put o.dst u) hnd.2 G (hs.putO hd y q);have m:f i=u:=by rw[O i hnd.1,zA rfl]
        have E:∀b,yj ops f (i::b) a=yj ops f b (a.put o.dst u):=λb=>by show yj ops f b (a.put (w8 ops i) (f i))=_;rw[w,m]
        refine⟨f,z,g1,by grind,λj S=>?_,λb j D B=>?_⟩;simp_all;cases b with
        |nil=>simp only[zck,zc9]at B;obtain⟨rfl,rfl⟩:=B;refine⟨o,ho,λB=>by simp_all,hns,λt F=>by rw[F]at hd;unfold xj at hd;simp_all,λA h' N=>?_,λA=>?_⟩;show QExec P (execOp a.eval o) h' _;have k:=r.1 A;rw[uB hs k hns hk,m,y k];exact J (Q9 hs M k) h' (LdOK.congr (λx I=>(J8 hs k hk x I).symm) N);rw[m];exact q λk=>A (r.2 k)
        |cons T b=>grind
        exact H.elim
      exact H.elim
def pZ(gq:Bool)(ops:Array Oper)(U:List Nat):Nat->Bool
 |0=>Tc
 |k+1=>bif (match ops[k]? with
  |some o=>bif jb o then(bif X6 gq ops k then Tc else !(Xo U k))else Tc
  |none=>Tc)then Ta else pZ gq ops U k
theorem C6{ops:Array Oper}{U:List Nat}:∀{m:Nat},pZ gq ops U m=Tc->∀k o,k<m->ops[k]?=Td o->jb o=Ta->X6 gq ops k=Tc->k∈U
 |0,_,k,o,hk,_,_,_=>by omega
 |m+1,h,k,o,hk,ho,hl,hi=>by
  unfold pZ at h;cases hb:(match ops[m]? with
   |some o=>bif jb o then(bif X6 gq ops m then Tc else !(Xo U m))else Tc
   |none=>Tc)with
  |true=>simp_all
  |false=>
   rw[hb,zL]at h;rcases zb0 k m with h1|h1;exact C6 h k o h1 ho hl hi;have:k=m:=by omega
   simp_all[Wb]
def ou(gq:Bool)(ops:Array Oper)(U:List Nat)(e:bR)(h0 h':zc)(K:Prop):Nat->Prop
 |0=>K
 |k+1=>match ops[k]? with
  |some o=>bif (bif jb o then(bif X6 gq ops k then Tc else !(Xo U k))else Tc)then(match o.op,xz ops e o.guard with
   |.load _ a,some c=>bif known e c [a]then(match jG e c a,Q8 e c with
    |.pointer (Td p),some g=>req g (h'[p.block]?=h0[p.block]?)/\ou gq ops U e h0 h' K k
    |_,_=>False)else False
   |_,_=>False)else ou gq ops U e h0 h' K k
  |none=>ou gq ops U e h0 h' K k
theorem FL{ops:Array Oper}{U:List Nat}{e:bR}{h0 h':zc}{K:Prop}:∀{m:Nat},ou gq ops U e h0 h' K m->K/\∀k o,k<m->ops[k]?=Td o->jb o=Ta->X6 gq ops k=Tc->k∉U ->
  ∃t a p c g,o.op=.load t a/\xz ops e o.guard=Td c/\Q8 e c=Td g/\known e c [a]=Ta/\jG e c a=.pointer (Td p)/\req g (h'[p.block]?=h0[p.block]?)
 |0,H=>⟨H,λk o j=>by omega⟩
 |m+1,H=>by
  unfold ou at H;have step:ou gq ops U e h0 h' K m->(∀o,ops[m]?=Td o->jb o=Ta->X6 gq ops m=Tc->m∉U->∃t a p c g,o.op=.load t a/\xz ops e o.guard=Td c/\Q8 e c=Td g/\known e c [a]=Ta/\jG e c a=.pointer (Td p)/\req g (h'[p.block]?=h0[p.block]?)) ->
    K/\∀k o,k<m+1->ops[k]?=Td o->jb o=Ta->X6 gq ops k=Tc->k∉U->∃t a p c g,o.op=.load t a/\xz ops e o.guard=Td c/\Q8 e c=Td g/\known e c [a]=Ta/\jG e c a=.pointer (Td p)/\req g (h'[p.block]?=h0[p.block]?):=λh l=>by
   obtain⟨h1,f⟩:=FL h;grind
  cases ho:ops[m]? with
  |none=>grind
  |some o=>
   rw[ho]at H;simp only at H;have same:∀b,ops[m]?=Td b->b=o:=λb h1=>zbi (h1.symm.trans ho);cases hc:(bif jb o then(bif X6 gq ops m then Tc else !(Xo U m))else Tc)with
   |false=>rw[hc]at H;refine step H λb h1 f i n=>?_;rw[same b h1]at f;rw[f,i,zK,zL]at hc;grind [Wb]
   |true=>grind
def sd(gq:Bool)(ops:Array Oper)(T:List Nat)(e:bR)(h0 h':zc)(K:Prop):Prop:=bif pZ gq ops (lN ops ops.size T) ops.size then ou gq ops (lN ops ops.size T) e h0 h' K ops.size else K
def ut(ops:Array Oper)(todo:List Nat)(j:Nat):Bool:=todo.all λk=>bif Nat.beq k j then Ta else !(Xo (lN ops ops.size [j]) k)
def lS(gq:Bool)(P:Program)(n:Nat)(ops:Array Oper)(h0:zc)(K:bR->zc->Prop):Nat->List Nat->List Nat->bR->zc->Prop
 |_,_,[],e,h=>K (clean e) h
 |0,_,_::_,_,_=>False
 |f+1,T,b::l0,e,h=>yF (λj=>match ops[j]? with
  |some o=>(match xz ops e o.guard with|some c=>bif xj n c o.dst then mK P o e c h λv h'=>wI P n h' Tc ops (λi=>sd gq ops (j::T) i h0 h' (lS gq P n ops h0 K f (j::T) (i8 j (b::l0)) i h')) (Jk (Jj gq ops T ops.size) (Jj gq ops (j::T) ops.size) ops.size) (putO e o.dst c v)else False|none=>False)
  |none=>False) (rz (ut ops (b::l0)) (b::l0))
theorem QI{K:bR->zc->Prop}{f:Nat}{T todo:List Nat}(H:lS gq P n ops h0 K (f+1) T todo e h){j:Nat}(b:j∈todo)(k:ut ops todo j=Ta):match ops[j]? with
  |some o=>(match xz ops e o.guard with|some c=>bif xj n c o.dst then mK P o e c h λv h'=>wI P n h' Tc ops (λi=>sd gq ops (j::T) i h0 h' (lS gq P n ops h0 K f (j::T) (i8 j todo) i h')) (Jk (Jj gq ops T ops.size) (Jj gq ops (j::T) ops.size) ops.size) (putO e o.dst c v)else False|none=>False)
  |none=>False:=by
 cases todo with
 |nil=>cases b
 |cons m l=>exact EU H j (xA b k)
def oX(gq:Bool)(ops:Array Oper)(k:Nat)(S:List Nat):Nat->Bool
 |0=>Ta
 |p+1=>bif (match w8 ops p with
  |some t=>bif Xo S t then(bif Region.waitsFor .any ops k p then Ta else bif X6 gq ops p then Region.waitsFor .any ops p k else Tc)else Ta
  |none=>Ta)then oX gq ops k S p else Tc
theorem Wc{ops:Array Oper}{k:Nat}{S:List Nat}:∀{m:Nat},oX gq ops k S m=Ta->∀p t,p<m->w8 ops p=Td t->t∈S->Region.waitsFor .any ops k p=Ta\/(X6 gq ops p=Ta/\Region.waitsFor .any ops p k=Ta)
 |0,_,p,t,hp,_,_=>by omega
 |m+1,h,p,t,hp,hd,ht=>by
  simp only[oX]at h;cases hb:(match w8 ops m with
   |some t=>bif Xo S t then(bif Region.waitsFor .any ops k m then Ta else bif X6 gq ops m then Region.waitsFor .any ops m k else Tc)else Ta
   |none=>Ta)with
  |false=>simp_all
  |true=>
   rw[hb]at h;rcases zb0 p m with h1|h1;exact Wc h p t h1 hd ht;have:p=m:=by omega
   simp_all[vD]
def pH(gq:Bool)(ops:Array Oper):Nat->Bool
 |0=>Ta
 |k+1=>bif (match ops[k]? with
  |some o=>oX gq ops k (tmpsOf o.op.operands.toList) ops.size
  |none=>Ta)then pH gq ops k else Tc
theorem Wd{ops:Array Oper}:∀{m:Nat},pH gq ops m=Ta->∀k o,k<m->ops[k]?=Td o->oX gq ops k (tmpsOf o.op.operands.toList) ops.size=Ta
 |0,_,k,o,hk,_=>by omega
 |m+1,h,k,o,hk,ho=>by
  unfold pH at h;cases hb:(match ops[m]? with
   |some o=>oX gq ops m (tmpsOf o.op.operands.toList) ops.size
   |none=>Ta)with
  |false=>simp_all
  |true=>rw[hb,zK]at h;rcases zb0 k m with h1|h1;exact Wd h k o h1 ho;grind
def pJ(ops:Array Oper)(o:Oper):List Nat:=match o.guard with
 |none=>[]
 |some (j,_)=>match w8 ops j with
  |some t=>[t]
  |none=>[]
def pE(ops:Array Oper):Nat->Bool
 |0=>Ta
 |k+1=>bif (match ops[k]? with
  |some o=>bif J9 o.op then oc ops k (pJ ops o) ops.size else Tc
  |none=>Ta)then pE ops k else Tc
theorem AW{ops:Array Oper}:∀{m:Nat},pE ops m=Ta->∀k o,k<m->ops[k]?=Td o->J9 o.op=Ta/\oc ops k (pJ ops o) ops.size=Ta
 |0,_,k,o,hk,_=>by omega
 |m+1,h,k,o,hk,ho=>by
  unfold pE at h;cases hb:(match ops[m]? with
   |some o=>bif J9 o.op then oc ops m (pJ ops o) ops.size else Tc
   |none=>Ta)with
  |false=>simp_all
  |true=>rw[hb,zK]at h;rcases zb0 k m with h1|h1;exact AW h k o h1 ho;grind
theorem X7(h:∀t∈pJ ops o,qk a t=qk b t):zbr o (yielded ops a.tmps)=zbr o (yielded ops b.tmps):=by
 unfold zbr;cases hg:o.guard with
 |none=>rfl
 |some f=>
  obtain⟨j,p⟩:=f;have:yielded ops a.tmps j=yielded ops b.tmps j:=by
   unfold yielded;cases hd:(ops[j]?).bind (·.dst)with
   |none=>rfl
   |some t=>
    have e:w8 ops j=Td t:=by
     unfold w8;cases hoj:ops[j]? with
     |none=>simp_all
     |some i=>simp_all
    have c:=h t (by unfold pJ;simp_all);unfold qk at c;simp only[zcb]at c;simp only[zcr];cases h1:a.tmps[t]? <;> cases h2:b.tmps[t]? <;> rw[h1,h2]at c <;> simp at c <;> first|rfl|(subst c;rfl)|(rw[<-c];rfl)|(rw[c];rfl)
  grind
def ns(gq:Bool)(ops:Array Oper):Bool:=bif pE ops ops.size then(bif Ji ops ops.size then(bif pS ops ops.size then pH gq ops ops.size else Tc)else Tc)else Tc
theorem HH(h:ns gq ops=Ta):pE ops ops.size=Ta/\Ji ops ops.size=Ta/\pS ops ops.size=Ta/\pH gq ops ops.size=Ta:=by unfold ns at h;simp_all
structure St7 (gq:Bool) (P:Program) (n:Nat) (ops:Array Oper) (h0:zc) (K:bR->zc->Prop) (f:Nat->Value) (a0:Act) (listed:Array Bool) (a b:Act) (e:bR) (h:zc) (done todo:List Nat):Prop where
 inv:HeadInv .any ops ops.size listed
 ag:∀s,(∀i o,ops[i]?=Td o->X6 gq ops i=Tc->listed.getD i Tc=Tc->o.dst≠Td s)->qk a s=qk b s
 sz:a.tmps.size=n
 ad:a.defers=[]
 sb:Sat n e b
 qv:∀i o t,ops[i]?=Td o->i∈Jj gq ops done ops.size->o.dst=Td t->qk b t=f i/\t<n
 qx:∀i o,ops[i]?=Td o->i∈Jj gq ops done ops.size->listed.getD i Tc=Tc->(zbr o (yielded ops b.tmps)=Ta->∀h',LdOK o b.eval h0 h'->QExec P (execOp b.eval o) h' (.value (f i)))/\(zbr o (yielded ops b.tmps)≠Ta->f i=undef)
 tt:∀j,j∈i0 gq ops->(j∈todo↔listed.getD j Tc=Tc)
 ch:∀j,j∈i0 gq ops->(listed.getD j Tc=Ta↔j∈done)
 dn:∀j∈done,j∈i0 gq ops
 th:∀j∈todo,j∈i0 gq ops
 nd:todo.Nodup
 wt:∃fu,todo.length<=fu/\lS gq P n ops h0 K fu done todo e h
 kp:∀i o,ops[i]?=Td o->jb o=Ta->X6 gq ops i=Tc->listed.getD i Tc=Tc->zbr o (yielded ops b.tmps)=Ta->LdOK o b.eval h0 h
 sm:Same (xy ops.toList) a0 a
theorem Cl{ld:Bool}(I:pE ops ops.size=Ta)(z:Ji ops ops.size=Ta)(Q:pS ops ops.size=Ta)(N:pH gq ops ops.size=Ta){f:Nat->Value}(G:b.tmps.size=n)(m:∀i∈l,i<ops.size)(aa:∀i∈l,X6 gq ops i=Tc)(y:l.Pairwise (· < ·)) (H:∀c i e,l=c++i::e->∃o,ops[i]?=Td o/\(ld=Tc->jb o=Tc)/\J9 o.op=Ta/\(∀t,o.dst=Td t->t<n) /\ (zbr o (yielded ops (yj ops f c b).tmps)=Ta->∀h',LdOK o (yj ops f c b).eval h h'->QExec P (execOp (yj ops f c b).eval o) h' (.value (f i)))/\(zbr o (yielded ops (yj ops f c b).tmps)≠Ta->f i=undef)):
  ∀i o,ops[i]?=Td o->i∈l->(∀t,o.dst=Td t->qk (yj ops f l b) t=f i/\t<n)/\(ld=Tc->jb o=Tc) /\ (zbr o (yielded ops (yj ops f l b).tmps)=Ta->∀h',LdOK o (yj ops f l b).eval h h'->QExec P (execOp (yj ops f l b).eval o) h' (.value (f i)))/\(zbr o (yielded ops (yj ops f l b).tmps)≠Ta->f i=undef):=by
 intro i o F hi;obtain⟨c,e,rfl⟩:=List.append_of_mem hi;obtain⟨A,q1,V,q4,Y,q6,Z⟩:=H c i e rfl;have:A=o:=zbi (q1.symm.trans F);subst this;have q:i<ops.size:=m i (by simp);have hs:∀j∈e,i<j:=λj k=>by rw[zd5]at y;simp_all
 have r:yj ops f (c++i::e) b=yj ops f e ((yj ops f c b).put (w8 ops i) (f i)):=by rw[Bl];rfl
 have u:w8 ops i=A.dst:=yu F;have D:∀j∈i::e,Region.waitsFor .any ops i j=Ta->False:=λj k J=>by obtain⟨oj,M,x,L,T,U⟩:=Region.waitsFor_spec J;have h1:=Z4 z i oj q M x L T;grind
 have S:yj ops f (c++i::e) b=yj ops f (i::e) (yj ops f c b):=Bl;have B:∀t∈tmpsOf A.op.operands.toList,qk (yj ops f (c++i::e) b) t=qk (yj ops f c b) t:=λt w=>by rw[S];refine jo λj k E=>D j k ?_;rcases Wc (Wd N i A q F) j t (m j (by simp[k])) E w with h|h;exact h;simp_all
 have O:zbr A (yielded ops (yj ops f (c++i::e) b).tmps)=zbr A (yielded ops (yj ops f c b).tmps):=X7 λt w=>by rw[S];exact jo λj k E=>D j k (Yy (AW I i A q F).2 j t (m j (by simp[k])) E w)
 rw[O];refine⟨λt w=>?_,V,λJ h' hh=>?_,Z⟩;have C:=Y t w;refine⟨?_,C⟩;rw[r,jo λj k E=>?_,u,w,Z3 (by rw[Ia.1,G];exact C)];have:=Wa Q i j t q (m j (by simp[k])) (by rw[u,w]) E;grind;rw[A7 q4 B];exact q6 J h' (LdOK.congr (λx L=>(tc B x L).symm) hh)
theorem Ve{K:bR->zc->Prop}{Q:Exit->Act->World->Prop}(B:World)(hmix:ns gq ops=Ta){a0:Act}
    (hQ:∀e' a' d' h',Sat n e' a'->Same (xy ops.toList) a0 a'->K e' h'->Q .normal a' (mk B d' h')):
    ∀(N:Nat) (U:List Nat) (listed:Array Bool) (f:Nat->Value) (a b:Act) (e:bR) (h:zc) (d:Nat) (done todo:List Nat),U.length=N->U.Nodup->(∀k,k∈U↔k<ops.size/\listed.getD k Tc=Tc) ->
      St7 gq P n ops h0 K f a0 listed a b e h done todo->wpAny P .any ops Q N listed a (mk B d h):=by
  obtain⟨hng,hback,hnd,hsl⟩:=HH hmix
  have hgd:∀(i:Nat) (o:Oper),ops[i]?=Td o->J9 o.op=Ta/\oc ops i (pJ ops o) ops.size=Ta:=λi o ho=>AW hng i o (zat.1 ho).1 ho
  have hslot0:∀k o,ops[k]?=Td o->∀p t,p<ops.size->w8 ops p=Td t->t∈tmpsOf o.op.operands.toList->Region.waitsFor .any ops k p=Ta\/(X6 gq ops p=Ta/\Region.waitsFor .any ops p k=Ta):=λk o ho p t hp hd ht=>
    Wc (Wd hsl k o (zat.1 ho).1 ho) p t hp hd ht
  have hbk:∀k p,Region.waitsFor .any ops k p=Ta->p<k:=λk p hw=>by
    obtain⟨oj,hoj,x,hx,hb,hon⟩:=Region.waitsFor_spec hw
    have:=Z4 hback k oj (zat.1 hoj).1 hoj x hx hb
    omega
  have fin:∀{listed:Array Bool} {f:Nat->Value} {a b:Act} {e:bR} {h:zc} {d:Nat} {done todo:List Nat},(∀k,k<ops.size->listed.getD k Tc=Ta)->St7 gq P n ops h0 K f a0 listed a b e h done todo->Q .normal a (mk B d h):=by
    intro listed f a b e h d done todo hall S
    have htodo:todo=[]:=by
      cases htd:todo with
      |nil=>rfl
      |cons j l=>
        have hm:j∈todo:=by rw[htd];simp
        have hj:=S.th j hm
        have:=(S.tt j hj).1 hm
        rw[hall j (qX.1 hj).1]at this;cases this
    obtain⟨fu,_,hw⟩:=S.wt
    rw[htodo]at hw
    have hw:K (clean e) h:=by cases fu <;> exact hw
    have hv:∀s,qk a s=qk b s:=λs=>S.ag s λi o ho hq hl=>by
      grind
    have hs:Sat n e a:=⟨S.ad,S.sz,λx hx=>by
      have:=S.sb.all x hx
      have e1:qk a=qk b:=funext hv
      grind⟩
    exact hQ _ _ _ _ hs.clean S.sm hw
  intro N
  induction N with
  |zero=>
    intro U listed f a b e h d done todo hU _ hmem S
    have hUn:U=[]:=zds.1 hU
    subst hUn
    have hall:∀k,k<ops.size->listed.getD k Tc=Ta:=λk hk=>by
      simp_all
    refine⟨?_,fin hall S⟩
    rw[List.eq_nil_iff_forall_not_mem]
    intro j hj
    obtain⟨h1,o,ho,_⟩:=mem_ready.1 hj
    grind
  |succ N ih=>
    intro U listed f a b e h d done todo hU hdup hmem S
    have hex:∃k,k<ops.size/\listed.getD k Tc=Tc:=by
      cases U with
      |nil=>cases hU
      |cons k U=>exact⟨k,(hmem k).1 za2⟩
    refine⟨λhr=>?_,λi hi=>?_⟩
    · exfalso
      obtain⟨k,hk1,hk2,hk3⟩:=Sx hex
      have:k∈Region.ready .any ops listed:=mem_ready.2 ⟨by rw[<-hk2];simp[S.inv.size,hk1],ops[k],zcl hk1,λx hx hb=>hk3 _ (Z4 hback k ops[k] hk1 (zcl hk1) x hx hb)⟩
      grind
    · obtain⟨hun1,o,ho,hall⟩:=mem_ready.1 hi
      have hun:listed.getD i Tc=Tc:=getD_both hun1
      have hlt:i<ops.size:=(zat.1 ho).1
      obtain⟨hns,hgs⟩:=hgd i o ho
      have hils:i<listed.size:=by rw[S.inv.size];exact hlt
      have hU':(U.erase i).length=N:=by rw[List.length_erase_of_mem ((hmem i).2 ⟨hlt,hun⟩),hU];rfl
      have hdup':(U.erase i).Nodup:=hdup.erase i
      have hmem':∀k,k∈U.erase i↔k<ops.size/\(listed.setIfInBounds i Ta).getD k Tc=Tc:=λk=>by
        rw[hdup.mem_erase_iff,hmem k]
        by_cases hk:i=k
        · subst hk;simp[hils]
        · rw[getD_set_ne Tc hk];grind
      have inv':=S.inv.set hi hlt
      have hset:∀k,k≠i->(listed.setIfInBounds i Ta).getD k Tc=listed.getD k Tc:=λk hk=>getD_set_ne Tc (Ne.symm hk)
      have hsetI:(listed.setIfInBounds i Ta).getD i Tc=Ta:=by simp[hils]
      have hops:∀t∈tmpsOf o.op.operands.toList,qk a t=qk b t:=λt ht=>S.ag t λk ok hok hq hl hd=>by
        rcases hslot0 i o ho k t (zat.1 hok).1 (by rw[yu hok,hd]) ht with hw|hw
        grind [uH]
        grind
      have hexec:=A7 hns hops
      have hsame:∀v,Same (xy ops.toList) a0 (a.put o.dst v):=λv=>S.sm.trans (Same.put a o.dst _ λt ht=>IX (by
          grind) t ht)
      unfold wpOp
      rw[ho]
      simp only
      have hwab:zbr o (yielded ops a.tmps)=zbr o (yielded ops b.tmps):=X7 λt ht=>S.ag t λk ok hok hq hl hd=>by
        have hw:=Yy hgs k t (zat.1 hok).1 (by rw[yu hok,hd]) ht
        grind [uH]
      cases hq:X6 gq ops i with
      |false=>
        have hrdyG:∀m k ok,k<m->ops[k]?=Td ok->X6 gq ops k=Tc->(∀p,Region.waitsFor .any ops k p=Ta->listed.getD p Tc=Ta)->k∈Jj gq ops done ops.size:=by
          intro m
          induction m with
          |zero=>omega
          |succ m ihm=>
            intro k ok hk hok hkh hkw
            refine uI (zat.1 hok).1 hkh (vc.2 λp hp hw=>⟨λhph=>?_,λhph=>?_⟩)
            · have hpl:=hkw p hw
              exact(S.ch p (qX.2 ⟨by grind,hph⟩)).1 hpl
            · have hps:p<ops.size:=by have:=(zat.1 hok).1;omega
              have hin:=ihm p ops[p] (by omega) (zcl hps) hph λq hq2=>Yz S.inv (hkw p hw) hq2
              grind [xm,uI]
        have hrdy:=hrdyG (i+1) i o (by omega) ho hq λp hw=>uH hi hw
        have hqx:=S.qx i o ho hrdy hun
        have hnot:i∉i0 gq ops:=λhm=>by rw[(qX.1 hm).2]at hq;cases hq
        have hunset:∀k,(listed.setIfInBounds i Ta).getD k Tc=Tc->listed.getD k Tc=Tc:=λk hu=>by
          grind
        have hfin:wpAny P .any ops Q N (listed.setIfInBounds i Ta) (a.put o.dst (f i)) (mk B d h):=by
         refine ih _ _ f _ b e h d done todo hU' hdup' hmem' { S with inv:=inv',ag:=λs hs=>?_,sz:=by rw[size_put];exact S.sz,ad:=by rw[Zt];exact S.ad,tt:=λj hj=>(by have:j≠i:=λe=>hnot (e ▸ hj);rw[hset j this];exact S.tt j hj),ch:=λj hj=>?_,qx:=λk ok hok hk hu=>S.qx k ok hok hk (hunset k hu),kp:=λk ok hok hl hkh hk=>?_,sm:=hsame _ }
         · by_cases hd:o.dst=Td s
           · obtain⟨hv,hsn⟩:=S.qv i o s ho hrdy hd
             rw[hd,Z3 (by rw[S.sz];exact hsn),hv]
           · rw[we hd]
             refine S.ag s λk ok hok hqk hlk=>?_
             grind
         · have:j≠i:=λe=>hnot (e ▸ hj)
           rw[hset j this];exact S.ch j hj
         · by_cases hki:k=i
           grind
           · rw[hset k hki]at hk;exact S.kp k ok hok hl hkh hk
        by_cases hw:zbr o (yielded ops a.tmps)=Ta
        · rw[zA hw]
          left
          unfold Oper.wp
          rw[hexec,hqx.1 (by grind) h (by
            cases hl:jb o with
            |false=>exact .inl hl
            |true=>exact S.kp i o ho hl hq hun (by grind)) B d,Oper.upon_value]
          exact hfin
        grind
      |true=>
        have hin:i∈i0 gq ops:=qX.2 ⟨hlt,hq⟩
        have hit:i∈todo:=(S.tt i hin).2 hun
        obtain⟨fu,hfu,hW0⟩:=S.wt
        have hcl:∀p q,(listed.setIfInBounds i Ta).getD p Tc=Ta->Region.waitsFor .any ops p q=Ta->(listed.setIfInBounds i Ta).getD q Tc=Ta:=λp q h1 h2=>Yz inv' h1 h2
        have hcand:ut ops todo i=Ta:=by
          unfold ut
          rw[za7]
          intro k hk
          cases hki:Nat.beq k i with
          |true=>rfl
          |false=>
            have hne:k≠i:=λe=>by rw[e]at hki;simp at hki
            cases hr:Xo (lN ops ops.size [i]) k with
            |false=>rfl
            |true=>
              exfalso
              have:=xQ hcl (m:=ops.size) (S:=[i]) (λj hj=>by grind) k (Wb hr)
              rw[hset k hne]at this
              have h2:=(S.tt k (S.th k hk)).1 hk
              grind
        have hW:match ops[i]? with
            |some o=>(match xz ops e o.guard with|some c=>bif xj n c o.dst then mK P o e c h λv h'=>wI P n h' Tc ops (λe'=>sd gq ops (i::done) e' h0 h' (lS gq P n ops h0 K (fu-1) (i::done) (i8 i todo) e' h')) (Jk (Jj gq ops done ops.size) (Jj gq ops (i::done) ops.size) ops.size) (putO e o.dst c v)else False|none=>False)
            |none=>False:=by
          cases fu with
          |zero=>grind
          |succ fu=>
            grind [QI]
        rw[ho]at hW
        simp only at hW
        cases hch:xz ops e o.guard with
        |none=>grind
        |some c=>
        rw[hch]at hW
        simp only at hW
        cases hd:xj n c o.dst with
        |false=>grind
        |true=>
          rw[hd,zK]at hW
          have hwv:=Z6 S.sb hch
          have key:∀(v u:Value) (d':Nat) (h':zc),(valid (qk b) c->u=v)->(¬valid (qk b) c->u=undef)->wI P n h' Tc ops (λe'=>sd gq ops (i::done) e' h0 h' (lS gq P n ops h0 K (fu-1) (i::done) (i8 i todo) e' h')) (Jk (Jj gq ops done ops.size) (Jj gq ops (i::done) ops.size) ops.size) (putO e o.dst c v)->wpAny P .any ops Q N (listed.setIfInBounds i Ta) (a.put o.dst u) (mk B d' h'):=by
           intro v v2 d' h' hv1 hv0 hK
           have sb1:Sat n (putO e o.dst c v) (b.put o.dst v2):=S.sb.putO hd hv1 hv0
           generalize hbl:Jk (Jj gq ops done ops.size) (Jj gq ops (i::done) ops.size) ops.size=bl at hK
           have hbm:∀k,k∈bl↔k<ops.size/\k∈Jj gq ops (i::done) ops.size/\k∉Jj gq ops done ops.size:=λk=>by rw[<-hbl];exact Hn
           have hbsort:bl.Pairwise (· < ·):=by rw[<-hbl];exact I8 _ _ _
           have hbnd:bl.Nodup:=hbsort.imp λh=>by omega
           obtain⟨f',e2,HK,sb2,hf0,hfx⟩:=wO f hbnd hK sb1
           have hbf:=Cl hng hback hnd hsl (f:=f') (l:=bl) (b:=b.put o.dst v2) sb1.size (λk hk=>((hbm k).1 hk).1) (λk hk=>(xm ((hbm k).1 hk).2.1).2.1) hbsort hfx
           have hbnh:∀k∈bl,X6 gq ops k=Tc:=λk hk=>(xm ((hbm k).1 hk).2.1).2.1
           have hlist':∀j,j∈i0 gq ops->((listed.setIfInBounds i Ta).getD j Tc=Ta↔j∈i::done):=λj hj=>by
             by_cases hji:j=i
             · subst hji;grind
             · rw[hset j hji,S.ch j hj];simp[hji]
           have hjl:∀j∈i::done,(listed.setIfInBounds i Ta).getD j Tc=Ta:=λj hj=>by
             rcases zan.1 hj with rfl|hj
             · exact hsetI
             · exact getD_set_true ((S.ch j (S.dn j hj)).2 hj)
           have hup:∀k,k∈lN ops ops.size (i::done)->(listed.setIfInBounds i Ta).getD k Tc=Ta:=λk hk=>xQ hcl hjl k hk
           have hundone:i∉done:=λhm=>by rw[(S.ch i hin).2 hm]at hun;cases hun
           have hslot1:∀k ok,ops[k]?=Td ok->k∈Jj gq ops done ops.size->listed.getD k Tc=Tc->∀t∈tmpsOf ok.op.operands.toList,qk (b.put o.dst v2) t=qk b t:=λk ok hok hk hu t ht=>we λhdo=>by
             rcases hslot0 k ok hok i t hlt (by rw[yu ho,hdo]) ht with hw|hw
             · exact hundone ((u9 hk (hbk k i hw) hw).1 hq)
             · rw[uH hi hw.2]at hu;cases hu
           have hslot2:∀k ok,ops[k]?=Td ok->k∈Jj gq ops done ops.size->listed.getD k Tc=Tc->∀t∈tmpsOf ok.op.operands.toList,qk (yj ops f' bl (b.put o.dst v2)) t=qk b t:=λk ok hok hk hu t ht=>by
             rw[jo λp hp hdp=>?_]
             · exact hslot1 k ok hok hk hu t ht
             · rcases hslot0 k ok hok p t ((hbm p).1 hp).1 hdp ht with hw|hw
               · exact((hbm p).1 hp).2.2 ((u9 hk (hbk k p hw) hw).2 (hbnh p hp))
               · have:=hbnh p hp
                 grind
           have hslot3:∀k ok,ops[k]?=Td ok->k∈Jj gq ops done ops.size->zbr ok (yielded ops (yj ops f' bl (b.put o.dst v2)).tmps)=zbr ok (yielded ops b.tmps):=λk ok hok hk=>X7 λt ht=>by
             have hwt:∀p,p<ops.size->w8 ops p=Td t->Region.waitsFor .any ops k p=Ta:=λp hp hd=>Yy (hgd k ok hok).2 p t hp hd ht
             rw[jo λp hp hdp=>((hbm p).1 hp).2.2 ((u9 hk (hbk k p (hwt p ((hbm p).1 hp).1 hdp)) (hwt p ((hbm p).1 hp).1 hdp)).2 (hbnh p hp))]
             exact we λhdo=>hundone ((u9 hk (hbk k i (hwt i hlt (by rw[yu ho,hdo]))) (hwt i hlt (by rw[yu ho,hdo]))).1 hq)
           have hdist:∀k ok t,ops[k]?=Td ok->k≠i->ok.dst=Td t->o.dst≠Td t:=λk ok t hok hki hdk hdo=>by
             have:=Wa hnd k i t (zat.1 hok).1 hlt (by rw[yu hok,hdk]) (by rw[yu ho,hdo])
             exact hki this
           have hne_i:∀k,X6 gq ops k=Tc->k≠i:=λk hk e=>by rw[e,hq]at hk;cases hk
           have hQK:lS gq P n ops h0 K (fu-1) (i::done) (i8 i todo) e2 h'/\(∀k ok,ops[k]?=Td ok->jb ok=Ta->X6 gq ops k=Tc->(listed.setIfInBounds i Ta).getD k Tc=Tc->zbr ok (yielded ops (yj ops f' bl (b.put o.dst v2)).tmps)=Ta->LdOK ok (yj ops f' bl (b.put o.dst v2)).eval h0 h'):=by
             unfold sd at HK
             cases hl:pZ gq ops (lN ops ops.size (i::done)) ops.size with
             |false=>
               rw[hl,zL]at HK
               exact⟨HK,λk ok hok hlo hkh hf _=>by rw[hup k (C6 hl k ok (zat.1 hok).1 hok hlo hkh)]at hf;cases hf⟩
             |true=>
               rw[hl,zK]at HK
               obtain⟨g1,g2⟩:=FL HK
               refine⟨g1,λk ok hok hlo hkh hf hw=>.inr (.inr λt a p hop hp=>?_)⟩
               obtain⟨t',a',p',c',g',e1,ec,eg,e2',e3,e4⟩:=g2 k ok (zat.1 hok).1 hok hlo hkh (λhm=>by rw[hup k hm]at hf;cases hf)
               rw[hop]at e1
               injection e1 with _ e1
               subst e1
               have hvc:=(Z6 sb2 ec).1 hw
               have eb:(yj ops f' bl (b.put o.dst v2)).eval a=jG e2 c' a:=J8 sb2 hvc e2' a (by simp)
               rw[eb,e3]at hp
               injection hp with hp
               injection hp with hp
               rw[<-hp];exact e4.out (Q9 sb2 eg hvc)
           have htt:∀j,j∈i0 gq ops->(j∈i8 i todo↔(listed.setIfInBounds i Ta).getD j Tc=Tc):=λj hj=>by
             rw[pT]
             by_cases hji:j=i
             · subst hji;rw[hsetI];simp
             · rw[hset j hji,<-S.tt j hj];simp;omega
           refine ih _ _ f' _ (yj ops f' bl (b.put o.dst v2)) e2 h' d' (i::done) (i8 i todo) hU' hdup' hmem' ⟨inv',λs hs=>?_,by rw[size_put];exact S.sz,by rw[Zt];exact S.ad,sb2,λk ok t hok hk hdk=>?_,λk ok hok hk hu=>?_,htt,hlist',(λj hj=>by
             rcases zan.1 hj with rfl|hj
             · exact hin
             · exact S.dn j hj),(λj hj=>S.th j (pT.1 hj).1),BD S.nd,⟨fu-1,by have:=FT hit;omega,hQK.1⟩,hQK.2,hsame _⟩
           · -- slots
             have hs':∀k ok,ops[k]?=Td ok->X6 gq ops k=Tc->listed.getD k Tc=Tc->ok.dst≠Td s:=λk ok hok hqk hlk=>hs k ok hok hqk (by rw[hset k (hne_i k hqk)];exact hlk)
             have hbl:∀p∈bl,w8 ops p≠Td s:=λp hp hdp=>by
               have hps:=((hbm p).1 hp).1
               have hok:ops[p]?=Td ops[p]:=zcl hps
               have hph:=hbnh p hp
               refine hs p _ hok hph ?_ (by rw[<-yu hok];exact hdp)
               cases hlp:(listed.setIfInBounds i Ta).getD p Tc with
               |false=>rfl
               |true=>
                 exfalso
                 rw[hset p (hne_i p hph)]at hlp
                 have:∀m q,q<m->q<ops.size->X6 gq ops q=Tc->listed.getD q Tc=Ta->q∈Jj gq ops done ops.size:=by
                   intro m
                   induction m with
                   |zero=>omega
                   |succ m ihm=>
                     intro q hqm hqs hqh hql
                     refine uI hqs hqh (vc.2 λp2 hp2 hw2=>⟨λhph2=>?_,λhph2=>?_⟩)
                     · exact(S.ch p2 (qX.2 ⟨by omega,hph2⟩)).1 (Yz S.inv hql hw2)
                     · have hin2:=ihm p2 (by omega) (by omega) hph2 (Yz S.inv hql hw2)
                       obtain⟨_,g2,g3⟩:=xm hin2
                       exact uI hp2 g2 g3
                 exact((hbm p).1 hp).2.2 (this (p+1) p (by omega) hps hph hlp)
             rw[jo hbl]
             by_cases hds:o.dst=Td s
             · rw[hds]
               have hsn:s<n:=by
                 rw[hds]at hd
                 unfold xj at hd
                 simp at hd;exact hd.2
               rw[Z3 (by rw[S.sz];exact hsn),Z3 (by rw[S.sb.size];exact hsn)]
             · rw[we hds,we hds];exact S.ag s hs'
           · by_cases hkb:k∈bl
             · exact(hbf k ok hok hkb).1 t hdk
             · have hk0:k∈Jj gq ops done ops.size:=Classical.byContradiction λhc=>hkb ((hbm k).2 ⟨(zat.1 hok).1,hk,hc⟩)
               have hkh:=(xm hk0).2.1
               obtain⟨q1,q2⟩:=S.qv k ok t hok hk0 hdk
               refine⟨?_,q2⟩
               rw[jo λp hp hdp=>?_,we (hdist k ok t hok (hne_i k hkh) hdk),q1,hf0 k hkb]
               have:=Wa hnd p k t ((hbm p).1 hp).1 (zat.1 hok).1 hdp (by rw[yu hok,hdk])
               subst this;exact hkb hp
           · by_cases hkb:k∈bl
             · obtain⟨_,q2,q3,q4⟩:=hbf k ok hok hkb
               exact⟨λhw h'' _=>q3 hw h'' (.inl (q2 rfl)),q4⟩
             · have hk0:k∈Jj gq ops done ops.size:=Classical.byContradiction λhc=>hkb ((hbm k).2 ⟨(zat.1 hok).1,hk,hc⟩)
               have hu0:listed.getD k Tc=Tc:=by rw[<-hset k (hne_i k (xm hk0).2.1)];exact hu
               have hx:=S.qx k ok hok hk0 hu0
               rw[hslot3 k ok hok hk0,hf0 k hkb,A7 (b:=b) (hgd k ok hok).1 (hslot2 k ok hok hk0 hu0)]
               exact⟨λhw h'' hh=>hx.1 hw h'' (LdOK.congr (λx hx=>(tc (hslot2 k ok hok hk0 hu0) x hx).symm) hh),hx.2⟩
          by_cases hv:valid (qk b) c
          · rw[zA (by grind)]
            left
            unfold Oper.wp
            rw[hexec]
            refine VY (b:=b) S.sb.defers ?_
            refine Gf hW S.sb hv B d λv d' h' hK=>⟨by rw[Zt];exact S.sb.defers,λv2 hv2=>?_⟩
            have hbv:b.put o.dst v2=b.put o.dst v:=hv2.symm
            by_cases hds:∃t,o.dst=Td t
            · obtain⟨t,ht⟩:=hds
              have htn:t<n:=by
                have hd2:=hd
                rw[ht]at hd2
                unfold xj at hd2
                simp at hd2;exact hd2.2
              have:v2=v:=by
                have e1:qk (b.put o.dst v2) t=qk (b.put o.dst v) t:=by rw[hbv]
                rw[ht,Z3 (by rw[S.sb.size];exact htn),Z3 (by rw[S.sb.size];exact htn)]at e1
                exact e1
              grind
            · have hdn:o.dst=Te:=by
                cases hdx:o.dst with
                |none=>rfl
                |some t=>grind
              have e1:a.put o.dst v2=a.put o.dst v:=by rw[hdn];rfl
              grind
          · rw[zv (by grind)]
            obtain⟨v,hK⟩:=Ck hW S.sb hv
            grind
theorem CM{K:bR->zc->Prop}{Q:Exit->Act->World->Prop}(B:World)(q:ns gq ops=Ta) (H:wI P n h Ta ops (λA=>lS gq P n ops h K (i0 gq ops).length [] (i0 gq ops) A h) (Jk [] (Jj gq ops [] ops.size) ops.size) e) (C:Sat n e a)
  (hQ:∀A F Z h',Sat n A F->Same (xy ops.toList) a F->K A h'->Q .normal F (mk B Z h')) (d:Nat):wpAny P .any ops Q ops.size (zc4 ops.size Tc) a (mk B d h):=by
 obtain⟨D,r,N,L⟩:=HH q;have m:∀k,k∈Jk [] (Jj gq ops [] ops.size) ops.size↔k∈Jj gq ops [] ops.size:=λk=>by rw[Hn];exact⟨λh=>h.2.1,λh=>⟨(xm h).1,h,by simp⟩⟩
 have c:=I8 [] (Jj gq ops [] ops.size) ops.size;generalize Jk [] (Jj gq ops [] ops.size) ops.size=bl at H m c;have z:bl.Nodup:=c.imp λh=>by omega
 obtain⟨f,V,HK,M,_,O⟩:=wO (λ_=>undef) z H C;have y:=Cl D r N L (f:=f) (l:=bl) (b:=a) C.size (λk J=>(xm ((m k).1 J)).1) (λk J=>(xm ((m k).1 J)).2.1) c O;have w:∀s,(∀i o,ops[i]?=Td o->X6 gq ops i=Tc->(zc4 ops.size Tc).getD i Tc=Tc->o.dst≠Td s)->qk a s=qk (yj ops f bl a) s:=λs E=>(jo λp U I=>by have S:=(xm ((m p).1 U)).1;have x:ops[p]?=Td ops[p]:=zcl S;exact E p _ x (xm ((m p).1 U)).2.1 (getD_replicate_false _ _) (by rw[<-yu x];exact I)).symm;refine Ve B q hQ ops.size (zaq ops.size) _ f a (yj ops f bl a) V h d [] (i0 gq ops) List.length_range List.nodup_range (λk=>by rw[zbn,getD_replicate_false];simp) ⟨⟨by simp,λj oj _ T=>(by rw[getD_replicate_false]at T;cases T),λt ht Y=>by omega⟩,w,C.size,C.defers,M,λi o t G hi hd=>(y i o G ((m i).2 hi)).1 t hd,λi o G hi _=>(y i o G ((m i).2 hi)).2.2,(λj u=>by rw[getD_replicate_false];simp[u]),(λj u=>by rw[getD_replicate_false];simp),(λj u=>by cases u),(λj u=>u),XK ops,⟨_,zac _,HK⟩,λ_ _ _ _ _ _=>λ_=>.inr (.inl (Keep.refl _ _)),Same.refl _ _⟩
def zS:List (Nat×Nat)->Nat->Option Nat
 |[],_=>Te
 |(j,m)::l,i=>bif Nat.beq i j then Td m else zS l i
def regionF(P:Program)(n:Nat)(f:List (Nat×Nat))(id:Nat)(ops:Array Oper)(b:Bool)(K:bR->zc->Prop)(e:bR)(h:zc):Prop:=
 bif b then(match zS f id with
  |none=>bif Region.lexB .any ops then wQ P n ops h Ta (λc=>K (clean c) h) ops.toList e else False
  |some m=>bif ns (Nat.beq m 7000) ops then wI P n h Ta ops (λc=>lS (Nat.beq m 7000) P n ops h K (i0 (Nat.beq m 7000) ops).length [] (i0 (Nat.beq m 7000) ops) c h) (Jk [] (Jj (Nat.beq m 7000) ops [] ops.size) ops.size) e else False)
 else wR P n ops K ops.toList e h
theorem We(l m:List Oper):xy (l++m)=xy l++xy m:=by
 induction l with
 |nil=>rfl
 |cons o l b=>simp only[zbz,xy];split <;> simp[b]
theorem EA(l:P.follows .mixedOrders=Ta){o:List (Nat×Nat)}{id:Nat}{b:Bool}{K:bR->zc->Prop} (H:regionF P n o id ops b K e h) (B:World) (d:Nat) (f:Sat n e a) {Q:Exit->Act->World->Prop}
  (i:∀j c k h',Sat n j c->Same (xy ops.toList) a c->K j h'->Q .normal c (mk B k h')):(zfj id ops b).wp P Q a (mk B d h):=by
 unfold regionF at H;cases b with
 |false=>exact wp_region_list (rD B _ _ _ _ _ H f i)
 |true=>
  simp only[zK]at H;split at H;cases hB:Region.lexB .any ops with
  |false=>rw[hB]at H;exact H.elim
  |true=>rw[hB]at H;refine wp_region_quiet (C:=λw=>∃d,w=mk B d h) l hB ⟨d+1,rfl⟩ ?_;refine Ds B _ _ _ H f λj c q t r=>?_;rintro w' ⟨k,rfl⟩;exact i _ _ _ _ q.clean t r
  rename_i m _;cases hB:ns (Nat.beq m 7000) ops with
  |false=>rw[hB]at H;exact H.elim
  |true=>rw[hB]at H;exact wp_region_any l (CM B hB H f i (d+1))
end
section
variable {n:Nat} {e:bR} {a:Act} {ms:List Nat} {P:Program} {h:zc} {R:Value -> zc -> Prop} {f:FuncId}
@[reducible] def j0:List Atom->Type->Type
 |[],X=>X
 |t::l,X=>t.den->j0 l X
def sn{X:Type}:(l:List Atom)->j0 l X->(List Value->X->Prop)->Prop
 |[],f,k=>k [] f
 |t::l,f,k=>∀x:t.den,sn l (f x) λvs y=>k (t.enc x::vs) y
def iY{X:Type}:(l:List Atom)->List Value->j0 l X->Option X
 |[],[],f=>Td f
 |t::l,v::vs,f=>match t.dec v with
  |some x=>iY l vs (f x)
  |none=>Te
 |_,_,_=>Te
def ox{X:Type}:(l:List Atom)->(List Value->X)->j0 l X
 |[],f=>f []
 |t::l,f=>λx=>ox l λvs=>f (t.enc x::vs)
def nW{X Y:Type}:(l:List Atom)->j0 l X->j0 l Y->j0 l (X×Y)
 |[],f,g=>(f,g)
 |_::l,f,g=>λx=>nW l (f x) (g x)
theorem tJ{X:Type}:∀{l:List Atom} {vs:List Value} {f:j0 l X} {x:X} {k:List Value->X->Prop},iY l vs f=Td x->sn l f k->k vs x
 |[],[],f,x,k,h,g=>by simp only[iY,zad]at h;subst h;exact g
 |[],_::_,f,x,k,h,g=>by simp[iY]at h
 |_::_,[],f,x,k,h,g=>by simp[iY]at h
 |t::l,v::vs,f,x,k,h,g=>by simp only[iY]at h;split at h;rename_i y b;have:=tJ h (g y);grind [Atom.enc_of_dec];cases h
theorem wY{X:Type}:∀{l:List Atom} {vs:List Value} {f:List Value->X} {x:X},iY l vs (ox l f)=Td x->x=f vs
 |[],[],f,x,h=>by simp only[iY,ox,zad]at h;exact h.symm
 |[],_::_,f,x,h=>by simp[iY]at h
 |_::_,[],f,x,h=>by simp[iY]at h
 |t::l,v::vs,f,x,h=>by simp only[iY,ox]at h;split at h;rename_i y b;have:=wY h;grind [Atom.enc_of_dec];cases h
theorem Be{X:Type}:∀{l:List Atom} {f:List Value->X} {k:List Value->X->Prop},(∀vs,k vs (f vs))->sn l (ox l f) k
 |[],_,_,h=>h []
 |_::_,_,_,h=>λ_=>Be λ_=>h _
abbrev iQ:=List (Nat×VT)
def ju:iQ->List Atom
 |[]=>[]
 |(_,.one t)::J=>t::ju J
 |(_,.agg l)::J=>l++ju J
def Xp(σ:Nat->Option Value):iQ->Option (List Value)
 |[]=>Td []
 |(i,.one _)::J=>match σ i,Xp σ J with
  |some v,some vs=>Td (v::vs)
  |_,_=>Te
 |(i,.agg l)::J=>match σ i,Xp σ J with
  |some (.agg cs),some vs=>bif Nat.beq cs.toList.length l.length then Td (cs.toList++vs)else Te
  |_,_=>Te
def Ya:iQ->List Value->bR
 |[],_=>[]
 |(i,.one _)::J,v::vs=>(i,[],v)::Ya J vs
 |(_,.one _)::_,[]=>[]
 |(i,.agg l)::J,vs=>(i,[],.agg (vs.take l.length).toArray)::Ya J (vs.drop l.length)
def mq(e:bR)(i:Nat):Option Value:=match look e i with
 |some ([],v)=>Td v
 |_=>Te
theorem Yb(h:Sat n e a){i:Nat}{v:Value}(b:mq e i=Td v):qk a i=v:=by unfold mq at b;split at b;rename_i u c;simp only[zad]at b;subst b;exact(h.all _ (pp c)).1 trivial;cases b
theorem yg{n:Nat}{e:bR}{a:Act}(h:Sat n e a):∀{J:iQ} {vs:List Value},Xp (mq e) J=Td vs->Xp (λi=>Td (qk a i)) J=Td vs
 |[],vs,hv=>hv
 |(i,.one t)::J,vs,hv=>by simp only[Xp]at hv ⊢;split at hv;rename_i v us h1 b;simp only[yg h b,Yb h h1];exact hv;cases hv
 |(i,.agg l)::J,vs,hv=>by simp only[Xp]at hv ⊢;split at hv;rename_i cs us h1 b;simp only[yg h b,Yb h h1];exact hv;cases hv
theorem X8{σ:Nat->Value}:∀{J:iQ} {vs:List Value},Xp (λi=>Td (σ i)) J=Td vs->∀x∈Ya J vs,fact σ x
 |[],vs,_,x,b=>by cases b
 |(i,.one t)::J,vs,hv,x,b=>by simp only[Xp]at hv;split at hv;rename_i v us h1 e;simp only[zad]at h1 hv;subst hv;simp only[Ya,zan]at b;rcases b with rfl|b;exact⟨λ_=>h1,λf=>absurd trivial f⟩;exact X8 e x b;cases hv
 |(i,.agg l)::J,vs,hv,x,b=>by
  simp only[Xp]at hv;split at hv;rename_i cs us h1 e;simp only[zad]at h1;cases hb:Nat.beq cs.toList.length l.length with
  |false=>simp_all
  |true=>rw[hb]at hv;simp only[zK,zad]at hv;subst hv;have c:cs.toList.length=l.length:=za4 hb;simp only[Ya,zan]at b;rcases b with rfl|b;refine⟨λ_=>?_,λf=>absurd trivial f⟩;simp_all;rw[<-c,List.drop_left]at b;exact X8 e x b
  cases hv
def Wg(ms:List Nat):bR->bR
 |[]=>[]
 |(i,[],v)::e=>bif Xo ms i then Wg ms e else(i,[],v)::Wg ms e
 |(_,_::_,_)::e=>Wg ms e
theorem XP{x:Nat×qw×Value}(h:x∈Wg ms e):x∈e/\x.2.1=[]/\x.1∉ms:=by
 induction e with
 |nil=>cases h
 |cons y e b=>
  obtain⟨i,c,v⟩:=y;cases c with
  |nil=>
   simp only[Wg]at h;cases hm:Xo ms i with
   |true=>simp_all
   |false=>rw[hm]at h;simp only[zL]at h;rcases zan.1 h with rfl|h;exact⟨za2,rfl,Jh hm⟩;simp_all
  |cons g c=>simp only[Wg]at h;simp_all
theorem X9{a a1:Act}(l:Sat n e a)(h:a1.defers=[])(hz:a1.tmps.size=n)(b:Same ms a a1){J:iQ}{vs:List Value}
  (o:Xp (λi=>Td (qk a1 i)) J=Td vs):Sat n (Ya J vs++Wg ms e) a1:=by
 refine⟨h,hz,λx c=>?_⟩;rcases zaj.1 c with c|c;exact X8 o x c;obtain⟨h1,f,k⟩:=XP c;have j:=l.all x h1;refine⟨λ_=>?_,λm=>absurd (by rw[f];trivial) m⟩;rw[b _ k];exact j.1 (by rw[f];trivial)
def y9:Code->Option Nat
 |.region id _ _=>Td id
 |.seq a b=>match y9 a with
  |some i=>Td i
  |none=>y9 b
 |.cond _ a b=>match y9 a with
  |some i=>Td i
  |none=>y9 b
 |.block _ b=>y9 b
 |.loop b=>y9 b
 |.scope b=>y9 b
 |_=>Te
def xp:Code->List Nat
 |.region _ ops _=>xy ops.toList
 |.seq a b=>xp a++xp b
 |.cond _ a b=>xp a++xp b
 |.block _ b=>xp b
 |.loop b=>xp b
 |.scope b=>xp b
 |_=>[]
structure Plan where
 tails:List (Nat×Nat)
 loops:List (Nat×iQ)
 joins:List (Nat×iQ)
def HA:List (Nat×iQ)->Nat->Option iQ
 |[],_=>Te
 |(j,m)::l,i=>bif Nat.beq i j then Td m else HA l i
def sQ(l:List (Nat×iQ)):Option Nat->Option iQ
 |some i=>HA l i
 |none=>Te
abbrev Jl:=Exit->bR->zc->Prop
def mG(K:bR->zc->Prop)(Q:Jl):Jl
 |.normal,e,h=>K e h
 |x,e,h=>Q x e h
def mF(id:Nat)(Q:Jl):Jl
 |.exit i,e,h=>bif Nat.beq i id then Q .normal e h else Q (.exit i) e h
 |x,e,h=>Q x e h
def RX(Q:Jl):Jl
 |.goto _,_,_=>False
 |x,e,h=>Q x e h
def qH{X:Type}(J:iQ)(F:j0 (ju J) X)(e:bR)(k:X->Prop):Prop:=
 match Xp (mq e) J with
 |some vs=>match iY (ju J) vs F with
  |some q=>k q
  |none=>False
 |none=>False
def FK(J:iQ)(rest:bR->zc->Prop)(F:(bR->zc->Prop)->Prop)(b:bR):Prop:=
 ∀K:j0 (ju J) (zc->Prop),sn (ju J) K (λvs q=>∀h,rest (Ya J vs++b) h->q h)->F λe h=>qH J K e λq=>q h
def Ai(J:iQ)(body:(bR->zc->Prop)->bR->zc->Prop)(b e:bR)(h:zc):Prop:=
 ∃(I:j0 (ju J) (zc->Prop)) (μ:j0 (ju J) (zc->Nat)),(qH J (nW (ju J) I μ) e λp=>p.1 h) /\
  sn (ju J) (nW (ju J) I μ) λvs p=>∀h,p.1 h->body (λc h'=>qH J (nW (ju J) I μ) c λq=>q.1 h'/\q.2 h'<p.2 h) (Ya J vs++b) h
def W(P:Program)(n:Nat)(pl:Plan):Code->Jl->bR->zc->Prop
 |.skip,Q,e,h=>Q .normal e h
 |.ret,Q,e,h=>Q .ret e h
 |.exit id,Q,e,h=>Q (.exit id) e h
 |.label _,Q,e,h=>Q .normal e h
 |.goto l,Q,e,h=>Q (.goto l) e h
 |.region id ops draw,Q,e,h=>regionF P n pl.tails id ops draw (λe h=>Q .normal e h) e h
 |.seq x y,Q,e,h=>match sQ pl.joins (y9 y)with
  |none=>W P n pl x (mG (λe h=>W P n pl y Q e h) Q) e h
  |some J=>FK J (λe h=>W P n pl y Q e h) (λK=>W P n pl x (mG K Q) e h) (Wg (xp x) e)
 |.cond c x y,Q,e,h=>match Xn e [] c with
  |some (.bool b)=>(b=Ta->W P n pl x Q e h)/\(b=Tc->W P n pl y Q e h)
  |_=>False
 |.block id x,Q,e,h=>W P n pl x (mF id Q) e h
 |.loop x,Q,e,h=>match sQ pl.loops (y9 x)with
  |some J=>Ai J (λf e h=>W P n pl x (mG f Q) e h) (Wg (xp x) e) e h
  |none=>False
 |.scope x,Q,e,h=>W P n pl x (RX Q) e h
 |_,_,_,_=>False
def JB(n:Nat)(B:World)(ms:List Nat)(b:Act)(Q:Jl):Exit->Act->World->Prop:=
 λx a w=>∃e d h,w=mk B d h/\Sat n e a/\Same ms b a/\Q x e h
theorem nt{X:Type}{J:iQ}{F:j0 (ju J) X}{k:X->Prop}(h:qH J F e k):∃vs q,Xp (mq e) J=Td vs/\iY (ju J) vs F=Td q/\k q:=by unfold qH at h;grind
theorem P5(hm:P.follows .mixedOrders=Ta){pl:Plan}:∀(c:Code) (Q:Jl) (e:bR) (h:zc),W P n pl c Q e h ->
  ∀(B:World) (d:Nat) (a:Act),Sat n e a->c.wp P (JB n B (xp c) a Q) a (mk B d h):=by
 intro c;induction c with
 |skip=>exact λQ e h H B d a f=>wp_skip ⟨e,d,h,rfl,f,Same.refl _ _,H⟩
 |ret=>exact λQ e h H B d a f=>wp_ret ⟨e,d,h,rfl,f,Same.refl _ _,H⟩
 |exit id=>exact λQ e h H B d a f=>wp_exit ⟨e,d,h,rfl,f,Same.refl _ _,H⟩
 |label l=>exact λQ e h H B d a f=>wp_label ⟨e,d,h,rfl,f,Same.refl _ _,H⟩
 |goto l=>exact λQ e h H B d a f=>wp_goto ⟨e,d,h,rfl,f,Same.refl _ _,H⟩
 |region id ops aj=>exact λQ e h H B d a f=>EA hm H B d f λe' a' d' h' j o q3=>⟨e',d',h',rfl,j,o,q3⟩
 |seq x y z A=>
  intro Q e h H B d a f;simp only[W]at H;have E:∀i∈xp x,i∈xp (x.seq y):=λi hi=>zau _ hi;have O:∀i∈xp y,i∈xp (x.seq y):=λi hi=>zbf _ hi;split at H;refine wp_seq (wp_mono (z _ _ _ H B d a f) ?_);rintro ex a1 w1 ⟨t,d1,h1,rfl,s1,m,j⟩;cases ex with
  |normal=>refine wp_mono (A _ _ _ j B d1 a1 s1) ?_;rintro ex a2 w2 ⟨r,d2,u,rfl,s2,w,o⟩;exact⟨r,d2,u,rfl,s2,(m.mono E).trans (w.mono O),o⟩
  |_=>exact⟨t,d1,h1,rfl,s1,m.mono E,j⟩
  rename_i J hJ;have H':=H (ox (ju J) λvs=>λh=>W P n pl y Q (Ya J vs++Wg (xp x) e) h) (Be λvs h G=>G);refine wp_seq (wp_mono (z _ _ _ H' B d a f) ?_);rintro ex a1 w1 ⟨t,d1,h1,rfl,s1,m,j⟩;cases ex with
  |normal=>obtain⟨vs,q,N,G,hk⟩:=nt j;have Y:=wY G;subst Y;have S:Sat n (Ya J vs++Wg (xp x) e) a1:=X9 f s1.defers s1.size m (yg s1 N);refine wp_mono (A _ _ _ hk B d1 a1 S) ?_;rintro ex a2 w2 ⟨r,d2,u,rfl,s2,w,o⟩;exact⟨r,d2,u,rfl,s2,(m.mono E).trans (w.mono O),o⟩
  |_=>exact⟨t,d1,h1,rfl,s1,m.mono E,j⟩
 |cond c x y z A=>intro Q e h H B d a f;simp only[W]at H;have E:∀i∈xp x,i∈xp (zfa c x y):=λi hi=>zau _ hi;have O:∀i∈xp y,i∈xp (zfa c x y):=λi hi=>zbf _ hi;split at H;rename_i b C;refine wp_cond_split (qy f (c:=[]) trivial C) (λT=>?_) (λab=>?_);refine wp_mono (z _ _ _ (H.1 T) B d a f) ?_;rintro ex a2 w2 ⟨r,d2,u,rfl,s2,w,o⟩;exact⟨r,d2,u,rfl,s2,w.mono E,o⟩;refine wp_mono (A _ _ _ (H.2 ab) B d a f) ?_;rintro ex a2 w2 ⟨r,d2,u,rfl,s2,w,o⟩;exact⟨r,d2,u,rfl,s2,w.mono O,o⟩;exact H.elim
 |block id x L=>
  intro Q e h H B d a f;refine wp_block (wp_mono (L _ _ _ H B d a f) ?_);rintro ex a1 w1 ⟨t,d1,h1,rfl,s1,m,j⟩;cases ex with
  |exit i=>simp only[mF]at j;simp only[Exit.inBlock];by_cases C:Nat.beq i id=Ta;rw[zA (za4 C)];simp only[C,zK]at j;exact⟨t,d1,h1,rfl,s1,m,j⟩;rw[zv (λhe=>C (by rw[he];simp))];simp only[C,zL]at j;exact⟨t,d1,h1,rfl,s1,m,j⟩
  |_=>exact⟨t,d1,h1,rfl,s1,m,j⟩
 |loop x L=>
  intro Q e h H B d a f;simp only[W]at H;split at H;rename_i J hJ;obtain⟨I,μ,h0,D⟩:=H;obtain⟨aa,p0,ah,ai,af⟩:=nt h0;let F:=nW (ju J) I μ;let at_:Act->Option ((zc->Prop)×(zc->Nat)):=λa1=>(Xp (λi=>Td (qk a1 i)) J).bind λvs=>iY (ju J) vs F;refine wp_loop (λa1 w1=>∃d1 h1 vs p,w1=mk B d1 h1/\a1.defers=[]/\a1.tmps.size=n/\Same (xp x) a a1/\Xp (λi=>Td (qk a1 i)) J=Td vs/\iY (ju J) vs F=Td p/\p.1 h1) (λa1 w1=>match at_ a1 with|some p=>p.2 w1.heap|none=>0) ⟨d,h,aa,p0,rfl,f.defers,f.size,Same.refl _ _,yg f ah,ai,af⟩ ?_;rintro a1 w1 ⟨d1,h1,vs,p,rfl,U,ae,k,N,hp,hI⟩;have s1:Sat n (Ya J vs++Wg (xp x) e) a1:=X9 f U ae k N;have C:=tJ hp D h1 hI;refine wp_mono (L _ _ _ C B d1 a1 s1) ?_;rintro ex a2 w2 ⟨r,d2,u,rfl,s2,w,o⟩;cases ex with
  |normal=>
   obtain⟨Z,q,M,G,V,ac⟩:=nt o;refine⟨⟨d2,u,Z,q,rfl,s2.defers,s2.size,k.trans w,yg s2 M,G,V⟩,?_⟩;have t:at_ a1=Td p:=by simp only[at_,N,zcr];exact hp
   have r:at_ a2=Td q:=by simp only[at_,yg s2 M,zcr];exact G
   rw[t,r];exact ac
  |_=>exact⟨r,d2,u,rfl,s2,k.trans w,o⟩
  exact H.elim
 |scope x L=>
  intro Q e h H B d a f;refine wp_scope_straight (wp_mono (L _ _ _ H B d a f) ?_);rintro ex a1 w1 ⟨t,d1,h1,rfl,s1,m,j⟩;cases ex with
  |goto l=>exact j
  |_=>exact⟨t,d1,h1,rfl,s1,m,j⟩
 |_=>exact λQ e h H=>H.elim
def lj:Nat->List Value->bR
 |_,[]=>[]
 |i,v::vs=>(i,[],v)::lj (i+1) vs
def kQ(P:Program)(h:zc)(e:bR):List ResultVar->(List Value->Prop)->Prop
 |[],K=>K []
 |.tmp t::l,K=>match mq e t with
  |some v=>kQ P h e l λvs=>K (v::vs)
  |none=>False
 |.cell a t::l,K=>match mq e a with
  |some p=>nj P h t p Te λv=>kQ P h e l λvs=>K (v::vs)
  |none=>False
def kN:List Value->Value
 |[v]=>v
 |vs=>.tuple vs.toArray
def uQ(P:Program)(rs:List ResultVar)(R:Value->zc->Prop):Jl
 |.normal,e,h=>kQ P h e rs λvs=>R (kN vs) h
 |.ret,e,h=>kQ P h e rs λvs=>R (kN vs) h
 |_,_,_=>False
def oB(tmps:Array Value):ResultVar->Sem Value
 |.tmp t=>pure (tmps.getD t undef)
 |.cell a t=>do loadVar t (<-asAddr (tmps.getD a undef))
theorem y3{P:Program}{n:Nat}{h:zc}{e:bR}{a:Act}(c:Sat n e a):∀{l:List ResultVar} {K:List Value->Prop},kQ P h e l K->∃vs,K vs/\vs.length=l.length/\QExec P (l.mapM (oB a.tmps)) h vs
 |[],K,H=>⟨[],H,rfl,λ_ _=>by simp⟩
 |.tmp t::l,K,H=>by simp only[kQ]at H;split at H;rename_i v o;obtain⟨vs,h1,f,i⟩:=y3 c H;refine⟨v::vs,h1,by simp[f],?_⟩;rw[ze6];refine QExec.bind (x:=v) ?_ (i.bind (QExec.pure _));rw[<-Yb c o];exact QExec.pure _;exact H.elim
 |.cell x t::l,K,H=>by simp only[kQ]at H;split at H;rename_i p j;obtain⟨v,q,m⟩:=HZ H;obtain⟨vs,h1,f,i⟩:=y3 c q;refine⟨v::vs,h1,by simp[f],?_⟩;rw[ze6];refine QExec.bind (x:=v) ?_ (i.bind (QExec.pure _));have k:a.tmps.getD x undef=p:=Yb c j;simp only[oB,k];have b:=m trivial;unfold zee at b;unfold nj at H;split at H;exact b;exact b;exact H.elim;exact H.elim
theorem Yc{fn:Func}(j:Sat n e a){rs:List ResultVar}(f:fn.results.toList=rs)(H:kQ P h e rs λvs=>R (kN vs) h):
  ∃v,R v h/\QExec P (results fn a.tmps) h v:=by
 obtain⟨vs,h1,c,i⟩:=y3 j H;refine⟨_,h1,?_⟩;intro B d;have b:results fn a.tmps=(fn.results.mapM (oB a.tmps) >>= λvs=>zek (if h:vs.size=1 then vs[0]else .tuple vs)):=by unfold results;congr 1
 rw[b,Array.mapM_eq_mapM_toList,f,Sem.run_bind,Sem.run_map,i B d];simp only[Result.andThen_ok,Sem.run_pure]
 match vs,c with
 |[],_=>rfl
 |[v],_=>rfl
 |v::u::vs,_=>simp[kN]
theorem tz(args:Array Value)(k:Nat):∀(vs:List Value) (i:Nat),(∀j v,vs[j]?=Td v->(args++zc4 k undef).getD (i+j) undef=v) ->
  ∀x∈lj i vs,fact (λi=>(args++zc4 k undef).getD i undef) x
 |[],_,_,x,b=>by cases b
 |v::vs,i,h,x,b=>by simp only[lj,zan]at b;rcases b with rfl|b;exact⟨λ_=>h 0 v rfl,λe=>absurd trivial e⟩;exact tz args k vs (i+1) (λj u c=>by have:=h (j+1) u (by simpa using c);grind) x b
theorem PW(t:P.follows .mixedOrders=Ta){fn:Func}{c:Code}(pl:Plan)(vs:List Value){rs:List ResultVar}(o:P.funcs[f]?=Td fn)(m:fn.body=Td c)(l:fn.results.toList=rs)(r:fn.ntmps=n)
  (hz:Nat.ble vs.length n=Ta) (H:W P n pl c (uQ P rs R) (lj 0 vs) h):XC P f vs.toArray h R:=by
 intro B d;subst r;refine calls_of_wp o m ?_;have x:vs.length<=fn.ntmps:=zc0 hz;have q:Sat fn.ntmps (lj 0 vs) { tmps:=vs.toArray++zc4 (fn.ntmps-vs.toArray.size) undef,defers:=[] }:=by
  refine⟨rfl,by simp;omega,?_⟩;refine tz vs.toArray _ vs 0 λj v u=>?_;have i:j<vs.length:=by rcases zb0 j vs.length with h|h;exact h;simp_all
  simp only[zas,zcb];rw[zdg (by simpa using i)];simp[u]
 refine wp_mono (P5 t c _ _ _ H B d _ q) ?_;rintro ex a w ⟨z,d1,h1,rfl,s1,y,e⟩;cases ex with
 |normal=>obtain⟨v,k,b⟩:=Yc s1 l e;exact⟨s1.defers,v,b B d1,v,d1,h1,rfl,rfl,k⟩
 |ret=>obtain⟨v,k,b⟩:=Yc s1 l e;exact⟨s1.defers,v,b B d1,v,d1,h1,rfl,rfl,k⟩
 |_=>exact e.elim
def codeOf(fn:Func):Code:=match fn.body with
 |some c=>c
 |none=>.skip
def Yd(fn:Func):Bool:=match fn.body with
 |some _=>Ta
 |none=>Tc
theorem QT(e:P.follows .mixedOrders=Ta)(pl:Plan)(vs:List Value){fn:Func}{rs:List ResultVar}(i:P.funcs[f]?=Td fn)(b:Yd fn=Ta)(j:fn.results.toList=rs)(k:fn.ntmps=n)
  (hz:Nat.ble vs.length n=Ta) (H:W P n pl (codeOf fn) (uQ P rs R) (lj 0 vs) h):XC P f vs.toArray h R:=by
 have c:fn.body=Td (codeOf fn):=by unfold Yd at b;unfold codeOf;split at b;omega;cases b
 grind [PW]
end
section
variable {n:Nat} {h h':zc} {a:Addr} {e t ty:TypeId} {xs news:List Value} {P:Program} {z:Value}
theorem yc(h:zc)(o:Obj):(h.push o)[h.size]?=Td o:=by simp
theorem ZP(k:Keep n h h')(b:a.block<n):zd h' a=zd h a:=by unfold zd;rw[k.get _ b]
theorem JV(e:h'[a.block]?=h[a.block]?):zd h' a=zd h a:=by unfold zd;rw[e]
def Arr(n:Nat)(h:zc)(a:Option Addr)(cs:List Value):Prop:=
 cs=[]\/∃b o,a=Td ⟨b,o,Te⟩/\b<n/\∀i v,cs[i]?=Td v->zd h ⟨b,o+i,Te⟩=Td v
theorem Arr.keep{a:Option Addr}{cs:List Value}(H:Arr n h a cs)(k:Keep n h h'):Arr n h' a cs:=by rcases H with e|⟨b,o,e,c,f⟩;exact .inl e;exact .inr ⟨b,o,e,c,λi v hi=>(ZP k (a:=⟨b,o+i,Te⟩) c).trans (f i v hi)⟩
theorem zf(b o i:Nat):(⟨b,o,Te⟩:Addr).add i=⟨b,o+i,Te⟩:=by unfold zab;simp
theorem Zc(a:Option Addr)(sz m:Nat):x9 a sz 0 m=a:=by
 unfold x9;split;rfl;cases a with
 |none=>rfl
 |some p=>simp[zab]
theorem wrap64{n:Int}(h1:-9223372036854775808<=n)(f:n<=9223372036854775807):w6 n=n:=by
 ((try unfold w6);unfold zaa);have e:(2:Int) ^ zb1 .i64=18446744073709551616:=by decide
 have b:(2:Int) ^ (zb1 .i64-1)=9223372036854775808:=by decide
 simp only[e,b];have c:zfi .i64=Ta:=rfl;grind
theorem zx{k:Nat}(h:k<9223372036854775807):w6 ((k:Int)+1)=((k+1:Nat):Int):=by grind [wrap64]
def Owns(h:zc)(base:Nat)(e:TypeId)(sz:Nat)(s:Sl)(xs:List Value):Prop:=
 (mk default 0 h).ownsRow base e sz (.slice s.a s.len s.cap) s.len xs
theorem Owns.nil(h:zc)(base:Nat)(e:TypeId)(sz:Nat):Owns h base e sz ⟨Te,0,0⟩ []:=World.ownsRow_nil _ _ _ _
theorem Owns.length{base:Nat}{sz:Nat}{s:Sl}(H:Owns h base e sz s xs):xs.length=s.len*sz:=H.1
theorem Owns.arr{base:Nat}{sz:Nat}{s:Sl}(H:Owns h base e sz s xs):Arr h.size h s.a xs:=by rcases H.2 with⟨f,h0⟩|⟨g,cap,b,f,q,k,m,r,n,o⟩;have j:=H.1;rw[h0]at j;exact .inl (by simpa using j);simp only[zbo]at f;have c:g<h.size:=(zat.1 k).1;refine .inr ⟨g,0,f.1,c,λi v hi=>?_⟩;have l:h[g]?=Td (.cells b e (0,0)):=k;unfold zd;grind
theorem Owns.base_le{base:Nat}{sz:Nat}{s:Sl}(H:Owns h base e sz s xs):∀p,s.a=Td p->base<=p.block/\p.block<h.size:=by intro p b;exact World.ownsRow.lt H p.block (by simp[Value.ownBlock,b])
theorem Owns.keep{base:Nat}{sz:Nat}{s:Sl}(H:Owns h base e sz s xs)(k:∀p,s.a=Td p->h'[p.block]?=h[p.block]?):Owns h' base e sz s xs:=by refine⟨H.1,?_⟩;rcases H.2 with j|⟨g,cap,b,c,f,i,rest⟩;grind;simp only[zbo]at c;refine .inr ⟨g,cap,b,by simp[c],f,?_,rest⟩;have:=k _ c.1;exact this.trans i
theorem Owns.keepN{base:Nat}{sz:Nat}{s:Sl}(H:Owns h base e sz s xs)(k:Keep h.size h h'):Owns h' base e sz s xs:= H.keep λp b=>k.get _ (H.base_le p b).2
structure ElemT (P:Program) (t e:TypeId) (z:Value) (sz bytes:Nat):Prop where
 slice:P.underlying t=Td (.slice e)
 info:∃i,P.info? e=Td i/\i.zero=Td z/\i.size=sz/\i.bytes=bytes
 zero:z.cells.size=sz
 pos:0<sz
theorem Hf{w:World}{i:TypeInfo}{sz bytes base:Nat}(y:P.underlying t=Td (.slice e))(hi:P.info? e=Td i)(hz:i.zero=Td z)(B:i.size=sz)(C:i.bytes=bytes) {v:Value} (f:w.ownsRow base e sz v n xs) {m c:Nat} (x:news.length=m*sz) (b:∀j u,news[j]?=Td u->w.cell? (a.add j)=Td u) (h1:∀u∈news,u.oneCell'=Ta) (M:n+m<=4611686018427387904) (k:(n+m)*bytes<=140737488355328) {G:Value} {w':World} (V:(zao #[t,t] ty #[v,.slice (Td a) m c]).run P w=.ok G w'):
  ∀A l H,G=.slice (Td A) l H->(∃p N U,v=.slice (Td p) N U/\A.block=p.block)\/A.block=w.heap.size:=by
 subst B C;intro A l H L;rcases f.2 with⟨rfl,rfl⟩|⟨g,cap,q,rfl,O,J,Q,I,F,D⟩;by_cases T:m=0;subst T;have S:news=[]:=zbb (by simpa using x);subst S;have E:(zao #[t,t] ty #[.slice Te 0 0,.slice (Td a) 0 c]).run P w=.ok (.slice Te 0 0) w:=by simp[zao,run_underlying y,sizeOf,typeInfo,hi,zfn,zc3,loadCells,loadCellsFrom]
 simp_all;have E:=run_append_nil (P:=P) (ty:=ty) w t e i z y hi hz a m c news x b (by omega) (by omega) (by grind);grind;by_cases h:n+m<=cap;have r:n*i.size+news.length<=q.size:=by rw[x,F,<-zcs];exact za8 _ h
 have E:=run_append_room (P:=P) (ty:=ty) w t e i y hi g n cap q J a m c news x b h1 h r;simp_all;have o:∀j u,xs[j]?=Td u->w.cell? ((⟨g,0,Te⟩:Addr).add j)=Td u:=f.cells (g:=g) rfl;have E:=run_append_grow (P:=P) (ty:=ty) w t e i z y hi hz ⟨g,0,Te⟩ n cap xs f.1 o a m c news x b (by omega) (by omega) (growslice_fits (by omega) k);grind
theorem Zw{sz bytes:Nat}(T:ElemT P t e z sz bytes){base:Nat}{s:Sl}(H:Owns h base e sz s xs) {src:Sl} (hs:Arr n h src.a news) (hl:news.length=src.len*sz) (h1:∀u∈news,u.oneCell'=Ta) (m:(s.len+src.len)*bytes<=140737488355328) (L:s.len+src.len<=4611686018427387904) (r:base<=h.size) {K:Value->zc->Prop} (hK:∀(f:Sl) (h':zc),f.len=s.len+src.len->Owns h' base e sz f (xs++news)->(∀i,i<h.size->(∀p,s.a=Td p->i≠p.block)->h'[i]?=h[i]?)->h.size<=h'.size->(∀k,f.a=Td k->(∃p,s.a=Td p/\k.block=p.block)\/k.block=h.size)->K (.slice f.a f.len f.cap) h'):
  qu P (zao #[t,t] ty #[.slice s.a s.len s.cap,.slice src.a src.len src.cap]) h K:=by
 intro B d;obtain⟨i,hi,hz,C,D⟩:=T.info;have key:∃y w',(zao #[t,t] ty #[.slice s.a s.len s.cap,.slice src.a src.len src.cap]).run P (mk B d h)=.ok y w'/\w'.ownsRow base e sz y (s.len+src.len) (xs++news)/\(mk B d h).grownBy w' (Value.ownBlock (.slice s.a s.len s.cap)) /\
   ∀k l J,y=.slice (Td k) l J->(∃p,s.a=Td p/\k.block=p.block)\/k.block=h.size:=by
  have c:(mk B d h).ownsRow base e sz (.slice s.a s.len s.cap) s.len xs:=H;rcases hs with S|⟨b,o,S,U,hc⟩;subst S;have h0:src.len=0:=by rcases zef src.len with h0|h0;exact h0;have:=Nat.mul_pos h0 T.pos;grind
  rw[h0];have Q:∃q,q=src.a:=⟨_,rfl⟩;obtain⟨q,Y⟩:=Q;rw[<-Y];cases q with
  |none=>
   refine⟨_,mk B d h,?_,by simpa using c,⟨rfl,rfl,rfl,zac _,λ_ _ _=>rfl⟩,λk l J A=>.inl ⟨k,by simp_all,rfl⟩⟩;have hT:=T.slice;have aa:s.len<=s.cap:=by rcases c.2 with⟨I,N⟩|⟨g,cap,Z,I,_,_,ac,_⟩;omega;simp_all
   generalize s.a=sa at *;cases sa <;> simp[zao,run_underlying hT,sizeOf,typeInfo,hi,zfn,zc3,aa,storeCells]
  |some p=>obtain⟨y,w',E,G,x,_⟩:=run_append_own (P:=P) (w:=mk B d h) base t ty e i z sz bytes T.slice hi hz C D T.zero T.pos (.slice s.a s.len s.cap) s.len xs c p 0 src.cap [] (by simp) (by simp) (by simp) (by unfold maxLen;omega) (by simp_all) r;refine⟨y,w',E,G,x,λk l J A=>?_⟩;rcases Hf T.slice hi hz C D c (news:=[]) (by simp) (by simp) (by simp) (by omega) (by simp_all) E k l J A with⟨q,l0,c0,Y,U⟩|U;simp_all;exact .inr U
  rw[S];obtain⟨y,w',E,G,x,_⟩:=run_append_own (P:=P) (w:=mk B d h) base t ty e i z sz bytes T.slice hi hz C D T.zero T.pos (.slice s.a s.len s.cap) s.len xs c ⟨b,o,Te⟩ src.len src.cap news hl (λj u hu=>by rw[zf];exact hc j u hu) h1 (by unfold maxLen;omega) m r;refine⟨y,w',E,G,x,λk l J A=>?_⟩;rcases Hf T.slice hi hz C D c hl (λj u hu=>by rw[zf];exact hc j u hu) h1 L m E k l J A with⟨q,l0,c0,Y,M⟩|M;simp_all;exact .inr M
 obtain⟨y,w',E,G,x,r4⟩:=key;have hw:w'=mk B w'.drawn w'.heap:=by have I:=x.os;have N:=x.tape;have e3:=x.output;cases w';simp only[mk]at *;subst I;subst N;subst e3;rfl
 rw[hw]at E;have hv:∃f:Sl,y=.slice f.a f.len f.cap/\f.len=s.len+src.len:=by rcases G.2 with⟨I,N⟩|⟨g,cap,Z,I,_⟩;exact⟨⟨Te,0,0⟩,I,N.symm⟩;exact⟨⟨Td ⟨g,0,Te⟩,s.len+src.len,cap⟩,I,rfl⟩
 obtain⟨f,rfl,F⟩:=hv;refine⟨_,_,_,E,hK f w'.heap F ?_ ?_ x.size λk V=>r4 k f.len f.cap (by rw[V])⟩;rw[<-F]at G;exact G;intro j hj ab;refine x.block j hj λO=>?_;cases Q:s.a with
 |none=>rw[Q]at O;cases O
 |some p=>rw[Q]at O;simp only[Value.ownBlock,zad]at O;grind
end
section
variable {h:zc} {m:Nat} {P:Program} {kt t et:TypeId} {z:Value}
def il(l:List (Bt×Value))(k:Bt):Option Value:=match l with
 |[]=>Te
 |p::l=>if p.1=k then Td p.2 else il l k
def kY(l:List (Bt×Value))(k:Bt)(v:Value):List (Bt×Value):=match l with
 |[]=>[(k,v)]
 |p::l=>if p.1=k then(k,v)::l else p::kY l k v
theorem Of(l:List (Bt×Value))(k b:Bt)(v:Value):il (kY l k v) b=if k=b then Td v else il l b:=by
 induction l with
 |nil=>simp[kY,il]
 |cons p l c=>simp only[kY];split;rename_i h;simp only[il];simp_all;rename_i h;simp only[il,c];grind
def MapAt(h:zc)(m:Nat)(l:List (Bt×Value)):Prop:=∃c b,h[m]?=Td (.map c b)/\c.toList.map (λe=>(e.key,e.val))=l.map λp=>(zaz p.1,p.2)
theorem MapAt.keep{h h':zc}{l:List (Bt×Value)}(H:MapAt h m l)(k:h'[m]?=h[m]?):MapAt h' m l:=by obtain⟨e,c,h1,b⟩:=H;exact⟨e,c,k.trans h1,b⟩
theorem MapAt.lt{l:List (Bt×Value)}(H:MapAt h m l):m<h.size:=by obtain⟨b,c,h1,e⟩:=H;grind
theorem MapAt.new(h:zc):MapAt (h.push (.map #[] 0)) h.size []:=⟨#[],0,yc _ _,rfl⟩
structure MapT (P:Program) (t kt et:TypeId) (z:Value):Prop where
 map:P.underlying t=Td (.map kt et)
 key:P.underlying kt=Td .string
 zero:∃i,P.info? et=Td i/\i.zero=Td z
theorem uC(a b:Bt):(a==b)=decide (a=b):=by show ByteArray.beq a b=_;cases a;cases b;rw[zbe];simp[ByteArray.beq]
instance lawfulBA:LawfulBEq Bt where
 eq_of_beq:=λ {a b} h=>by rw[uC]at h;simpa using h
 rfl:=λ {a}=>by rw[uC];simp
theorem Wh(k:Bt):∀(f:List MapEntry) (l:List (Bt×Value)) (i:Nat),f.map (λe=>(e.key,e.val))=l.map (λp=>(zaz p.1,p.2)) ->
  (il l k=Te/\zc8 .string (.string k) f i=Td Te)\/(∃j v e,il l k=Td v/\f[j]?=Td e/\e.key=.string k/\e.val=v/\zc8 .string (.string k) f i=Td (Td (i+j,v)) /\ ∀w,(f.modify j λe=>{ e with key:=.string k,val:=w }).map (λe=>(e.key,e.val))=(kY l k w).map λp=>(zaz p.1,p.2))
 |[],l,i,h=>by
  have:l=[]:=by cases l <;> simp_all
  subst this;exact .inl ⟨rfl,rfl⟩
 |e::f,l,i,h=>by
  cases l with
  |nil=>simp at h
  |cons p l=>
   simp only[za1,zc9,zci]at h;obtain⟨⟨h1,m⟩,n⟩:=h;by_cases c:p.1=k;refine .inr ⟨0,p.2,e,by simp[il,c],rfl,by rw[h1,c],m,?_,λw=>?_⟩;have b:(k==p.1)=Ta:=by rw[uC];simpa using c.symm
   simp[zc8,ze2,h1,m,b];simp[kY,c,n];have b:(k==p.1)=Tc:=by rw[uC];simpa using λe=>c e.symm
   rcases Wh k f l (i+1) n with⟨g1,g2⟩|⟨j,v,t,g1,g2,u,o,r,q⟩;refine .inl ⟨by simp[il,c,g1],?_⟩;simp[zc8,ze2,h1,b,g2];refine .inr ⟨j+1,v,t,by simp[il,c,g1],by simpa using g2,u,o,?_,λw=>?_⟩;simp[zc8,ze2,h1,b,r];omega;simp[kY,c,h1,m,q w]
theorem wV(c:P.underlying kt=Td .string)(b:Bool)(k:Bt)(h:zc):QExec P (Instr.checkKey b 10000 kt (.string k)) h ():=by intro B d;have e:=QExec.underlying (h:=h) c B d;unfold Instr.checkKey;simp_all
theorem Zx(c:P.underlying kt=Td .string)(k:Bt)(b:List MapEntry)(r:Option (Nat×Value))(h:zc)(e:zc8 .string (.string k) b 0=Td r):
  QExec P (Instr.findKey kt (.string k) b) h r:=by
 intro B d;have f:=QExec.underlying (h:=h) c B d;unfold Instr.findKey;simp_all
theorem Q3{b:Array MapEntry}{c:Nat}(e:h[m]?=Td (.map b c)):QExec P (getObj m) h (.map b c):=by intro B d;have:(mk B d h).heap[m]?=Td (.map b c):=e;simp[getObj,Sem.run,this]
theorem FH(hz:∃i,P.info? t=Td i/\i.zero=Td z):QExec P (zeroValue t) h z:=by obtain⟨i,h1,b⟩:=hz;intro B d;simp[zeroValue,typeInfo,program,h1,b,Sem.run]
def jE(l:List (Bt×Value))(k:Bt)(z:Value):Value:=(il l k).getD z
theorem Ye(T:MapT P t kt et z){l:List (Bt×Value)}(H:MapAt h m l)(k:Bt)(ok:Bool):
  QExec P (zc1 t (.map (Td m)) (.string k) ok) h (if ok then .tuple #[jE l k z,.bool (il l k).isSome]else jE l k z):=by
 obtain⟨b,c,h1,f⟩:=H;intro B d;have i:=QExec.underlying (h:=h) T.map B d;have n:=Q3 (P:=P) h1 B d;have q:=wV T.key b.isEmpty k h B d;unfold zc1;rw[Sem.run_bind,i];simp only[Result.andThen_ok,Sem.run_bind,n,Sem.run_pure,q];rcases Wh k b.toList l 0 f with⟨g1,g2⟩|⟨j,v,e,g1,g2,u,r,o,_⟩;rw[Zx T.key k b.toList Te h g2 B d];have hz:=FH (h:=h) T.zero B d;simp only[Result.andThen_ok,Sem.run_bind,hz,Sem.run_pure,jE,g1];simp;rw[Zx T.key k b.toList _ h o B d];simp only[Result.andThen_ok,jE,g1];simp
theorem Wi{l:List (Bt×Value)}{k:Bt}{v:Value}(g:il l k=Te):kY l k v=l++[(k,v)]:=by
 induction l with
 |nil=>rfl
 |cons p l c=>simp only[il]at g;split at g;cases g;rename_i b;simp[kY,b,c g]
theorem ZG(T:MapT P t kt et z){l:List (Bt×Value)}(H:MapAt h m l)(k:Bt)(v:Value){K:zc->Prop}
  (y:∀h':zc,MapAt h' m (kY l k v)->h'.size=h.size->(∀i,i≠m->h'[i]?=h[i]?)->K h'):XRunU P (zcz t (.map (Td m)) (.string k) v) h K:=by
 have f:=H.lt;obtain⟨b,c,h1,r⟩:=H;intro B d;have u:=QExec.underlying (h:=h) T.map B d;have x:=Q3 (P:=P) h1 B d;have A:=wV T.key Tc k h B d;have n:∀o:Obj,(setObj m o).run P (mk B d h)=.ok () (mk B d (h.setIfInBounds m o)):=by intro o;have:(mk B d h).heap[m]?=Td (.map b c):=h1;simp[setObj,Sem.run,this];rfl
 unfold zcz;rcases Wh k b.toList l 0 r with⟨g1,g2⟩|⟨j,I,e,g1,g2,D,E,C,F⟩;refine⟨d,h.setIfInBounds m (.map (b.push { key:=.string k,val:=v,born:=c }) (c+1)),?_,y _ ⟨b.push { key:=.string k,val:=v,born:=c },c+1,by simp[f],?_⟩ (by simp) (λi hi=>by grind)⟩;rw[Sem.run_bind,u];simp only[Result.andThen_ok,Sem.run_bind,x,A];rw[Zx T.key k b.toList Te h g2 B d];simp_all;rw[Wi g1];simp[r];have w:j<b.size:=by have:=(za5.1 g2).1;simpa using this
 refine⟨d,_,?_,y (h.setIfInBounds m (.map (b.modify j λe=>{ e with key:=.string k,val:=v }) c)) ⟨b.modify j λe=>{ e with key:=.string k,val:=v },c,by simp[f],?_⟩ (by simp) (λi hi=>by grind)⟩;rw[Sem.run_bind,u];simp only[Result.andThen_ok,Sem.run_bind,x,A];rw[Zx T.key k b.toList _ h C B d];simp only[Result.andThen_ok,zas];have q:((b[j]?).map (·.key)).getD (.string k)=.string k:=by
  have:b[j]?=Td e:=by simpa using g2
  rw[this];exact D
 rw[q];have G:zdy (.string k) (.string k)=pure (.string k):=by unfold zdy;rw[zA (by show(k==k)=Ta;simp)]
 simp_all;simp_all
end
section
variable {h h':zc} {b n o:Nat} {cs:Array Value} {v:Value} {P:Program} {t:TypeId}
def Blk(h:zc)(b:Nat)(cs:Array Value):Prop:=∃T,h[b]?=Td (.cells cs T (0,0))
theorem Blk.keep(H:Blk h b cs)(k:h'[b]?=h[b]?):Blk h' b cs:=by obtain⟨T,e⟩:=H;exact⟨T,k.trans e⟩
theorem Blk.keepN(H:Blk h b cs)(k:Keep n h h')(c:b<n):Blk h' b cs:=H.keep (k.get b c)
theorem Blk.new(h:zc)(cs:Array Value)(T:TypeId):Blk (h.push (.cells cs T)) h.size cs:=⟨T,yc _ _⟩
theorem Blk.lt(H:Blk h b cs):b<h.size:=by obtain⟨T,e⟩:=H;grind
theorem Blk.cell(H:Blk h b cs)(c:cs[o]?=Td v):zd h ⟨b,o,Te⟩=Td v:=by obtain⟨T,e⟩:=H;unfold zd;simp[e,c]
theorem Blk.cellAdd{b o k:Nat}(H:Blk h b cs)(c:cs[o+k]?=Td v):zd h ((⟨b,o,Te⟩:Addr).add k)=Td v:=by rw[zf];exact H.cell c
theorem Blk.ld{cs:List Value}(H:Blk h b cs.toArray):ze h ⟨b,0,Te⟩ 0 cs:=by
 have key:∀(l:List Value) (i:Nat),(∀j v,l[j]?=Td v->cs[i+j]?=Td v)->ze h ⟨b,0,Te⟩ i l:=by
  intro l;induction l with
  |nil=>intro i _;trivial
  |cons v l c=>intro i hi;refine⟨?_,c (i+1) λj u e=>?_⟩;rw[zf,zas];exact H.cell (by have:=hi 0 v rfl;grind);have:=hi (j+1) u (by simpa using e);grind
 simp_all
theorem Keep.setBlk(o:Obj)(c:n<=b):Keep n h (h.setIfInBounds b o):= ⟨by simp,λi hi=>by grind⟩
theorem xU(H:Blk h b cs)(B:World)(d:Nat):(mk B d h).frozen? ⟨b,o,Te⟩=Tc:=by obtain⟨T,e⟩:=H;have:(mk B d h).heap[b]?=Td (.cells cs T (0,0)):=e;simp[World.frozen?,this]
theorem FG{T:TypeId}(e:h[b]?=Td (.cells cs T (0,0)))(k:o<cs.size)(f:v.oneCell'=Ta)(B:World)(d:Nat):
  (store ⟨b,o,Te⟩ v).run P (mk B d h)=.ok () (mk B d (h.setIfInBounds b (.cells (cs.setIfInBounds o v) T (0,0)))):=by
 have l:(mk B d h).cell? ⟨b,o,Te⟩=Td cs[o]:=Blk.cell (h:=h) ⟨T,e⟩ (by simp[k]);have j:=xU (o:=o) (⟨T,e⟩:Blk h b cs) B d;have c:(mk B d h).setCell ⟨b,o,Te⟩ v=mk B d (h.setIfInBounds b (.cells (cs.setIfInBounds o v) T (0,0))):=by unfold World.setCell mk;simp only;congr 1;have m:b<h.size:=(zat.1 e).1;apply ze4;intro i;rw[Array.getElem?_modify];by_cases hi:i=b;simp_all;grind
 cases v with
 |agg x=>simp[Value.oneCell']at f
 |tuple x=>simp[Value.oneCell']at f
 |_=>simp only[store,Sem.run,l,j,zcj,if_false,c]
theorem cells_one(b:v.oneCell'=Ta):v.cells=#[v]:=by cases v <;> first|rfl|simp[Value.oneCell']at b
theorem xu(hi:yb P t=Ta)(k:j4 P t=1)(H:Blk h b cs)(f:o<cs.size)(c:v.oneCell'=Ta){K:zc->Prop}
  (m:∀h':zc,Blk h' b (cs.setIfInBounds o v)->h'.size=h.size->(∀i,i≠b->h'[i]?=h[i]?)->K h'):XRunU P (zag t (.pointer (Td ⟨b,o,Te⟩)) v) h K:=by
 obtain⟨T,e⟩:=H;have j:b<h.size:=(zat.1 e).1;intro B d;refine⟨d,_,?_,m (h.setIfInBounds b (.cells (cs.setIfInBounds o v) T (0,0))) ⟨T,by simp[j]⟩ (by simp) λi hi=>by grind⟩;have hz:=QExec.sizeOf (P:=P) (h:=h) (wb hi).choose_spec B d;unfold zag zeq;simp only[Sem.run_bind,Sem.run_pure,Result.andThen_ok];unfold storeVar;rw[Sem.run_bind,hz];simp only[Result.andThen_ok];rw[k,cells_one c];simp only[zeo,zaw,zb5,zas,ne_eq,not_true_eq_false,if_false];show Sem.run P (storeCells ⟨b,o,Te⟩ [v]) _=_;unfold storeCells;rw[Sem.run_bind];have l:(⟨b,o,Te⟩:Addr).add 0=⟨b,o,Te⟩:=by rw[zf];rfl
 rw[l,FG e f c B d];rfl
theorem Z5{P:Program}{b:Nat}{T:TypeId}(B:World)(d:Nat):∀(vs:List Value) (i:Nat) (h:zc) (cs:Array Value),h[b]?=Td (.cells cs T (0,0))->i+vs.length<=cs.size->(∀v∈vs,v.oneCell'=Ta) ->
  ∃h',(storeCells ⟨b,0,Te⟩ vs i).run P (mk B d h)=.ok () (mk B d h')/\h'[b]?=Td (.cells (cs.toList.take i++vs++cs.toList.drop (i+vs.length)).toArray T (0,0))/\h'.size=h.size/\∀j,j≠b->h'[j]?=h[j]?
 |[],i,h,cs,e,_,_=>⟨h,rfl,by simpa using e,rfl,λ_ _=>rfl⟩
 |v::vs,i,h,cs,e,hl,hv=>by
  have l:b<h.size:=(zat.1 e).1;simp only[zaw]at hl;have h1:=FG (P:=P) e (o:=i) (by omega) (hv v za2) B d;have n:(h.setIfInBounds b (.cells (cs.setIfInBounds i v) T (0,0)))[b]?=Td (.cells (cs.setIfInBounds i v) T (0,0)):=by simp[l]
  have c:i+1+vs.length<=(cs.setIfInBounds i v).size:=by rw[zbg];omega
  obtain⟨h',q,m,f,r⟩:=Z5 (P:=P) B d vs (i+1) (h.setIfInBounds b (.cells (cs.setIfInBounds i v) T (0,0))) (cs.setIfInBounds i v) n c λu k=>hv u (za3 _ k);refine⟨h',?_,?_,by rw[f];simp,λj t=>by grind⟩;unfold storeCells;rw[Sem.run_bind,zf,zas,h1];simp_all;rw[m];congr 3;have hi:i<cs.toList.length:=by simp;omega
  simp only[Array.toList_setIfInBounds,zaw];rw[List.take_set,List.drop_set_of_lt (by omega)];have w:(cs.toList.take (i+1)).set i v=cs.toList.take i++[v]:=by
   rw[zal hi,List.set_append_right _ _ (by simp;omega)];have:i-(cs.toList.take i).length=0:=by simp;omega
   rw[this];rfl
  grind
theorem Rv{t e:TypeId}{z:Value}{sz bytes:Nat}(T:ElemT P t e z sz bytes){g o n c:Nat}{X:TypeId}(m:h[g]?=Td (.cells cs X (0,0)))(C:o+n*sz<=cs.size)(hz:∀v∈(zb7 z.cells n).toList,v.oneCell'=Ta) (j:(zb7 z.cells n).toList.length=n*sz) {ty:TypeId} {K:Value->zc->Prop} (r:∀h':zc,h'[g]?=Td (.cells (cs.toList.take o++(zb7 z.cells n).toList++cs.toList.drop (o+n*sz)).toArray X (0,0))->h'.size=h.size->(∀i,i≠g->h'[i]?=h[i]?)->K (.tuple #[]) h') (A:0<n):
  qu P (zer #[t] ty #[.slice (Td ⟨g,o,Te⟩) n c]) h K:=by
 intro B d;have b:∀(vs:List Value) (i:Nat) (w:World),(storeCells ⟨g,o,Te⟩ vs i).run P w=(storeCells ⟨g,0,Te⟩ vs (o+i)).run P w:=by
  intro vs;induction vs with
  |nil=>intro i w;rfl
  |cons v vs E=>intro i w;unfold storeCells;rw[Sem.run_bind,Sem.run_bind,zf,zf,zas];grind
 obtain⟨h',l,D,k,q⟩:=Z5 (P:=P) B d (zb7 z.cells n).toList (o+0) h cs m (by omega) hz;refine⟨_,d,h',?_,r h' (by grind) k q⟩;obtain⟨i,hi,f,_,_⟩:=T.info;have x:=QExec.underlying (h:=h) T.slice B d;have u:=FH (P:=P) (h:=h) ⟨i,hi,f⟩ B d;have y:=b (zb7 z.cells n).toList 0 (mk B d h);rw[l]at y;unfold zer;simp only[zel,zeb];cases n with
 |zero=>omega
 |succ n=>rw[Sem.run_bind,x];simp only[Result.andThen_ok];simp_all
theorem Owns.base{h:zc}{base b:Nat}{e:TypeId}{sz:Nat}{s:Sl}{xs:List Value}(H:Owns h base e sz s xs)(j:b<=base):Owns h b e sz s xs:=by refine⟨H.1,?_⟩;rcases H.2 with k|⟨g,cap,c,f,i,rest⟩;grind;exact .inr ⟨g,cap,c,f,by omega,rest⟩
end
end
section
variable {cs:List Value}
inductive Tr where
 |mk (kind:Int) (text:Bt) (keys:List Bt) (items:List Tr)
namespace Tr
@[reducible] def kind:Tr->Int|mk k _ _ _=>k
@[reducible] def text:Tr->Bt|mk _ s _ _=>s
@[reducible] def keys:Tr->List Bt|mk _ _ ks _=>ks
@[reducible] def items:Tr->List Tr|mk _ _ _ xs=>xs
@[simp] theorem eta(t:Tr):mk t.kind t.text t.keys t.items=t:=by cases t;rfl
instance:Inhabited Tr:=⟨mk 0 ⟨#[]⟩ [] []⟩
end Tr
inductive Ty where
 |int (k:IntKind)|bool|str|row (t:Ty)|tree|unit|pair (a b:Ty)|ptr (t:Ty)|iter|err
 deriving DecidableEq
abbrev PJ:Ty:=.int .i64
@[reducible] def El:Ty->Type
 |.int _=>Int
 |.bool=>Bool
 |.str=>Bt
 |.row t=>List (El t)
 |.tree=>Tr
 |.unit=>Unit
 |.pair a b=>El a×El b
 |.ptr t=>El t
 |.iter=>Bt×Nat
 |.err=>Bool
def qY:(t:Ty)->El t
 |.int _=>(0:Int)
 |.bool=>Tc
 |.str=>(⟨#[]⟩:Bt)
 |.row _=>[]
 |.tree=>default
 |.unit=>()
 |.pair a b=>(qY a,qY b)
 |.ptr t=>qY t
 |.iter=>(⟨#[]⟩,0)
 |.err=>Ta
def sz:Ty->Nat
 |.tree=>4
 |.unit=>0
 |.pair a b=>sz a+sz b
 |_=>1
abbrev Fr:=Nat->Option (Array Value)
def Fr.le(M M':Fr):Prop:=∀b cs,M b=Td cs->M' b=Td cs
theorem Fr.le.refl(M:Fr):Fr.le M M:=λ_ _ h=>h
theorem Fr.le.trans{a b c:Fr}(h:Fr.le a b)(k:Fr.le b c):Fr.le a c:=λ_ _ e=>k _ _ (h _ _ e)
def cut(cs:Array Value)(o n:Nat):List Value:=(cs.toList.drop o).take n
def RowAt(M:Fr){α:Type}(R:α->List Value->Prop)(z:Nat)(xs:List α)(v:Value):Prop:=
 ∃a c,v=.slice a xs.length c/\(xs.length<=140737488355328/\xs.length<=c)/\(xs=[]\/∃b o cs,a=Td ⟨b,o,Te⟩/\M b=Td cs/\∀i (h:i<xs.length),R xs[i] (cut cs (o+i*z) z))
inductive TrRd (M:Fr):Tr->List Value->Prop where
 |mk {k:Int} {s:Bt} {ks:List Bt} {xs:List Tr} {vk:Value} {a:Option Addr} {c b o:Nat} {cs:Array Value}
  (hk:RowAt M (λs cs=>cs=[.string s]) 1 ks vk) (hn:xs.length<=140737488355328/\xs.length<=c) (hz:xs=[]\/(a=Td ⟨b,o,Te⟩/\M b=Td cs))
  (hi:∀i (h:i<xs.length),TrRd M xs[i] (cut cs (o+i*4) 4)):TrRd M (.mk k s ks xs) [.int .i64 k,.string s,vk,.slice a xs.length c]
def Zy(s:Bt)(p:Nat):Value:=.iface 0 (.agg #[.string s,.int .i64 p])
def Rd(M:Fr):(t:Ty)->El t->List Value->Prop
 |.int k,i,cs=>cs=[.int k i]
 |.bool,b,cs=>cs=[.bool b]
 |.str,s,cs=>cs=[.string s]
 |.row t,xs,cs=>∃v,cs=[v]/\RowAt M (Rd M t) (sz t) xs v
 |.tree,t,cs=>TrRd M t cs
 |.unit,_,cs=>cs=[]
 |.pair a b,x,cs=>∃c1 c2,cs=c1++c2/\Rd M a x.1 c1/\Rd M b x.2 c2
 |.ptr t,x,cs=>∃b o c,cs=[.pointer (Td ⟨b,o,Te⟩)]/\M b=Td c/\Rd M t x (cut c o (sz t))
 |.iter,x,cs=>cs=[Zy x.1 x.2]
 |.err,b,cs=>∃v,cs=[v]/\((b=Ta/\v=.nilIface)\/(b=Tc/\∃t u,v=.iface t u))
theorem RowAt.mono{M M':Fr}(j:Fr.le M M'){α:Type}{R f:α->List Value->Prop}{z:Nat}{xs:List α}{v:Value}(H:RowAt M R z xs v)(n:∀x∈xs,∀cs,R x cs->f x cs):RowAt M' f z xs v:=by obtain⟨a,c,e,l,h⟩:=H;refine⟨a,c,e,l,h.imp id ?_⟩;rintro⟨b,o,cs,m,q,k⟩;exact⟨b,o,cs,m,j _ _ q,λi h=>n _ (zak _) _ (k i h)⟩
theorem TrRd.mono{M M':Fr}(b:Fr.le M M'){t:Tr}(H:TrRd M t cs):TrRd M' t cs:=by
 induction H with
 |mk c f hz _ e=>exact .mk (c.mono b λ_ _ _ h=>h) f (hz.imp id λh=>⟨h.1,b _ _ h.2⟩) e
theorem Rd.mono{M M':Fr}(c:Fr.le M M'):∀{t:Ty} {x:El t} {cs:List Value},Rd M t x cs->Rd M' t x cs
 |.int _,_,_,h=>h
 |.bool,_,_,h=>h
 |.str,_,_,h=>h
 |.row _,_,_,⟨v,e,h⟩=>⟨v,e,h.mono c λ_ _ _ h=>Rd.mono c h⟩
 |.tree,_,_,h=>TrRd.mono c h
 |.unit,_,_,h=>h
 |.pair _ _,_,_,⟨c1,c2,e,h1,h2⟩=>⟨c1,c2,e,Rd.mono c h1,Rd.mono c h2⟩
 |.ptr _,_,_,⟨b,o,cc,e,h1,h2⟩=>⟨b,o,cc,e,c _ _ h1,Rd.mono c h2⟩
 |.iter,_,_,h=>h
 |.err,_,_,h=>h
theorem Rd.len{M:Fr}:∀{t:Ty} {x:El t} {cs:List Value},Rd M t x cs->cs.length=sz t
 |.int _,_,_,h=>by rw[h];rfl
 |.bool,_,_,h=>by rw[h];rfl
 |.str,_,_,h=>by rw[h];rfl
 |.row t,_,_,⟨v,e,_⟩=>by rw[e];rfl
 |.tree,_,_,h=>by cases h;rfl
 |.unit,_,_,h=>by rw[h];rfl
 |.pair _ _,_,_,⟨c1,c2,e,h1,h2⟩=>by rw[e,zah,Rd.len h1,Rd.len h2];rfl
 |.ptr _,_,_,⟨b,o,cc,e,_⟩=>by rw[e];rfl
 |.iter,_,_,h=>by rw[h];rfl
 |.err,_,_,⟨v,e,_⟩=>by rw[e];rfl
theorem Rd.one{M:Fr}:∀{t:Ty} {x:El t} {cs:List Value},Rd M t x cs->∀v∈cs,v.oneCell'=Ta
 |.int _,_,_,h=>by rw[h];simp[Value.oneCell']
 |.bool,_,_,h=>by rw[h];simp[Value.oneCell']
 |.str,_,_,h=>by rw[h];simp[Value.oneCell']
 |.row t,_,_,⟨v,e,a,c,e2,_⟩=>by rw[e,e2];simp[Value.oneCell']
 |.tree,_,_,h=>by
  cases h with
  |mk i _ _ _=>obtain⟨a,c,e,_⟩:=i;rw[e];simp[Value.oneCell']
 |.unit,_,_,h=>by rw[h];simp
 |.pair _ _,_,_,⟨c1,c2,e,h1,h2⟩=>by intro v f;rw[e]at f;rcases zaj.1 f with f|f;exact Rd.one h1 v f;exact Rd.one h2 v f
 |.ptr _,_,_,⟨b,o,cc,e,_⟩=>by rw[e];simp[Value.oneCell']
 |.iter,_,_,h=>by rw[h];simp[Value.oneCell',Zy]
 |.err,_,_,⟨v,e,h⟩=>by rw[e];rcases h with⟨_,rfl⟩|⟨_,t,u,rfl⟩ <;> simp[Value.oneCell']
theorem TrRd.keys{M:Fr}{t:Tr}(H:TrRd M t cs):∃e f,cs=[.int .i64 t.kind,.string t.text,e,f]/\Rd M (.row .str) t.keys [e]/\Rd M (.row .tree) t.items [f]:=by
 cases H with
 | @mk k s ks xs e a c b o cs hk hn hz hi=>exact⟨e,_,rfl,⟨e,rfl,hk⟩,⟨_,rfl,a,c,rfl,hn,hz.imp id λh=>⟨b,o,cs,h.1,h.2,hi⟩⟩⟩
theorem TrRd.of{M:Fr}{k:Int}{s:Bt}{ks:List Bt}{xs:List Tr}{l n:Value}(h1:Rd M (.row .str) ks [l])(f:Rd M (.row .tree) xs [n]):TrRd M (.mk k s ks xs) [.int .i64 k,.string s,l,n]:=by
 obtain⟨v,e,h1⟩:=h1;obtain⟨u,t,a,c,j,m,f⟩:=f;cases e;cases t;subst j;rcases f with rfl|⟨b,o,cs,r,j,q⟩;exact .mk (b:=0) (o:=0) (cs:=#[]) h1 m (.inl rfl) λi h=>absurd h (by simp)
 exact .mk h1 m (.inr ⟨r,j⟩) q
def Bd:(t:Ty)->El t->Prop
 |.row _,xs=>xs.length<=140737488355328
 |.tree,t=>t.keys.length<=140737488355328/\t.items.length<=140737488355328
 |.pair a b,x=>Bd a x.1/\Bd b x.2
 |_,_=>True
theorem Rd.bd{M:Fr}:∀{t:Ty} {x:El t} {cs:List Value},Rd M t x cs->Bd t x
 |.int _,_,_,_=>trivial
 |.bool,_,_,_=>trivial
 |.str,_,_,_=>trivial
 |.row t,_,_,⟨v,_,a,c,_,h,_⟩=>h.1
 |.tree,_,_,h=>by
  cases h with
  |mk b f _ _=>obtain⟨a,c,e,h,_⟩:=b;exact⟨h.1,f.1⟩
 |.unit,_,_,_=>trivial
 |.pair _ _,_,_,⟨_,_,_,h1,h2⟩=>⟨Rd.bd h1,Rd.bd h2⟩
 |.ptr _,_,_,_=>trivial
 |.iter,_,_,_=>trivial
 |.err,_,_,_=>trivial
inductive AA where
 |v (x:Value)
 |d (t:Ty) (x:El t)
 |box (c o:Nat)
 |own (c:Nat)
 |oelt (c z:Nat) (i:Nat) (o:Nat)
 |elt (t:Ty) (x:El t) (o:Nat)
 |dc (t:Ty) (xs:List (El t))
inductive AG where
 |a (x:AA)
 |agg (l:List AA)
inductive AV where
 |g (x:AG)
 |tup (l:List AG)
 |nx (b:Bool) (p:Int) (c:Int)
structure Gh where
 M:Fr
 β:Nat->Nat
 σ:Nat->Sl
def All2{α β:Type}(R:α->β->Prop):List α->List β->Prop
 |[],[]=>True
 |x::xs,y::ys=>R x y/\All2 R xs ys
 |_,_=>False
def aK(s:Sl):Value:=.slice s.a s.len s.cap
abbrev iV(x : Int): Value := .int .i64 x
abbrev tA(a : Int)(b : Bt)(c d : Sl): Value := .agg #[.int .i64 a, .string b, aK c, aK d]
abbrev tL(a : Int)(b : Bt)(c d : Sl): List Value := [.int .i64 a, .string b, aK c, aK d]
abbrev tC: Array Value := #[.int .i64 0, .string ⟨#[]⟩, .slice Te 0 0, .slice Te 0 0]
abbrev tZ: Value := .agg tC
def DenA(γ:Gh):AA->Value->Prop
 |.v x,u=>u=x
 |.d t x,u=>Rd γ.M t x [u]
 |.box c o,u=>u=.pointer (Td ⟨γ.β c,o,Te⟩)
 |.own c,u=>u=aK (γ.σ c)
 |.oelt c z i o,u=>∃g,(γ.σ c).a=Td ⟨g,0,Te⟩/\u=.pointer (Td ⟨g,i*z+o,Te⟩)
 |.elt t x o,u=>∃b f cs,u=.pointer (Td ⟨b,f+o,Te⟩)/\γ.M b=Td cs/\Rd γ.M t x (cut cs f (sz t))
 |.dc t xs,u=>∃s:Sl,u=aK s/\s.cap=s.len/\Rd γ.M (.row t) xs [u]
def DenG(γ:Gh):AG->Value->Prop
 |.a x,u=>DenA γ x u
 |.agg l,u=>∃us,u=.agg us.toArray/\All2 (DenA γ) l us
def DenV(γ:Gh):AV->Value->Prop
 |.g x,u=>DenG γ x u
 |.tup l,u=>∃us,u=.tuple us.toArray/\All2 (DenG γ) l us
 |.nx b p c,u=>(b=Ta->u=.tuple #[.bool Ta,.int .i64 p,.int .i32 c])/\(b=Tc->u=.tuple #[.bool Tc])
theorem All2.length{α β:Type}{R:α->β->Prop}:∀{l:List α} {m:List β},All2 R l m->l.length=m.length
 |[],[],_=>rfl
 |[],_::_,h=>h.elim
 |_::_,[],h=>h.elim
 |_::_,_::_,h=>by simp[All2.length h.2]
theorem All2.imp{α β:Type}{R b:α->β->Prop}:∀{l:List α} {m:List β},All2 R l m->(∀x∈l,∀y,R x y->b x y)->All2 b l m
 |[],[],_,_=>trivial
 |[],_::_,h,_=>h.elim
 |_::_,[],h,_=>h.elim
 |_::_,_::_,h,k=>⟨k _ za2 _ h.1,All2.imp h.2 λx e y c=>k x (za3 _ e) y c⟩
theorem All2.append{α β:Type}{R:α->β->Prop}:∀{l b:List α} {m m':List β},All2 R l m->All2 R b m'->All2 R (l++b) (m++m')
 |[],_,[],_,_,h=>h
 |[],_,_::_,_,h,_=>h.elim
 |_::_,_,[],_,h,_=>h.elim
 |_::_,_,_::_,_,h,k=>⟨h.1,All2.append h.2 k⟩
theorem All2.take{α β:Type}{R:α->β->Prop}:∀(n:Nat) {l:List α} {m:List β},All2 R l m->All2 R (l.take n) (m.take n)
 |0,_,_,_=>by simp[All2]
 |_+1,[],[],_=>trivial
 |_+1,[],_::_,h=>h.elim
 |_+1,_::_,[],h=>h.elim
 |n+1,_::_,_::_,h=>⟨h.1,All2.take n h.2⟩
theorem All2.drop{α β:Type}{R:α->β->Prop}:∀(n:Nat) {l:List α} {m:List β},All2 R l m->All2 R (l.drop n) (m.drop n)
 |0,_,_,h=>by simpa using h
 |_+1,[],[],_=>trivial
 |_+1,[],_::_,h=>h.elim
 |_+1,_::_,[],h=>h.elim
 |n+1,_::_,_::_,h=>by simpa using All2.drop n h.2
theorem All2.get{α β:Type}{R:α->β->Prop}:∀{l:List α} {m:List β} {i:Nat} {x:α},All2 R l m->l[i]?=Td x->∃y,m[i]?=Td y/\R x y
 |[],[],_,_,_,h=>by simp at h
 |[],_::_,_,_,h,_=>h.elim
 |_::_,[],_,_,h,_=>h.elim
 |_::_,y::_,0,_,h,e=>by simp at e;subst e;exact⟨y,rfl,h.1⟩
 |_::_,_::_,i+1,_,h,e=>by simpa using All2.get h.2 (by simpa using e)
def Jm:(t:Ty)->El t->List AA
 |.int k,i=>[.v (.int k i)]
 |.bool,b=>[.v (.bool b)]
 |.str,s=>[.v (.string s)]
 |.row t,xs=>[.d (.row t) xs]
 |.tree,t=>[.v (.int .i64 t.kind),.v (.string t.text),.d (.row .str) t.keys,.d (.row .tree) t.items]
 |.unit,_=>[]
 |.pair a b,x=>Jm a x.1++Jm b x.2
 |.ptr t,x=>[.elt t x 0]
 |.iter,x=>[.d .iter x]
 |.err,x=>[.d .err x]
theorem xw{γ:Gh}:∀{t:Ty} {x:El t} {cs:List Value},Rd γ.M t x cs->All2 (DenA γ) (Jm t x) cs
 |.int _,_,_,h=>by rw[h];exact⟨rfl,trivial⟩
 |.bool,_,_,h=>by rw[h];exact⟨rfl,trivial⟩
 |.str,_,_,h=>by rw[h];exact⟨rfl,trivial⟩
 |.row t,_,_,⟨v,e,h⟩=>by rw[e];exact⟨⟨v,rfl,h⟩,trivial⟩
 |.tree,_,_,h=>by obtain⟨f,i,e,h1,c⟩:=TrRd.keys h;rw[e];exact⟨rfl,rfl,h1,c,trivial⟩
 |.unit,_,_,h=>by rw[h];trivial
 |.pair _ _,_,_,⟨c1,c2,e,h1,c⟩=>by rw[e];exact(xw h1).append (xw c)
 |.ptr t,x,_,⟨b,o,cc,e,h1,c⟩=>by rw[e];exact⟨⟨b,o,cc,rfl,h1,c⟩,trivial⟩
 |.iter,x,_,h=>by rw[h];exact⟨rfl,trivial⟩
 |.err,x,_,⟨v,e,h⟩=>by rw[e];exact⟨⟨v,rfl,h⟩,trivial⟩
def od:Ty->Bool
 |.iter=>Ta
 |.err=>Ta
 |.pair a b=>bif od a then Ta else od b
 |_=>Tc
theorem Rd.noIt{M:Fr}:∀{t:Ty} {x:El t} {cs:List Value},od t=Tc->Rd M t x cs->∀s p,Zy s p∉cs
 |.int _,_,_,_,h,s,p=>by rw[h];simp[Zy]
 |.bool,_,_,_,h,s,p=>by rw[h];simp[Zy]
 |.str,_,_,_,h,s,p=>by rw[h];simp[Zy]
 |.row t,_,_,_,⟨v,e,a,c,e2,_⟩,s,p=>by rw[e,e2];simp[Zy]
 |.tree,_,_,_,h,s,p=>by
  cases h with
  |mk i _ _ _=>obtain⟨a,c,e,_⟩:=i;rw[e];simp[Zy]
 |.unit,_,_,_,h,s,p=>by rw[h];simp
 |.pair a b,_,_,hi,⟨c1,c2,e,h1,h2⟩,s,p=>by
  simp only[od]at hi;cases ha:od a with
  |true=>simp_all
  |false=>rw[ha]at hi;rw[e];intro f;rcases zaj.1 f with f|f;exact Rd.noIt ha h1 s p f;exact Rd.noIt hi h2 s p f
 |.ptr _,_,_,_,⟨b,o,cc,e,_⟩,s,p=>by rw[e];simp[Zy]
 |.iter,_,_,hi,_,_,_=>by cases hi
 |.err,_,_,hi,_,_,_=>by cases hi
def kb:List AA->Bool
 |[.d t _]=>od t
 |[.v (.iface _ _)]=>Ta
 |_=>Tc
theorem uZ{γ:Gh}{l:List AA}{us:List Value}(h:kb l=Tc)(j:All2 (DenA γ) l us)(s:Bt)(p:Nat):us≠[Zy s p]:=by
 intro e;subst e
 match l,j with
 |[x],j=>
  cases x with
  |v y=>rw[<-show Zy s p=y from j.1]at h;simp[kb,Zy]at h
  |d t y=>exact Rd.noIt (show od t=Tc from h) (show Rd γ.M t y [Zy s p]from j.1) s p (by simp)
  |box c o=>have:Zy s p=_:=j.1;simp[Zy]at this
  |own c=>have:Zy s p=_:=j.1;simp[Zy,aK]at this
  |oelt c z i o=>obtain⟨g,_,e⟩:=j.1;simp[Zy]at e
  |elt t y o=>obtain⟨b,f,cs,e,_⟩:=j.1;simp[Zy]at e
  |dc t xs=>obtain⟨k,e,_⟩:=j.1;simp[Zy,aK]at e
 |[],j=>exact j.elim
 |_::_::_,j=>exact j.2.elim
inductive Ch where
 |box (l:List AA)
 |row (e:TypeId) (t:Ty) (xs:List (El t))
 |fz (t:Ty) (xs:List (El t))
abbrev CS:=List (Nat×Ch)
def Jn:CS->Nat->Option Ch
 |[],_=>Te
 |(j,k)::l,i=>bif Nat.beq i j then Td k else Jn l i
theorem qi{l:CS}{i:Nat}{k:Ch}(h:Jn l i=Td k):(i,k)∈l:=by
 induction l with
 |nil=>cases h
 |cons x l b=>obtain⟨j,e⟩:=x;simp only[Jn]at h;by_cases c:Nat.beq i j=Ta;simp_all;simp_all
def Ys(t t':Ty)(x:El t):Option (El t'):=if h:t=t' then Td (h ▸ x)else Te
theorem Wj{M:Fr}{t t':Ty}{x:El t}{y:El t'}(h:Ys t t' x=Td y)(r:Rd M t x cs):Rd M t' y cs:=by unfold Ys at h;grind
def lU(cs:CS):(t:Ty)->AA->Option (El t)
 |.int k,.v (.int k' i)=>if k=k' then Td i else Te
 |.bool,.v (.bool b)=>Td b
 |.str,.v (.string s)=>Td s
 |.row t,.v (.slice Te 0 0)=>Td ([]:List (El t))
 |.row t,.d t' x=>Ys t' (.row t) x
 |.row t,.dc t' x=>Ys (.row t') (.row t) x
 |.row t,.own c=>match Jn cs c with
  |some (.fz t' xs)=>Ys (.row t') (.row t) xs
  |_=>Te
 |.ptr t,.elt t' x 0=>Ys t' t x
 |.ptr t,.d t' x=>Ys t' (.ptr t) x
 |.iter,.d t' x=>Ys t' .iter x
 |.err,.d t' x=>Ys t' .err x
 |.err,.v .nilIface=>Td Ta
 |.err,.v (.iface _ _)=>Td Tc
 |_,_=>Te
def collect(cs:CS):(t:Ty)->List AA->Option (El t×List AA)
 |.unit,l=>Td ((),l)
 |.pair a b,l=>match collect cs a l with
  |some (x,l')=>match collect cs b l' with
   |some (y,l'')=>Td ((x,y),l'')
   |none=>Te
  |none=>Te
 |.tree,k::s::ks::xs::l=>match lU cs (.int .i64) k,lU cs .str s,lU cs (.row .str) ks,lU cs (.row .tree) xs with
  |some k,Td s,Td ks,some xs=>Td (Tr.mk k s ks xs,l)
  |_,_,_,_=>Te
 |.tree,_=>Te
 |t,x::l=>match lU cs t x with
  |some y=>Td (y,l)
  |none=>Te
 |_,[]=>Te
def lP(γ:Gh)(cs:CS):Prop:=∀c t xs,(c,Ch.fz t xs)∈cs->Rd γ.M (.row t) xs [aK (γ.σ c)]
theorem j7{γ:Gh}{cs:CS}(j:lP γ cs){t:Ty}{x:AA}{y:El t}(h:lU cs t x=Td y){u:Value}(c:DenA γ x u):Rd γ.M t y [u]:=by unfold lU at h;split at h;split at h;rename_i k;simp only[zad]at h;subst h;subst k;exact congrArg (λu=>[u]) c;cases h;simp only[zad]at h;subst h;exact congrArg (λu=>[u]) c;simp only[zad]at h;subst h;exact congrArg (λu=>[u]) c;simp only[zad]at h;subst h;exact⟨u,rfl,Te,0,c,by simp,.inl rfl⟩;exact Wj h c;obtain⟨s,_,_,c⟩:=c;exact Wj h c;split at h;rename_i t' xs i;rw[show u=_ from c];exact Wj h (j _ _ _ (qi i));cases h;rename_i t t' x;obtain⟨b,f,cs',e,h1,l⟩:=c;exact⟨b,f,cs',by rw[e];rfl,h1,by unfold Ys at h;grind⟩;exact Wj h c;exact Wj h c;exact Wj h c;simp only[zad]at h;subst h;exact⟨u,rfl,.inl ⟨rfl,c⟩⟩;rename_i t' m;simp only[zad]at h;subst h;exact⟨u,rfl,.inr ⟨rfl,_,_,c⟩⟩;cases h
theorem Jo{γ:Gh}{cs:CS}(c:lP γ cs):∀{t:Ty} {l e:List AA} {y:El t},collect cs t l=Td (y,e)->∀{us:List Value},All2 (DenA γ) l us->∃c1 c2,us=c1++c2/\Rd γ.M t y c1/\All2 (DenA γ) e c2
 |.unit,l,e,y,h,us,hu=>by simp only[collect,zad,zci]at h;obtain⟨_,rfl⟩:=h;exact⟨[],us,rfl,rfl,hu⟩
 |.pair a b,l,e,y,h,us,hu=>by simp only[collect]at h;split at h;rename_i x H h1;split at h;rename_i z I i;simp only[zad,zci]at h;obtain⟨rfl,rfl⟩:=h;obtain⟨c1,c2,rfl,j,n⟩:=Jo c h1 hu;obtain⟨o,G,rfl,f,m⟩:=Jo c i n;exact⟨c1++o,G,by simp,⟨c1,o,rfl,j,f⟩,m⟩;cases h;cases h
 |.tree,l,e,y,h,us,hu=>by
  match l,us,hu,h with
  |k::s::ks::xs::l,u1::u2::u3::u4::us,hu,h=>simp only[collect]at h;split at h;rename_i A q ks' r h1 i D w;simp only[zad,zci]at h;obtain⟨rfl,rfl⟩:=h;obtain⟨d1,d2,d3,E,C⟩:=hu;have j:=j7 c h1 d1;have n:=j7 c i d2;have f:=j7 c D d3;have m:=j7 c w E;refine⟨[u1,u2,u3,u4],us,rfl,?_,C⟩;have F:[u1]=[zcn .i64 A]:=j;have B:[u2]=[zaz q]:=n;cases F;cases B;exact TrRd.of f m;cases h
  |[],_,_,h=>simp[collect]at h
  |[_],_,_,h=>simp[collect]at h
  |[_,_],_,_,h=>simp[collect]at h
  |[_,_,_],_,_,h=>simp[collect]at h
  |_::_::_::_::_,[],hu,_=>exact hu.elim
  |_::_::_::_::_,[_],hu,_=>exact hu.2.elim
  |_::_::_::_::_,[_,_],hu,_=>exact hu.2.2.elim
  |_::_::_::_::_,[_,_,_],hu,_=>exact hu.2.2.2.elim
 |.int k,x::l,e,y,h,u::us,hu=>by simp only[collect]at h;split at h;rename_i z hz;simp only[zad,zci]at h;obtain⟨rfl,rfl⟩:=h;exact⟨[u],us,rfl,j7 c hz hu.1,hu.2⟩;cases h
 |.bool,x::l,e,y,h,u::us,hu=>by simp only[collect]at h;split at h;rename_i z hz;simp only[zad,zci]at h;obtain⟨rfl,rfl⟩:=h;exact⟨[u],us,rfl,j7 c hz hu.1,hu.2⟩;cases h
 |.str,x::l,e,y,h,u::us,hu=>by simp only[collect]at h;split at h;rename_i z hz;simp only[zad,zci]at h;obtain⟨rfl,rfl⟩:=h;exact⟨[u],us,rfl,j7 c hz hu.1,hu.2⟩;cases h
 |.row _,x::l,e,y,h,u::us,hu=>by simp only[collect]at h;split at h;rename_i z hz;simp only[zad,zci]at h;obtain⟨rfl,rfl⟩:=h;exact⟨[u],us,rfl,j7 c hz hu.1,hu.2⟩;cases h
 |.ptr _,x::l,e,y,h,u::us,hu=>by simp only[collect]at h;split at h;rename_i z hz;simp only[zad,zci]at h;obtain⟨rfl,rfl⟩:=h;exact⟨[u],us,rfl,j7 c hz hu.1,hu.2⟩;cases h
 |.iter,x::l,e,y,h,u::us,hu=>by simp only[collect]at h;split at h;rename_i z hz;simp only[zad,zci]at h;obtain⟨rfl,rfl⟩:=h;exact⟨[u],us,rfl,j7 c hz hu.1,hu.2⟩;cases h
 |.iter,_::_,_,_,_,[],hu=>hu.elim
 |.iter,[],_,_,h,_,_=>by simp[collect]at h
 |.err,x::l,e,y,h,u::us,hu=>by simp only[collect]at h;split at h;rename_i z hz;simp only[zad,zci]at h;obtain⟨rfl,rfl⟩:=h;exact⟨[u],us,rfl,j7 c hz hu.1,hu.2⟩;cases h
 |.err,_::_,_,_,_,[],hu=>hu.elim
 |.err,[],_,_,h,_,_=>by simp[collect]at h
 |.int _,_::_,_,_,_,[],hu=>hu.elim
 |.bool,_::_,_,_,_,[],hu=>hu.elim
 |.str,_::_,_,_,_,[],hu=>hu.elim
 |.row _,_::_,_,_,_,[],hu=>hu.elim
 |.ptr _,_::_,_,_,_,[],hu=>hu.elim
 |.int _,[],_,_,h,_,_=>by simp[collect]at h
 |.bool,[],_,_,h,_,_=>by simp[collect]at h
 |.str,[],_,_,h,_,_=>by simp[collect]at h
 |.row _,[],_,_,h,_,_=>by simp[collect]at h
 |.ptr _,[],_,_,h,_,_=>by simp[collect]at h
end
section
section
variable {M M':Fr} {h h':zc} {b c o n0:Nat} {γ γ':Gh} {us:List Value} {u:Value} {t:Ty} {cs C R:CS} {e:TypeId}
def AgM(M:Fr)(h:zc):Prop:=∀b c,M b=Td c->∃T m,h[b]?=Td (.cells c T m)
theorem AgM.lt(H:AgM M h){c:Array Value}(e:M b=Td c):b<h.size:=by obtain⟨T,m,f⟩:=H b c e;grind
theorem AgM.none{M:Fr}{h:zc}(H:AgM M h){b:Nat}(f:h.size<=b):M b=Te:=by
 cases e:M b with
 |none=>rfl
 |some c=>have:=H.lt e;omega
theorem AgM.cell(H:AgM M h){c:Array Value}{v:Value}(e:M b=Td c)(i:c[o]?=Td v):zd h ⟨b,o,Option.none⟩=Td v:=by obtain⟨T,m,f⟩:=H b c e;unfold zd;simp[f,i]
def Gx(c:Option Nat)(γ γ':Gh):Prop:=Fr.le γ.M γ'.M/\∀i,c≠Td i->γ'.β i=γ.β i/\γ'.σ i=γ.σ i
theorem Gx.refl(c:Option Nat)(γ:Gh):Gx c γ γ:=⟨Fr.le.refl _,λ_ _=>⟨rfl,rfl⟩⟩
def ni(c:Nat):AA->Bool
 |.box j _=>Nat.beq j c
 |.own j=>Nat.beq j c
 |.oelt j _ _ _=>Nat.beq j c
 |_=>Tc
def kq(c:Nat):List AA->Bool
 |[]=>Tc
 |x::l=>bif ni c x then Ta else kq c l
def lH(c:Nat):Ch->Bool
 |.box l=>kq c l
 |_=>Tc
def uu(c:Nat):AG->Bool
 |.a x=>ni c x
 |.agg l=>kq c l
def t8(c:Nat):List AG->Bool
 |[]=>Tc
 |x::l=>bif uu c x then Ta else t8 c l
def um(c:Nat):AV->Bool
 |.g x=>uu c x
 |.tup l=>t8 c l
 |.nx _ _ _=>Tc
def nE{α:Type}(f:Nat->α->Bool):Option Nat->α->Bool
 |none,_=>Tc
 |some c,x=>f c x
theorem qJ{j c:Nat}(h:Nat.beq j c=Tc):Td c≠Td j:=by intro e;simp_all
theorem DenA.gx{c:Option Nat}(g:Gx c γ γ'):∀{x:AA} {u:Value},nE ni c x=Tc->DenA γ x u->DenA γ' x u
 |.v _,_,_,h=>h
 |.d _ _,_,_,h=>Rd.mono g.1 h
 |.box j o,u,hm,h=>by
  have:c≠Td j:=by cases c with|none=>simp|some c=>exact qJ hm
  rw[show u=_ from h];simp only[DenA,(g.2 j this).1]
 |.own j,u,hm,h=>by
  have:c≠Td j:=by cases c with|none=>simp|some c=>exact qJ hm
  rw[show u=_ from h];simp only[DenA,(g.2 j this).2]
 |.oelt j z i o,u,hm,h=>by
  have:c≠Td j:=by cases c with|none=>simp|some c=>exact qJ hm
  obtain⟨b,k,l⟩:=h;exact⟨b,by rw[(g.2 j this).2];exact k,l⟩
 |.elt _ _ _,_,_,⟨b,f,cs,e,h1,h2⟩=>⟨b,f,cs,e,g.1 _ _ h1,Rd.mono g.1 h2⟩
 |.dc _ _,_,_,⟨s,k,l,h⟩=>⟨s,k,l,Rd.mono g.1 h⟩
theorem QL{l:List AA}(h:kq c l=Tc):∀x∈l,ni c x=Tc:=by
 induction l with
 |nil=>simp
 |cons y l b=>intro x e;simp only[kq]at h;grind
theorem DenL.gx{c:Option Nat}(g:Gx c γ γ'){l:List AA}(b:nE kq c l=Tc)(h:All2 (DenA γ) l us):All2 (DenA γ') l us:= h.imp λx f u e=>DenA.gx g (by cases c with|none=>rfl|some c=>exact QL b x f) e
theorem DenG.gx{c:Option Nat}(g:Gx c γ γ'){x:AG}(b:nE uu c x=Tc)(h:DenG γ x u):DenG γ' x u:=by
 cases x with
 |a x=>exact DenA.gx g (by cases c <;> exact b) h
 |agg l=>obtain⟨us,e,h⟩:=h;exact⟨us,e,DenL.gx g (by cases c <;> exact b) h⟩
theorem Uk{l:List AG}(h:t8 c l=Tc):∀x∈l,uu c x=Tc:=by
 induction l with
 |nil=>simp
 |cons y l b=>intro x e;simp only[t8]at h;grind
theorem DenV.gx{c:Option Nat}(g:Gx c γ γ'){x:AV}(f:nE um c x=Tc)(h:DenV γ x u):DenV γ' x u:=by
 cases x with
 |g x=>exact DenG.gx g (by cases c <;> exact f) h
 |tup l=>obtain⟨us,e,h⟩:=h;exact⟨us,e,h.imp λx j u i=>DenG.gx g (by cases c with|none=>rfl|some c=>exact Uk f x j) i⟩
 |nx b p c=>exact h
def RowC(M:Fr)(t:Ty)(xs:List (El t))(cells:List Value):Prop:=
 cells.length=xs.length*sz t/\∀i (h:i<xs.length),Rd M t xs[i] ((cells.drop (i*sz t)).take (sz t))
theorem RowC.mono(b:Fr.le M M'){xs:List (El t)}{cells:List Value}(H:RowC M t xs cells):RowC M' t xs cells:=⟨H.1,λi h=>Rd.mono b (H.2 i h)⟩
theorem RowC.nil(M:Fr)(t:Ty):RowC M t [] []:=⟨by simp,λi h=>absurd h (by simp)⟩
theorem RowC.single{x:El t}{cs:List Value}(h:Rd M t x cs):RowC M t [x] cs:=by
 have b:=h.len;refine⟨by simp[b],λi hi=>?_⟩;have:i=0:=by simpa using hi
 subst this;grind
theorem RowC.append{xs ys:List (El t)}{c1 c2:List Value}(h1:RowC M t xs c1)(j:RowC M t ys c2):RowC M t (xs++ys) (c1++c2):=by
 refine⟨by rw[zah,zah,h1.1,j.1,zcs],λi hi=>?_⟩;by_cases b:i<xs.length;rw[zcp b];have h:(i+1)*sz t<=c1.length:=by rw[h1.1];exact za8 _ b
 rw[zcs,zd6]at h;rw[List.drop_append_of_le_length (by omega),zdp (by grind)];exact h1.2 i b;have c:xs.length<=i:=by omega
 rw[zcx c];have f:i-xs.length<ys.length:=by rw[zah]at hi;omega
 have:=j.2 (i-xs.length) f;have e:(c1++c2).drop (i*sz t)=c2.drop ((i-xs.length)*sz t):=by
  rw[List.drop_append];have:c1.length<=i*sz t:=by rw[h1.1];exact za8 _ c
  rw[zce this,zck,h1.1,<-Nat.sub_mul]
 grind
theorem RowC.one{xs:List (El t)}{cells:List Value}(H:RowC M t xs cells):∀v∈cells,v.oneCell'=Ta:=by
 intro v c;obtain⟨j,b,rfl⟩:=zdj c;have hz:0<sz t:=by rcases zef (sz t)with h|h;rw[H.1,h,Nat.mul_zero]at b;omega;exact h
 have hi:j / sz t<xs.length:=by rw[H.1]at b;exact Nat.div_lt_of_lt_mul (by grind)
 refine Rd.one (H.2 _ hi) _ ?_;rw[List.mem_iff_getElem?];refine⟨j % sz t,?_⟩;rw[zbk,zA (Nat.mod_lt _ hz),zb6,zd7,Nat.div_add_mod,zai b]
theorem RowC.rd{xs:List (El t)}{cells:List Value}(H:RowC M t xs cells){cs:Array Value}(h:M b=Td cs)(j:(cs.toList.drop o).take (xs.length*sz t)=cells)(k:xs.length<=140737488355328/\xs.length<=c):
  Rd M (.row t) xs [.slice (Td ⟨b,o,Te⟩) xs.length c]:=by
 refine⟨_,rfl,_,_,rfl,k,.inr ⟨b,o,cs,rfl,h,λi hi=>?_⟩⟩;have:=H.2 i hi;rw[<-j]at this;have f:(i+1)*sz t<=xs.length*sz t:=za8 _ hi;rw[zcs,zd6]at f;have e:(((cs.toList.drop o).take (xs.length*sz t)).drop (i*sz t)).take (sz t)=cut cs (o+i*sz t) (sz t):=by unfold cut;rw[ze7,zet,zdh,zda (by omega)]
 simp_all
theorem Rd.rowC(ag:AgM M h){xs:List (El t)}(H:Rd M (.row t) xs [u]):∃s:Sl,u=aK s/\s.len=xs.length/\(xs.length<=140737488355328/\xs.length<=s.cap)/\∃cells,RowC M t xs cells/\Arr h.size h s.a cells:=by
 obtain⟨v,e,a,c,rfl,m,H⟩:=H;cases e;refine⟨⟨a,xs.length,c⟩,rfl,rfl,m,?_⟩;rcases H with rfl|⟨b,o,cs,rfl,l,hi⟩;exact⟨[],RowC.nil _ _,.inl rfl⟩;have f:xs=[]\/xs.length*sz t<=(cs.toList.drop o).length:=by
  rcases zef xs.length with h0|h0;simp_all;right;have:=(hi (xs.length-1) (by omega)).len;unfold cut at this;rw[zbl,zb8]at this;rw[zb8];rcases zef (sz t)with hz|hz;grind;have e:xs.length*sz t=(xs.length-1)*sz t+sz t:=by rw[<-zdn];congr 1;omega
  rw[e];omega
 rcases f with rfl|f;exact⟨[],RowC.nil _ _,.inl rfl⟩;refine⟨(cs.toList.drop o).take (xs.length*sz t),⟨by simp_all,λi j=>?_⟩,.inr ⟨b,o,rfl,ag.lt l,λi v n=>?_⟩⟩;have:=hi i j;have k:(i+1)*sz t<=xs.length*sz t:=za8 _ j;rw[zcs,zd6]at k;unfold cut at this;rw[ze7,zet,zdh,zda (by omega)];exact this;refine ag.cell l ?_;grind
def vZ(o:Option Obj)(us:List Value):Prop:=((∃T,o=Td (.cells us.toArray T (0,0)))/\∀s p,us≠[Zy s p])\/(∃s p,us=[Zy s p]/\o=Td (.stringIter s p))
def DenC(n0:Nat)(γ:Gh)(h:zc)(c:Nat):Ch->Prop
 |.box l=>∃us,vZ h[γ.β c]? us/\All2 (DenA γ) l us
 |.row e t xs=>∃cells,Owns h n0 e (sz t) (γ.σ c) cells/\RowC γ.M t xs cells/\xs.length<=140737488355328/\(γ.σ c).len=xs.length
 |.fz t xs=>Rd γ.M (.row t) xs [aK (γ.σ c)]
def blk(γ:Gh)(c:Nat):Ch->Option Nat
 |.box _=>Td (γ.β c)
 |.row _ _ _=>(γ.σ c).a.map (·.block)
 |.fz _ _=>Te
structure Inv (h0:zc) (W:Nat->Prop) (M0:Fr) (cs:CS) (γ:Gh) (h:zc):Prop where
 ag:AgM γ.M h
 frame:∀i,i<h0.size->¬W i->h[i]?=h0[i]?
 size:h0.size<=h.size
 old:∀b,b<h0.size->γ.M b=M0 b
 le:Fr.le M0 γ.M
 den:∀x∈cs,DenC h0.size γ h x.1 x.2
 sep:∀x∈cs,∀b,blk γ x.1 x.2=Td b->(h0.size<=b\/W b)/\γ.M b=Te
 apart:cs.Pairwise λx y=>∀b,blk γ x.1 x.2=Td b->blk γ y.1 y.2≠Td b
variable {h0 : zc} {W : Nat -> Prop} {M0 : Fr}
theorem DenC.lt{k:Ch}(H:DenC n0 γ h c k):∀b,blk γ c k=Td b->b<h.size:=by
 intro b f;cases k with
 |box l=>obtain⟨us,e,_⟩:=H;simp only[blk,zad]at f;subst f;rcases e with⟨⟨T,e⟩,_⟩|⟨s,p,_,e⟩;grind;grind
 |row e t xs=>obtain⟨cells,h1,_⟩:=H;simp only[blk,zc6]at f;obtain⟨p,i,rfl⟩:=f;exact(h1.base_le p i).2
 |fz t xs=>cases f
theorem DenC.gx{c:Option Nat}(g:Gx c γ γ'){j:Nat}{k:Ch}(u:c≠Td j)(q:nE lH c k=Tc)(H:DenC n0 γ h j k)(f:∀b,blk γ j k=Td b->h'[b]?=h[b]?):DenC n0 γ' h' j k:=by
 obtain⟨r,i⟩:=g.2 j u;cases k with
 |box l=>obtain⟨us,e,h1⟩:=H;exact⟨us,by rw[r,f _ rfl];exact e,DenL.gx g (by cases c <;> exact q) h1⟩
 |row e t xs=>obtain⟨cells,h1,n,o,w⟩:=H;refine⟨cells,?_,n.mono g.1,o,by grind⟩;rw[i];exact h1.keep λp m=>f _ (by simp[blk,m])
 |fz t xs=>simp only[DenC,i];exact Rd.mono g.1 H
theorem pQ{c:Option Nat}(g:Gx c γ γ'){j:Nat}(k:Ch)(e:c≠Td j):blk γ' j k=blk γ j k:=by obtain⟨b,f⟩:=g.2 j e;cases k <;> simp[blk,b,f]
theorem Inv.rest{cs rest:CS}{γ γ':Gh}{h h':zc}(I:Inv h0 W M0 cs γ h)(hsub:rest.Sublist cs){c:Option Nat}(g:Gx c γ γ') (hmen:∀x∈rest,c≠Td x.1/\nE lH c x.2=Tc) (hk:∀x∈rest,∀b,blk γ x.1 x.2=Td b->h'[b]?=h[b]?/\γ'.M b=Te)
  (ag:AgM γ'.M h') (hframe:∀i,i<h0.size->¬W i->h'[i]?=h[i]?) (hsize:h.size<=h'.size) (hold:∀b,b<h0.size->γ'.M b=γ.M b):Inv h0 W M0 rest γ' h' where
 ag:=ag
 frame:=λi hi hw=>(hframe i hi hw).trans (I.frame i hi hw)
 size:=zch I.size hsize
 old:=λb hb=>(hold b hb).trans (I.old b hb)
 le:=I.le.trans g.1
 den:=λx hx=>(I.den x (hsub.subset hx)).gx g (hmen x hx).1 (hmen x hx).2 λb hb=>(hk x hx b hb).1
 sep:=λx hx b hb=>by rw[pQ g _ (hmen x hx).1]at hb;exact⟨(I.sep x (hsub.subset hx) b hb).1,(hk x hx b hb).2⟩
 apart:=by refine(I.apart.sublist hsub).imp_of_mem λ {x y} hx hy h=>?_;intro b hb;rw[pQ g _ (hmen x hx).1]at hb;rw[pQ g _ (hmen y hy).1];exact h b hb
theorem Inv.cons{rest:CS}(I:Inv h0 W M0 rest γ h){k:Ch}(hd:DenC h0.size γ h c k)(hs:∀b,blk γ c k=Td b->(h0.size<=b\/W b)/\γ.M b=Te)
  (ha:∀b,blk γ c k=Td b->∀x∈rest,blk γ x.1 x.2≠Td b):Inv h0 W M0 ((c,k)::rest) γ h where
 ag:=I.ag
 frame:=I.frame
 size:=I.size
 old:=I.old
 le:=I.le
 den:=λx hx=>by rcases zan.1 hx with rfl|hx;exact hd;exact I.den x hx
 sep:=λx hx=>by rcases zan.1 hx with rfl|hx;exact hs;exact I.sep x hx
 apart:=zcy.2 ⟨λy hy b hb=>ha b hb y hy,I.apart⟩
theorem Inv.sub{cs rest:CS}(I:Inv h0 W M0 cs γ h)(hsub:rest.Sublist cs):Inv h0 W M0 rest γ h where
 ag:=I.ag
 frame:=I.frame
 size:=I.size
 old:=I.old
 le:=I.le
 den:=λx hx=>I.den x (hsub.subset hx)
 sep:=λx hx=>I.sep x (hsub.subset hx)
 apart:=I.apart.sublist hsub
theorem Inv.fz(I:Inv h0 W M0 cs γ h):lP γ cs:=λc t xs b=>I.den _ b
theorem Inv.call(I:Inv h0 W M0 cs γ h)(k:Keep h.size h h')(m:Fr.le γ.M M')(e:∀b,b<h.size->M' b=γ.M b)(ag:AgM M' h'):Inv h0 W M0 cs { γ with M:=M' } h':= I.rest (zd8 _) (c:=Te) ⟨m,λ_ _=>⟨rfl,rfl⟩⟩ (λx _=>⟨by simp,rfl⟩) (λx l b j=>by have f:=(I.den x l).lt b j;exact⟨k.get b f,(e b f).trans (I.sep x l b j).2⟩) ag (λi hi _=>k.get i (zdb hi I.size)) k.size (λb j=>e b (zdb j I.size))
def y5(c:Nat):CS->CS
 |[]=>[]
 |(j,k)::l=>bif (bif Nat.beq j c then Ta else lH c k)then y5 c l else(j,k)::y5 c l
def Qh(c:Nat):CS->Bool
 |[]=>Ta
 |(j,k)::l=>bif (bif Nat.beq j c then Ta else lH c k)then Tc else Qh c l
def iM(c:Nat):CS->CS
 |[]=>[]
 |(j,k)::l=>bif Nat.beq j c then iM c l else(j,k)::iM c l
theorem ww(c:Nat):∀l:CS,(y5 c l).Sublist l
 |[]=>.slnil
 |(j,k)::l=>by
  simp only[y5];cases(bif Nat.beq j c then Ta else lH c k)with
  |true=>exact(ww c l).cons _
  |false=>exact(ww c l).cons_cons _
theorem Zd(c:Nat):∀l:CS,(iM c l).Sublist l
 |[]=>.slnil
 |(j,k)::l=>by
  simp only[iM];cases Nat.beq j c with
  |true=>exact(Zd c l).cons _
  |false=>exact(Zd c l).cons_cons _
theorem zW{c:Nat}:∀{l:CS} {x:Nat×Ch},x∈y5 c l->Td c≠Td x.1/\lH c x.2=Tc
 |(j,k)::l,x,h=>by
  simp only[y5]at h;cases hb:(bif Nat.beq j c then Ta else lH c k)with
  |true=>rw[hb]at h;exact zW h
  |false=>
   rw[hb]at h;rcases zan.1 h with rfl|h;cases hj:Nat.beq j c with
   |true=>simp[hj]at hb
   |false=>simp only[hj,zL]at hb;exact⟨qJ hj,hb⟩
   exact zW h
theorem wx{c:Nat}:∀{l:CS},Qh c l=Ta->∀x∈l,Td c≠Td x.1/\lH c x.2=Tc
 |[],_,x,h=>by cases h
 |(j,k)::l,hn,x,h=>by
  simp only[Qh]at hn;cases hb:(bif Nat.beq j c then Ta else lH c k)with
  |true=>simp_all
  |false=>
   rw[hb]at hn;rcases zan.1 h with rfl|h;cases hj:Nat.beq j c with
   |true=>simp[hj]at hb
   |false=>simp only[hj,zL]at hb;exact⟨qJ hj,hb⟩
   exact wx hn x h
theorem Y0{c:Nat}:∀{l:CS} {x:Nat×Ch},x∈iM c l->x∈l/\x.1≠c
 |(j,k)::l,x,h=>by
  simp only[iM]at h;cases hb:Nat.beq j c with
  |true=>rw[hb]at h;exact⟨za3 _ (Y0 h).1,(Y0 h).2⟩
  |false=>rw[hb]at h;rcases zan.1 h with rfl|h;refine⟨za2,λe=>?_⟩;simp_all;exact⟨za3 _ (Y0 h).1,(Y0 h).2⟩
def lI(γ:Gh)(c b:Nat):Gh:={ γ with β:=λi=>bif Nat.beq i c then b else γ.β i }
def jN(γ:Gh)(c:Nat)(s:Sl):Gh:={ γ with σ:=λi=>bif Nat.beq i c then s else γ.σ i }
theorem pO(γ:Gh)(c b:Nat):Gx (Td c) γ (lI γ c b):=⟨Fr.le.refl _,λi hi=>by
 have:Nat.beq i c=Tc:=by
  cases h:Nat.beq i c with
  |false=>rfl
  |true=>simp_all
 simp[lI,this]⟩
theorem Qi(γ:Gh)(c:Nat)(s:Sl):Gx (Td c) γ (jN γ c s):=⟨Fr.le.refl _,λi hi=>by
 have:Nat.beq i c=Tc:=by
  cases h:Nat.beq i c with
  |false=>rfl
  |true=>simp_all
 simp[jN,this]⟩
theorem Jp(γ:Gh)(c b:Nat):(lI γ c b).β c=b:=by simp[lI]
theorem yd(γ:Gh)(c:Nat)(s:Sl):(jN γ c s).σ c=s:=by simp[jN]
theorem oa(e:Qh c R=Ta):∀x∈y5 c C++R,Td c≠Td x.1/\nE lH (Td c) x.2=Tc:=by intro x b;rcases zaj.1 b with b|b;exact zW b;exact wx e x b
theorem Inv.newBoxO(I:Inv h0 W M0 (C++R) γ h)(o:Qh c R=Ta){l:List AA}(q:All2 (DenA γ) l us)(t:kq c l=Tc){ob:Obj}(n:vZ (Td ob) us):
  Inv h0 W M0 ((c,.box l)::y5 c C++R) (lI γ c h.size) (h.push ob):=by
 have k:∀x∈y5 c C++R,∀b,blk γ x.1 x.2=Td b->b<h.size:=λx j b f=>(I.den x (((ww c C).append_right R).subset j)).lt b f;have r:Inv h0 W M0 (y5 c C++R) (lI γ c h.size) (h.push ob):=by refine I.rest ((ww c C).append_right R) (pO γ c h.size) (oa o) (λx j b f=>?_) (λb u e=>?_) (λi hi _=>?_) (by simp) (λb f=>rfl);have:=k x j b f;exact⟨by grind,(I.sep x (((ww c C).append_right R).subset j) b f).2⟩;have:=I.ag.lt e;obtain⟨w,m,y⟩:=I.ag b u e;grind;have:=I.size;grind
 refine r.cons ⟨us,by rw[Jp,yc];exact n,DenL.gx (pO γ c h.size) t q⟩ (λb f=>?_) (λb f x j e=>?_);simp only[blk,Jp,zad]at f;subst f;exact⟨.inl I.size,I.ag.none (zac _)⟩;simp only[blk,Jp,zad]at f;subst f;rw[pQ (pO γ c h.size) _ (oa o x j).1]at e;grind
theorem Inv.newBox(I:Inv h0 W M0 (C++R) γ h)(i:Qh c R=Ta){l:List AA}(e:All2 (DenA γ) l us)(f:kq c l=Tc)(b:kb l=Tc)(T:TypeId):
  Inv h0 W M0 ((c,.box l)::y5 c C++R) (lI γ c h.size) (h.push (.cells us.toArray T)):=
 Inv.newBoxO I i e f (.inl ⟨⟨T,rfl⟩,λs p=>uZ b e s p⟩)
theorem sB{α:Type}{R:α->α->Prop}(c:∀x y,R x y->R y x):∀{l:List α},l.Pairwise R->∀{x y:α},x∈l->y∈l->x≠y->R x y
 |[],_,_,_,hx,_,_=>by cases hx
 |z::l,h,x,y,hx,hy,hne=>by rw[zcy]at h;rcases zan.1 hx with e|h1;grind;rcases zan.1 hy with f|b;simp_all;exact sB c h.2 h1 b hne
theorem Inv.setBox(I:Inv h0 W M0 (C++R) γ h){l t:List AA}(w:(c,Ch.box l)∈C)(e:vZ h'[γ.β c]? us)
  (D:∀i,i≠γ.β c->h'[i]?=h[i]?) (H:h'.size=h.size) (A:All2 (DenA γ) t us) (L:∀x∈R,x.1≠c):Inv h0 W M0 ((c,.box t)::iM c C++R) γ h':=by
 have r:=I.sep _ (zau R w) _ rfl;have q:∀x∈iM c C++R,blk γ x.1 x.2≠Td (γ.β c):=by
  intro x j;have n:x≠(c,Ch.box l):=by rintro rfl;rcases zaj.1 j with j|j;exact(Y0 j).2 rfl;grind
  have k:x∈C++R:=((Zd c C).append_right R).subset j;have z:=@sB _ (λ(x y:Nat×Ch)=>∀b,blk γ x.1 x.2=Td b->blk γ y.1 y.2≠Td b) (λx y h b f o=>h b o f) _ I.apart;intro f;exact z (zau R w) k (λe=>n e.symm) _ rfl f
 have B:Inv h0 W M0 (iM c C++R) γ h':=by refine I.rest ((Zd c C).append_right R) (c:=Te) (Gx.refl _ _) (λx _=>⟨by simp,rfl⟩) (λx j b f=>?_) (λb E F=>?_) (λi hi G=>?_) (by omega) (λb f=>rfl);exact⟨D b λu=>q x j (u ▸ f),(I.sep x (((Zd c C).append_right R).subset j) b f).2⟩;obtain⟨J,m,u⟩:=I.ag b E F;grind;grind
 refine B.cons ⟨us,e,A⟩ (λb f=>?_) (λb f x j=>?_);simp only[blk,zad]at f;grind;simp only[blk,zad]at f;simp_all
theorem Inv.newRow(I:Inv h0 W M0 (C++R) γ h)(D:Qh c R=Ta)(G:h.size<=h'.size){p:Option Nat}(z:∀i,i<h.size->p≠Td i->h'[i]?=h[i]?) (u:∀b,p=Td b->h0.size<=b/\γ.M b=Te/\∀x∈C++R,blk γ x.1 x.2≠Td b) {s:Sl} {xs:List (El t)} {cells:List Value} (n:Owns h' h0.size e (sz t) s cells) (k:∀q,s.a=Td q->p=Td q.block\/q.block=h.size) (o:RowC γ.M t xs cells) (H:xs.length<=140737488355328) (F:s.len=xs.length):
  Inv h0 W M0 ((c,.row e t xs)::y5 c C++R) (jN γ c s) h':=by
 have f:=(ww c C).append_right R;have w:∀x∈y5 c C++R,∀b,blk γ x.1 x.2=Td b->b<h.size:=λx l b k=>(I.den x (f.subset l)).lt b k;have E:Inv h0 W M0 (y5 c C++R) (jN γ c s) h':=by refine I.rest f (Qi γ c s) (oa D) (λx l b k=>?_) (λb A y=>?_) (λi hi N=>?_) G (λb k=>rfl);exact⟨z b (w x l b k) λr=>(u b r).2.2 x (f.subset l) k,(I.sep x (f.subset l) b k).2⟩;obtain⟨J,m,r⟩:=I.ag b A y;exact⟨J,m,by rw[z b (I.ag.lt y) λL=>by have:=(u b L).2.1;rw[show γ.M b=Td A from y]at this;cases this];exact r⟩;have:=I.size;grind
 refine E.cons ⟨cells,by rw[yd];exact n,o,H,by rw[yd];exact F⟩ (λb j=>?_) (λb j x l r=>?_);simp only[blk,yd,zc6]at j;obtain⟨q,B,rfl⟩:=j;rcases k q B with h1|h1;exact⟨.inl (u _ h1).1,(u _ h1).2.1⟩;rw[h1];exact⟨.inl I.size,I.ag.none (zac _)⟩;simp only[blk,yd,zc6]at j;obtain⟨q,B,rfl⟩:=j;rw[pQ (Qi γ c s) _ (oa D x l).1]at r;grind
def nG(c:Nat):CS->CS
 |[]=>[]
 |(j,k)::l=>bif Nat.beq j c then(match k with
  |.row _ t xs=>(j,.fz t xs)::nG c l
  |k=>(j,k)::nG c l)else(j,k)::nG c l
def jn(γ:Gh)(b:Nat)(cs:Array Value):Gh:={ γ with M:=λi=>bif Nat.beq i b then Td cs else γ.M i }
theorem Inv.freeze1{A C:CS}{xs:List (El t)}(I:Inv h0 W M0 (A++(c,.row e t xs)::C) γ h):∃γ',Inv h0 W M0 (A++(c,.fz t xs)::C) γ' h/\Gx Te γ γ':=by
 obtain⟨cells,z,n,Z,S⟩:=I.den (c,.row e t xs) (by simp);have N:=n.1;rcases z.2 with⟨m,h1⟩|⟨g,cap,j,m,k,O,T,L,Y,G⟩;refine⟨γ,?_,Gx.refl _ _⟩;have H:xs=[]:=zbb (by omega);have U:DenC h0.size γ h c (.fz t xs):=by subst H;simp only[zbo]at m;exact⟨_,rfl,Te,0,by simp[aK,m],⟨by simp,by simp⟩,.inl rfl⟩
 have l:∀x,x∈A++(c,Ch.fz t xs)::C->x∈A++(c,Ch.row e t xs)::C\/x=(c,Ch.fz t xs):=by intro x f;simp only[zaj,zan]at f ⊢;rcases f with h|h|h;grind;exact .inr h;simp_all
 refine⟨I.ag,I.frame,I.size,I.old,I.le,λx f=>?_,λx f b i=>?_,?_⟩;grind [den];rcases l x f with h|rfl;exact I.sep x h b i;cases i;have:=I.apart;simp only[zd5,zcy]at this ⊢;obtain⟨a1,⟨a2,D⟩,F⟩:=this;refine⟨a1,⟨λy u b i=>(by simp[blk]at i),D⟩,λx f y u b i=>?_⟩;rcases zan.1 u with rfl|u;simp[blk];grind;simp only[zbo]at m;have Q:γ.M g=Te:=(I.sep (c,.row e t xs) (by simp) g (by simp[blk,m.1])).2;have B:Fr.le γ.M (jn γ g j).M:=by
  intro b J w;have:Nat.beq b g=Tc:=by
   cases i:Nat.beq b g with
   |false=>rfl
   |true=>simp_all
  simp[jn,this,w]
 have gx:Gx Te γ (jn γ g j):=⟨B,λ_ _=>⟨rfl,rfl⟩⟩;have P:g<h.size:=(zat.1 O).1;have E:∀x,x∈A++C->blk γ x.1 x.2≠Td g:=by intro x f;have:=I.apart;simp only[zd5,zcy]at this;obtain⟨a1,⟨a2,D⟩,F⟩:=this;rcases zaj.1 f with f|f;intro i;exact F x f (c,.row e t xs) za2 g i (by simp[blk,m.1]);exact a2 x f g (by simp[blk,m.1])
 have q:∀b,b≠g->(jn γ g j).M b=γ.M b:=by
  intro b i;have:Nat.beq b g=Tc:=by
   cases h:Nat.beq b g with
   |false=>rfl
   |true=>simp_all
  simp[jn,this]
 have r:Inv h0 W M0 (A++C) (jn γ g j) h:=by
  refine I.rest (by simp) gx (λx _=>⟨by simp,rfl⟩) (λx f b i=>?_) (λb J w=>?_) (λ_ _ _=>rfl) (zac _) (λb i=>q b (by omega));have k:b≠g:=λV=>E x f (V ▸ i);refine⟨rfl,(q b k).trans (I.sep x ?_ b i).2⟩;grind;by_cases k:b=g;subst k;have:J=j:=by simp[jn]at w;exact w.symm
  subst this;exact⟨_,_,O⟩;rw[q b k]at w;exact I.ag b J w
 refine⟨jn γ g j,?_,gx⟩;have U:DenC h0.size (jn γ g j) h c (.fz t xs):=by
  have:=(n.mono B).rd (b:=g) (o:=0) (c:=cap) (cs:=j) (by simp[jn]) (by simp_all) ⟨Z,by omega⟩;show Rd _ _ _ [aK (γ.σ c)];have e3:aK (γ.σ c)=.slice (Td ⟨g,0,Te⟩) xs.length cap:=by unfold aK;rw[m.1,S,m.2.2]
  rw[e3];exact this
 have l:∀x,x∈A++(c,Ch.fz t xs)::C->x∈A++C\/x=(c,Ch.fz t xs):=by intro x f;simp only[zaj,zan]at f ⊢;rcases f with h|h|h;grind;exact .inr h;grind
 refine⟨r.ag,r.frame,r.size,r.old,r.le,λx f=>?_,λx f b i=>?_,?_⟩;grind [den];rcases l x f with h|rfl;exact r.sep x h b i;cases i;have:=r.apart;simp only[zd5,zcy]at this ⊢;obtain⟨a1,D,F⟩:=this;refine⟨a1,⟨λy u b i=>(by simp[blk]at i),D⟩,λx f y u b i=>?_⟩;rcases zan.1 u with rfl|u;simp[blk];grind
theorem Inv.freeze{R:CS}{h:zc}(c:Nat):∀(C A:CS) {γ:Gh},Inv h0 W M0 (A++C++R) γ h->∃γ',Inv h0 W M0 (A++nG c C++R) γ' h/\Gx Te γ γ'
 |[],A,γ,I=>⟨γ,I,Gx.refl _ _⟩
 |(j,k)::l,A,γ,I=>by
  have go:∀(k:Ch) {γ:Gh},Inv h0 W M0 (A++(j,k)::l++R) γ h->∃γ',Inv h0 W M0 (A++(j,k)::nG c l++R) γ' h/\Gx Te γ γ':=by intro k γ I;have:=Inv.freeze c l (A++[(j,k)]) (R:=R) (γ:=γ) (by simpa using I);simpa using this
  simp only[nG];cases Nat.beq j c with
  |true=>
   cases k with
   |row e t xs=>obtain⟨m,n,g1⟩:=Inv.freeze1 (A:=A) (C:=l++R) (γ:=γ) (by simpa using I);obtain⟨b,f,g2⟩:=go (.fz t xs) (γ:=m) (by simpa using n);exact⟨b,f,g1.1.trans g2.1,λi hi=>⟨(g2.2 i hi).1.trans (g1.2 i hi).1,(g2.2 i hi).2.trans (g1.2 i hi).2⟩⟩
   |box o=>exact go _ I
   |fz t xs=>exact go _ I
  |false=>exact go _ I
end
section
variable {i n:Nat} {c:qw} {v:AV} {γ γ':Gh} {a:Act} {u:Value} {o:Oper} {g:Option Bool} {σ:Operand -> Value}
abbrev jq:=List (Nat×qw×AV)
def mf:jq->Nat->Option (qw×AV)
 |[],_=>Te
 |(j,c,v)::e,i=>bif Nat.beq i j then Td (c,v)else mf e i
def ny(γ:Gh)(σ:Nat->Value)(x:Nat×qw×AV):Prop:=(valid σ x.2.1->DenV γ x.2.2 (σ x.1))/\(¬valid σ x.2.1->σ x.1=undef)
structure SatA (n:Nat) (e:jq) (γ:Gh) (a:Act):Prop where
 defers:a.defers=[]
 size:a.tmps.size=n
 all:∀x∈e,ny γ (qk a) x
def sc:jq->Nat->jq
 |[],_=>[]
 |(j,c,v)::e,i=>bif (bif Nat.beq i j then Ta else mentions c i)then sc e i else(j,c,v)::sc e i
def Hz(e:jq)(i:Nat)(c:qw)(v:AV):jq:=(i,c,v)::sc e i
def tP(e:jq):Option Nat->qw->AV->jq
 |none,_,_=>e
 |some d,c,v=>Hz e d c v
def mZ:jq->jq
 |[]=>[]
 |(j,[],v)::e=>(j,[],v)::mZ e
 |(_,_::_,_)::e=>mZ e
def qV(c:Nat):jq->jq
 |[]=>[]
 |(j,ch,v)::e=>bif um c v then qV c e else(j,ch,v)::qV c e
def uW:Option Nat->jq->jq
 |none,e=>e
 |some c,e=>qV c e
theorem Z8{e:jq}(h:mf e i=Td (c,v)):(i,c,v)∈e:=by
 induction e with
 |nil=>cases h
 |cons x e f=>obtain⟨j,b,l⟩:=x;simp only[mf]at h;by_cases k:Nat.beq i j=Ta;simp_all;simp_all
theorem YJ{e:jq}{x:Nat×qw×AV}(h:x∈sc e i):x∈e/\x.1≠i/\mentions x.2.1 i=Tc:=by
 induction e with
 |nil=>cases h
 |cons y e o=>
  obtain⟨j,f,n⟩:=y;simp only[sc]at h;by_cases k:Nat.beq i j=Ta;simp_all;have c:Nat.beq i j=Tc:=zen.2 k;simp only[c,zL]at h;by_cases l:mentions f i=Ta;simp_all;have b:mentions f i=Tc:=by simpa using l
  simp only[b,zL]at h;rcases zan.1 h with rfl|h;refine⟨za2,λm=>?_,b⟩;simp_all;simp_all
theorem LK{e:jq}{x:Nat×qw×AV}(h:x∈mZ e):x∈e/\x.2.1=[]:=by
 induction e with
 |nil=>cases h
 |cons y e i=>
  obtain⟨j,b,f⟩:=y;cases b with
  |nil=>simp only[mZ]at h;grind
  |cons c cs=>simp only[mZ]at h;simp_all
theorem RB{c:Option Nat}{e:jq}{x:Nat×qw×AV}(h:x∈uW c e):x∈e/\nE um c x.2.2=Tc:=by
 cases c with
 |none=>exact⟨h,rfl⟩
 |some c=>
  have key:∀e:jq,x∈qV c e->x∈e/\um c x.2.2=Tc:=by
   intro e;induction e with
   |nil=>intro h;cases h
   |cons y e b=>obtain⟨j,f,i⟩:=y;intro h;simp only[qV]at h;grind
  exact key e h
theorem SatA.sub{e b:jq}(h:SatA n e γ a)(c:∀x∈b,x∈e):SatA n b γ a:=⟨h.defers,h.size,λx f=>h.all x (c x f)⟩
theorem SatA.clean{e:jq}(h:SatA n e γ a):SatA n (mZ e) γ a:=h.sub λ_ b=>(LK b).1
theorem SatA.gx{e:jq}{c:Option Nat}(h:SatA n e γ a)(g:Gx c γ γ'):SatA n (uW c e) γ' a:= ⟨h.defers,h.size,λx i=>by obtain⟨h1,f⟩:=RB i;exact⟨λb=>((h.all x h1).1 b).gx g f,(h.all x h1).2⟩⟩
theorem SatA.gx0{e:jq}(h:SatA n e γ a)(g:Gx Te γ γ'):SatA n e γ' a:=h.gx g
theorem SatA.put{e:jq}(h:SatA n e γ a)(hi:i<n)(y:mentions c i=Tc)
  (z:valid (qk a) c->DenV γ v u) (w:¬valid (qk a) c->u=undef):SatA n (Hz e i c v) γ (a.put (Td i) u):=by
 refine⟨by rw[Zt];exact h.defers,by rw[size_put];exact h.size,λx m=>?_⟩;have k:i<a.tmps.size:=by rw[h.size];exact hi
 rcases zan.1 m with rfl|m;have l:=J7 (σ:=qk (a.put (Td i) u)) (τ:=qk a) y (λj o=>yz o);refine⟨λf=>?_,λf=>?_⟩;simp only;rw[Z3 k];grind;exact(Z3 k).trans (w (λb=>f (l.2 b)));obtain⟨h1,r,t⟩:=YJ m;have l:=J7 (σ:=qk (a.put (Td i) u)) (τ:=qk a) t (λj o=>yz o);have q:=h.all x h1;refine⟨λf=>?_,λf=>?_⟩;rw[yz r];exact q.1 (l.1 f);exact(yz r).trans (q.2 (λb=>f (l.2 b)))
theorem SatA.putO{e:jq}(h:SatA n e γ a){d:Option Nat}(f:xj n c d=Ta)
  (k:valid (qk a) c->DenV γ v u) (l:¬valid (qk a) c->u=undef):SatA n (tP e d c v) γ (a.put d u):=by
 cases d with
 |none=>exact h
 |some i=>
  simp only[xj]at f;by_cases j:mentions c i=Ta;grind;have b:mentions c i=Tc:=by simpa using j
  simp only[b,zL]at f;exact h.put (by simp_all) b k l
def AT:Value->AG
 |.agg cs=>.agg (cs.toList.map .v)
 |v=>.a (.v v)
def pC:Value->AV
 |.tuple vs=>.tup (vs.toList.map AT)
 |v=>.g (AT v)
theorem Ik(γ:Gh)(v:Value):DenG γ (AT v) v:=by
 cases v with
 |agg cs=>
  refine⟨cs.toList,by simp,?_⟩;generalize cs.toList=l;induction l with
  |nil=>trivial
  |cons x l b=>exact⟨rfl,b⟩
 |_=>exact rfl
theorem sE(γ:Gh)(v:Value):DenV γ (pC v) v:=by
 cases v with
 |tuple vs=>
  refine⟨vs.toList,by simp,?_⟩;generalize vs.toList=l;induction l with
  |nil=>trivial
  |cons x l b=>exact⟨Ik γ x,b⟩
 |agg cs=>exact Ik γ (.agg cs)
 |_=>exact rfl
def lh:List AA->Option (List Value)
 |[]=>Td []
 |.v x::l=>match lh l with
  |some vs=>Td (x::vs)
  |none=>Te
 |_::_=>Te
def pP:AV->Option Value
 |.g (.a (.v x))=>Td x
 |.g (.agg l)=>match lh l with
  |some vs=>Td (.agg vs.toArray)
  |none=>Te
 |_=>Te
theorem IT{γ:Gh}:∀{l:List AA} {vs us:List Value},lh l=Td vs->All2 (DenA γ) l us->us=vs
 |[],vs,[],h,_=>by simp only[lh,zad]at h;exact h
 |[],_,_::_,_,h=>h.elim
 |.v x::l,vs,u::us,h,hd=>by simp only[lh]at h;split at h;rename_i ws b;simp only[zad]at h;subst h;rw[show u=x from hd.1,IT b hd.2];cases h
 |.v _::_,_,[],_,h=>h.elim
 |.d _ _::_,_,_,h,_=>by simp[lh]at h
 |.box _ _::_,_,_,h,_=>by simp[lh]at h
 |.own _::_,_,_,h,_=>by simp[lh]at h
 |.oelt _ _ _ _::_,_,_,h,_=>by simp[lh]at h
 |.elt _ _ _::_,_,_,h,_=>by simp[lh]at h
 |.dc _ _::_,_,_,h,_=>by simp[lh]at h
theorem yY{x:AV}{v u:Value}(h:pP x=Td v)(b:DenV γ x u):u=v:=by unfold pP at h;split at h;simp only[zad]at h;subst h;exact b;rename_i l;split at h;rename_i vs c;simp only[zad]at h;subst h;obtain⟨us,rfl,e⟩:=b;rw[IT c e];cases h;cases h
def jJ(e:jq)(c:qw):Operand->Option AV
 |.tmp t=>match mf e t with
  |some (cs,v)=>bif lm cs c then Td v else Te
  |none=>Te
 |.const v=>Td (pC v)
 |.global g=>Td (.g (.a (.v (.pointer (Td ⟨g,0,Te⟩)))))
 |.func f=>Td (.g (.a (.v (.func (.func f) #[] #[]))))
theorem Zz{e:jq}(h:SatA n e γ a)(k:valid (qk a) c){x:Operand}(b:jJ e c x=Td v):DenV γ v (a.eval x):=by
 cases x with
 |tmp t=>simp only[jJ]at b;split at b;rename_i cs u j;by_cases i:lm cs c=Ta;simp only[i,zK,zad]at b;subst b;exact(h.all _ (Z8 j)).1 (Jf i k);grind;cases b
 |const u=>simp only[jJ,zad]at b;subst b;exact sE γ u
 |global g=>simp only[jJ,zad]at b;subst b;exact rfl
 |func f=>simp only[jJ,zad]at b;subst b;exact rfl
def pj:AV->Option Bool
 |.g (.a (.v (.bool b)))=>Td b
 |_=>Te
theorem zM{b:Bool}(h:pj v=Td b)(c:DenV γ v u):u=.bool b:=by unfold pj at h;split at h;simp only[zad]at h;subst h;exact c;cases h
def rK(ops:Array Oper)(e:jq):Option (Nat×Bool)->Option qw
 |none=>Td []
 |some (j,p)=>match w8 ops j with
  |some g=>match mf e g with
   |some (cg,v)=>match pj v with
    |some _=>Td ((g,p)::cg)
    |none=>Te
   |none=>Te
  |none=>Te
def rJ(e:jq):qw->Option Bool
 |[]=>Td Ta
 |(g,p)::c=>match mf e g with
  |some (cg,v)=>match pj v with
   |some b=>bif Zu cg c then(match rJ e c with
    |some cb=>Td (cb&&(bif p then b else !b))
    |none=>Te)else Te
   |none=>Te
  |none=>Te
theorem BA{n:Nat}{e:jq}{γ:Gh}{a:Act}(h:SatA n e γ a):∀{c:qw} {b:Bool},rJ e c=Td b->(b=Ta↔valid (qk a) c)
 |[],b,hb=>by simp only[rJ,zad]at hb;simp[<-hb,valid]
 |(g,p)::c,b,hb=>by
  simp only[rJ]at hb;split at hb;rename_i t v o;split at hb;rename_i m j;by_cases l:Zu t c=Ta;simp only[l,zK]at hb;split at hb;rename_i cb i;simp only[zad]at hb;have r:=BA h i;have k:=h.all _ (Z8 o);rw[Je l]at k;by_cases f:valid (qk a) c;have h1:qk a g=.bool m:=zM j (k.1 f);have q:=r.2 f;subst hb;simp only[valid,h1,f,q,zct,and_true,Value.bool.injEq];grind;have h1:cb=Tc:=by cases cb with|false=>rfl|true=>simp_all
  subst hb;simp[valid,f,h1];cases hb;grind;cases hb;cases hb
theorem Ex{ops:Array Oper}{e:jq}(h:SatA n e γ a)(f:rK ops e o.guard=Td c):
  zbr o (yielded ops a.tmps)=Ta↔valid (qk a) c:=by
 unfold zbr;cases hg:o.guard with
 |none=>rw[hg]at f;simp only[rK,zad]at f;simp[<-f,valid]
 |some t=>
  obtain⟨j,p⟩:=t;rw[hg]at f;simp only[rK]at f;split at f;rename_i g i;split at f;rename_i u v q;split at f;rename_i b w;simp only[zad]at f;subst f;have k:((ops[j]?).bind (·.dst))=Td g:=by simp only[w8]at i;split at i;simp_all;cases i
  have m:=h.all _ (Z8 q);have r:yielded ops a.tmps j=Td p↔qk a g=.bool p:=by
   unfold yielded qk;rw[k];simp only[zcr];cases ht:a.tmps[g]? with
   |none=>simp[zcb,ht,undef]
   |some v=>cases v <;> simp[zcb,ht]
  simp only[beq_iff_eq,r,valid];constructor;intro h1;refine⟨h1,?_⟩;by_cases l:valid (qk a) u;exact l;have:=m.2 l;simp only at this;rw[h1]at this;exact absurd this.symm DV;simp_all;cases f;cases f;cases f
def oR(e:jq):qw->Option (Option Bool)
 |[]=>Td Te
 |c=>match rJ e c with
  |some b=>Td (Td b)
  |none=>Te
theorem Fc{e:jq}(i:SatA n e γ a)(h:oR e c=Td g)(j:valid (qk a) c):im g:=by unfold oR at h;split at h;simp only[zad]at h;subst h;trivial;split at h;rename_i b f;simp only[zad]at h;subst h;exact(BA i f).2 j;cases h
theorem IV{e:jq}(j:SatA n e γ a)(h:oR e c=Td g)(f:¬valid (qk a) c):g=Td Tc:=by
 unfold oR at h;split at h;exact absurd trivial f;split at h;rename_i b i;simp only[zad]at h;subst h;cases b with
 |false=>rfl
 |true=>exact absurd ((BA j i).1 rfl) f
 cases h
def uG(ρ:Operand->Option AV)(x:Operand):Value:=match ρ x with
 |some av=>match pP av with
  |some v=>v
  |none=>undef
 |none=>undef
def oQ(ρ:Operand->Option AV):List Operand->Bool
 |[]=>Ta
 |x::l=>match ρ x with
  |some av=>match pP av with
   |some _=>oQ ρ l
   |none=>Tc
  |none=>Tc
theorem TB{ρ:Operand->Option AV}(h:∀x av,ρ x=Td av->DenV γ av (σ x)){l:List Operand}(c:oQ ρ l=Ta):∀x∈l,σ x=uG ρ x:=by
 induction l with
 |nil=>simp
 |cons y l i=>intro x f;simp only[oQ]at c;split at c;rename_i av e;split at c;rename_i v b;rcases zan.1 f with rfl|f;rw[yY b (h _ _ e)];simp[uG,e,b];grind;cases c;cases c
theorem ZN{ρ:Operand->Option AV}(f:∀x av,ρ x=Td av->DenV γ av (σ x))(c:J9 o.op=Ta)(e:oQ ρ o.op.operands.toList=Ta):
  execOp σ o=execOp (uG ρ) o:=
 execOp_congr o (λcs b h=>by rw[h]at c;cases c) λx i=>TB f e x (by simpa using i)
end
section
variable {o n f k:Nat} {h:zc} {u:Value} {us:List Value} {cs:CS} {γ:Gh} {t ty:TypeId} {P:Program}
variable {h0 : zc} {W : Nat -> Prop} {M0 : Fr}
def takeN(l:List AA)(o n:Nat):Option (List AA):=bif Nat.beq ((l.drop o).take n).length n then Td ((l.drop o).take n)else Te
theorem vo{l r:List AA}(h:takeN l o n=Td r):r=(l.drop o).take n/\r.length=n:=by
 unfold takeN at h;cases hb:Nat.beq ((l.drop o).take n).length n with
 |false=>simp_all
 |true=>rw[hb]at h;simp_all
theorem CZ{h:zc}{p:Addr}:∀{us:List Value} {i:Nat},(∀j v,us[j]?=Td v->zd h (p.add (i+j))=Td v)->ze h p i us
 |[],_,_=>trivial
 |v::us,i,H=>⟨by have:=H 0 v rfl;omega,CZ λj u b=>by have:=H (j+1) u (by simpa using b);grind⟩
def Behind(h:zc)(u:Value)(us:List Value):Prop:=∃b o,u=.pointer (Td ⟨b,o,Te⟩)/\∀j v,us[j]?=Td v->zd h ⟨b,o+j,Te⟩=Td v
theorem Behind.ld(H:Behind h u us):∃p:Addr,u=.pointer (Td p)/\ze h p 0 us/\∀v,us=[v]->zd h p=Td v:=by obtain⟨b,o,e,f⟩:=H;refine⟨_,e,CZ λj v c=>?_,λv c=>?_⟩;rw[zf,zas];exact f j v c;have:=f 0 v (by rw[c];rfl);omega
theorem Ri{cs:Array Value}{f n j:Nat}{v:Value}(h:(cut cs f n)[j]?=Td v):cs[f+j]?=Td v:=by unfold cut at h;grind
def tH(cs:CS)(n:Nat):AA->Option (List AA)
 |.box c o=>match Jn cs c with
  |some (.box l)=>bif kb l then Te else takeN l o n
  |_=>Te
 |.elt t x o=>takeN (Jm t x) o n
 |_=>Te
theorem YW(I:Inv h0 W M0 cs γ h){y:AA}{r:List AA}(k:tH cs n y=Td r)(w:DenA γ y u):
  ∃us,Behind h u us/\us.length=n/\All2 (DenA γ) r us:=by
 unfold tH at k;split at k
 ·rename_i c o;split at k
  ·rename_i l z;cases hit:kb l with
   |true=>simp_all
   |false=>
   rw[hit]at k;obtain⟨rfl,q⟩:=vo k;obtain⟨us,e,A⟩:=I.den _ (qi z);rcases e with⟨⟨T,e⟩,_⟩|⟨s,p,e,_⟩;case inr=>grind [uZ]
   have m:=(A.drop o).take n;refine⟨(us.drop o).take n,⟨_,_,w,λj v i=>?_⟩,by rw[<-m.length];exact q,m⟩;rw[zbk]at i;split at i;rw[zb6]at i;unfold zd;simp_all;cases i
  cases k
 rename_i t x o;obtain⟨rfl,q⟩:=vo k;obtain⟨b,f,D,e,C,B⟩:=w;have m:=((xw (γ:=γ) B).drop o).take n;refine⟨_,⟨_,_,e,λj v i=>?_⟩,by rw[<-m.length];exact q,m⟩;rw[zbk]at i;split at i;rw[zb6]at i;have:=Ri i;exact I.ag.cell C (by grind);cases i;cases k
theorem SY(I:Inv h0 W M0 cs γ h){c:Nat}{e:TypeId}{t:Ty}{xs:List (El t)}(J:Jn cs c=Td (.row e t xs)){i:Nat}{y:El t}(B:xs[i]?=Td y){r:List AA}(G:takeN (Jm t y) o n=Td r)(D:DenA γ (.oelt c (sz t) i o) u):∃us,Behind h u us/\us.length=n/\All2 (DenA γ) r us:=by
 obtain⟨rfl,H⟩:=vo G;obtain⟨g,E,rfl⟩:=D;obtain⟨cells,f,l,_,F⟩:=I.den _ (qi J);simp only at F f;rcases f.2 with⟨m,h1⟩|⟨g',cap,x,m,_,q,_,_,_,k⟩;simp_all;simp only[zbo]at m;rw[E]at m;have z:g=g':=by have:=m.1;simp only[zad,Addr.mk.injEq]at this;exact this.1
 subst z;have hi:i<xs.length:=(za5.1 B).1;have w:xs[i]=y:=(za5.1 B).2;have A:=l.2 i hi;rw[w]at A;have C:=((xw (γ:=γ) A).drop o).take n;refine⟨_,⟨_,_,rfl,λj v b=>?_⟩,by rw[<-C.length];exact H,C⟩;rw[zbk]at b;split at b;rw[zb6,zbk]at b;split at b;rw[zb6,<-k,zbk]at b;split at b;have L:h[g]?=Td (.cells x e (0,0)):=q;unfold zd;grind;cases b;cases b;cases b
def mB:Option Nat->List AA->Option AG
 |none,[x]=>Td (.a x)
 |some _,l=>Td (.agg l)
 |_,_=>Te
def kX(P:Program)(t:TypeId):Option (Option Nat):=match kv P t with
 |some (.one _)=>Td Te
 |some (.agg l)=>Td (Td l.length)
 |none=>Te
def lQ:Option Nat->Nat
 |none=>1
 |some n=>n
theorem wd{s:Option Nat}(c:kX P t=Td s)(n:Behind h u us)(k:us.length=lQ s){r:List AA}(b:All2 (DenA γ) r us){ag:AG}(i:mB s r=Td ag):
  ∃v,DenG γ ag v/\QExec P (zee t u) h v:=by
 obtain⟨p,e,m,h1⟩:=n.ld;subst e;have f:∀v,QExec P (loadVar t p) h v->QExec P (zee t (.pointer (Td p))) h v:=λv o B d=>by unfold zee zeq;simp only[Sem.run_bind,Sem.run_pure,Result.andThen_ok];exact o B d
 unfold kX at c;split at c;rename_i a j;simp only[zad]at c;subst c
 match us,k,r,b with
 |[v],_,[x],b=>simp only[mB,zad]at i;subst i;exact⟨v,b.1,f v (re j (h1 v rfl))⟩
 |[v],_,[],b=>exact b.elim
 |[v],_,_::_::_,b=>exact b.2.elim
 rename_i l j;simp only[zad]at c;subst c;simp only[mB,zad]at i;subst i;exact⟨.agg us.toArray,⟨us,rfl,b⟩,f _ (rO j k m)⟩;cases c
def oP(P:Program)(cs:CS)(t:TypeId)(b:AA)(g:Option Bool)(K:AV->Prop):Prop:=
 match kX P t with
 |some s=>match b with
  |.oelt c z i o=>match Jn cs c with
   |some (.row e ty xs)=>bif Nat.beq z (sz ty)then(∃y:El ty,req g (xs[i]?=Td y)/\match takeN (Jm ty y) o (lQ s)with
    |some r=>match mB s r with
     |some ag=>K (.g ag)
     |none=>False
    |none=>False)else False
   |_=>False
  |b=>match tH cs (lQ s) b with
   |some r=>match mB s r with
    |some ag=>K (.g ag)
    |none=>False
   |none=>False
 |none=>False
theorem FS{q:AA}{g:Option Bool}{K:AV->Prop}(H:oP P cs t q g K):
  ∃av,K av/\(im g->∀γ h u,Inv h0 W M0 cs γ h->DenA γ q u->∃v,DenV γ av v/\QExec P (zee t u) h v):=by
 unfold oP at H;split at H;rename_i s m;split at H;rename_i c z i o;split at H;rename_i e ty xs x;cases hz:Nat.beq z (sz ty)with
 |false=>simp_all
 |true=>rw[hz]at H;obtain⟨y,w,H⟩:=H;split at H;rename_i r k;split at H;rename_i ag f;refine⟨_,H,λn γ h u I b=>?_⟩;rw[za4 hz]at b;obtain⟨us,h1,j,l⟩:=SY I x (w.out n) k b;exact wd m h1 j l f;exact H.elim;exact H.elim
 exact H.elim;split at H;rename_i r k;split at H;rename_i ag f;refine⟨_,H,λn γ h u I b=>?_⟩;obtain⟨us,h1,j,l⟩:=YW I k b;exact wd m h1 j l f;exact H.elim;exact H.elim;exact H.elim
def qC(P:Program)(t:TypeId)(f:Nat):Option (Nat×TypeId):=match P.underlying t with
 |some (.struct fs)=>match fs[f]? with
  |some b=>match P.info? b.type with
   |some i=>bif Nat.beq i.size 0 then Te else Td (b.offset,b.type)
   |none=>Te
  |none=>Te
 |_=>Te
def tD(k:Nat):AA->Option AA
 |.box c o=>Td (.box c (o+k))
 |.elt t x o=>Td (.elt t x (o+k))
 |.oelt c z i o=>Td (.oelt c z i (o+k))
 |_=>Te
theorem TM(c:qC P t f=Td (k,ty))(b o:Nat):QExec P (Instr.fieldAt t (.pointer (Td ⟨b,o,Te⟩)) f) h (.pointer (Td ⟨b,o+k,Te⟩)):=by
 unfold qC at c;split at c;rename_i u n;split at c;rename_i q l;split at c;rename_i i hi;cases hz:Nat.beq i.size 0 with
 |true=>simp_all
 |false=>
  rw[hz]at c;simp only[zL,zad,zci]at c;obtain⟨rfl,rfl⟩:=c;intro B d;have m:=QExec.underlying (h:=h) n B d;have r:=QExec.sizeOf (h:=h) hi B d;have j:¬(j4 P q.type=0):=by unfold j4;rw[hi];intro e;simp only at e;rw[e]at hz;simp at hz
  unfold Instr.fieldAt zeq fieldPlace;simp only[Sem.run_bind,m,Result.andThen_ok,l,Sem.run_pure,r,j,if_false,zf]
 cases c;cases c;cases c
theorem HL{j c:AA}(h:tD k j=Td c)(i:DenA γ j u):∃b o,u=.pointer (Td ⟨b,o,Te⟩)/\DenA γ c (.pointer (Td ⟨b,o+k,Te⟩)):=by unfold tD at h;split at h;simp only[zad]at h;subst h;exact⟨_,_,i,rfl⟩;simp only[zad]at h;subst h;obtain⟨b,f,cs,e,h1,m⟩:=i;exact⟨_,_,e,b,f,cs,by grind,h1,m⟩;simp only[zad]at h;subst h;obtain⟨g,l,n⟩:=i;exact⟨_,_,n,g,l,by grind⟩;cases h
def sP(P:Program)(ty:TypeId)(l:List AA)(k:Nat):Option AG:=match kX P ty with
 |some s=>match takeN l k (lQ s)with
  |some r=>mB s r
  |none=>Te
 |none=>Te
theorem DC{s:Option Nat}(c:kX P t=Td s)(h:zc):QExec P (isAgg t) h s.isSome:=by
 unfold kX at c;split at c;rename_i a b;simp only[zad]at c;subst c;unfold kv at b;split at b;grind;grind;rename_i d i o f;intro B e;have j:=QExec.underlying (h:=h) f B e;unfold isAgg;simp_all;cases b;rename_i l b;simp only[zad]at c;subst c;unfold kv at b;have f:(∃k,P.underlying t=Td (.struct k))\/∃n e,P.underlying t=Td (.array n e):=by split at b;simp_all;simp_all;simp at b;cases b
 intro B e;rcases f with⟨k,f⟩|⟨m,q,f⟩;have j:=QExec.underlying (h:=h) f B e;unfold isAgg;simp_all;have j:=QExec.underlying (h:=h) f B e;unfold isAgg;simp_all;cases c
theorem Pd(b:kX P t=Td (Td n)):j4 P t=n/\∃i,P.info? t=Td i:=by
 unfold kX at b;split at b;cases b
 ·rename_i l c;simp only[zad]at b;subst b;unfold kv at c;have key:∀x:Option (List Atom),(match x with
    |some l=>bif Nat.beq l.length (j4 P t)then Td (VT.agg l)else Te
    |none=>Te)=Td (.agg l)->j4 P t=l.length:=by
   intro x e;split at e;rename_i f;cases hb:Nat.beq f.length (j4 P t)with
   |false=>simp_all
   |true=>simp_all
   cases e
  split at c;exact⟨key _ c,info_of_underlying (by assumption)⟩;exact⟨key _ c,info_of_underlying (by assumption)⟩;simp at c;cases c
 cases b
theorem BH{l:List AA}{ag:AG}(b:sP P ty l k=Td ag)(m:All2 (DenA γ) l us)(h:zc):∃v,DenG γ ag v/\QExec P (part ty us.toArray k) h v:=by
 unfold sP at b;split at b;rename_i s j;split at b;rename_i r t;obtain⟨rfl,u⟩:=vo t;have c:=(m.drop k).take (lQ s);have e:((us.drop k).take (lQ s)).length=lQ s:=by rw[<-c.length];exact u
 cases s with
 |none=>
  generalize f:(us.drop k).take (lQ Te)=q at *
  match q,e,f with
  |[v],_,f=>
   generalize o:(l.drop k).take (lQ Te)=r' at *
   match r',c with
   |[x],c=>
    simp only[mB,zad]at b;subst b;refine⟨v,c.1,λB d=>?_⟩;have w:=DC j h B d;have y:us[k]?=Td v:=by
     have:((us.drop k).take 1)[0]?=Td v:=by rw[show(us.drop k).take 1=[v]from f];rfl
     rw[zbk,zA (by omega),zb6]at this;simpa using this
    unfold part;simp_all
   |[],c=>exact c.elim
   |_::_::_,c=>exact c.2.elim
 |some n=>simp only[mB,zad]at b;subst b;refine⟨.agg ((us.drop k).take n).toArray,⟨_,rfl,c⟩,λB d=>?_⟩;have w:=DC j h B d;obtain⟨hz,i,hi⟩:=Pd j;have z:=QExec.sizeOf (h:=h) hi B d;unfold part;simp_all
 cases b;cases b
end
section
variable {cs:CS} {γ:Gh} {h:zc} {u:Value} {t el:TypeId} {a:Option Addr} {n:Int} {av:AV} {P:Program} {g:Option Bool} {σ:Operand -> Value} {b:Bool} {o:Oper}
variable {h0 : zc} {W : Nat -> Prop} {M0 : Fr}
def rowOf(cs:CS):AA->Option ((t:Ty)×List (El t))
 |.d (.row t) xs=>Td ⟨t,xs⟩
 |.dc t xs=>Td ⟨t,xs⟩
 |.own c=>match Jn cs c with
  |some (.fz t xs)=>Td ⟨t,xs⟩
  |_=>Te
 |_=>Te
theorem rV(I:Inv h0 W M0 cs γ h){e:AA}{r:(t:Ty)×List (El t)}(b:rowOf cs e=Td r)(c:DenA γ e u):Rd γ.M (.row r.1) r.2 [u]:=by unfold rowOf at b;split at b;simp only[zad]at b;subst b;exact c;simp only[zad]at b;subst b;obtain⟨s,_,_,h⟩:=c;exact h;split at b;rename_i t xs f;simp only[zad]at b;subst b;rw[show u=_ from c];exact I.den _ (qi f);cases b;cases b
theorem Rd.sub{M:Fr}{t:Ty}{xs:List (El t)}{n c:Nat}(H:Rd M (.row t) xs [.slice a n c]){l r m:Nat}(h1:l<=r)(x:r<=xs.length)(C:r<=m)(A:m<=c):
  Rd M (.row t) ((xs.take r).drop l) [.slice (x9 a (sz t) l m) (r-l) (m-l)]:=by
 obtain⟨v,e,z,y,j,D,H⟩:=H;cases e;simp only[zbo]at j;obtain⟨rfl,rfl,rfl⟩:=j;have f:((xs.take r).drop l).length=r-l:=by simp;omega
 refine⟨_,rfl,x9 a (sz t) l m,m-l,by rw[f],⟨by omega,by omega⟩,?_⟩;by_cases B:r=l;simp_all;rcases H with w|⟨b,o,cs,u,k,hi⟩;simp_all;right;have h:¬(m=l):=by omega
 refine⟨b,o+l*sz t,cs,?_,k,λi q=>?_⟩;unfold x9;rw[zv h,u];simp[zf];grind
def tQ:AV->Option Int
 |.g (.a (.v (.int _ n)))=>Td n
 |_=>Te
theorem Hc(h:tQ av=Td n)(b:DenV γ av u):∃k,u=.int k n:=by unfold tQ at h;split at h;simp only[zad]at h;subst h;exact⟨_,b⟩;cases h
def pf(P:Program)(t:TypeId):Option TypeId:=match P.underlying t with
 |some (.slice el)=>bif yb P el then Td el else Te
 |_=>Te
theorem ul(h:pf P t=Td el):P.underlying t=Td (.slice el)/\yb P el=Ta:=by unfold pf at h;grind
def Aa(P:Program)(cs:CS)(t:TypeId)(b:AA)(n:Int)(g:Option Bool)(K:AV->Prop):Prop:=
 match pf P t with
 |some el=>match rowOf cs b with
  |some r=>bif Nat.beq (j4 P el) (sz r.1)then ∃y:El r.1,req g (0<=n/\r.2[n.toNat]?=Td y)/\K (.g (.a (.elt r.1 y 0)))else False
  |none=>match b with
   |.own c=>match Jn cs c with
    |some (.row e ty xs)=>bif Nat.beq (j4 P el) (sz ty)then req g (0<=n/\n.toNat<xs.length)/\K (.g (.a (.oelt c (sz ty) n.toNat 0)))else False
    |_=>False
   |_=>False
 |none=>False
theorem Ca(f:P.underlying t=Td (.slice el))(l:yb P el=Ta){a:Addr}{len cap:Nat}{k:IntKind}(h1:0<=n)(c:n<(len:Int))(h:zc):
  QExec P (zfd t (.slice (Td a) len cap) (.int k n)) h (.pointer (Td (a.add (n.toNat*j4 P el)))):=by
 have:=Z7 (P:=P) (t:=t) (x:=.slice (Td a) len cap) (i:=.int k n) (g:=Te) (K:=λv=>v=.pointer (Td (a.add (n.toNat*j4 P el)))) (λj e=>by simp_all[wb]) (by unfold qK;rw[f];exact⟨a,⟨rfl,h1,c⟩,rfl⟩);obtain⟨v,rfl,b⟩:=this;exact b trivial h
theorem Vi{G:AA}{K:AV->Prop}(H:Aa P cs t G n g K):
  ∃av,K av/\(im g->∀γ h u k,Inv h0 W M0 cs γ h->DenA γ G u->∃v,DenV γ av v/\QExec P (zfd t u (.int k n)) h v):=by
 unfold Aa at H;split at H;rename_i el z;obtain⟨F,E⟩:=ul z;split at H;rename_i r T;cases hz:Nat.beq (j4 P el) (sz r.1)with
 |false=>simp_all
 |true=>rw[hz]at H;obtain⟨y,B,A⟩:=H;refine⟨_,A,λw γ h u k I q=>?_⟩;obtain⟨i,l⟩:=B.out w;have j:=za4 hz;obtain⟨v,e,a,c,O,hn,H⟩:=rV I T q;cases e;subst O;have hi:n.toNat<r.2.length:=(za5.1 l).1;have U:r.2[n.toNat]=y:=(za5.1 l).2;rcases H with Z|⟨b,o,L,V,M,x⟩;simp_all;subst V;refine⟨_,?_,Ca F E i (by omega) h⟩;have:=x n.toNat hi;rw[U]at this;rw[zf,j];exact⟨b,o+n.toNat*sz r.1,L,rfl,M,this⟩
 split at H;rename_i c _;split at H;rename_i e ty xs Y;cases hz:Nat.beq (j4 P el) (sz ty)with
 |false=>simp_all
 |true=>rw[hz]at H;obtain⟨B,A⟩:=H;refine⟨_,A,λw γ h u k I q=>?_⟩;obtain⟨i,hi⟩:=B.out w;have j:=za4 hz;obtain⟨cells,f,J,_,S⟩:=I.den _ (qi Y);simp only at S f;rcases f.2 with⟨m,h1⟩|⟨g',cap,Q,m,_,N,_,_,_,C⟩;omega;simp only[zbo]at m;have D:u=aK (γ.σ c):=q;subst D;unfold aK;rw[m.1];refine⟨_,?_,Ca F E i (by omega) h⟩;rw[zf,j,zas];exact⟨g',m.1,rfl⟩
 exact H.elim;exact H.elim;exact H.elim
def r7(ρ:Operand->Option AV)(d:Int):Option Operand->Option Int
 |none=>Td d
 |some x=>match ρ x with
  |some av=>tQ av
  |none=>Te
theorem Jq{ρ:Operand->Option AV}(c:∀x av,ρ x=Td av->DenV γ av (σ x)){d n:Int}{x:Option Operand}(h:r7 ρ d x=Td n):y0 (x.map σ) d=Td n:=by unfold r7 at h;split at h;exact h;rename_i y;split at h;rename_i av b;obtain⟨k,e⟩:=Hc h (c _ _ b);simp[y0,e];cases h
def Bh(P:Program)(cs:CS)(ρ:Operand->Option AV)(t:TypeId)(b:AA)(lo hi mx:Option Operand)(g:Option Bool)(K:AV->Prop):Prop:=
 match pf P t with
 |some el=>match rowOf cs b with
  |some r=>bif Nat.beq (j4 P el) (sz r.1)then(match r7 ρ 0 lo,r7 ρ (r.2.length:Int) hi with
   |some l,some h=>match mx with
    |none=>req g (0<=l/\l<=h/\h<=(r.2.length:Int))/\K (.g (.a (.d (.row r.1) ((r.2.take h.toNat).drop l.toNat))))
    |some m=>match r7 ρ 0 (Td m),hi with
     |some m,some _=>req g (0<=l/\l<=h/\h<=(r.2.length:Int)/\m=h)/\K (.g (.a (.dc r.1 ((r.2.take h.toNat).drop l.toNat))))
     |_,_=>False
   |_,_=>False)else False
  |none=>False
 |none=>False
theorem EG(f:P.underlying t=Td (.slice el))(u:yb P el=Ta){len cap:Nat}{lo hi mx:Option Value}{l r m:Int}(b:y0 lo 0=Td l)(e:y0 hi (len:Int)=Td r)(j:y0 mx (cap:Int)=Td m) (h0:mx=Te\/∃v,hi=Td v) (h1:0<=l) (c:l<=r) (i:r<=m) (o:m<=(cap:Int)) (h:zc):
  QExec P (ze1 t (.slice a len cap) lo hi mx) h (.slice (x9 a (j4 P el) l.toNat m.toNat) (r.toNat-l.toNat) (m.toNat-l.toNat)):=by
 have:=Yx (P:=P) (t:=t) (x:=.slice a len cap) (lo:=lo) (hi:=hi) (mx:=mx) (g:=Te) (K:=λv=>v=.slice (x9 a (j4 P el) l.toNat m.toNat) (r.toNat-l.toNat) (m.toNat-l.toNat)) (λq n=>by simp_all[wb]) (by unfold s4;rw[f];simp only[b,e,j];exact⟨h0,⟨h1,c,i,o⟩,trivial⟩);obtain⟨v,rfl,k⟩:=this;exact k trivial h
theorem Oc{ρ:Operand->Option AV}{J:AA}{lo hi mx:Option Operand}{K:AV->Prop}(H:Bh P cs ρ t J lo hi mx g K):
  ∃av,K av/\(im g->∀γ h u σ,Inv h0 W M0 cs γ h->(∀x av,ρ x=Td av->DenV γ av (σ x))->DenA γ J u->∃v,DenV γ av v/\QExec P (ze1 t u (lo.map σ) (hi.map σ) (mx.map σ)) h v):=by
 unfold Bh at H;split at H;rename_i el y;obtain⟨G,D⟩:=ul y;split at H;rename_i r F;cases hz:Nat.beq (j4 P el) (sz r.1)with
 |false=>simp_all
 |true=>
  rw[hz]at H;have n:=za4 hz;simp only[zK]at H;split at H;rename_i l Q E k;split at H;obtain⟨C,z⟩:=H;refine⟨_,z,λw γ h u σ I j o=>?_⟩;obtain⟨h1,q,M⟩:=C.out w;have f:=rV I F o;have b:=f;obtain⟨v,e,a,c,A,N,_⟩:=b;cases e;subst A;refine⟨_,?_,EG G D (Jq j E) (Jq j k) (m:=(c:Int)) rfl (.inl rfl) h1 q (by omega) (Int.le_refl _) h⟩;rw[n];exact f.sub (by omega) (by omega) (by omega) (by omega);rename_i m;split at H;rename_i m' S O;obtain⟨C,z⟩:=H;refine⟨_,z,λw γ h u σ I j o=>?_⟩;obtain⟨h1,q,M,L⟩:=C.out w;subst L;have f:=rV I F o;have b:=f;obtain⟨v,e,a,c,A,N,_⟩:=b;cases e;subst A;have i:=Jq j O;have B:y0 ((Td m).map σ) (c:Int)=Td m':=by unfold y0 at i ⊢;simp only[zd2]at i ⊢;split at i <;> simp_all
  refine⟨_,?_,EG G D (Jq j E) (Jq j k) B (.inr ⟨_,rfl⟩) h1 q (Int.le_refl _) (by omega) h⟩;rw[n];refine⟨⟨_,_,_⟩,rfl,rfl,f.sub (by omega) (by omega) (by omega) (by omega)⟩;exact H.elim;exact H.elim
 exact H.elim;exact H.elim
def A3(cs:CS):AA->Option Nat
 |.d (.row _) xs=>Td xs.length
 |.dc _ xs=>Td xs.length
 |.own c=>match Jn cs c with
  |some (.fz _ xs)=>Td xs.length
  |some (.row _ _ xs)=>Td xs.length
  |_=>Te
 |_=>Te
theorem RD(I:Inv h0 W M0 cs γ h){k:AA}{n:Nat}(b:A3 cs k=Td n)(f:DenA γ k u):∃a c,u=.slice a n c:=by
 have key:∀{t:Ty} {xs:List (El t)},Rd γ.M (.row t) xs [u]->∃a c,u=.slice a xs.length c:=by rintro t xs ⟨v,e,a,c,l,_⟩;cases e;exact⟨a,c,l⟩
 unfold A3 at b;split at b;simp only[zad]at b;subst b;exact key f;simp only[zad]at b;subst b;obtain⟨s,_,_,f⟩:=f;exact key f;split at b;rename_i c t xs i;simp only[zad]at b;subst b;rw[show u=_ from f]at key ⊢;exact key (I.den _ (qi i));rename_i c e t xs i;simp only[zad]at b;subst b;obtain⟨cells,_,_,_,j⟩:=I.den _ (qi i);simp only at j;rw[show u=_ from f];exact⟨_,_,by unfold aK;rw[j]⟩;cases b;cases b
def Eo:AA->List AA
 |.v x=>x.cells.toList.map .v
 |x=>[x]
def rh:AV->Option (List AA)
 |.g (.a x)=>Td (Eo x)
 |.g (.agg l)=>Td l
 |_=>Te
theorem KH(h:u.oneCell'=Ta):u.cells.toList=[u]:=by cases u <;> first|rfl|simp[Value.oneCell']at h
theorem Jr(γ:Gh):∀l:List Value,All2 (DenA γ) (l.map .v) l
 |[]=>trivial
 |_::l=>⟨rfl,Jr γ l⟩
theorem Sk{x:AA}(j:DenA γ x u):All2 (DenA γ) (Eo x) u.cells.toList:=by
 have key:u.oneCell'=Ta->All2 (DenA γ) [x] u.cells.toList:=λh=>by rw[KH h];exact⟨j,trivial⟩
 cases x with
 |v y=>rw[show u=y from j];exact Jr γ _
 |d t y=>exact key (Rd.one (show Rd γ.M t y [u]from j) u (by simp))
 |box c o=>exact key (by rw[show u=_ from j];rfl)
 |own c=>exact key (by rw[show u=_ from j];rfl)
 |oelt c z i o=>obtain⟨g,_,e⟩:=j;exact key (by rw[e];rfl)
 |elt t y o=>obtain⟨b,f,cs,e,_⟩:=j;exact key (by rw[e];rfl)
 |dc t xs=>obtain⟨s,e,_⟩:=j;exact key (by rw[e];rfl)
theorem xR{l:List AA}(h:rh av=Td l)(b:DenV γ av u):All2 (DenA γ) l u.cells.toList:=by unfold rh at h;split at h;simp only[zad]at h;subst h;exact Sk b;simp only[zad]at h;subst h;obtain⟨us,rfl,c⟩:=b;simpa[Value.cells]using c;cases h
def po(b:Nat->Option (Nat×Nat))(cells:List AA):List (Nat×AV)->Option (List AA)
 |[]=>Td cells
 |(i,av)::rest=>match b i,rh av with
  |some (off,size),some l=>bif Nat.beq l.length size then(bif Nat.ble (off+l.length) cells.length then po b (cells.take off++l++cells.drop (off+l.length)) rest else Te)else Te
  |_,_=>Te
theorem RY(vs:List Value):∀(k off:Nat) (cs:Array Value),off+k+vs.length<=cs.size ->
  ((vs.zipIdx k).foldl (λcs (x:Value×Nat)=>cs.setIfInBounds (off+x.2) x.1) cs).toList=cs.toList.take (off+k)++vs++cs.toList.drop (off+k+vs.length):=by
 induction vs with
 |nil=>simp
 |cons v vs b=>
  intro k off cs h;simp only[zaw]at h;rw[List.zipIdx_cons,List.foldl_cons];refine(b (k+1) off (cs.setIfInBounds (off+k) v) (by grind)).trans ?_;simp only[Array.toList_setIfInBounds,zaw];have hi:off+k<cs.toList.length:=by simp;omega
  rw[<-Nat.add_assoc,List.drop_set_of_lt (by omega)];have c:(cs.toList.set (off+k) v).take (off+k+1)=cs.toList.take (off+k)++[v]:=by
   rw[List.take_set,zal hi,List.set_append_right _ _ (by simp;omega)];have:off+k-(cs.toList.take (off+k)).length=0:=by simp;omega
   rw[this];rfl
  grind
theorem vH{b:Nat->Option (Nat×Nat)}{γ:Gh}:∀{parts:List (Nat×AV)} {cells r:List AA} {us:List Value} {ps:List (Nat×Value)},po b cells parts=Td r->All2 (DenA γ) cells us->All2 (λ(x:Nat×AV) (y:Nat×Value)=>x.1=y.1/\DenV γ x.2 y.2) parts ps ->
  ∃ws:List Value,Instr.fill b us.toArray ps=Td ws.toArray/\All2 (DenA γ) r ws
 |[],cells,r,us,[],h,hc,_=>by simp only[po,zad]at h;subst h;exact⟨us,rfl,hc⟩
 |[],_,_,_,_::_,_,_,c=>c.elim
 |_::_,_,_,_,[],_,_,c=>c.elim
 |(i,av)::rest,cells,r,us,(j,v)::ps,h,hc,c=>by
  obtain⟨⟨e,t⟩,c⟩:=c;simp only at e t;subst e;simp only[po]at h;split at h;rename_i off size l o w;cases hb:Nat.beq l.length size with
  |false=>simp_all
  |true=>
   rw[hb]at h;simp only[zK]at h;cases hb2:Nat.ble (off+l.length) cells.length with
   |false=>simp_all
   |true=>
    rw[hb2]at h;simp only[zK]at h;have k:=xR w t;have n:=k.length;have A:=hc.length;have h1:=za4 hb;have B:=zc0 hb2;have q:v.cells.size=size:=by rw[<-h1,n];simp
    have f:All2 (DenA γ) (cells.take off++l++cells.drop (off+l.length)) (us.take off++v.cells.toList++us.drop (off+l.length)):=((hc.take off).append k).append (hc.drop _);obtain⟨ws,z,u⟩:=vH h f c;refine⟨ws,?_,u⟩;simp only[Instr.fill,o];have m:¬((decide (v.cells.size≠size)||decide (off+v.cells.size>us.toArray.size))=Ta):=by rw[q];simp;omega
    rw[zv m];rw[<-z];congr 1;apply zfb;have:=RY v.cells.toList 0 off us.toArray (by simp;omega);grind [Array.toList_zipIdx,trans]
  cases h
def sO(P:Program):List Field->Bool
 |[]=>Ta
 |f::l=>bif yb P f.type then sO P l else Tc
theorem JF{P:Program}{h:zc}:∀{l:List Field},sO P l=Ta->QExec P (l.mapM λf=>do pure (f.offset,<-Go.sizeOf f.type)) h (l.map λf=>(f.offset,j4 P f.type))
 |[],_=>λ_ _=>rfl
 |f::l,H=>by
  simp only[sO]at H;cases ho:yb P f.type with
  |false=>simp_all
  |true=>rw[ho]at H;obtain⟨i,hi⟩:=wb ho;rw[ze6];exact QExec.bind (QExec.bind (QExec.sizeOf hi) (QExec.pure _)) (QExec.bind (JF H) (QExec.pure _))
def placeOf(P:Program)(b:Array Field)(i:Nat):Option (Nat×Nat):=match b[i]? with
 |some f=>Td (f.offset,j4 P f.type)
 |none=>Te
def nZ(ρ:Operand->Option AV):List (Nat×Operand)->Option (List (Nat×AV))
 |[]=>Td []
 |(i,x)::l=>match ρ x,nZ ρ l with
  |some av,some r=>Td ((i,av)::r)
  |_,_=>Te
theorem wA{γ:Gh}{ρ:Operand->Option AV}{σ:Operand->Value}(b:∀x av,ρ x=Td av->DenV γ av (σ x)):∀{l:List (Nat×Operand)} {r:List (Nat×AV)},nZ ρ l=Td r ->
  All2 (λ(x:Nat×AV) (y:Nat×Value)=>x.1=y.1/\DenV γ x.2 y.2) r (l.map λx=>(x.1,σ x.2))
 |[],r,h=>by simp only[nZ,zad]at h;subst h;trivial
 |(i,x)::l,r,h=>by simp only[nZ]at h;split at h;rename_i av e h1 c;simp only[zad]at h;subst h;exact⟨⟨rfl,b _ _ h1⟩,wA b c⟩;cases h
def zeroOf(P:Program)(t:TypeId):Option Value:=match P.info? t with
 |some i=>i.zero
 |none=>Te
theorem AH{z:Value}(h:zeroOf P t=Td z)(b:zc):QExec P (zeroValue t) b z:=by unfold zeroOf at h;split at h;rename_i i hi;intro B d;simp[zeroValue,typeInfo,program,hi,Sem.run,h];cases h
def A8(P:Program)(t:TypeId)(parts:List (Nat×AV)):Option (List AA):=match P.underlying t,zeroOf P t with
 |some (.struct fs),some z=>bif sO P fs.toList then po (placeOf P fs) (z.cells.toList.map .v) parts else Te
 |_,_=>Te
theorem OH{parts:List (Nat×AV)}{r:List AA}(h:A8 P t parts=Td r){ps:List (Nat×Value)}(k:All2 (λ(x:Nat×AV) (y:Nat×Value)=>x.1=y.1/\DenV γ x.2 y.2) parts ps)(b:zc):
  ∃ws:List Value,QExec P (Instr.build t ps.toArray) b (.agg ws.toArray)/\All2 (DenA γ) r ws:=by
 unfold A8 at h;split at h;rename_i c z l hz;cases hof:sO P c.toList with
 |false=>simp_all
 |true=>
  rw[hof]at h;simp only[zK]at h;obtain⟨ws,o,n⟩:=vH h (Jr γ _) k;refine⟨ws,?_,n⟩;intro B d;have m:=QExec.underlying (h:=b) l B d;have e:=AH hz b B d;have j:=JF (P:=P) (h:=b) hof B d;unfold Instr.build;rw[Sem.run_bind,e];simp only[Result.andThen_ok];rw[Sem.run_bind,m];simp only[Result.andThen_ok];rw[Sem.run_bind,Array.mapM_eq_mapM_toList,Sem.run_map,j];simp only[Result.andThen_ok];have q:(λi=>((c.toList.map λf=>(f.offset,j4 P f.type)).toArray)[i]?)=placeOf P c:=by funext i;unfold placeOf;cases hi:c[i]? <;> simp[hi]
  simp_all
 cases h
def Aw(P:Program)(t:TypeId)(a b:Value):Option Bool:=match P.underlying t,a,b with
 |some (.int _),.int k x,.int k' y=>if k=k' then Td (x==y)else Te
 |some .string,.string x,.string y=>Td (x.toList==y.toList)
 |some .bool,.bool x,.bool y=>Td (x==y)
 |_,_,_=>Te
def nN(P:Program)(xs ys:List AA):List Field->Option Bool
 |[]=>Td Ta
 | f :: fs => if f.name = "_" then none else match sP P f.type xs f.offset, sP P f.type ys f.offset with
  |some (.a (.v a)),Td (.a (.v b))=>match Aw P f.type a b,nN P xs ys fs with
   |some p,some q=>Td (p&&q)
   |_,_=>Te
  |_,_=>Te
def BI(P:Program)(o:Oper)(ρ:Operand->Option AV):Option Bool:=match o.op with
 |.binOp .eql t x y _=>match ρ x,ρ y with
  |some (.g (.agg xs)),Td (.g (.agg ys))=>match P.underlying t with
   |some (.struct _)=>bif P.stoodInHeld t then Te else bif P.eqGuardType P.depth t then Te else nN P xs ys (P.fieldsOf t).toList
   |_=>Te
  |_,_=>Te
 |.binOp .neq t x y _=>match ρ x,ρ y with
  |some (.g (.agg xs)),Td (.g (.agg ys))=>match P.underlying t with
   |some (.struct _)=>bif P.stoodInHeld t then Te else bif P.eqGuardType P.depth t then Te else(match nN P xs ys (P.fieldsOf t).toList with
    |some b=>Td (!b)
    |none=>Te)
   |_=>Te
  |_,_=>Te
 |_=>Te
theorem Le{a b:Value}{r:Bool}(h:Aw P t a b=Td r)(d:Nat)(w:World):(Op.equalIn (d+1) t a b).run P w=.ok r w:=by unfold Aw at h;grind [zad,run_equalIn_int,run_equalIn_string,run_equalIn_bool']
theorem Gg{P:Program}{γ:Gh}{xs ys:List AA}{us vs:List Value}(n:All2 (DenA γ) xs us)(m:All2 (DenA γ) ys vs)(d:Nat)(h:zc):∀(c:List Field) (b:Bool),nN P xs ys c=Td b->QExec P (Op.eqFields (d+1) us.toArray vs.toArray c) h b
 |[],b,hb=>by simp only[nN,zad]at hb;subst hb;exact QExec.pure _
 |f::c,b,hb=>by
  unfold nN at hb;split at hb;cases hb;rename_i y;split at hb;rename_i a b' k i;split at hb;rename_i p q w r;simp only[zad]at hb;subst hb;obtain⟨t,A,o⟩:=BH k n h;obtain⟨x,u,z⟩:=BH i m h;have l:t=a:=A;have e:x=b':=u;subst l;subst e;intro B j;unfold Op.eqFields;rw[zA (by exact y)];rw[Sem.run_bind,o B j];simp only[Result.andThen_ok];rw[Sem.run_bind,z B j];simp only[Result.andThen_ok];rw[Sem.run_bind,Le w d];simp only[Result.andThen_ok];cases p with
  |false=>rfl
  |true=>simpa using Gg n m d h c q r B j
  cases hb;cases hb
theorem LH{ρ:Operand->Option AV}(H:BI P o ρ=Td b)(k:∀x av,ρ x=Td av->DenV γ av (σ x))(h:zc):QExec P (execOp σ o) h (.value (.bool b)):=by
 have key:∀{t:TypeId} {xs ys:List AA} {us vs:List Value} {j:Array Field} {b:Bool},P.underlying t=Td (.struct j)->P.stoodInHeld t=Tc->All2 (DenA γ) xs us->All2 (DenA γ) ys vs->nN P xs ys (P.fieldsOf t).toList=Td b->QExec P (Op.equalIn 10000 t (.agg us.toArray) (.agg vs.toArray)) h b:=by
  intro t xs ys us vs j b e c i f w B d;have u:P.underlying t=Td (.struct (P.fieldsOf t)):=by rw[e];simp[Program.fieldsOf,e]
  rw[run_equalIn_struct _ 9999 t us.toArray vs.toArray u c];exact Gg i f 9998 h _ b w B d
 unfold BI at H;split at H;rename_i t x y z l;split at H;rename_i xs ys i f;split at H;rename_i j e;cases c:P.stoodInHeld t with
 |true=>simp_all
 |false=>
  cases hg:P.eqGuardType P.depth t with
  |true=>simp_all
  |false=>rw[c,hg]at H;obtain⟨us,q,d1⟩:=k _ _ i;obtain⟨vs,r,d2⟩:=k _ _ f;have m:=key e c d1 d2 H;simp only[execOp,l,q,r];refine QExec.val λB d=>?_;rw[Sem.run_bind,run_eqGuard_agg _ _ _ _ _ _ _ hg];simp only[Result.andThen_ok];rw[run_eql_struct,m B d];rfl
 cases H;cases H;rename_i t x y z l;split at H;rename_i xs ys i f;split at H;rename_i j e;cases c:P.stoodInHeld t with
 |true=>simp_all
 |false=>
  cases hg:P.eqGuardType P.depth t with
  |true=>simp_all
  |false=>rw[c,hg]at H;simp only[zL]at H;split at H;rename_i b' n;simp only[zad]at H;subst H;obtain⟨us,q,d1⟩:=k _ _ i;obtain⟨vs,r,d2⟩:=k _ _ f;have m:=key e c d1 d2 n;simp only[execOp,l,q,r];refine QExec.val λB d=>?_;rw[Sem.run_bind,run_eqGuard_agg _ _ _ _ _ _ _ hg];simp only[Result.andThen_ok];rw[run_neq_struct,m B d];rfl;cases H
 cases H;cases H;cases H
def Ag(P:Program)(o:Oper)(ρ:Operand->Option AV)(g:Option Bool)(cs:CS)(K:AV->Prop):Prop:=
 bif (bif mT o then(bif mL P o then(bif J9 o.op then oQ ρ o.op.operands.toList else Tc)else Tc)else Tc)then X4 P o (uG ρ) g #[] (λv=>K (pC v))else
 match o.op with
 |.move x=>match ρ x with
  |some av=>K av
  |none=>False
 |.assign x=>match ρ x with
  |some av=>K av
  |none=>False
 |.extract x i=>match ρ x with
  |some (.tup l)=>match l[i]? with
   |some ag=>K (.g ag)
   |none=>False
  |some (.nx b p c)=>match i with
   |0=>K (.g (.a (.v (.bool b))))
   |1=>req g (b=Ta)/\K (.g (.a (.v (.int .i64 p))))
   |2=>req g (b=Ta)/\K (.g (.a (.v (.int .i32 c))))
   |_=>False
  |_=>False
 |.field t x f=>match ρ x,qC P t f with
  |some (.g (.agg l)),Td (k,ty)=>match sP P ty l k with
   |some ag=>K (.g ag)
   |none=>False
  |_,_=>False
 |.fieldAddr t x f=>match ρ x,qC P t f with
  |some (.g (.a aa)),Td (k,_)=>match tD k aa with
   |some e=>K (.g (.a e))
   |none=>False
  |_,_=>False
 |.load t x=>match ρ x with
  |some (.g (.a aa))=>oP P cs t aa g K
  |_=>False
 |.indexAddr t x i=>match ρ x,ρ i with
  |some (.g (.a aa)),some iv=>match tQ iv with
   |some n=>Aa P cs t aa n g K
   |none=>False
  |_,_=>False
 |.slice t x lo hi mx=>match ρ x with
  |some (.g (.a aa))=>Bh P cs ρ t aa lo hi mx g K
  |_=>False
 |.nilCheck x=>match ρ x with
  |some (.g (.a aa))=>match tD 0 aa with
   |some _=>K (.g (.a aa))
   |none=>False
  |_=>False
 |.build t parts=>match nZ ρ parts.toList with
  |some ps=>match A8 P t ps with
   |some r=>K (.g (.agg r))
   |none=>False
  |none=>False
 |.call c=>match c.callee with
  |.builtin .len=>match c.args.toList,c.argTypes.toList with
   |[x],[t]=>match ρ x,P.underlying t with
    |some (.g (.a (.v (.string s)))),Td .string=>K (.g (.a (.v (.int .i64 (s.size:Int)))))
    |some (.g (.a (.v (.slice _ n _)))),Td (.slice _)=>K (.g (.a (.v (.int .i64 (n:Int)))))
    |some (.g (.a aa)),Td (.slice _)=>match A3 cs aa with
     |some n=>K (.g (.a (.v (.int .i64 (n:Int)))))
     |none=>False
    |_,_=>False
   |_,_=>False
  |_=>False
 |_=>False
theorem z3d{ρ:Operand->Option AV}{K:AV->Prop}(H:Ag P o ρ g cs K):
  ∃av,K av/\(im g->∀γ h σ,Inv h0 W M0 cs γ h->(∀x av,ρ x=Td av->DenV γ av (σ x))->∃v,DenV γ av v/\QExec P (execOp σ o) h (.value v)):=by
 unfold Ag at H;cases hb:(bif mT o then(bif mL P o then(bif J9 o.op then oQ ρ o.op.operands.toList else Tc)else Tc)else Tc)with
 |true=>
  rw[hb]at H;cases hfam:mT o with
  |false=>simp_all
  |true=>
   cases w:mL P o with
   |false=>simp_all
   |true=>
    cases hns:J9 o.op with
    |false=>simp_all
    |true=>rw[hfam,w,hns]at hb;simp only[zK]at hb H;obtain⟨v,h1,z⟩:=Ba hfam H;refine⟨_,h1,λA γ h σ I m=>⟨v,sE γ v,?_⟩⟩;rw[ZN m hns hb];exact z A h ⟨by simp,λi hi=>absurd hi (by simp)⟩
 |false=>
  rw[hb]at H;simp only[zL]at H;have val:∀{s:Sem Value} {h:zc} {v:Value},QExec P s h v->QExec P (s >>= λx=>(zek (zep x):Sem Next)) h (.value v):=λw=>QExec.val w;split at H;rename_i x q;split at H;rename_i av j;exact⟨av,H,λ_ γ h σ I m=>⟨_,m _ _ j,by simp only[execOp,q];exact QExec.pure _⟩⟩;exact H.elim;rename_i x q;split at H;rename_i av j;exact⟨av,H,λ_ γ h σ I m=>⟨_,m _ _ j,by simp only[execOp,q];exact QExec.pure _⟩⟩;exact H.elim;rename_i x i q;split at H;rename_i l j;split at H;rename_i ag F;refine⟨_,H,λ_ γ h σ I m=>?_⟩;obtain⟨us,e,z⟩:=m _ _ j;obtain⟨u,D,y⟩:=z.get F;refine⟨u,y,?_⟩;simp only[execOp,q,e];refine val λB d=>?_;unfold Instr.extract;simp[D];exact H.elim;rename_i b p c j;split at H;refine⟨_,H,λ_ γ h σ I m=>⟨_,rfl,?_⟩⟩;obtain⟨O,e2⟩:=m _ _ j;simp only[execOp,q];refine val λB d=>?_;cases b with
  |true=>rw[O rfl];rfl
  |false=>rw[e2 rfl];rfl
  refine⟨_,H.2,λA γ h σ I m=>⟨_,rfl,?_⟩⟩;obtain⟨O,_⟩:=m _ _ j;simp only[execOp,q,O (H.1.out A)];exact val λB d=>rfl;refine⟨_,H.2,λA γ h σ I m=>⟨_,rfl,?_⟩⟩;obtain⟨O,_⟩:=m _ _ j;simp only[execOp,q,O (H.1.out A)];exact val λB d=>rfl;exact H.elim;exact H.elim;rename_i t x f q;split at H;rename_i l k ty j C;split at H;rename_i ag F;refine⟨_,H,λ_ γ h σ I m=>?_⟩;obtain⟨us,e,z⟩:=m _ _ j;obtain⟨v,y,w⟩:=BH F z h;refine⟨v,y,?_⟩;simp only[execOp,q,e];refine val λB d=>?_;unfold qC at C;split at C;rename_i fs D;split at C;rename_i fl S;split at C;rename_i i hi;cases hz:Nat.beq i.size 0 with
  |true=>simp_all
  |false=>rw[hz]at C;simp only[zL,zad,zci]at C;obtain⟨rfl,rfl⟩:=C;have Q:=QExec.underlying (h:=h) D B d;unfold Instr.field;rw[Sem.run_bind,Q];simp only[Result.andThen_ok,S,asAgg,Sem.run_bind,Sem.run_pure];exact w B d
  cases C;cases C;cases C;exact H.elim;exact H.elim;rename_i t x f q;split at H;rename_i N k ty j C;split at H;rename_i Z J;refine⟨_,H,λ_ γ h σ I m=>?_⟩;obtain⟨b,o',e,y⟩:=HL J (m _ _ j);refine⟨_,y,?_⟩;simp only[execOp,q];simp_all[TM];exact H.elim;exact H.elim;rename_i t x q;split at H;rename_i N j;obtain⟨av,h1,z⟩:=FS (h0:=h0) (W:=W) (M0:=M0) H;refine⟨av,h1,λA γ h σ I m=>?_⟩;obtain⟨v,y,w⟩:=z A γ h _ I (m _ _ j);refine⟨v,y,?_⟩;simp only[execOp,q];exact val w;exact H.elim;rename_i t x i q;split at H;rename_i N iv j T;split at H;rename_i n U;obtain⟨av,h1,z⟩:=Vi (h0:=h0) (W:=W) (M0:=M0) H;refine⟨av,h1,λA γ h σ I m=>?_⟩;obtain⟨k,e⟩:=Hc U (m _ _ T);obtain⟨v,y,w⟩:=z A γ h _ k I (m _ _ j);refine⟨v,y,?_⟩;simp only[execOp,q];simp_all;exact H.elim;exact H.elim;rename_i t x lo hi mx q;split at H;rename_i N j;obtain⟨av,h1,z⟩:=Oc (h0:=h0) (W:=W) (M0:=M0) H;refine⟨av,h1,λA γ h σ I m=>?_⟩;obtain⟨v,y,w⟩:=z A γ h _ σ I m (m _ _ j);refine⟨v,y,?_⟩;simp only[execOp,q];exact val w;exact H.elim;rename_i x q;split at H;rename_i N j;split at H;rename_i Z J;refine⟨_,H,λ_ γ h σ I m=>?_⟩;obtain⟨b,o',e,y⟩:=HL J (m _ _ j);have Y:=m _ _ j;refine⟨σ x,Y,?_⟩;simp only[execOp,q];rw[e];exact QExec.pure _;exact H.elim;exact H.elim;rename_i t parts q;split at H;rename_i ps V;split at H;rename_i r hr;refine⟨_,H,λ_ γ h σ I m=>?_⟩;obtain⟨ws,w,y⟩:=OH hr (wA m V) h;refine⟨.agg ws.toArray,⟨ws,rfl,y⟩,?_⟩;simp only[execOp,q];have e:(parts.map λx=>(x.1,σ x.2))=(parts.toList.map λx=>(x.1,σ x.2)).toArray:=by rw[<-Array.toList_map]
  simp_all;exact H.elim;exact H.elim;rename_i c q;split at H;rename_i hc;split at H;rename_i x t G M;have E:c.args=#[x]:=by have:=congrArg List.toArray G;simp at this;exact this
  have L:c.argTypes=#[t]:=by have:=congrArg List.toArray M;simp at this;exact this
  have key:∀(σ:Operand->Value) (h:zc) (n:Int),(QExec P (zdm #[t] o.type #[σ x]) h (.int .i64 n))->QExec P (execOp σ o) h (.value (.int .i64 n)):=by
   intro σ h n w;have e:execOp σ o=(zdm c.argTypes o.type (c.args.map σ) >>= λx=>(zek (zep x):Sem Next)):=by simp only[execOp,q,resolve,hc];rfl
   rw[e,E,L];refine val ?_;simpa using w
  split at H;rename_i s j D;refine⟨_,H,λ_ γ h σ I m=>⟨_,rfl,key σ h _ λB d=>?_⟩⟩;have w:=QExec.underlying (h:=h) D B d;have e:σ x=.string s:=m _ _ j;unfold zdm;simp only[zel,zeb,e,Sem.run_bind,w,Result.andThen_ok,Sem.run_pure];rfl;rename_i a n cp el j D;refine⟨_,H,λ_ γ h σ I m=>⟨_,rfl,key σ h _ λB d=>?_⟩⟩;have w:=QExec.underlying (h:=h) D B d;have e:σ x=.slice a n cp:=m _ _ j;unfold zdm;simp only[zel,zeb,e,Sem.run_bind,w,Result.andThen_ok,Sem.run_pure];rfl;rename_i N el _ _ j D;split at H;rename_i n U;refine⟨_,H,λ_ γ h σ I m=>⟨_,rfl,key σ h _ λB d=>?_⟩⟩;have w:=QExec.underlying (h:=h) D B d;obtain⟨a,cp,e⟩:=RD I U (m _ _ j);unfold zdm;simp only[zel,zeb,e,Sem.run_bind,w,Result.andThen_ok,Sem.run_pure];rfl;exact H.elim;exact H.elim;exact H.elim;exact H.elim;exact H.elim
def Ao(P:Program)(o:Oper)(ρ:Operand->Option AV):Option Bool:=match o.op with
 |.binOp op t x (.const .nilIface) _=>match ρ x,ρ (.const .nilIface),P.underlying t with
  |some (.g (.a (.d .err b))),Td (.g (.a (.v .nilIface))),Td (.interface _)=>match op with
   |.eql=>Td b
   |.neq=>Td (!b)
   |_=>Te
  |_,_,_=>Te
 |_=>Te
theorem NH{ρ:Operand->Option AV}(H:Ao P o ρ=Td b)(n:∀x av,ρ x=Td av->DenV γ av (σ x))(h:zc):QExec P (execOp σ o) h (.value (.bool b)):=by
 have key:∀{t:TypeId} {ms:Array (String×TypeId)} {b:Bool} {u:Value},P.underlying t=Td (.interface ms)->((b=Ta/\u=.nilIface)\/(b=Tc/\∃t k,u=.iface t k))->QExec P (zfh t u .nilIface) h b:=by intro t ms b u l i B d;have q:=QExec.underlying (h:=h) l B d;unfold zfh Op.maxDepth;rcases i with⟨rfl,rfl⟩|⟨rfl,t',k,rfl⟩;unfold Op.equalIn;rw[Sem.run_bind,q];rfl;unfold Op.equalIn;rw[Sem.run_bind,q];rfl
 unfold Ao at H;split at H;rename_i c t x D r;split at H;rename_i b0 ms z w l;have A:σ (.const .nilIface)=.nilIface:=n _ _ w;obtain⟨u,e,i⟩:=(show Rd γ.M .err b0 [σ x]from n _ _ z);have C:u=σ x:=by simpa using e.symm
 subst C;have m:=key l i;have y:∀c,QExec P (eqGuard c t x (.const .nilIface) (σ x) .nilIface) h ():=by intro c B d;unfold eqGuard;rcases i with⟨_,j⟩|⟨_,t',k,j⟩;simp_all;simp_all
 have f:∀c,(binOp c t (σ x) .nilIface=match c with | .eql=>(do pure (.bool (<-zfh t (σ x) .nilIface))) | .neq=>(do pure (.bool (!(<-zfh t (σ x) .nilIface))))|_=>binOp c t (σ x) .nilIface):=by intro c;rcases i with⟨_,j⟩|⟨_,t',k,j⟩;rw[j];cases c <;> rfl;rw[j];cases c <;> rfl
 simp only[execOp,r,A];refine QExec.val ((y c).bind ?_);split at H;simp only[zad]at H;subst H;rw[f];exact m.bind (QExec.pure _);simp only[zad]at H;subst H;rw[f];exact m.bind (QExec.pure _);cases H;cases H;cases H
def CP(o:Oper)(ρ:Operand->Option AV):Option (TypeId×Nat×Nat):=match o.op with
 |.load t x=>match ρ x with
  |some (.g (.a (.v (.pointer (Td ⟨b,off,Te⟩)))))=>Td (t,b,off)
  |_=>Te
 |_=>Te
def p8(gl:Fr)(b off:Nat)(v:Value):Prop:=∃cs,gl b=Td cs/\cs[off]?=Td v
def pA(gl:Fr)(b:Nat)(g:Option Bool):List Atom->Nat->(List AA->Prop)->Prop
 |[],_,K=>K []
 |.int k::l,o,K=>∃x:Int,req g (p8 gl b o (.int k x))/\pA gl b g l (o+1) λr=>K (.v (.int k x)::r)
 |.str::l,o,K=>∃x:Bt,req g (p8 gl b o (.string x))/\pA gl b g l (o+1) λr=>K (.v (.string x)::r)
 |.bool::l,o,K=>∃x:Bool,req g (p8 gl b o (.bool x))/\pA gl b g l (o+1) λr=>K (.v (.bool x)::r)
 |_::_,_,_=>False
theorem Z9{gl:Fr}{b:Nat}{g:Option Bool}:∀{l:List Atom} {o:Nat} {K:List AA->Prop},pA gl b g l o K->∃vs:List Value,vs.length=l.length/\K (vs.map .v)/\(im g->∀(j:Nat) (v:Value),vs[j]?=Td v->p8 gl b (o+j) v)
 |[],o,K,H=>⟨[],rfl,H,λ_ j v h=>by simp at h⟩
 |.int k::l,o,K,⟨x,h1,h2⟩=>by
  obtain⟨vs,e,i,m⟩:=Z9 h2;refine⟨.int k x::vs,by simp[e],i,λf j v c=>?_⟩;cases j with
  |zero=>simp at c;subst c;exact h1.out f
  |succ j=>grind
 |.str::l,o,K,⟨x,h1,h2⟩=>by
  obtain⟨vs,e,i,m⟩:=Z9 h2;refine⟨.string x::vs,by simp[e],i,λf j v c=>?_⟩;cases j with
  |zero=>simp at c;subst c;exact h1.out f
  |succ j=>grind
 |.bool::l,o,K,⟨x,h1,h2⟩=>by
  obtain⟨vs,e,i,m⟩:=Z9 h2;refine⟨.bool x::vs,by simp[e],i,λf j v c=>?_⟩;cases j with
  |zero=>simp at c;subst c;exact h1.out f
  |succ j=>grind
 |.sl::_,_,_,H=>H.elim
 |.mp::_,_,_,H=>H.elim
 |.ptr::_,_,_,H=>H.elim
 |.raw::_,_,_,H=>H.elim
def HG(P:Program)(gl:Fr)(t:TypeId)(b off:Nat)(g:Option Bool)(K:AV->Prop):Prop:=match kv P t with
 |some (.one a)=>pA gl b g [a] off λr=>match r with
  |[x]=>K (.g (.a x))
  |_=>False
 |some (.agg l)=>pA gl b g l off λr=>K (.g (.agg r))
 |none=>False
def Dl(P:Program)(o:Oper)(ρ:Operand->Option AV):Option (Nat×Nat×Int×Nat×Nat):=match o.op with
 |.indexAddr t x i=>match ρ x,ρ i,P.underlying t with
  |some (.g (.a (.v (.pointer (Td ⟨b,off,Te⟩))))),Td (.g (.a (.v (.int _ n)))),Td (.array len el)=>bif yb P el then Td (b,off,n,len,j4 P el)else Te
  |_,_,_=>Te
 |_=>Te
def qA(P:Program)(gl:Fr)(o:Oper)(ρ:Operand->Option AV)(g:Option Bool)(cs:CS)(K:AV->Prop):Prop:=match BI P o ρ with
 |some b=>K (.g (.a (.v (.bool b))))
 |none=>match Ao P o ρ with
  |some b=>K (.g (.a (.v (.bool b))))
  |none=>match CP o ρ with
   |some (t,b,off)=>HG P gl t b off g K
   |none=>match Dl P o ρ with
    |some (b,off,n,len,z)=>req g (0<=n/\n<(len:Int))/\K (.g (.a (.v (.pointer (Td ⟨b,off+n.toNat*z,Te⟩)))))
    |none=>Ag P o ρ g cs K
theorem tu{gl:Fr}(M:Fr.le gl M0){ρ:Operand->Option AV}{K:AV->Prop}(H:qA P gl o ρ g cs K):
  ∃av,K av/\(im g->∀γ h σ,Inv h0 W M0 cs γ h->(∀x av,ρ x=Td av->DenV γ av (σ x))->∃v,DenV γ av v/\QExec P (execOp σ o) h (.value v)):=by
 unfold qA at H;split at H;rename_i b A;exact⟨_,H,λ_ γ h σ _ f=>⟨_,rfl,LH A f h⟩⟩;split at H;rename_i b A;exact⟨_,H,λ_ γ h σ _ f=>⟨_,rfl,NH A f h⟩⟩;split at H;rename_i t b off e;unfold CP at e;split at e;rename_i t' x E;split at e;rename_i b' c G;simp only[zad,zci]at e;obtain⟨rfl,rfl,rfl⟩:=e;have key:∀{s:Option Nat} {vs:List Value} {ag:AG},kX P t'=Td s->vs.length=lQ s->mB s (vs.map .v)=Td ag->(im g->∀(j:Nat) (v:Value),vs[j]?=Td v->p8 gl b' (c+j) v)->im g->∀γ h σ,Inv h0 W M0 cs γ h->(∀x av,ρ x=Td av->DenV γ av (σ x))->∃u,DenV γ (.g ag) u/\QExec P (execOp σ o) h (.value u):=by intro s vs ag Y Z V hc e γ h σ I f;have F:σ x=.pointer (Td ⟨b',c,Te⟩):=f _ _ G;obtain⟨u,O,C⟩:=wd (γ:=γ) Y (u:=σ x) (us:=vs) ⟨_,_,F,λj w U=>by obtain⟨cc,q,m⟩:=hc e j w U;exact I.ag.cell (I.le _ _ (M _ _ q)) m⟩ Z (Jr γ vs) V;exact⟨u,O,by simp only[execOp,E];exact QExec.val C⟩
 unfold HG at H;split at H;rename_i a J;obtain⟨vs,q,m,r⟩:=Z9 H
 match vs,q,m,r with
 |[v],q,m,r=>exact⟨_,m,key (s:=Te) (by unfold kX;rw[J]) rfl rfl r⟩
 rename_i l J;obtain⟨vs,q,m,r⟩:=Z9 H;exact⟨_,m,key (s:=Td l.length) (by unfold kX;rw[J]) q rfl r⟩;exact H.elim;cases e;cases e;split at H;rename_i b off n len z e;unfold Dl at e;split at e;rename_i t x i E;split at e;rename_i b' c k y N el G hi F;cases hok:yb P el with
 |false=>simp_all
 |true=>rw[hok]at e;simp only[zK,zad,zci]at e;obtain⟨rfl,rfl,rfl,rfl,rfl⟩:=e;refine⟨_,H.2,λD γ h σ I f=>⟨_,rfl,?_⟩⟩;have B:σ x=.pointer (Td ⟨b',c,Te⟩):=f _ _ G;have L:σ i=.int k y:=f _ _ hi;obtain⟨h1,Q⟩:=H.1.out D;obtain⟨v,rfl,C⟩:=Z7 (P:=P) (t:=t) (x:=.pointer (Td ⟨b',c,Te⟩)) (i:=.int k y) (g:=Te) (K:=λv=>v=.pointer (Td (zab ⟨b',c,Te⟩ (y.toNat*j4 P el)))) (λT S=>by simp_all[wb]) (by unfold qK;rw[F];exact⟨_,⟨rfl,h1,Q⟩,rfl⟩);have:=C trivial h;rw[zf]at this;simp only[execOp,E,B,L];exact QExec.val this
 cases e;cases e;exact z3d H
end
end
end Go.X
