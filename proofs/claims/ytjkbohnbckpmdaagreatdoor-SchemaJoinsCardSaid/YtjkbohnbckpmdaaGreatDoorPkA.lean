/- A part of the proof: nothing is stated here for its own sake. -/
import Derived.Deep.Quiet
import Derived.StillTail
import Derived.Laws.Strings
import Derived.Laws.Cover3
import Derived.Laws.Pointers
import Derived.Scope
import Derived.Laws.OwnMore
open _root_.Go.Addr renaming add->zae
open _root_.Array renaming getD_eq_getD_getElem?->zbp,getElem?_append_left->zcu,getElem?_eq_getElem->zbl,getElem?_eq_some_iff->zai,getElem?_setIfInBounds_ne->zcs,getElem?_toList->zb7,range->zek,replicate->zbr,size_push->zau,size_setIfInBounds->zbc
open _root_.Bool renaming and_eq_true->zan,eq_iff_iff->za7,false_eq_true->zcc,not_eq_true'->zd4,true_and->zcq
open _root_.Go.Builtin renaming append_->zav,firstCells->zc3,len_->zda
open _root_.Classical renaming byContradiction->zc0
open _root_.Go.Code renaming cond->zeq,region->zc8
open _root_.Go.Deferred renaming ofValue->zdt
open _root_.Go.Instr renaming entry->zeu,findNow->zec,index->zes,indexAt->zer,keyThatStays->zej,loadAt->zd0,lookup->zd1,mapUpdate->zc7,next->zep,range->zet,sliceAt->zeb,storeAt->zag,sureAddr->zd7
open _root_.Go.IntKind renaming bits->zem,signed->ze1,wrap->zaa
open _root_.List renaming all_eq_true->zas,cons_append->zby,drop_drop->zdb,drop_eq_nil_of_le->zci,eq_nil_of_length_eq_zero->zbb,filter_cons->zc4,getElem?_drop->zbs,getElem?_eq_getElem->zaj,getElem?_eq_some_iff->za0,getElem?_take->zba,getElem?_toArray->zc9,getElem_mem->zay,getElem_of_mem->zcf,length_append->zat,length_cons->zbi,length_drop->zb2,length_eq_zero_iff->zbq,length_erase_of_mem->zdr,length_nil->zef,length_take->zcr,mapM_cons->zel,map_cons->zbh,mem_append->zaz,mem_append_left->zap,mem_append_right->za4,mem_cons->zah,mem_cons_of_mem->zal,mem_cons_self->zaq,mem_filter->zde,mem_iff_getElem?->zdm,mem_range->zcd,mem_singleton->zbm,nil_append->zco,nodup_cons->zcv,nodup_range->zd9,pairwise_append->zdp,pairwise_cons->zcl,range->zbk,replicate->zd6,take_append_drop->zce,take_succ_eq_append_getElem->zar
open _root_.List.cons renaming injEq->zcg
open _root_.Nat renaming add_mul->zc5,blt_eq->zct,eq_of_beq_eq_true->zak,eq_zero_or_pos->zdk,le_of_ble_eq_true->zbz,le_refl->zaf,le_trans->zbx,lt_of_lt_of_le->zdj,lt_or_ge->zbf,min_eq_left->zeg,mul_le_mul_right->za2,one_mul->zev,strongRecOn->zee,succ_mul->zd2,zero_add->za5
open _root_.Go.Next renaming value->zdz
open _root_.Go.Op renaming equal->ze0
open _root_.Option renaming bind_some->zcy,map_eq_some_iff->zcz
open _root_.Option.some renaming inj->za6,injEq->zab
open _root_.Prod.mk renaming injEq->zca
open _root_.Pure renaming pure->zdn
open _root_.Go.Region renaming binds->zex,wanted->za8
open _root_.Go.Value renaming int->zez,string->za1
open _root_.Go.Value.slice renaming injEq->zbg
set_option linter.all false
set_option maxRecDepth 100000
namespace Go.X
end Go.X
namespace Go.Proofs
end Go.Proofs
open Go Go.X Go.Proofs
open _root_.Bool renaming true->Ta,false->Tb
open _root_.Option renaming some->Tc,none->Td
section
namespace Go.X
section
theorem za{c:Prop}{h:Decidable c}(n:¬c){α:Sort _}{t e:α}:@ite α c h t e=e:=if_neg n
theorem zb{c:Prop}{h:Decidable c}(n:c){α:Sort _}{t e:α}:@ite α c h t e=t:=if_pos n
theorem zA{p:Prop}[Decidable p]:(decide p=true)=p:=decide_eq_true_eq
theorem zB{p:Prop}[Decidable p](h:decide p=true):p:=of_decide_eq_true h
theorem zC{p:Prop}[Decidable p](h:decide p=false):¬p:=of_decide_eq_false h
theorem zD{p:Prop}[Decidable p](h:p):decide p=true:=decide_eq_true h
theorem zF{p:Prop}[Decidable p](h:¬p):decide p=false:=decide_eq_false h
theorem zH{α:Sort _}(a b:α):cond true a b=a:=rfl
theorem zI{α:Sort _}(a b:α):cond false a b=b:=rfl
abbrev Bt:= ByteArray
variable {i n m:Nat} {v u:Value} {a:Act} {o:Oper}
abbrev zc:=Array Obj
abbrev qk:=List (Nat×Bool)
abbrev aR:=List (Nat×qk×Value)
def mk(B:World)(d:Nat)(h:zc):World:={ B with heap:=h,drawn:=d }
def look:aR->Nat->Option (qk×Value)
 |[],_=>Td
 |(j,c,v)::e,i=>bif Nat.beq i j then Tc (c,v)else look e i
def valid(σ:Nat->Value):qk->Prop
 |[]=>True
 |(g,p)::c=>σ g=.bool p/\valid σ c
def qa(a:Act)(i:Nat):Value:=a.tmps.getD i undef
def fact(σ:Nat->Value)(x:Nat×qk×Value):Prop:=(valid σ x.2.1->σ x.1=x.2.2)/\(¬valid σ x.2.1->σ x.1=undef)
structure Sat (n:Nat) (e:aR) (a:Act):Prop where
 defers:a.defers=[]
 size:a.tmps.size=n
 all:∀x∈e,fact (qa a) x
def mentions:qk->Nat->Bool
 |[],_=>Tb
 |(g,_)::c,i=>bif Nat.beq i g then Ta else mentions c i
def sR:aR->Nat->aR
 |[],_=>[]
 |(j,c,v)::e,i=>bif (bif Nat.beq i j then Ta else mentions c i)then sR e i else(j,c,v)::sR e i
def put(e:aR)(i:Nat)(c:qk)(v:Value):aR:=(i,c,v)::sR e i
def putO(e:aR):Option Nat->qk->Value->aR
 |none,_,_=>e
 |some d,c,v=>put e d c v
def clean:aR->aR
 |[]=>[]
 |(j,[],v)::e=>(j,[],v)::clean e
 |(_,_::_,_)::e=>clean e
theorem pL{e:aR}{c:qk}(h:look e i=Tc (c,v)):(i,c,v)∈e:=by
 induction e with
 |nil=>cases h
 |cons x e f=>obtain⟨j,k,b⟩:=x;simp only[look]at h;by_cases l:Nat.beq i j=Ta;simp_all;simp_all
theorem qiy{e:aR}{x:Nat×qk×Value}(h:x∈sR e i):x∈e/\x.1≠i/\mentions x.2.1 i=Tb:=by
 induction e with
 |nil=>cases h
 |cons y e o=>
  obtain⟨j,f,n⟩:=y;simp only[sR]at h;by_cases k:Nat.beq i j=Ta;simp_all;have c:Nat.beq i j=Tb:=Bool.eq_false_iff.2 k;simp only[c,zI]at h;by_cases l:mentions f i=Ta;simp_all;have b:mentions f i=Tb:=by simpa using l
  simp only[b,zI]at h;rcases zah.1 h with rfl|h;refine⟨zaq,λm=>?_,b⟩;simp_all;simp_all
theorem Pi{e:aR}{x:Nat×qk×Value}(h:x∈clean e):x∈e/\x.2.1=[]:=by
 induction e with
 |nil=>cases h
 |cons y e i=>
  obtain⟨j,b,f⟩:=y;cases b with
  |nil=>simp only[clean]at h;grind
  |cons c cs=>simp only[clean]at h;simp_all
theorem Sat.sub{e e':aR}(h:Sat n e a)(b:∀x∈e',x∈e):Sat n e' a:=⟨h.defers,h.size,λx c=>h.all x (b x c)⟩
theorem Sat.clean{n:Nat}{e:aR}{a:Act}(h:Sat n e a):Sat n (clean e) a:=h.sub λ_ b=>(Pi b).1
theorem Qb{σ τ:Nat->Value}{c:qk}(b:mentions c i=Tb)(h:∀j,j≠i->σ j=τ j):valid σ c↔valid τ c:=by
 induction c with
 |nil=>exact Iff.rfl
 |cons x c k=>obtain⟨g,p⟩:=x;simp only[mentions]at b;by_cases f:Nat.beq i g=Ta;grind;simp only[f,zI]at b;have l:g≠i:=λe=>f (by rw[e];simp);simp only[valid,h g l,k b]
theorem jy(hi:i<a.tmps.size):qa (a.put (Tc i) u) i=u:=by simp[qa,Act.put,hi]
theorem qt{i j:Nat}(h:j≠i):qa (a.put (Tc i) u) j=qa a j:=by simp[qa,Act.put,zcs (Ne.symm h)]
theorem size_put(a:Act)(d:Option Nat)(u:Value):(a.put d u).tmps.size=a.tmps.size:=by cases d <;> simp[Act.put]
theorem yy(a:Act)(d:Option Nat)(u:Value):(a.put d u).defers=a.defers:=by cases d <;> simp[Act.put]
theorem Sat.put{n:Nat}{e:aR}{a:Act}(h:Sat n e a){i:Nat}{c:qk}{v u:Value}(hi:i<n)(w:mentions c i=Tb)
  (r:valid (qa a) c->u=v) (t:¬valid (qa a) c->u=undef):Sat n (put e i c v) (a.put (Tc i) u):=by
 refine⟨by rw[yy];exact h.defers,by rw[size_put];exact h.size,λx m=>?_⟩;have k:i<a.tmps.size:=by rw[h.size];exact hi
 rcases zah.1 m with rfl|m;have l:=Qb (σ:=qa (a.put (Tc i) u)) (τ:=qa a) w (λj o=>qt o);refine⟨λf=>?_,λf=>?_⟩;exact(jy k).trans (r (l.1 f));exact(jy k).trans (t (λb=>f (l.2 b)));obtain⟨h1,q,s⟩:=qiy m;have l:=Qb (σ:=qa (a.put (Tc i) u)) (τ:=qa a) s (λj o=>qt o);have p:=h.all x h1;refine⟨λf=>?_,λf=>?_⟩;exact(qt q).trans (p.1 (l.1 f));exact(qt q).trans (p.2 (λb=>f (l.2 b)))
def jf(n:Nat)(c:qk):Option Nat->Bool
 |none=>Ta
 |some d=>bif mentions c d then Tb else Nat.blt d n
theorem Sat.putO{n:Nat}{e:aR}{a:Act}(h:Sat n e a){d:Option Nat}{c:qk}{v u:Value}(f:jf n c d=Ta)
  (l:valid (qa a) c->u=v) (m:¬valid (qa a) c->u=undef):Sat n (putO e d c v) (a.put d u):=by
 cases d with
 |none=>exact h
 |some i=>
  simp only[jf]at f;by_cases k:mentions c i=Ta;grind;have b:mentions c i=Tb:=by simpa using k
  simp only[b,zI]at f;exact h.put (by simp_all) b l m
def Qc:qk->qk->Bool
 |[],[]=>Ta
 |(g,p)::c,(g',p')::c'=>bif Nat.beq g g' then(bif p then(bif p' then Qc c c' else Tb)else(bif p' then Tb else Qc c c'))else Tb
 |_,_=>Tb
theorem Wj:∀{c c':qk},Qc c c'=Ta->c=c'
 |[],[],_=>rfl
 |[],_::_,h=>by simp[Qc]at h
 |_::_,[],h=>by simp[Qc]at h
 |(g,p)::c,(g',p')::c',h=>by simp only[Qc]at h;by_cases b:Nat.beq g g'=Ta;simp only[b,zH]at h;have e:=zak b;cases p <;> cases p' <;> simp at h <;> rw[e,Wj h];grind
def kY(cs:qk):qk->Bool
 |[]=>Qc cs []
 |x::c=>bif Qc cs (x::c)then Ta else kY cs c
theorem Wk{σ:Nat->Value}{cs:qk}:∀{c:qk},kY cs c=Ta->valid σ c->valid σ cs
 |[],h,_=>by rw[Wj h];trivial
 |x::c,h,hv=>by simp only[kY]at h;by_cases b:Qc cs (x::c)=Ta;rw[Wj b];exact hv;simp only[b,zI]at h;exact Wk h hv.2
def Wl(e:aR)(c:qk):Operand->Option Value
 |.tmp t=>match look e t with
  |some (cs,v)=>bif kY cs c then Tc v else Td
  |none=>Td
 |.const v=>Tc v
 |.global g=>Tc (.pointer (Tc ⟨g,0,Td⟩))
 |.func f=>Tc (.func (.func f) #[] #[])
theorem qz{e:aR}(h:Sat n e a){c:qk}(l:valid (qa a) c){x:Operand}(b:Wl e c x=Tc v):a.eval x=v:=by
 cases x with
 |tmp t=>simp only[Wl]at b;split at b;rename_i cs u k;by_cases i:kY cs c=Ta;simp only[i,zH,zab]at b;subst b;exact(h.all _ (pL k)).1 (Wk i l);grind;cases b
 |const u=>simp only[Wl,zab]at b;exact b
 |global g=>simp only[Wl,zab]at b;exact b
 |func f=>simp only[Wl,zab]at b;exact b
def iP(e:aR)(c:qk)(x:Operand):Value:=match Wl e c x with
 |some v=>v
 |none=>undef
def known(e:aR)(c:qk):List Operand->Bool
 |[]=>Ta
 |x::l=>match Wl e c x with
  |some _=>known e c l
  |none=>Tb
theorem Yx{e:aR}(h:Sat n e a){c:qk}(k:valid (qa a) c){l:List Operand}(b:known e c l=Ta):∀x∈l,a.eval x=iP e c x:=by
 induction l with
 |nil=>simp
 |cons y l m=>intro x i;simp only[known]at b;split at b;rename_i v f;rcases zah.1 i with rfl|i;rw[qz h k f];simp[iP,f];grind;cases b
def Zs:Op->Bool
 |.select _ _=>Tb
 |_=>Ta
theorem qI{e:aR}(h:Sat n e a){c:qk}(l:valid (qa a) c)(f:Zs o.op=Ta)(i:known e c o.op.operands.toList=Ta):
  execOp a.eval o=execOp (iP e c) o:=
 execOp_congr o (λcs b k=>by rw[k]at f;cases f) λx m=>Yx h l i x (by simpa using m)
def yp(ops:Array Oper)(j:Nat):Option Nat:=match ops[j]? with
 |some o=>o.dst
 |none=>Td
def Zu(ops:Array Oper)(e:aR):Option (Nat×Bool)->Option qk
 |none=>Tc []
 |some (j,p)=>match yp ops j with
  |some g=>match look e g with
   |some (cg,.bool _)=>Tc ((g,p)::cg)
   |_=>Td
  |none=>Td
def rH(e:aR):qk->Option Bool
 |[]=>Tc Ta
 |(g,p)::c=>match look e g with
  |some (cg,.bool b)=>bif Qc cg c then(match rH e c with
    |some f=>Tc (f&&(bif p then b else !b))
    |none=>Td)else Td
  |_=>Td
theorem GI{b:Bool}:undef≠.bool b:=by simp[undef]
theorem AM{n:Nat}{e:aR}{a:Act}(h:Sat n e a):∀{c:qk} {b:Bool},rH e c=Tc b->(b=Ta↔valid (qa a) c)
 |[],b,hb=>by simp only[rH,zab]at hb;simp[<-hb,valid]
 |(g,p)::c,b,hb=>by
  simp only[rH]at hb;split at hb;rename_i t o q;by_cases m:Qc t c=Ta;simp only[m,zH]at hb;split at hb;rename_i k i;simp only[zab]at hb;have s:=AM h i;have l:=h.all _ (pL q);rw[Wj m]at l;by_cases f:valid (qa a) c;have h1:qa a g=.bool o:=l.1 f;have r:=s.2 f;subst hb;simp only[valid,h1,f,r,zcq,and_true,Value.bool.injEq];grind;have h1:k=Tb:=by cases k with|false=>rfl|true=>simp_all
  subst hb;simp[valid,f,h1];cases hb;grind;cases hb
theorem Qr{ops:Array Oper}{e:aR}(h:Sat n e a){c:qk}(f:Zu ops e o.guard=Tc c):
  za8 o (yielded ops a.tmps)=Ta↔valid (qa a) c:=by
 unfold za8;cases hg:o.guard with
 |none=>rw[hg]at f;simp only[Zu,zab]at f;simp[<-f,valid]
 |some s=>
  obtain⟨j,p⟩:=s;rw[hg]at f;simp only[Zu]at f;split at f;rename_i g i;split at f;rename_i t b q;simp only[zab]at f;subst f;have k:((ops[j]?).bind (·.dst))=Tc g:=by simp only[yp]at i;split at i;simp_all;cases i
  have m:=h.all _ (pL q);have r:yielded ops a.tmps j=Tc p↔qa a g=.bool p:=by
   unfold yielded qa;rw[k];simp only[zcy];cases ht:a.tmps[g]? with
   |none=>simp[zbp,ht,undef]
   |some v=>cases v <;> simp[zbp,ht]
  simp only[beq_iff_eq,r,valid];constructor;intro h1;refine⟨h1,?_⟩;by_cases l:valid (qa a) t;exact l;have:=m.2 l;simp only at this;rw[h1]at this;exact absurd this.symm GI;simp_all;cases f;cases f
structure Keep (n:Nat) (h h':zc):Prop where
 size:h.size<=h'.size
 get:∀i,i<n->h'[i]?=h[i]?
theorem Keep.refl(n:Nat)(h:zc):Keep n h h:=⟨zaf _,λ_ _=>rfl⟩
theorem Keep.trans{a b c:zc}(h:Keep n a b)(k:Keep m b c)(e:n<=m):Keep n a c:= ⟨zbx h.size k.size,λi hi=>(k.get i (zdj hi e)).trans (h.get i hi)⟩
theorem Keep.mono{a b:zc}(h:Keep n a b)(c:m<=n):Keep m a b:=⟨h.size,λi hi=>h.get i (zdj hi c)⟩
theorem Keep.push(h:zc)(o:Obj)(b:n<=h.size):Keep n h (h.push o):= ⟨by simp,λi hi=>by grind⟩
end
section
variable {P:Program} {α:Type} {h:zc} {v x i:Value} {t:TypeId} {g:Option Bool} {n l r:Int}
def zf(h:zc)(a:Addr):Option Value:=
 match h[a.block]? with
 |some (.cells c _ _)=>if a.spot.isSome then Td else c[a.off]?
 |_=>Td
theorem FH(B:World)(d:Nat)(h:zc)(a:Addr):(mk B d h).cell? a=zf h a:=rfl
def Jt(P:Program){α:Type}:Sem α->Option α
 |.pure a=>Tc a
 |.program k=>Jt P (k P)
 |.mark _ k=>Jt P k
 |_=>Td
def QExec(P:Program){α:Type}(s:Sem α)(h:zc)(x:α):Prop:=∀B d,s.run P (mk B d h)=.ok x (mk B d h)
theorem qm{s:Sem α}{x:α}(h:Jt P s=Tc x)(w:World):s.run P w=.ok x w:=by
 induction s with
 |pure a=>simp only[Jt,zab]at h;subst h;rfl
 |program k b=>exact b P h
 |mark m k b=>exact b h
 |_=>simp[Jt]at h
theorem LZ{s:Sem α}{x:α}(h:Jt P s=Tc x)(b:zc):QExec P s b x:=λ_ _=>qm h _
theorem QExec.bind{α β:Type}{s:Sem α}{f:α->Sem β}{x:α}{y:β}(h1:QExec P s h x)(b:QExec P (f x) h y):QExec P (s >>= f) h y:=by intro B d;rw[Sem.run_bind,h1 B d];exact b B d
theorem QExec.pure(x:α):QExec P (zdn x) h x:=λ_ _=>rfl
theorem QExec.val{s:Sem Value}(h1:QExec P s h v):QExec P (s >>= λx=>zdn (zdz x)) h (zdz v):=h1.bind (QExec.pure _)
theorem QExec.underlying{d:TypeDesc}(b:P.underlying t=Tc d):QExec P (Go.underlying t) h d:=by intro B e;simp[Go.underlying,program,b,Sem.run]
def ya(P:Program)(t:TypeId):Nat:=match P.info? t with
 |some i=>i.size
 |none=>0
theorem QExec.sizeOf{i:TypeInfo}(hi:P.info? t=Tc i):QExec P (Go.sizeOf t) h (ya P t):=by intro B d;simp[Go.sizeOf,typeInfo,program,hi,Sem.run,ya]
theorem info_of_underlying{d:TypeDesc}(b:P.underlying t=Tc d):∃i,P.info? t=Tc i:=by unfold Program.underlying at b;grind
inductive Atom where
 |int (k:IntKind)|bool|str|sl|mp|ptr|raw|ad
structure Sl where
 a:Option Addr
 len:Nat
 cap:Nat
@[reducible] def Atom.den:Atom->Type
 |.int _=>Int | .bool=>Bool | .str=>Bt | .sl=>Sl | .mp=>Option Nat | .ptr=>Option Addr | .raw=>Value | .ad=>Addr
def Atom.enc:(t:Atom)->t.den->Value
 |.int k,n=>.int k n
 |.bool,b=>.bool b
 |.str,s=>.string s
 |.sl,s=>.slice s.a s.len s.cap
 |.mp,m=>.map m
 |.ptr,p=>.pointer p
 |.raw,v=>v
 |.ad,p=>.pointer (Tc p)
def Atom.dec:(t:Atom)->Value->Option t.den
 |.int k,.int k' n=>if k=k' then Tc n else Td
 |.bool,.bool b=>Tc b
 |.str,.string s=>Tc s
 |.sl,.slice a l c=>Tc ⟨a,l,c⟩
 |.mp,.map m=>Tc m
 |.ptr,.pointer p=>Tc p
 |.raw,v=>Tc v
 |.ad,.pointer (Tc p)=>Tc p
 |_,_=>Td
theorem Atom.enc_of_dec{t:Atom}{x:t.den}(h:t.dec v=Tc x):t.enc x=v:=by
 cases t with
 |ad=>
  cases v with
  |pointer p=>
   cases p with
   |none=>simp[Atom.dec]at h
   |some a=>simp[Atom.dec]at h;rw[h];rfl
  |_=>simp[Atom.dec]at h
 |_=>cases v <;> simp_all[Atom.dec,Atom.enc] <;> (grind)
inductive VT where
 |one (t:Atom)
 |agg (l:List Atom)
inductive RT where
 |one (v:VT)
 |tup (l:List VT)
def uJ:List Atom->(List Value->Prop)->Prop
 |[],F=>F []
 |t::l,F=>∃x:t.den,uJ l λvs=>F (t.enc x::vs)
def xZ:VT->(Value->Prop)->Prop
 |.one t,F=>∃x:t.den,F (t.enc x)
 |.agg l,F=>uJ l λvs=>F (.agg vs.toArray)
def Aq:List VT->(List Value->Prop)->Prop
 |[],F=>F []
 |t::l,F=>xZ t λv=>Aq l λvs=>F (v::vs)
def lW:RT->(Value->Prop)->Prop
 |.one v,F=>xZ v F
 |.tup l,F=>Aq l λvs=>F (.tuple vs.toArray)
def qV:List Atom->(List Value->Prop)->Prop
 |[],F=>F []
 |t::l,F=>∀x:t.den,qV l λvs=>F (t.enc x::vs)
def tm:VT->(Value->Prop)->Prop
 |.one t,F=>∀x:t.den,F (t.enc x)
 |.agg l,F=>qV l λvs=>F (.agg vs.toArray)
def pw:List VT->(List Value->Prop)->Prop
 |[],F=>F []
 |t::l,F=>tm t λv=>pw l λvs=>F (v::vs)
def JZ:RT->(Value->Prop)->Prop
 |.one v,F=>tm v F
 |.tup l,F=>pw l λvs=>F (.tuple vs.toArray)
theorem Ys:∀{l:List Atom} {F G:List Value->Prop},uJ l F->qV l G->∃vs,vs.length=l.length/\F vs/\G vs
 |[],_,_,h,g=>⟨[],rfl,h,g⟩
 |_::_,_,_,⟨x,h⟩,g=>let ⟨vs,h0,h1,h2⟩:=Ys h (g x);⟨_,by simp[h0],h1,h2⟩
theorem wv:∀(l:List Atom),qV l λ_=>True
 |[]=>trivial
 |_::l=>λ_=>wv l
theorem xK{v:VT}{F G:Value->Prop}(h:xZ v F)(g:tm v G):∃u,F u/\G u:=by
 cases v with
 |one t=>obtain⟨x,h⟩:=h;exact⟨_,h,g x⟩
 |agg l=>obtain⟨vs,_,h1,b⟩:=Ys h g;grind
theorem zx6(v:VT):tm v λ_=>True:=by
 cases v with
 |one t=>exact λ_=>trivial
 |agg l=>exact wv l
theorem BU:∀{l:List VT} {F G:List Value->Prop},Aq l F->pw l G->∃vs,F vs/\G vs
 |[],_,_,h,g=>⟨[],h,g⟩
 |_::_,_,_,h,g=>let ⟨_,h1,h2⟩:=xK h g;let ⟨_,h3,h4⟩:=BU h1 h2;⟨_,h3,h4⟩
theorem Fe:∀(l:List VT),pw l λ_=>True
 |[]=>trivial
 |v::l=>by
  have h:=Fe l;simp only[pw];cases v with
  |one t=>exact λ_=>h
  |agg b=>
   simp only[tm];have key:∀(b:List Atom) (f:List Value->List Value),qV b λ_=>pw l λ_=>True:=λb _=>by
    induction b with
    |nil=>exact h
    |cons t b c=>exact λ_=>c
   exact key b id
theorem FO{r:RT}{F G:Value->Prop}(h:lW r F)(g:JZ r G):∃v,F v/\G v:=by
 cases r with
 |one v=>exact xK h g
 |tup l=>obtain⟨vs,h1,b⟩:=BU h g;grind
theorem rC{r:RT}{F:Value->Prop}(h:lW r F):∃v,F v:=by
 cases r with
 |one v=>obtain⟨u,h1,_⟩:=xK h (zx6 v);grind
 |tup l=>obtain⟨vs,h1,_⟩:=BU h (Fe l);grind
def DL:TypeDesc->Atom
 |.int k=>.int k
 |.bool=>.bool
 |.string=>.str
 |.slice _=>.sl
 |.map _ _=>.mp
 |.pointer _=>.ptr
 |_=>.raw
def uh(P:Program):Nat->TypeId->Option (List Atom)
 |0,_=>Td
 |n+1,t=>match P.underlying t with
  |some (.struct fs)=>fs.toList.foldr (λf l=>match uh P n f.type,l with
    |some x,some y=>Tc (x++y)
    |_,_=>Td) (Tc [])
  |some (.array m e)=>match uh P n e with
    |some x=>Tc (zd6 m x).flatten
    |none=>Td
  |some d=>Tc [DL d]
  |none=>Td
def kw(P:Program)(t:TypeId):Option VT:=match P.underlying t with
 |some (.struct _)|some (.array _ _)=>match uh P 8 t with
  |some l=>bif Nat.beq l.length (ya P t)then Tc (.agg l)else Td
  |none=>Td
 |some d=>Tc (.one (DL d))
 |none=>Td
def FP(P:Program):List TypeId->Option (List VT)
 |[]=>Tc []
 |t::l=>match kw P t,FP P l with
  |some x,some y=>Tc (x::y)
  |_,_=>Td
def pO(P:Program)(t:TypeId):Option RT:=match P.underlying t with
 |some (.tuple ts)=>match FP P ts.toList with
  |some l=>Tc (.tup l)
  |none=>Td
 |_=>match kw P t with
  |some v=>Tc (.one v)
  |none=>Td
def req:Option Bool->Prop->Prop
 |none,p=>p
 |some b,p=>b=Ta->p
def fK:Option Bool->Prop
 |none=>True
 |some b=>b=Ta
theorem req.out{p:Prop}(h:req g p)(c:fK g):p:=by
 cases g with
 |none=>exact h
 |some b=>exact h c
def zd(h:zc)(p:Addr):Nat->List Value->Prop
 |_,[]=>True
 |i,v::vs=>zf h (p.add i)=Tc v/\zd h p (i+1) vs
def mn(P:Program)(h:zc)(t:TypeId)(p:Value)(g:Option Bool)(K:Value->Prop):Prop:=
 match p,kw P t with
 |.pointer (Tc p),Tc (.one a)=>∃x:a.den,req g (zf h p=Tc (a.enc x))/\K (a.enc x)
 |.pointer (Tc p),Tc (.agg l)=>uJ l λvs=>req g (zd h p 0 vs)/\K (.agg vs.toArray)
 |_,_=>False
theorem I9{P:Program}{h:zc}{p:Addr}:∀(vs:List Value) (i:Nat) (b:Array Value),zd h p i vs->QExec P (loadCellsFrom p i vs.length b) h (b++vs.toArray)
 |[],i,b,_=>by intro B d;simp[loadCellsFrom]
 |v::vs,i,b,⟨h1,h2⟩=>by have c:=I9 (P:=P) vs (i+1) (b.push v) h2;intro B d;simp only[zbi,loadCellsFrom,Sem.run_bind,run_load];rw[FH,h1];simp only[Result.andThen_ok];rw[c B d];simp
theorem pC{a:Atom}{p:Addr}(c:kw P t=Tc (.one a))(i:zf h p=Tc v):QExec P (loadVar t p) h v:=by
 unfold kw at c;cases hu:P.underlying t with
 |none=>simp_all
 |some d=>
  rw[hu]at c;intro B e;have f:=QExec.underlying (h:=h) hu B e;have b:(isAgg t).run P (mk B e h)=.ok Tb (mk B e h):=by unfold isAgg;rw[Sem.run_bind,f];cases d <;> first|rfl|grind
  unfold loadVar;rw[Sem.run_bind,b];simp only[Result.andThen_ok,zcc,if_false,run_load];rw[FH,i]
theorem pP{l:List Atom}{p:Addr}{vs:List Value}(c:kw P t=Tc (.agg l))(u:vs.length=l.length)(r:zd h p 0 vs):QExec P (loadVar t p) h (.agg vs.toArray):=by
 unfold kw at c;cases hu:P.underlying t with
 |none=>simp_all
 |some d=>
  rw[hu]at c;obtain⟨i,hi⟩:=info_of_underlying hu;have b:(∃f,d=.struct f)\/(∃n e,d=.array n e):=by cases d <;> first|exact Or.inl ⟨_,rfl⟩|exact Or.inr ⟨_,_,rfl⟩|(simp at c)
  have s:ya P t=l.length:=by
   have k:(match uh P 8 t with
     |some l=>bif Nat.beq l.length (ya P t)then Tc (VT.agg l)else Td
     |none=>Td)=Tc (.agg l):=by
    rcases b with⟨f,rfl⟩|⟨n,e,rfl⟩ <;> exact c
   split at k;rename_i q _;cases hb:Nat.beq q.length (ya P t)with
   |false=>simp_all
   |true=>simp_all
   cases k
  intro B e;have m:=QExec.underlying (h:=h) hu B e;have hA:(isAgg t).run P (mk B e h)=.ok Ta (mk B e h):=by unfold isAgg;rw[Sem.run_bind,m];rcases b with⟨f,rfl⟩|⟨n,e',rfl⟩ <;> rfl
  have o:=QExec.sizeOf (h:=h) hi B e;unfold loadVar;rw[Sem.run_bind,hA];simp only[Result.andThen_ok,if_true];rw[Sem.run_bind,o];simp only[Result.andThen_ok];have w:=I9 (P:=P) vs 0 #[] r B e;unfold loadCells;simp_all
theorem KY{p:Value}{K:Value->Prop}(H:mn P h t p g K):
  ∃v,K v/\(fK g->QExec P (zd0 t p) h v):=by
 unfold mn at H;split at H;rename_i q a b;obtain⟨x,h1,c⟩:=H;exact⟨_,c,λe=>pC b (h1.out e)⟩;rename_i q l b;obtain⟨vs,h0,⟨h1,c⟩,_⟩:=Ys H (wv l);exact⟨_,c,λe=>pP b h0 (h1.out e)⟩;exact H.elim
def sC(P:Program)(t:TypeId)(x i:Value)(g:Option Bool)(K:Value->Prop):Prop:=
 match P.underlying t with
 |some (.slice el)=>match x,i with
  |.slice base len _,.int _ n=>∃a:Addr,req g (base=Tc a/\0<=n/\n<(len:Int))/\K (.pointer (Tc (a.add (n.toNat*ya P el))))
  |_,_=>False
 |some (.array len el)=>match x,i with
  |.pointer base,.int _ n=>∃a:Addr,req g (base=Tc a/\0<=n/\n<(len:Int))/\K (.pointer (Tc (a.add (n.toNat*ya P el))))
  |_,_=>False
 |_=>False
def qo(P:Program)(t:TypeId):Bool:=match P.info? t with
 |some _=>Ta
 |none=>Tb
theorem we(h:qo P t=Ta):∃i,P.info? t=Tc i:=by unfold qo at h;grind
theorem xy(t:TypeId)(B:World)(d:Nat):(∃i,P.info? t=Tc i)->(Go.sizeOf t).run P (mk B d h)=.ok (ya P t) (mk B d h):=λ⟨_,hi⟩=>QExec.sizeOf hi B d
theorem Zi{K:Value->Prop} (c:∀el,(P.underlying t=Tc (.slice el)\/∃n,P.underlying t=Tc (.array n el))->∃i,P.info? el=Tc i) (H:sC P t x i g K):
  ∃v,K v/\(fK g->∀h:zc,QExec P (zer t x i) h v):=by
 unfold sC at H;split at H;rename_i el b;split at H;rename_i base len cap k n;obtain⟨a,h1,e⟩:=H;refine⟨_,e,λm=>?_⟩;obtain⟨rfl,f,p⟩:=h1.out m;intro h B d;have o:=QExec.underlying (h:=h) b B d;have l:=xy (h:=h) el B d (c el (Or.inl b));unfold zer;simp[asIntOf,Sem.run_bind,o,l,f,p];exact H.elim;rename_i len el b;split at H;rename_i base k n;obtain⟨a,h1,e⟩:=H;refine⟨_,e,λm=>?_⟩;obtain⟨rfl,f,p⟩:=h1.out m;intro h B d;have o:=QExec.underlying (h:=h) b B d;have l:=xy (h:=h) el B d (c el (Or.inr ⟨_,b⟩));unfold zer;simp[asIntOf,Sem.run_bind,o,l,f,p,zd7];exact H.elim;exact H.elim
def qj(s:Bt)(i:Nat):Int:=((s.data[i]?.getD 0).toNat:Int)
def Ct(x i:Value)(g:Option Bool)(K:Value->Prop):Prop:=
 match x,i with
 |.string s,.int _ n=>req g (0<=n/\n<(s.size:Int))/\K (.int .u8 (qj s n.toNat))
 |_,_=>False
theorem LU(s:Bt)(i:Nat)(h:i<s.size):s[i]?=Tc (s.data[i]?.getD 0):=by have h':i<s.data.size:=h;rw[getElem?_pos s i h];simp[zbl h'];rfl
theorem IC{K:Value->Prop}(e:P.underlying t=Tc .string)(H:Ct x i g K):
  ∃v,K v/\(fK g->∀h:zc,QExec P (zes t x i) h v):=by
 unfold Ct at H;split at H;rename_i s k n;obtain⟨h1,c⟩:=H;refine⟨_,c,λm=>?_⟩;obtain⟨f,o⟩:=h1.out m;intro h B d;have b:=QExec.underlying (h:=h) e B d;unfold zes;have l:=LU s n.toNat (by omega);simp only[asIntOf,Sem.run_bind,b,Sem.run_pure,Result.andThen_ok,f,if_true,l,qj];exact H.elim
def iD(a:Option Addr)(sz l m:Nat):Option Addr:=if m=l then a else a.map (·.add (l*sz))
def js:Option Value->Int->Option Int
 |none,d=>Tc d
 |some (.int _ n),_=>Tc n
 |some _,_=>Td
def uu(P:Program)(t:TypeId)(x:Value)(lo hi mx:Option Value)(g:Option Bool)(K:Value->Prop):Prop:=
 match P.underlying t with
 |some .string=>match x,mx with
  |.string s,none=>match js lo 0,js hi (s.size:Int)with
   |some l,some r=>req g (0<=l/\l<=r/\r<=(s.size:Int))/\K (.string (s.extract l.toNat r.toNat))
   |_,_=>False
  |_,_=>False
 |some (.slice el)=>match x with
  |.slice a len cap=>match js lo 0,js hi (len:Int),js mx (cap:Int)with
   |some l,Tc r,some m=>(mx=Td\/∃v,hi=Tc v)/\req g (0<=l/\l<=r/\r<=m/\m<=(cap:Int))/\K (.slice (iD a (ya P el) l.toNat m.toNat) (r.toNat-l.toNat) (m.toNat-l.toNat))
   |_,_,_=>False
  |_=>False
 |some (.array n el)=>match x,mx with
  |.pointer (Tc a),none=>match js lo 0,js hi (n:Int)with
   |some l,some r=>req g (0<=l/\l<=r/\r<=(n:Int))/\K (.slice (iD (Tc a) (ya P el) l.toNat n) (r.toNat-l.toNat) (n-l.toNat))
   |_,_=>False
  |_,_=>False
 |_=>False
theorem wh{v:Option Value}{d n:Int}(h:js v d=Tc n):(v=Td/\n=d)\/∃k,v=Tc (.int k n):=by unfold js at h;grind
theorem j3{k:IntKind}{y:Nat}{c:BoundsCode}(h0:0<=n)(h1:n<=(y:Int)):QExec P (Instr.sliceBound (.int k n) y c) h n.toNat:=by intro B d;simp[Instr.sliceBound,asIntOf,h0,h1]
theorem Ka{n:Nat}{lo hi:Option Value}(f:js lo 0=Tc l)(m:js hi (n:Int)=Tc r)(c:0<=l)(i:l<=r)(b:r<=(n:Int)):
  QExec P (Instr.sliceBounds Tb n n lo hi Td) h (l.toNat,r.toNat,n):=by
 have e:(r.toNat:Int)=r:=Int.toNat_of_nonneg (by omega);rcases wh f with⟨rfl,rfl⟩|⟨k,rfl⟩ <;> rcases wh m with⟨rfl,rfl⟩|⟨k',rfl⟩;exact QExec.pure _;exact QExec.bind (QExec.pure n) (QExec.bind (j3 (by omega) b) (QExec.pure _));exact QExec.bind (QExec.pure n) (QExec.bind (QExec.pure n) (QExec.bind (j3 c i) (QExec.pure _)));exact QExec.bind (QExec.pure n) (QExec.bind (j3 (by omega) b) (QExec.bind (j3 c (by omega)) (QExec.pure _)))
theorem Vh{len cap:Nat}{lo hi mx:Option Value}{l r m:Int}(f:js lo 0=Tc l)(i:js hi (len:Int)=Tc r)(p:js mx (cap:Int)=Tc m) (h0:mx=Td\/∃v,hi=Tc v) (b:0<=l) (q:l<=r) (o:r<=m) (n:m<=(cap:Int)):
  QExec P (Instr.sliceBounds Ta len cap lo hi mx) h (l.toNat,r.toNat,m.toNat):=by
 have e:(r.toNat:Int)=r:=Int.toNat_of_nonneg (by omega);have u:(m.toNat:Int)=m:=Int.toNat_of_nonneg (by omega);rcases wh p with⟨rfl,rfl⟩|⟨t,rfl⟩;rcases wh f with⟨rfl,rfl⟩|⟨k,rfl⟩ <;> rcases wh i with⟨rfl,rfl⟩|⟨s,rfl⟩;exact QExec.pure _;exact QExec.bind (QExec.pure cap) (QExec.bind (j3 (by omega) o) (QExec.pure _));exact QExec.bind (QExec.pure cap) (QExec.bind (QExec.pure len) (QExec.bind (j3 b q) (QExec.pure _)));exact QExec.bind (QExec.pure cap) (QExec.bind (j3 (by omega) o) (QExec.bind (j3 b (by omega)) (QExec.pure _)));rcases h0 with h0|⟨v,rfl⟩;cases h0;rcases wh i with⟨c,_⟩|⟨s,c⟩;cases c;cases c;rcases wh f with⟨rfl,rfl⟩|⟨k,rfl⟩;exact QExec.bind (x:=m.toNat) (j3 (by omega) n) (QExec.bind (j3 (by omega) (by omega)) (QExec.pure _));exact QExec.bind (x:=m.toNat) (j3 (by omega) n) (QExec.bind (j3 (by omega) (by omega)) (QExec.bind (j3 b (by omega)) (QExec.pure _)))
theorem Ju{lo hi mx:Option Value}{K:Value->Prop} (q:∀el,(P.underlying t=Tc (.slice el)\/∃n,P.underlying t=Tc (.array n el))->∃i,P.info? el=Tc i) (H:uu P t x lo hi mx g K):
  ∃v,K v/\(fK g->∀h:zc,QExec P (zeb t x lo hi mx) h v):=by
 unfold uu at H;split at H;rename_i b;split at H;rename_i s;split at H;rename_i l r e k;obtain⟨h1,f⟩:=H;refine⟨_,f,λp=>?_⟩;obtain⟨o,u,w⟩:=h1.out p;intro h B d;have c:=QExec.underlying (h:=h) b B d;have bb:=Ka (P:=P) (h:=h) e k o u w B d;unfold zeb;rw[Sem.run_bind,c];simp only[Result.andThen_ok];unfold Instr.slice;simp_all;exact H.elim;exact H.elim;rename_i el b;split at H;rename_i a len cap;split at H;rename_i l r m e k z;obtain⟨h0,h1,f⟩:=H;refine⟨_,f,λp=>?_⟩;obtain⟨o,u,w,A⟩:=h1.out p;intro h B d;have c:=QExec.underlying (h:=h) b B d;have y:=xy (h:=h) el B d (q el (.inl b));have bb:=Vh (P:=P) (h:=h) e k z h0 o u w A B d;unfold zeb;rw[Sem.run_bind,c];simp only[Result.andThen_ok];unfold Instr.slice;rw[Sem.run_bind,c];simp[bb,y,iD];exact H.elim;exact H.elim;rename_i n el b;split at H;rename_i a;split at H;rename_i l r e k;obtain⟨h1,f⟩:=H;refine⟨_,f,λp=>?_⟩;obtain⟨o,u,w⟩:=h1.out p;intro h B d;have c:=QExec.underlying (h:=h) b B d;have y:=xy (h:=h) el B d (q el (.inr ⟨n,b⟩));have bb:=Ka (P:=P) (h:=h) e k o u w B d;unfold zeb;rw[Sem.run_bind,c];simp only[Result.andThen_ok,zd7,Sem.run_bind,Sem.run_pure,bb,y];unfold iD;split <;> rfl;exact H.elim;exact H.elim;exact H.elim
end
section
variable {P:Program} {f:FuncId} {h:zc} {K:Value -> zc -> Prop} {t ty t':TypeId} {g:Option Bool} {w w':World} {v:Value} {o:Oper} {ρ:Operand -> Value} {a:Act}
def XC(P:Program)(f:FuncId)(args:Array Value)(h:zc)(R:Value->zc->Prop):Prop:=
 ∀B d,Calls P f args (mk B d h) λe w'=>∃v b h',e=.returned v/\w'=mk B b h'/\R v h'
theorem XC.mono{args:Array Value}{R b:Value->zc->Prop}(H:XC P f args h R)(e:∀v h',R v h'->b v h'):XC P f args h b:= λB d=>(H B d).mono λ_ _ ⟨v,i,h',c,k,r⟩=>⟨v,i,h',c,k,e _ _ r⟩
def Qa(P:Program)(s:Sem Value)(h:zc)(K:Value->zc->Prop):Prop:=∀B d,∃v b h',s.run P (mk B d h)=.ok v (mk B b h')/\K v h'
def XRunU(P:Program)(s:Sem Unit)(h:zc)(K:zc->Prop):Prop:=∀B d,∃b h',s.run P (mk B d h)=.ok () (mk B b h')/\K h'
theorem XRunU.mono{s:Sem Unit}{K b:zc->Prop}(H:XRunU P s h K)(c:∀h',K h'->b h'):XRunU P s h b:= λB d=>let ⟨d',h',e,k⟩:=H B d;⟨d',h',e,c _ k⟩
def Wm(n:Nat):Prop:=n<=9223372036854775807
def kG(P:Program)(s:Sem Next)(K:Value->Prop):Prop:=match Jt P s with
 |some (.value v)=>K v
 |_=>False
def uq(P:Program)(ty:TypeId)(s:Sem Value)(g:Option Bool)(h:zc)(K:Value->Prop):Prop:=match pO P ty with
 |some rt=>lW rt λv=>req g (QExec P s h v)/\K v
 |none=>False
def w0(P:Program)(ty:TypeId)(s:Sem Value)(g:Option Bool)(K:Value->Prop):Prop:=match pO P ty with
 |some rt=>lW rt λv=>req g (∀h:zc,QExec P s h v)/\K v
 |none=>False
def oR(P:Program)(t:TypeId):Bool:=match P.underlying t with
 |some (.slice _)=>Ta
 |_=>Tb
def pD(P:Program)(t:TypeId):Bool:=match P.underlying t with
 |some (.pointer e)=>Nat.beq e (P.pointee t)
 |_=>Tb
theorem DI(h:pD P t=Ta):P.underlying t=Tc (.pointer (P.pointee t)):=by unfold pD at h;grind [zak]
def uQ(P:Program)(t:TypeId)(s:Sem Next)(c:BinOp)(x y:Value)(g:Option Bool)(K:Value->Prop):Prop:=
 match c,x,y with
 |.eql,.slice a _ _,.slice Td 0 0=>bif oR P t then K (.bool a.isNone)else kG P s K
 |.neq,.slice a _ _,.slice Td 0 0=>bif oR P t then K (.bool (!a.isNone))else kG P s K
 |.eql,.pointer a,.pointer none=>bif pD P t then K (.bool a.isNone)else kG P s K
 |.neq,.pointer a,.pointer none=>bif pD P t then K (.bool (!a.isNone))else kG P s K
 |.quo,.int k a,.int k' b=>k=k'/\req g (b≠0)/\K (.int k (k.wrap (a.tdiv b)))
 |.rem,.int k a,.int k' b=>k=k'/\req g (b≠0)/\K (.int k (a.tmod b))
 |.add,.string a,.string b=>req g (Wm (a.size+b.size))/\K (.string (a++b))
 |_,_,_=>kG P s K
def A8(b:BinOp)(y:Operand):Bool:=match y with
 |.const _=>Tb
 |_=>match b with
  |.shl | .shr=>Ta
  |_=>Tb
def vn(c:BinOp)(x y:Value)(g:Option Bool)(K:Value->Prop):Prop:=
 match x,y with
 |.int k a,.int _ b=>match c with
  |.shl=>req g (0<=b)/\K (.int k (k.wrap (a*2 ^ (min b.toNat k.bits))))
  |.shr=>req g (0<=b)/\K (.int k (a.fdiv (2 ^ (min b.toNat k.bits))))
  |_=>False
 |_,_=>False
def rS(P:Program)(t:TypeId)(y:Operand):Bool:=match y with
 |.const .nilIface=>match P.underlying t with
  |some (.interface _)=>Ta
  |_=>Tb
 |_=>Tb
def m3:Value->Bool
 |.nilIface=>Ta
 |.iface _ _=>Ta
 |_=>Tb
def nn:Value->Bool
 |.nilIface=>Ta
 |_=>Tb
def ul(b:BinOp)(x y:Value)(g:Option Bool)(K:Value->Prop):Prop:=match y with
 |.nilIface=>match b with
  |.eql=>req g (m3 x=Ta)/\K (.bool (nn x))
  |.neq=>req g (m3 x=Ta)/\K (.bool (!nn x))
  |_=>False
 |_=>False
def E7(b:Builtin)(c:Array TypeId)(e:TypeId)(args:Array Value):Option (Sem Value):=
 match b with
 |.append=>Tc (zav c e args)
 |.copy=>Tc (Builtin.copy_ c e args)
 |.clear=>Tc (Builtin.clear_ c e args)
 |.delete=>Tc (Builtin.delete_ c e args)
 |.len=>Tc (zda c e args)
 |_=>Td
def yI(P:Program)(s:Sem Next)(ty:TypeId)(b:Array TypeId)(args:Array Value)(g:Option Bool)(h:zc)(K:Value->Prop):Prop:=
 match (args[0]?:Option Value)with
 |some (Value.map _)=>uq P ty (zda b ty args) g h K
 |_=>kG P s K
def kK(P:Program)(t:TypeId):Bool:=match P.underlying t with
 |some (.slice el)=>qo P el
 |some (.array _ el)=>qo P el
 |_=>Ta
theorem Zb(h:kK P t=Ta):∀el,(P.underlying t=Tc (.slice el)\/∃n,P.underlying t=Tc (.array n el))->∃i,P.info? el=Tc i:=by intro el b;unfold kK at h;grind [we]
def rB(P:Program)(t:TypeId):Bool:=match P.underlying t with
 |some .string=>Ta
 |_=>Tb
theorem KC(h:rB P t=Ta):P.underlying t=Tc .string:=by unfold rB at h;grind
def tF(P:Program)(s:Sem Next)(x:Value)(g:Option Bool)(K:Value->Prop):Prop:=match x with
 |.pointer p=>∃a:Addr,req g (p=Tc a)/\K (.pointer (Tc a))
 |_=>kG P s K
def Q8(P:Program)(o:Oper)(ρ:Operand->Value)(g:Option Bool)(h:zc)(K:Value->Prop):Prop:=
 match o.op with
 |.load t a=>mn P h t (ρ a) g K
 |.indexAddr t x i=>bif kK P t then sC P t (ρ x) (ρ i) g K else False
 |.index t x i=>bif rB P t then Ct (ρ x) (ρ i) g K else w0 P o.type (zes t (ρ x) (ρ i)) g K
 |.slice t x lo hi mx=>bif kK P t then uu P t (ρ x) (lo.map ρ) (hi.map ρ) (mx.map ρ) g K else False
 |.binOp b t x y _=>bif A8 b y then vn b (ρ x) (ρ y) g K else bif rS P t y then ul b (ρ x) (ρ y) g K else uQ P t (execOp ρ o) b (ρ x) (ρ y) g K
 |.lookup t m k ok=>uq P o.type (zd1 t (ρ m) (ρ k) ok) g h K
 |.nilCheck x=>tF P (execOp ρ o) (ρ x) g K
 |.call c=>match c.callee with
  |.builtin .len=>yI P (execOp ρ o) o.type c.argTypes (c.args.map ρ) g h K
  |_=>kG P (execOp ρ o) K
 |_=>kG P (execOp ρ o) K
theorem qf{s:Sem Next}{K:Value->Prop}(H:kG P s K)(g:Option Bool):∃v,K v/\(fK g->∀h:zc,QExec P s h (.value v)):=by unfold kG at H;grind [LZ]
theorem DT{s:Sem Value}{K:Value->Prop}(H:uq P ty s g h K):∃v,K v/\(fK g->QExec P s h v):=by unfold uq at H;split at H;obtain⟨v,h1,c⟩:=rC H;exact⟨v,c,λb=>h1.out b⟩;exact H.elim
theorem Ld{s:Sem Value}{K:Value->Prop}(H:w0 P ty s g K):∃v,K v/\(fK g->∀h:zc,QExec P s h v):=by unfold w0 at H;split at H;obtain⟨v,h1,c⟩:=rC H;exact⟨v,c,λb=>h1.out b⟩;exact H.elim
theorem Zv{c:BinOp}(t:TypeId)(x y:Operand)(a b:Value)(h1:(c matches .eql | .neq)=Tb):eqGuard c t x y a b=pure ():=by unfold eqGuard;grind
theorem vU{s:Sem Value}(h:s.run P w=.ok v w'):(s >>= λx=>(zdn (zdz x):Sem Next)).run P w=.ok (.value v) w':=by simp_all
theorem qN{s:Sem Next}{K:Value->Prop}(h:zc)(H:∃v,K v/\(fK g->∀h:zc,QExec P s h (.value v))):∃v,K v/\(fK g->QExec P s h (.value v)):=
 let ⟨v,h1,h2⟩:=H;⟨v,h1,λb=>h2 b h⟩
theorem Oh{q:BinOp}{x y:Operand}(r:o.op=.binOp q t x y t'){K:Value->Prop}
  (H:uQ P t (execOp ρ o) q (ρ x) (ρ y) g K):∃v,K v/\(fK g->∀h:zc,QExec P (execOp ρ o) h (.value v)):=by
 have f:∀(q:BinOp) (x y:Operand) (a b:Option Addr) (l c z c':Nat) (w:World),(eqGuard q t x y (.slice a l c) (.slice b z c')).run P w=.ok () w:=λq x y a b l c z c' w=>by unfold eqGuard;simp
 have e:∀(q:BinOp) (x y:Operand) (a b:Option Addr) (w:World),(eqGuard q t x y (.pointer a) (.pointer b)).run P w=.ok () w:=λq x y a b w=>by unfold eqGuard;simp
 unfold uQ at H;split at H;rename_i a l c m i;cases hs:oR P t with
 |false=>rw[hs]at H;exact qf H g
 |true=>
  rw[hs,zH]at H;refine⟨_,H,λp h B d=>?_⟩;have n:∃el,P.underlying t=Tc (.slice el):=by unfold oR at hs;split at hs;simp_all;cases hs
  obtain⟨el,n⟩:=n;simp only[execOp,r,m,i];refine vU ?_;rw[Sem.run_bind,f];simp only[Result.andThen_ok,binOp,Sem.run_bind,run_equal_slice_nil _ t _ _ _ _ n];rfl
 rename_i a l c m i;cases hs:oR P t with
 |false=>rw[hs]at H;exact qf H g
 |true=>
  rw[hs,zH]at H;refine⟨_,H,λp h B d=>?_⟩;have n:∃el,P.underlying t=Tc (.slice el):=by unfold oR at hs;split at hs;simp_all;cases hs
  obtain⟨el,n⟩:=n;simp only[execOp,r,m,i];refine vU ?_;rw[Sem.run_bind,f];simp only[Result.andThen_ok,binOp,Sem.run_bind,run_equal_slice_nil _ t _ _ _ _ n];rfl
 rename_i a m i;cases hs:pD P t with
 |false=>rw[hs]at H;exact qf H g
 |true=>rw[hs,zH]at H;refine⟨_,H,λp h B d=>?_⟩;have n:=DI hs;simp only[execOp,r,m,i];refine vU ?_;rw[Sem.run_bind,e];simp only[Result.andThen_ok,binOp,Sem.run_bind,run_equal_pointer_nil _ t _ n];rfl
 rename_i a m i;cases hs:pD P t with
 |false=>rw[hs]at H;exact qf H g
 |true=>rw[hs,zH]at H;refine⟨_,H,λp h B d=>?_⟩;have n:=DI hs;simp only[execOp,r,m,i];refine vU ?_;rw[Sem.run_bind,e];simp only[Result.andThen_ok,binOp,Sem.run_bind,run_equal_pointer_nil _ t _ n];rfl
 rename_i k a C b m i;obtain⟨rfl,h1,s⟩:=H;refine⟨_,s,λp=>?_⟩;have u:=h1.out p;intro h B d;simp only[execOp,r,m,i];rw[Zv _ _ _ _ _ rfl];simp[binOp,Op.intDiv,u];rename_i k a C b m i;obtain⟨rfl,h1,s⟩:=H;refine⟨_,s,λp=>?_⟩;have u:=h1.out p;intro h B d;simp only[execOp,r,m,i];rw[Zv _ _ _ _ _ rfl];simp[binOp,Op.intDiv,u];rename_i a b m i;obtain⟨h1,s⟩:=H;refine⟨_,s,λp=>?_⟩;have u:=h1.out p;intro h B d;simp only[execOp,r,m,i];rw[Zv _ _ _ _ _ rfl];have A:¬((a.size+b.size:Nat):Int)>IntKind.i64.max:=by
  unfold Wm at u;have:IntKind.i64.max=9223372036854775807:=by decide
  omega
 simp only[binOp,Op.stringOp,za A];rfl;exact qf H g
theorem Sy{m:BinOp}{x y:Operand}(f:o.op=.binOp m t x y t'){K:Value->Prop}
  (H:vn m (ρ x) (ρ y) g K):∃v,K v/\(fK g->∀h:zc,QExec P (execOp ρ o) h (.value v)):=by
 unfold vn at H;split at H;rename_i k a p b l i;split at H;obtain⟨h1,c⟩:=H;refine⟨_,c,λe h B d=>?_⟩;have n:=h1.out e;simp only[execOp,f,l,i];rw[Zv _ _ _ _ _ rfl];simp only[binOp,Op.shift,za (show¬b<0 by omega)];rfl;obtain⟨h1,c⟩:=H;refine⟨_,c,λe h B d=>?_⟩;have n:=h1.out e;simp only[execOp,f,l,i];rw[Zv _ _ _ _ _ rfl];simp only[binOp,Op.shift,za (show¬b<0 by omega)];rfl;exact H.elim;exact H.elim
theorem ZE{b:BinOp}{x y:Operand}(k:o.op=.binOp b t x y t'){K:Value->Prop}
  (i:rS P t y=Ta) (H:ul b (ρ x) (ρ y) g K):∃v,K v/\(fK g->∀h:zc,QExec P (execOp ρ o) h (.value v)):=by
 have f:∃ms,P.underlying t=Tc (.interface ms)/\y=.const .nilIface:=by unfold rS at i;split at i;grind;cases i
 obtain⟨ms,f,rfl⟩:=f;have key:∀{u:Value} (h:zc),m3 u=Ta->QExec P (ze0 t u .nilIface) h (nn u):=by intro u h hi B d;have n:=QExec.underlying (h:=h) f B d;unfold ze0 Op.maxDepth;cases u <;> first|(cases hi;done)|(unfold Op.equalIn;rw[Sem.run_bind,n];rfl)
 have m:∀b u (h:zc),m3 u=Ta->QExec P (eqGuard b t x (.const .nilIface) u .nilIface) h ():=by intro b u h hi B d;unfold eqGuard;cases u <;> first|simp|simp
 have c:∀b u,m3 u=Ta->(binOp b t u .nilIface=match b with | .eql=>(do pure (.bool (<-ze0 t u .nilIface))) | .neq=>(do pure (.bool (!(<-ze0 t u .nilIface))))|_=>binOp b t u .nilIface):=by intro b u hi;cases u <;> first|(cases hi;done)|(cases b <;> rfl)
 unfold ul at H;split at H;rename_i l;split at H;refine⟨_,H.2,λe h=>?_⟩;have hi:=H.1.out e;simp only[execOp,k,l];refine QExec.val ((m _ _ h hi).bind ?_);rw[c _ _ hi];exact(key h hi).bind (QExec.pure _);refine⟨_,H.2,λe h=>?_⟩;have hi:=H.1.out e;simp only[execOp,k,l];refine QExec.val ((m _ _ h hi).bind ?_);rw[c _ _ hi];exact(key h hi).bind (QExec.pure _);exact H.elim;exact H.elim
theorem tM{b:BinOp}{x y:Operand}(c:o.op=.binOp b t x y t'){K:Value->Prop}
  (H:bif A8 b y then vn b (ρ x) (ρ y) g K else bif rS P t y then ul b (ρ x) (ρ y) g K else uQ P t (execOp ρ o) b (ρ x) (ρ y) g K):∃v,K v/\(fK g->∀h:zc,QExec P (execOp ρ o) h (.value v)):=by
 cases hb:A8 b y with
 |true=>rw[hb]at H;exact Sy c H
 |false=>
  rw[hb]at H;cases hn:rS P t y with
  |true=>rw[hn]at H;exact ZE c hn H
  |false=>rw[hn]at H;exact Oh c H
theorem z3y{c:Call}(b:o.op=.call c)(i:c.callee=.builtin .len){K:Value->Prop}
  (H:yI P (execOp ρ o) o.type c.argTypes (c.args.map ρ) g h K):∃v,K v/\(fK g->QExec P (execOp ρ o) h (.value v)):=by
 unfold yI at H;split at H;obtain⟨v,h1,e⟩:=DT H;refine⟨v,h1,λf=>?_⟩;have:=e f;intro B d;simp only[execOp,b,resolve,i,Sem.run_bind,Sem.run_pure,Result.andThen_ok,invoke,builtin];rw[this B d];rfl;exact qN h (qf H g)
theorem Ci{K:Value->Prop}(H:Q8 P o ρ g h K):∃v,K v/\(fK g->QExec P (execOp ρ o) h (.value v)):=by
 unfold Q8 at H;split at H;rename_i t a b;obtain⟨v,h1,e⟩:=KY H;refine⟨v,h1,λf=>?_⟩;simp only[execOp,b];exact(e f).val;rename_i t x i b;cases he:kK P t with
 |false=>simp_all
 |true=>rw[he]at H;obtain⟨v,h1,e⟩:=Zi (Zb he) H;refine⟨v,h1,λf=>?_⟩;simp only[execOp,b];exact(e f h).val
 rename_i t x i b;cases he:rB P t with
 |false=>rw[he]at H;obtain⟨v,h1,e⟩:=Ld H;refine⟨v,h1,λf=>?_⟩;simp only[execOp,b];exact(e f h).val
 |true=>rw[he]at H;obtain⟨v,h1,e⟩:=IC (KC he) H;refine⟨v,h1,λf=>?_⟩;simp only[execOp,b];exact(e f h).val
 rename_i t x lo hi mx b;cases he:kK P t with
 |false=>simp_all
 |true=>rw[he]at H;obtain⟨v,h1,e⟩:=Ju (Zb he) H;refine⟨v,h1,λf=>?_⟩;simp only[execOp,b];exact(e f h).val
 rename_i q t x y t' b;exact qN h (tM b H);rename_i t m k ok b;obtain⟨v,h1,e⟩:=DT H;refine⟨v,h1,λf=>?_⟩;simp only[execOp,b];exact(e f).val;rename_i x b;unfold tF at H;split at H;rename_i p n;obtain⟨a,h1,e⟩:=H;refine⟨_,e,λf=>?_⟩;have l:=h1.out f;subst l;intro B d;simp only[execOp,b,n];rfl;exact qN h (qf H g);rename_i c b;split at H;simp_all[z3y];exact qN h (qf H g);exact qN h (qf H g)
def lC(o:Oper):Bool:=match o.op with
 |.lookup .. => Tb
 |.call c=>match c.callee with
  |.builtin .len=>Tb
  |_=>Ta
 |_=>Ta
theorem qek{p:Addr}(H:zf h p=Tc v):p.block<h.size:=by unfold zf at H;grind
theorem Kp{h h':zc}(k:Keep h.size h h'){p:Addr}(H:zf h p=Tc v):zf h' p=Tc v:=by have:=qek H;unfold zf at H ⊢;rw[k.get _ this];exact H
theorem HU{h h':zc}(k:Keep h.size h h'){p:Addr}:∀{vs:List Value} {i:Nat},zd h p i vs->zd h' p i vs
 |[],_,_=>trivial
 |_::_,_,⟨h1,h2⟩=>⟨Kp k h1,HU k h2⟩
theorem tz{K:Value->Prop}(w:lC o=Ta)(H:Q8 P o ρ g h K):∃v,K v/\(fK g->∀h',Keep h.size h h'->QExec P (execOp ρ o) h' (.value v)):=by
 unfold Q8 at H;split at H;rename_i t a e;unfold mn at H;split at H;rename_i q b r u;obtain⟨x,h1,f⟩:=H;refine⟨_,f,λn h' s=>?_⟩;simp only[execOp,e,r];exact(pC u (Kp s (h1.out n))).val;rename_i q l r u;obtain⟨vs,h0,⟨h1,f⟩,_⟩:=Ys H (wv l);refine⟨_,f,λn h' s=>?_⟩;simp only[execOp,e,r];exact(pP u h0 (HU s (h1.out n))).val;exact H.elim;rename_i t x i e;cases he:kK P t with
 |false=>simp_all
 |true=>rw[he]at H;obtain⟨v,h1,f⟩:=Zi (Zb he) H;refine⟨v,h1,λn h' _=>?_⟩;simp only[execOp,e];exact(f n h').val
 rename_i t x i e;cases he:rB P t with
 |false=>rw[he]at H;obtain⟨v,h1,f⟩:=Ld H;refine⟨v,h1,λn h' _=>?_⟩;simp only[execOp,e];exact(f n h').val
 |true=>rw[he]at H;obtain⟨v,h1,f⟩:=IC (KC he) H;refine⟨v,h1,λn h' _=>?_⟩;simp only[execOp,e];exact(f n h').val
 rename_i t x lo hi mx e;cases he:kK P t with
 |false=>simp_all
 |true=>rw[he]at H;obtain⟨v,h1,f⟩:=Ju (Zb he) H;refine⟨v,h1,λn h' _=>?_⟩;simp only[execOp,e];exact(f n h').val
 rename_i C t x y t' e;obtain⟨v,h1,f⟩:=tM e H;grind;rename_i t m k ok e;simp[lC,e]at w;rename_i x e;unfold tF at H;split at H;rename_i p z;obtain⟨a,h1,f⟩:=H;refine⟨_,f,λn h' _=>?_⟩;have r:=h1.out n;subst r;intro B d;simp only[execOp,e,z];rfl;obtain⟨v,h1,f⟩:=qf H g;grind;rename_i c e;split at H;rename_i A;simp[lC,e,A]at w;obtain⟨v,h1,f⟩:=qf H g;grind;obtain⟨v,h1,f⟩:=qf H g;grind
def nC(P:Program){α:Type}:Sem α->zc->(α->zc->Prop)->Prop
 |.pure a,h,K=>K a h
 |.program k,h,K=>nC P (k P) h K
 |.mark _ k,h,K=>nC P k h K
 |.new o k,h,K=>nC P (k h.size) (h.push o) K
 |_,_,_=>False
theorem wF{α:Type}{s:Sem α}{K:α->zc->Prop}(H:nC P s h K)(B:World)(d:Nat):∃x h',s.run P (mk B d h)=.ok x (mk B d h')/\K x h':=by
 induction s generalizing h with
 |pure a=>exact⟨a,h,rfl,H⟩
 |program k b=>exact b P H
 |mark m k b=>exact b H
 |new o k b=>obtain⟨x,h',h1,c⟩:=b h.size H;exact⟨x,h',h1,c⟩
 |_=>exact H.elim
def typed(P:Program)(ty:TypeId)(v:Value)(K:Value->Prop):Prop:=match pO P ty with
 |some rt=>lW rt λb=>v=b/\K b
 |none=>False
theorem Zw{K:Value->Prop}(H:typed P ty v K):K v:=by unfold typed at H;split at H;obtain⟨b,h1,c⟩:=rC H;grind;exact H.elim
def zo(P:Program)(f:FuncId):Bool:=match P.funcs[f]? with
 |some fn=>(match fn.body with
  |some _=>Ta
  | none => false) && !(fn.name == "runtime.NumGoroutine")
 |none=>Tb
theorem Jw(h:zo P f=Ta)(args:Array Value)(w:World):(callFunc f args).run P w=.ok (.enter f args) w:=by unfold zo at h;split at h;rename_i fn b;simp only[zan,zd4]at h;obtain⟨h1,c⟩:=h;unfold callFunc;simp only[program,Sem.run_bind,Sem.run,Result.andThen_ok,b];split at h1;simp_all;cases h1;cases h
def po(P:Program)(v:Value)(args:Array Value)(K:FuncId->Array Value->Prop):Prop:=match v with
 |.func (.func f) first cap=>zo P f=Ta/\K f (first++args++cap)
 |_=>False
theorem JR{c:Call}{x:Operand}(b:o.op=.call c)(i:c.callee=.value x){K:FuncId->Array Value->Prop}(H:po P (ρ x) (c.args.map ρ) K):
  ∃f args,K f args/\∀w,(execOp ρ o).run P w=.ok (.enter f args) w:=by
 unfold po at H;split at H;rename_i f first cap e
 obtain⟨h1,h⟩:=H;refine⟨_,_,h,λw=>?_⟩;simp only[execOp,b,resolve,i,e,zdt,Sem.run_bind,Sem.run_pure,Result.andThen_ok,invoke];exact Jw h1 _ w;exact H.elim
def sI:Operand->Bool
 |.func _=>Ta
 |_=>Tb
def V8(P:Program)(f:FuncId):Bool:=match P.funcs[f]? with
 |some fn=>(match fn.body with
  |some _=>Tb
  |none=>Ta)
 |none=>Tb
def LL(P:Program)(f:FuncId)(args:Array Value)(h:zc)(K:Value->zc->Prop):Prop:=∀B d,∃v b h',(callFunc f args).run P (mk B d h)=.ok (.value v) (mk B b h')/\K v h'
def Du(P:Program):Operand->Bool
 |.func f=>V8 P f
 |_=>Tb
def A5(P:Program)(v:Value)(args:Array Value)(h:zc)(K:Value->zc->Prop):Prop:=match v with
 |.func (.func f) first cap=>LL P f (first++args++cap) h K
 |_=>False
theorem Pw{c:Call}{x:Operand}(e:o.op=.call c)(l:c.callee=.value x)(H:A5 P (ρ x) (c.args.map ρ) h K)(B:World)(d:Nat):
  ∃v b h',(execOp ρ o).run P (mk B d h)=.ok (.value v) (mk B b h')/\K v h':=by
 unfold A5 at H;split at H;rename_i f first cap i
 obtain⟨v,b,h',h1,k⟩:=H B d;refine⟨v,b,h',?_,k⟩;simp only[execOp,e,resolve,l,i,zdt,Sem.run_bind,Sem.run_pure,Result.andThen_ok,invoke];exact h1;exact H.elim
def Er(P:Program)(t:TypeId):Bool:=match P.underlying t with
 |some (.map _ _)=>Ta
 |_=>Tb
def vr(P:Program)(o:Oper)(ρ:Operand->Value)(h:zc)(K:Value->zc->Prop):Prop:=
 match o.op with
 |.store t a x=>XRunU P (zag t (ρ a) (ρ x)) h λh'=>K undef h'
 |.mapUpdate t m k x=>XRunU P (zc7 t (ρ m) (ρ k) (ρ x)) h λh'=>K undef h'
 |.insert t m k x=>XRunU P (zc7 t (ρ m) (ρ k) (ρ x)) h λh'=>K undef h'
 |.entryStore t m s x=>XRunU P (Instr.entryStore t (ρ m) (ρ s) (ρ x)) h λh'=>K undef h'
 |.mapEntry t m k=>Qa P (Instr.mapEntry t (ρ m) (ρ k)) h λv h'=>typed P o.type v λe=>K e h'
 |.makeSlice t l c=>Qa P (Instr.makeSlice t (ρ l) (ρ c)) h λv h'=>typed P o.type v λe=>K e h'
 |.convert s t x=>Qa P (convert s t (ρ x)) h λv h'=>typed P o.type v λe=>K e h'
 |.typeAssert x t t' ok=>Qa P (Instr.typeAssert (ρ x) t t' ok) h λv h'=>typed P o.type v λe=>K e h'
 |.range t x=>bif Er P t then Qa P (zet t (ρ x)) h λv h'=>∃q:Option Addr,v=.pointer q/\K (.pointer q) h' else nC P (execOp ρ o) h λn h'=>match n with
   |.value v=>K v h'
   |.skip=>K undef h'
   |_=>False
 |.next x s=>bif s then Qa P (zep (ρ x) s o.type) h λv h'=>(v=.tuple #[.bool Tb]/\K (.tuple #[.bool Tb]) h')\/∃k u:Int,v=.tuple #[.bool Ta,.int .i64 k,.int .i32 u]/\K (.tuple #[.bool Ta,.int .i64 k,.int .i32 u]) h'
  else Qa P (zep (ρ x) s o.type) h λv h'=>(v=.tuple #[.bool Tb]/\K (.tuple #[.bool Tb]) h')\/∃k u:Value,v=.tuple #[.bool Ta,k,u]/\K (.tuple #[.bool Ta,k,u]) h'
 |.entry x=>Qa P (zeu (ρ x)) h λv h'=>∃k u:Value,v=.tuple #[k,u]/\K (.tuple #[k,u]) h'
 |.call c=>match c.callee with
  |.builtin b=>match E7 b c.argTypes o.type (c.args.map ρ)with
   |some s=>Qa P s h λv h'=>typed P o.type v λe=>K e h'
   |none=>False
  |.value x=>bif Du P x then A5 P (ρ x) (c.args.map ρ) h (λv h'=>typed P o.type v λe=>K e h')else bif sI x then(nC P (execOp ρ o) h λn h'=>match n with
   |.enter f args=>XC P f args h' λv i=>typed P o.type v λe=>K e i
   |.value v=>K v h'
   |_=>False)else po P (ρ x) (c.args.map ρ) λf args=>XC P f args h λv i=>typed P o.type v λe=>K e i
  |_=>False
 |_=>nC P (execOp ρ o) h λn h'=>match n with
   |.value v=>K v h'
   |.skip=>K undef h'
   |_=>False
def X2:Builtin->Bool
 |.append | .copy | .clear | .delete=>Ta
 |_=>Tb
def Te(P:Program)(s t:TypeId):Bool:=match P.underlying s,P.underlying t with
 |some (.int _),Tc (.int _)=>Ta
 |some .string,Tc .string=>Ta
 |_,_=>Tb
def lw(P:Program)(o:Oper):Bool:=
 match o.op with
 |.load _ _ | .indexAddr _ _ _ | .index _ _ _ | .slice _ _ _ _ _ | .binOp _ _ _ _ _ | .lookup _ _ _ _ | .nilCheck _=>Ta
 |.move _ | .assign _ | .unOp _ _ _ | .build _ _ | .makeFunc _ _ _ | .makeInterface _ _ | .extract _ _ | .field _ _ _ | .fieldAddr _ _ _=>Ta
 |.convert s t _=>Te P s t
 |.call c=>match c.callee with
  |.builtin b=>!X2 b
  |_=>Tb
 |_=>Tb
def wJ(P:Program)(o:Oper)(ρ:Operand->Value)(b:Bool)(h:zc)(K:Value->zc->Prop):Prop:=
 match pO P o.type with
 |some rt=>∃J:Value->zc->Prop,(b=Ta->vr P o ρ h J)/\(b=Tb->lW rt λv=>J v h)/\(b=Ta->∀v h',J v h'->lW rt λc=>v=c)/\JZ rt λv=>∀h',J v h'->K v h'
 |none=>False
def stepW(P:Program)(o:Oper)(ρ:Operand->Value)(g:Option Bool)(h:zc)(K:Value->zc->Prop):Prop:=
 bif lw P o then Q8 P o ρ g h (λv=>K v h)else match g with
  |none=>vr P o ρ h K
  |some b=>wJ P o ρ b h K
theorem upon_value{next:Act->World->Prop}{Q:Exit->Act->World->Prop}{s:Sem Next}(h:s.run P w=.ok (.value v) w')(b:next (a.put o.dst v) w'): o.upon P a next Q (s.run P w):=by rw[h];exact b
theorem upon_skip{next:Act->World->Prop}{Q:Exit->Act->World->Prop}{s:Sem Next}(h:s.run P w=.ok .skip w')(b:next (a.put o.dst undef) w'): o.upon P a next Q (s.run P w):=by rw[h];exact b
theorem Wn{s:Sem Value}(h:s.run P w=.ok v w'):(s >>= λx=>(zdn (zdz x):Sem Next)).run P w=.ok (.value v) w':=by simp_all
theorem pf{s:Sem Unit}(h:s.run P w=.ok () w'):(s >>= λ_=>(zdn Next.skip:Sem Next)).run P w=.ok .skip w':=by simp_all
theorem DN(H:vr P o ρ h K)(B:World)(d:Nat){next:Act->World->Prop}{Q:Exit->Act->World->Prop}
  (n:∀v i h',K v h'->next (a.put o.dst v) (mk B i h')):o.upon P a next Q ((execOp ρ o).run P (mk B d h)):=by
 unfold vr at H;split at H;case h_1 t x y ho=>obtain⟨i,h',h1,e⟩:=H B d;exact upon_skip (by simp only[execOp,ho];exact pf h1) (n _ _ _ e)
 case h_2 t m k x ho=>obtain⟨i,h',h1,e⟩:=H B d;exact upon_skip (by simp only[execOp,ho];exact pf h1) (n _ _ _ e)
 case h_3 t m k x ho=>obtain⟨i,h',h1,e⟩:=H B d;exact upon_skip (by simp only[execOp,ho];exact pf h1) (n _ _ _ e)
 case h_4 t m s x ho=>obtain⟨i,h',h1,e⟩:=H B d;exact upon_skip (by simp only[execOp,ho];exact pf h1) (n _ _ _ e)
 case h_5 t m k ho=>obtain⟨v,i,h',h1,e⟩:=H B d;exact upon_value (by simp only[execOp,ho];exact Wn h1) (n _ _ _ (Zw e))
 case h_6 t l c ho=>obtain⟨v,i,h',h1,e⟩:=H B d;exact upon_value (by simp only[execOp,ho];exact Wn h1) (n _ _ _ (Zw e))
 case h_7 s t x ho=>obtain⟨v,i,h',h1,e⟩:=H B d;exact upon_value (by simp only[execOp,ho];exact Wn h1) (n _ _ _ (Zw e))
 case h_8 x t t' ok ho=>obtain⟨v,i,h',h1,e⟩:=H B d;exact upon_value (by simp only[execOp,ho];exact Wn h1) (n _ _ _ (Zw e))
 case h_9 t x ho=>
  cases hm:Er P t with
  |true=>rw[hm]at H;obtain⟨v,i,h',h1,q,rfl,e⟩:=H B d;exact upon_value (by simp only[execOp,ho];exact Wn h1) (n _ _ _ e)
  |false=>rw[hm]at H;obtain⟨r,h',h1,e⟩:=wF H B d;grind [upon_value,upon_skip]
 case h_10 x s ho=>
  cases s with
  |true=>simp only[zH]at H;obtain⟨v,i,h',h1,e⟩:=H B d;refine upon_value (v:=v) (w':=mk B i h') (by simp only[execOp,ho];exact Wn h1) (n _ _ _ ?_);grind
  |false=>simp only[zI]at H;obtain⟨v,i,h',h1,e⟩:=H B d;refine upon_value (v:=v) (w':=mk B i h') (by simp only[execOp,ho];exact Wn h1) (n _ _ _ ?_);grind
 case h_11 x ho=>obtain⟨v,i,h',h1,k,u,rfl,e⟩:=H B d;exact upon_value (by simp only[execOp,ho];exact Wn h1) (n _ _ _ e)
 case h_12 c ho=>
  split at H;rename_i b z;split at H;rename_i s p;obtain⟨v,i,h',h1,e⟩:=H B d;refine upon_value (w':=mk B i h') ?_ (n _ _ _ (Zw e));have key:execOp ρ o=s >>= λx=>(zdn (zdz x):Sem Next):=by
   simp only[execOp,ho,resolve,z];unfold E7 at p;split at p <;> first
    |(simp only[zab]at p;subst p;rfl)
    |cases p
  simp_all;exact H.elim
  ·rename_i x w;cases hex:Du P x with
   |true=>rw[hex]at H;obtain⟨v,i,h',h1,e⟩:=Pw ho w H B d;exact upon_value h1 (n _ _ _ (Zw e))
   |false=>
   rw[hex]at H;simp only[zI]at H;cases hst:sI x with
   |true=>
    rw[hst]at H;obtain⟨r,h',h1,e⟩:=wF H B d;cases r with
    |enter f args=>rw[h1];refine(e B d).mono ?_;grind [Zw]
    |value v=>exact upon_value h1 (n _ _ _ e)
    |_=>exact e.elim
   |false=>rw[hst]at H;simp only[zI]at H;obtain⟨f,args,h1,e⟩:=JR ho w H;rw[e];refine(h1 B d).mono ?_;grind [Zw]
  exact H.elim
 case h_13=>obtain⟨r,h',h1,e⟩:=wF H B d;grind [upon_value,upon_skip]
theorem Rf(H:stepW P o ρ g h K)(c:fK g)(B:World)(d:Nat){next:Act->World->Prop}{Q:Exit->Act->World->Prop}
  (e:∀v i h',K v h'->next (a.put o.dst v) (mk B i h')):o.upon P a next Q ((execOp ρ o).run P (mk B d h)):=by
 unfold stepW at H;cases hq:lw P o with
 |true=>rw[hq]at H;obtain⟨v,h1,f⟩:=Ci H;exact upon_value (f c B d) (e _ _ _ h1)
 |false=>
  rw[hq]at H;cases g with
  |none=>exact DN H B d e
  |some b=>have k:b=Ta:=c;subst k;simp only[zI]at H;unfold wJ at H;grind [DN,FO]
theorem Ts(H:stepW P o ρ (Tc Tb) h K):∃v,K v h:=by
 unfold stepW at H;cases hq:lw P o with
 |true=>grind [Ci]
 |false=>rw[hq]at H;simp only[zI]at H;unfold wJ at H;grind [FO]
end
section
variable {n:Nat} {e:aR} {a b:Act} {c:qk} {g:Option Bool} {P:Program} {o:Oper} {h:zc} {K:Value -> zc -> Prop} {ms:List Nat}
def Yy(e:aR):qk->Option (Option Bool)
 |[]=>Tc Td
 |c=>match rH e c with
  |some b=>Tc (Tc b)
  |none=>Td
theorem Yz(i:Sat n e a)(h:Yy e c=Tc g)(k:valid (qa a) c):fK g:=by unfold Yy at h;split at h;simp only[zab]at h;subst h;trivial;split at h;rename_i b f;simp only[zab]at h;subst h;exact(AM i f).2 k;cases h
theorem z4b(k:Sat n e a)(h:Yy e c=Tc g)(f:¬valid (qa a) c):g=Tc Tb:=by
 unfold Yy at h;split at h;exact absurd trivial f;split at h;rename_i b i;simp only[zab]at h;subst h;cases b with
 |false=>rfl
 |true=>exact absurd ((AM k i).1 rfl) f
 cases h
def qs(b:Bool):Value->Value->Value
 |.bool x,.bool y=>.bool (bif b then x else y)
 |x,y=>bif b then x else y
theorem FJ(b:Bool)(x y:Value):qs b x y=if b=Ta then x else y:=by unfold qs;grind
def vL:Option Value->Option Value->Option Value
 |some v,_=>Tc v
 |none,w=>w
def vX(e:aR)(c:qk)(x a b:Operand)(K:Value->Prop):Prop:=
 match x with
 |.tmp s=>match look e s with
  |some (cs,.bool t)=>bif kY cs c then(match vL (Wl e c a) (Wl e ((s,Ta)::cs) a),vL (Wl e c b) (Wl e ((s,Tb)::cs) b)with
    |some va,some vb=>K (qs t va vb)
    |_,_=>False)else False
  |_=>False
 |_=>False
theorem Ad{f:Act}(i:Sat n e f){x a b:Operand}{K:Value->Prop}(H:vX e c x a b K):
  ∃v,K v/\(valid (qa f) c->∃t,f.eval x=.bool t/\(if t=Ta then f.eval a else f.eval b)=v):=by
 unfold vX at H;split at H;rename_i s;split at H;rename_i cs t m;cases hsf:kY cs c with
 |false=>simp_all
 |true=>
  rw[hsf]at H;simp only[zH]at H;split at H;rename_i q r l k;refine⟨_,H,λp=>⟨t,?_,?_⟩⟩;exact(i.all _ (pL m)).1 (Wk hsf p);have h:=Wk hsf p;have o:qa f s=.bool t:=(i.all _ (pL m)).1 h;rw[FJ];cases t with
  |true=>simp only[if_true];unfold vL at l;split at l;grind [zab,qz];exact qz i (c:=(s,Ta)::cs) ⟨o,h⟩ l
  |false=>simp only[zcc,if_false];unfold vL at k;split at k;grind [zab,qz];exact qz i (c:=(s,Tb)::cs) ⟨o,h⟩ k
  exact H.elim
 exact H.elim;exact H.elim
def lu(P:Program)(o:Oper)(e:aR)(c:qk)(h:zc)(K:Value->zc->Prop):Prop:=
 match o.op with
 |.pick x a b=>vX e c x a b λv=>K v h
 |_=>bif Zs o.op then(bif known e c o.op.operands.toList then(match Yy e c with
   |some g=>stepW P o (iP e c) g h K
   |none=>False)else False)else False
def wR(P:Program)(n:Nat)(ops:Array Oper)(K:aR->zc->Prop):List Oper->aR->zc->Prop
 |[],e,h=>K (clean e) h
 |o::rest,e,h=>match Zu ops e o.guard with
  |some c=>bif jf n c o.dst then lu P o e c h λv h'=>wR P n ops K rest (putO e o.dst c v) h' else False
  |none=>False
theorem AC(H:lu P o e c h K)(l:Sat n e a)(p:valid (qa a) c)(B:World)(d:Nat)
  {next:Act->World->Prop} {Q:Exit->Act->World->Prop} (m:∀v i h',K v h'->next (a.put o.dst v) (mk B i h')):o.wp P a (mk B d h) next Q:=by
 unfold lu at H;unfold Oper.wp;split at H;rename_i x y z b;obtain⟨v,h1,f⟩:=Ad l H;obtain⟨t,k,q⟩:=f p;refine upon_value (w':=mk B d h) (v:=v) ?_ (m _ _ _ h1);simp only[execOp,b,k,asBool,Sem.run_bind,Sem.run_pure,Result.andThen_ok];rw[q];cases hns:Zs o.op with
 |false=>simp_all
 |true=>
  rw[hns]at H;cases hk:known e c o.op.operands.toList with
  |false=>simp_all
  |true=>rw[hk]at H;simp only[zH]at H;grind [qI,Rf,Yz]
theorem DK(H:lu P o e c h K)(f:Sat n e a)(b:¬valid (qa a) c):∃v,K v h:=by
 unfold lu at H;split at H;grind [Ad];cases hns:Zs o.op with
 |false=>simp_all
 |true=>
  rw[hns]at H;cases hk:known e c o.op.operands.toList with
  |false=>simp_all
  |true=>rw[hk]at H;simp only[zH]at H;grind [z4b,Ts]
def j4:List Oper->List Nat
 |[]=>[]
 |o::l=>match o.dst with
  |some d=>d::j4 l
  |none=>j4 l
def Same(ms:List Nat)(a b:Act):Prop:=∀i,i∉ms->qa b i=qa a i
theorem Same.refl(ms:List Nat)(a:Act):Same ms a a:=λ_ _=>rfl
theorem Same.trans{a b c:Act}(h:Same ms a b)(k:Same ms b c):Same ms a c:=λi hi=>(k i hi).trans (h i hi)
theorem Same.mono{ms c:List Nat}(h:Same ms a b)(f:∀x∈ms,x∈c):Same c a b:=λi hi=>h i λe=>hi (f i e)
theorem Same.put(a:Act)(d:Option Nat)(v:Value)(h:∀i,d=Tc i->i∈ms):Same ms a (a.put d v):=by
 intro i hi;cases d with
 |none=>rfl
 |some j=>grind [qt]
theorem Xl{P:Program}{n:Nat}{ops:Array Oper}{K:aR->zc->Prop}{Q:Exit->Act->World->Prop}(B:World):
  ∀(l:List Oper) (e:aR) (h:zc) (a:Act) (d:Nat),wR P n ops K l e h->Sat n e a->(∀e' a' k h',Sat n e' a'->Same (j4 l) a a'->K e' h'->Q .normal a' (mk B k h'))->wpList P ops Q l a (mk B d h)
 |[],e,h,a,d,H,hs,hQ=>hQ _ _ _ _ hs.clean (Same.refl _ _) H
 |o::rest,e,h,a,d,H,hs,hQ=>by
  unfold wR at H;split at H;rename_i c C;cases hd:jf n c o.dst with
  |false=>simp_all
  |true=>
   rw[hd]at H;simp only[zH]at H;have q:=Qr hs C;have f:∀i,o.dst=Tc i->i∈j4 (o::rest):=λi hi=>by simp[j4,hi]
   have b:∀x∈j4 rest,x∈j4 (o::rest):=λx r=>by unfold j4;grind
   have t:∀v u k h',(valid (qa a) c->u=v)->(¬valid (qa a) c->u=undef)->wR P n ops K rest (putO e o.dst c v) h'->wpList P ops Q rest (a.put o.dst u) (mk B k h'):=λv u k h' h1 w A=>
    Xl B rest _ _ _ _ A (hs.putO hd h1 w) λe' a' p m y D z=>hQ e' a' p m y ((Same.put a o.dst u f).trans (D.mono b)) z
   unfold wpList;by_cases s:valid (qa a) c;rw[zb (q.2 s)];grind [AC];rw[za (λr=>s (q.1 r))];grind [DK]
  exact H.elim
def y6(P:Program)(o:Oper)(ρ:Operand->Value)(g:Option Bool)(h:zc)(K:Value->Prop):Prop:=
 match o.op with
 |.call c=>match c.callee with
  |.value x=>bif sI x then(match Jt P (execOp ρ o)with
    |some (.enter f args)=>match pO P o.type with
     |some rt=>lW rt λv=>req g (XC P f args h λb h'=>b=v/\h'=h)/\K v
     |none=>False
    |_=>False)else(match pO P o.type with
     |some rt=>lW rt λv=>req g (po P (ρ x) (c.args.map ρ) λf args=>XC P f args h λb h'=>b=v/\h'=h)/\K v
     |none=>False)
  |_=>False
 |_=>False
theorem Po{ρ:Operand->Value}{K:Value->Prop}(H:y6 P o ρ g h K):
  ∃v,K v/\(fK g->∃f args,(∀w,(execOp ρ o).run P w=.ok (.enter f args) w)/\XC P f args h λk h'=>k=v/\h'=h):=by
 unfold y6 at H;split at H;rename_i c i;split at H;rename_i x l;cases hst:sI x with
 |true=>rw[hst]at H;simp only[zH]at H;split at H;rename_i f args m;split at H;obtain⟨v,h1,b⟩:=rC H;exact⟨v,b,λe=>⟨f,args,λw=>qm m w,h1.out e⟩⟩;exact H.elim;exact H.elim
 |false=>rw[hst]at H;simp only[zI]at H;split at H;obtain⟨v,h1,b⟩:=rC H;refine⟨v,b,λe=>?_⟩;obtain⟨f,args,n,p⟩:=JR i l (h1.out e);grind;exact H.elim
 exact H.elim;exact H.elim
def tc(o:Oper):Bool:=match o.op with
 |.call c=>match c.callee with
  |.builtin _=>Tb
  |_=>Ta
 |_=>Tb
def Cc(P:Program)(o:Oper)(e:aR)(c:qk)(h:zc)(f:Bool)(K:Value->Prop):Prop:=
 match o.op with
 |.pick x a b=>vX e c x a b K
 |_=>bif Zs o.op then(bif known e c o.op.operands.toList then(match Yy e c with
   |some g=>bif tc o then(bif f then y6 P o (iP e c) g h K else False)else Q8 P o (iP e c) g h K
   |none=>False)else False)else False
def wQ(P:Program)(n:Nat)(ops:Array Oper)(h:zc)(b:Bool)(K:aR->Prop):List Oper->aR->Prop
 |[],e=>K e
 |o::rest,e=>match Zu ops e o.guard with
  |some c=>bif jf n c o.dst then Cc P o e c h b λv=>wQ P n ops h b K rest (putO e o.dst c v)else False
  |none=>False
def YQ(P:Program)(o:Oper)(a:Act)(B:World)(h:zc)(b:Bool)(v:Value):Prop:=
 (∀d,(execOp a.eval o).run P (mk B d h)=.ok (.value v) (mk B d h)) \/
 (b=Ta/\∃f args,(∀d,(execOp a.eval o).run P (mk B d h)=.ok (.enter f args) (mk B d h))/\XC P f args h λc h'=>c=v/\h'=h)
theorem z7s{b:Bool}{K:Value->Prop}(H:Cc P o e c h b K)(l:Sat n e a)(B:World):
  ∃v,K v/\(valid (qa a) c->YQ P o a B h b v):=by
 unfold Cc at H;split at H;rename_i x y z r;obtain⟨v,h1,k⟩:=Ad l H;refine⟨v,h1,λi=>?_⟩;obtain⟨t,p,m⟩:=k i;refine .inl λd=>?_;simp only[execOp,r,p,asBool,Sem.run_bind,Sem.run_pure,Result.andThen_ok];rw[m];cases hns:Zs o.op with
 |false=>simp_all
 |true=>
  rw[hns]at H;cases hk:known e c o.op.operands.toList with
  |false=>simp_all
  |true=>
   rw[hk]at H;simp only[zH]at H;split at H;rename_i g q;cases hc:tc o with
   |false=>rw[hc]at H;obtain⟨v,h1,k⟩:=Ci H;refine⟨v,h1,λi=>.inl λd=>?_⟩;rw[qI l i hns hk];exact k (Yz l q i) B d
   |true=>
    rw[hc]at H;cases b with
    |false=>exact H.elim
    |true=>simp only[zH]at H;obtain⟨v,h1,k⟩:=Po H;refine⟨v,h1,λi=>?_⟩;obtain⟨f,args,p,m⟩:=k (Yz l q i);refine .inr ⟨rfl,f,args,λd=>?_,m⟩;grind [qI]
   exact H.elim
theorem Gt{P:Program}{n:Nat}{ops:Array Oper}{h:zc}{k:Bool}{K:aR->Prop}{Q:Act->Prop}(B:World):
  ∀(l:List Oper) (e:aR) (a:Act),wQ P n ops h k K l e->Sat n e a->(∀e' a',Sat n e' a'->Same (j4 l) a a'->K e'->Q a')->wpQuiet P ops (λw=>∃d,w=mk B d h) Q l a
 |[],e,a,H,hs,hQ=>hQ _ _ hs (Same.refl _ _) H
 |o::rest,e,a,H,hs,hQ=>by
  unfold wQ at H;split at H;rename_i c D;cases hd:jf n c o.dst with
  |false=>simp_all
  |true=>
   rw[hd]at H;simp only[zH]at H;have A:=Qr hs D;have m:∀i,o.dst=Tc i->i∈j4 (o::rest):=λi hi=>by simp[j4,hi]
   have b:∀x∈j4 rest,x∈j4 (o::rest):=λx F=>by unfold j4;grind
   obtain⟨v,y,C⟩:=z7s H hs B;have p:∀u,(valid (qa a) c->u=v)->(¬valid (qa a) c->u=undef)->wpQuiet P ops (λw=>∃d,w=mk B d h) Q rest (a.put o.dst u):=λu h1 q=>
    Gt B rest _ _ y (hs.putO hd h1 q) λe' a' t E z=>hQ e' a' t ((Same.put a o.dst u m).trans (E.mono b)) z
   unfold wpQuiet;by_cases s:valid (qa a) c;rw[zb (A.2 s)];refine⟨v,?_,p v (λ_=>rfl) (λr=>absurd s r)⟩;rintro w ⟨d,rfl⟩;unfold Oper.quietAt;rcases C s with h1|⟨_,f,args,h1,q⟩;rw[h1 d];exact⟨rfl,rfl⟩;rw[h1 d];refine⟨rfl,(q B d).mono ?_⟩;simp;simp_all
  exact H.elim
end
section
variable {i:Nat} {a b:Act} {o:Oper} {h h':zc} {ρ:Operand -> Value} {P:Program} {g:Option Bool} {ops:Array Oper} {listed:Array Bool}
def memN:List Nat->Nat->Bool
 |[],_=>Tb
 |j::l,i=>bif Nat.beq i j then Ta else memN l i
theorem Qd{l:List Nat}(h:memN l i=Tb):i∉l:=by
 induction l with
 |nil=>simp
 |cons j l c=>simp only[memN]at h;by_cases b:Nat.beq i j=Ta;grind;simp_all
def tmpsOf:List Operand->List Nat
 |[]=>[]
 |.tmp t::l=>t::tmpsOf l
 |_::l=>tmpsOf l
def Qe(ops:Array Oper)(o:Oper):List Nat:=(match o.guard with
 |some (j,_)=>match yp ops j with
  |some g=>[g]
  |none=>[]
 |none=>[])++tmpsOf o.op.operands.toList
def Zc(ops:Array Oper)(k:Nat)(S:List Nat):Nat->Bool
 |0=>Ta
 |p+1=>bif (match yp ops p with
  |some t=>bif memN S t then Region.waitsFor .any ops k p else Ta
  |none=>Ta)then Zc ops k S p else Tb
theorem jm{ops:Array Oper}{k:Nat}{S:List Nat}:∀{m:Nat},Zc ops k S m=Ta->∀p t,p<m->yp ops p=Tc t->t∈S->Region.waitsFor .any ops k p=Ta
 |0,_,p,t,hp,_,_=>by omega
 |m+1,h,p,t,hp,hd,ht=>by
  simp only[Zc]at h;cases hb:(match yp ops m with
   |some t=>bif memN S t then Region.waitsFor .any ops k m else Ta
   |none=>Ta)with
  |false=>simp_all
  |true=>rw[hb]at h;rcases zbf p m with h1|h1;exact jm h p t h1 hd ht;grind [Qd]
def ym(ops:Array Oper):Nat->Bool
 |0=>Ta
 |j+1=>bif (match ops[j]? with
  |some o=>o.after.toList.all λe=>!(zex .any e)||Nat.blt e.on j
  |none=>Ta)then ym ops j else Tb
theorem qh{ops:Array Oper}:∀{n:Nat},ym ops n=Ta->∀j o,j<n->ops[j]?=Tc o->∀e∈o.after,zex .any e=Ta->e.on<j
 |0,_,j,_,hj,_,_,_,_=>by omega
 |n+1,h,j,o,hj,ho,e,he,hb=>by
  simp only[ym]at h;cases hc:(match ops[n]? with
   |some o=>o.after.toList.all λe=>!(zex .any e)||Nat.blt e.on n
   |none=>Ta)with
  |false=>simp_all
  |true=>
   rw[hc]at h;rcases zbf j n with h1|h1;exact qh h j o h1 ho e he hb;have:j=n:=by omega
   subst this;rw[ho]at hc;have:=zas.1 hc e (by simpa using he);simp_all
def rz(ops:Array Oper)(d:Nat):Nat->Bool
 |0=>Tb
 |p+1=>bif (match yp ops p with
  |some t=>Nat.beq t d
  |none=>Tb)then Ta else rz ops d p
def Yh(ops:Array Oper):Nat->Bool
 |0=>Ta
 |p+1=>bif (match yp ops p with
  |some t=>!(rz ops t p)
  |none=>Ta)then Yh ops p else Tb
theorem Cd{ops:Array Oper}{d:Nat}:∀{m:Nat},rz ops d m=Tb->∀p,p<m->yp ops p≠Tc d
 |0,_,p,hp=>by omega
 |m+1,h,p,hp=>by
  simp only[rz]at h;cases hb:(match yp ops m with
   |some t=>Nat.beq t d
   |none=>Tb)with
  |true=>simp_all
  |false=>
   rw[hb]at h;rcases zbf p m with h1|h1;exact Cd h p h1;have:p=m:=by omega
   subst this;intro e;simp_all
theorem y5{ops:Array Oper}:∀{m:Nat},Yh ops m=Ta->∀p q t,p<m->q<m->yp ops p=Tc t->yp ops q=Tc t->p=q
 |0,_,p,q,t,hp,_,_,_=>by omega
 |m+1,h,p,q,t,hp,hq,e1,e2=>by
  simp only[Yh]at h;cases hb:(match yp ops m with
   |some t=>!(rz ops t m)
   |none=>Ta)with
  |false=>simp_all
  |true=>rw[hb]at h;rcases zbf p m with h1|h1 <;> rcases zbf q m with h2|h2;exact y5 h p q t h1 h2 e1 e2;grind [zd4,Cd];grind [zd4,Cd];omega
def lI(o:Oper):Option Bool:=match o.op with
 |.fieldAddr _ _ _=>Tc Ta
 |.indexAddr _ _ _=>Tc Ta
 |.move _=>Tc Ta
 |.assign _=>match o.after.toList with
  |[]=>Tc Ta
  |_=>Td
 |.nilCheck _=>Tc Ta
 |.slice _ _ _ _ _=>Tc Ta
 |.binOp _ _ _ _ _=>Tc Ta
 |.load _ _=>Tc Tb
 |_=>Td
def qg(o:Oper):Bool:=match lI o with
 |some _=>Ta
 |none=>Tb
def ql(o:Oper):Bool:=match lI o with
 |some b=>!b
 |none=>Tb
def heavyL:Nat->List Oper->List Nat
 |_,[]=>[]
 |k,o::l=>bif qg o then heavyL (k+1) l else k::heavyL (k+1) l
def mH(ops:Array Oper):List Nat->Bool
 |[]=>Ta
 |[_]=>Ta
 |i::j::l=>bif Region.waitsFor .any ops j i then mH ops (j::l)else Tb
def Qf(ops:Array Oper)(i:Nat):List Nat->Bool
 |[]=>Tb
 |j::l=>bif Region.waitsFor .any ops j i then Ta else Qf ops i l
def l5(ops:Array Oper)(T:List Nat):Nat->Bool
 |0=>Tb
 |k+1=>bif (match ops[k]? with
  |some o=>bif ql o then !(Qf ops k T)else Tb
  |none=>Tb)then Ta else l5 ops T k
def If(ops:Array Oper)(T:List Nat):Nat->Nat->Bool
 |0,k=>memN T k
 |f+1,k=>bif memN T k then Ta else(zbk ops.size).any λp=>bif Region.waitsFor .any ops p k then If ops T f p else Tb
def Fq(ops:Array Oper)(T:List Nat):Nat->Bool
 |0=>Tb
 |k+1=>bif (match ops[k]? with
  |some o=>bif ql o then !(If ops T ops.size k)else Tb
  |none=>Tb)then Ta else Fq ops T k
def R3(tr:Bool)(ops:Array Oper)(T:List Nat)(m:Nat):Bool:=bif tr then Fq ops T m else l5 ops T m
def rn(l:List Oper):Bool:=l.all λo=>match o.guard with
 |none=>Zs o.op
 |some _=>Tb
def m9(ops:Array Oper):Nat->Bool
 |0=>Ta
 |k+1=>bif (match ops[k]? with
  |some o=>bif Zc ops k (tmpsOf o.op.operands.toList) ops.size then(bif qg o then(heavyL 0 ops.toList).all λj=>!(Region.waitsFor .any ops k j)||(match yp ops j with
   |some t=>!(memN (tmpsOf o.op.operands.toList) t)
   |none=>Ta)else Ta)else Tb
  |none=>Ta)then m9 ops k else Tb
def mixB(ops:Array Oper):Bool:=bif rn ops.toList then(bif ym ops ops.size then(bif Yh ops ops.size then(bif mH ops (heavyL 0 ops.toList)then m9 ops ops.size else Tb)else Tb)else Tb)else Tb
def wU(P:Program)(n:Nat)(h:zc)(K:aR->Prop):List Oper->aR->Prop
 |[],e=>K e
 |o::l,e=>bif qg o then(bif jf n [] o.dst then(bif Zs o.op then(bif known e [] o.op.operands.toList then Q8 P o (iP e []) Td h λv=>wU P n h K l (putO e o.dst [] v)else False)else False)else False)else wU P n h K l e
def wT(P:Program)(n:Nat)(ops:Array Oper)(h0:zc)(K:aR->zc->Prop)(tr:Bool):List Nat->List Nat->aR->zc->Prop
 |_,[],e,h=>K (clean e) h
 |T,j::l,e,h=>match ops[j]? with
  |some o=>bif jf n [] o.dst then lu P o e [] h λv h'=>(bif R3 tr ops (j::T) ops.size then Keep h0.size h0 h'/\wT P n ops h0 K tr (j::T) l (putO e o.dst [] v) h' else wT P n ops h0 K tr (j::T) l (putO e o.dst [] v) h')else False
  |none=>False
def Zt:Nat->List Oper->(Nat->Value)->Act->Act
 |_,[],_,a=>a
 |k,o::l,f,a=>Zt (k+1) l f (bif qg o then a.put o.dst (f k)else a)
theorem xh{a b:Act}:∀{l:List Operand},(∀t∈tmpsOf l,qa a t=qa b t)->∀x∈l,a.eval x=b.eval x
 |[],_,x,c=>by cases c
 |y::l,h,x,c=>by
  rcases zah.1 c with rfl|c;cases x with
  |tmp t=>exact h t (by simp[tmpsOf])
  |const v=>rfl
  |global g=>rfl
  |func f=>rfl
  refine xh (l:=l) (λt e=>h t ?_) x c;cases y <;> simp[tmpsOf,e]
theorem Qg(c:Zs o.op=Ta)(h:∀t∈tmpsOf o.op.operands.toList,qa a t=qa b t):execOp a.eval o=execOp b.eval o:= execOp_congr o (λcs b e=>by rw[e]at c;cases c) λx f=>xh h x (by simpa using f)
theorem Vn{p:Addr}(e:h'[p.block]?=h[p.block]?)(i:Nat):zf h' (p.add i)=zf h (p.add i):=by
 have b:(p.add i).block=p.block:=by unfold zae;split <;> rfl
 unfold zf;rw[b,e]
theorem GN{h h':zc}{p:Addr}(e:h'[p.block]?=h[p.block]?):∀{vs:List Value} {i:Nat},zd h p i vs->zd h' p i vs
 |[],_,_=>trivial
 |v::vs,i,⟨h1,h2⟩=>⟨(Vn e i).trans h1,GN e h2⟩
def LdOK(o:Oper)(ρ:Operand->Value)(h h':zc):Prop:=ql o=Tb\/Keep h.size h h'\/∀t a p,o.op=.load t a->ρ a=.pointer (Tc p)->h'[p.block]?=h[p.block]?
theorem LdOK.congr{ρ c:Operand->Value}(e:∀x∈o.op.operands.toList,c x=ρ x)(H:LdOK o ρ h h'):LdOK o c h h':=by rcases H with H|H|H;exact .inl H;exact .inr (.inl H);refine .inr (.inr λt a p b f=>H t a p b ?_);rw[<-e a (by rw[b];simp[Op.operands])];exact f
theorem UM{t:TypeId}{x:Value}{K:Value->Prop}(H:mn P h t x g K):∃v p,x=.pointer (Tc p)/\K v/\(fK g->QExec P (zd0 t x) h v/\∀h',h'[p.block]?=h[p.block]?->QExec P (zd0 t x) h' v):=by unfold mn at H;split at H;rename_i q a b;obtain⟨x,h1,f⟩:=H;refine⟨_,q,rfl,f,λc=>?_⟩;have h1:zf h q=Tc _:=h1.out c;refine⟨pC b h1,λh' e=>pC b ?_⟩;unfold zf at h1 ⊢;rw[e];exact h1;rename_i q l b;obtain⟨vs,h0,⟨h1,f⟩,_⟩:=Ys H (wv l);exact⟨_,q,rfl,f,λc=>⟨pP b h0 (h1.out c),λh' e=>pP b h0 (GN e (h1.out c))⟩⟩;exact H.elim
theorem Bw(q:qg o=Ta){K:Value->Prop}(H:Q8 P o ρ g h K):
  ∃v,K v/\(fK g->∀h',LdOK o ρ h h'->QExec P (execOp ρ o) h' (.value v)):=by
 cases ho:o.op with
 |load t x=>
  have f:lC o=Ta:=by unfold lC;rw[ho]
  by_cases b:fK g;obtain⟨k,l,k2⟩:=tz f H;unfold Q8 at H;rw[ho]at H;simp only at H;obtain⟨v,p,m,h1,c⟩:=UM H;have s:k=v:=by
   have u:=k2 b h (Keep.refl _ _) default 0;have a2:QExec P (execOp ρ o) h (.value v):=by simp only[execOp,ho];exact(c b).1.val
   have a2:=a2 default 0;rw[u]at a2;injection a2 with a2 _;injection a2
  subst s;refine⟨k,l,λ_ h' e=>?_⟩;rcases e with e|e|e;unfold ql lI at e;rw[ho]at e;cases e;exact k2 b h' e;have:=(c b).2 h' (e t x p ho m);simp only[execOp,ho];exact this.val;obtain⟨k,l,_⟩:=tz f H;exact⟨k,l,λn=>absurd n b⟩
 |indexAddr t x i=>
  unfold Q8 at H;rw[ho]at H;simp only at H;cases he:kK P t with
  |false=>rw[he]at H;exact H.elim
  |true=>rw[he]at H;obtain⟨v,h1,c⟩:=Zi (Zb he) H;refine⟨v,h1,λb h' _=>?_⟩;simp only[execOp,ho];exact(c b h').val
 |slice t x lo hi mx=>
  unfold Q8 at H;rw[ho]at H;simp only at H;cases he:kK P t with
  |false=>rw[he]at H;exact H.elim
  |true=>rw[he]at H;obtain⟨v,h1,c⟩:=Ju (Zb he) H;refine⟨v,h1,λb h' _=>?_⟩;simp only[execOp,ho];exact(c b h').val
 |binOp w t x y t'=>unfold Q8 at H;rw[ho]at H;obtain⟨v,h1,c⟩:=tM ho H;exact⟨v,h1,λb h' _=>c b h'⟩
 |nilCheck x=>unfold Q8 at H;rw[ho]at H;simp only at H;unfold tF at H;split at H;rename_i p m;obtain⟨a,h1,c⟩:=H;refine⟨_,c,λb h' _ B d=>?_⟩;have r:=h1.out b;subst r;simp only[execOp,ho,m];rfl;obtain⟨v,h1,c⟩:=qf H g;exact⟨v,h1,λb h' _=>c b h'⟩
 |_=>first|(unfold qg lI at q;rw[ho]at q;cases q;done)|(unfold Q8 at H;rw[ho]at H;obtain⟨v,h1,c⟩:=qf H g;exact⟨v,h1,λb h' _=>c b h'⟩)
theorem qq{d:Option Nat}{u:Value}{s:Nat}(h:d≠Tc s):qa (a.put d u) s=qa a s:=by
 cases d with
 |none=>rfl
 |some t=>grind [qt]
theorem xY{next:Act->World->Prop}{Q:Exit->Act->World->Prop}{r:Result Next}(k:b.defers=[])
  (H:o.upon P b (λc w=>c.defers=[]/\∀v,c=b.put o.dst v->next (a.put o.dst v) w) (λ_ _ _=>False) r):o.upon P a next Q r:=by
 have lo:¬LetsOut (λ(_:Exit) (_:Act) (_:World)=>False):=λh=>by obtain⟨_,_,h⟩:=h;exact h
 cases r with
 |ok x w=>
  cases x with
  |value v=>exact H.2 v rfl
  |skip=>exact H.2 undef rfl
  |defer d=>have:=H.1;rw[yy]at this;cases this
  |enter f args=>refine Calls.mono (show Calls P f args w _ from H) λe w' i=>?_;grind
  |row row args=>exact Rows.mono (show Rows P row args w _ from H) λv w' i=>i.2 v rfl
  |_=>exact H
 |halt x w=>cases x <;> first|exact H.elim|exact H
theorem Zj{i p:Nat}(hi:i∈Region.ready .any ops listed)(f:Region.waitsFor .any ops i p=Ta):listed.getD p Tb=Ta:=by obtain⟨n,h,e,l,m,c⟩:=Region.waitsFor_spec f;obtain⟨_,o,k,b⟩:=mem_ready.1 hi;grind
theorem jo{n:Nat}(inv:HeadInv .any ops n listed){i p:Nat}(hi:listed.getD i Tb=Ta)(f:Region.waitsFor .any ops i p=Ta):listed.getD p Tb=Ta:=by obtain⟨l,c,e,h,k,b⟩:=Region.waitsFor_spec f;rw[<-b];exact inv.closed i l c hi e h k
theorem Xm{p:Nat->Bool}{N:Nat}(h:∃k,k<N/\p k=Tb):∃k,k<N/\p k=Tb/\∀j,j<k->p j=Ta:=by
 obtain⟨k,h1,c⟩:=h;induction k using zee with
 |_ k b=>grind
theorem pH{o:Oper}:∀{l:List Oper},o∈l->∀i,o.dst=Tc i->i∈j4 l
 |[],h,_,_=>by cases h
 |x::l,h,i,hi=>by unfold j4;rcases zah.1 h with rfl|h;simp_all;have:=pH h i hi;grind
theorem qi{k:Nat}(h:ops[k]?=Tc o):yp ops k=o.dst:=by simp[yp,h]
def iH(j:Nat):List Nat->List Nat
 |[]=>[]
 |k::l=>bif Nat.beq k j then iH j l else k::iH j l
theorem rP{j x:Nat}:∀{l:List Nat},x∈iH j l↔x∈l/\x≠j
 |[]=>by simp[iH]
 |k::l=>by
  simp only[iH];cases hb:Nat.beq k j with
  |true=>have:=zak hb;subst this;rw[zH,rP,zah];simp_all
  |false=>
   have b:k≠j:=λe=>by simp_all
   rw[zI,zah,zah,rP];grind
theorem zO{j:Nat}:∀{l:List Nat},l.Nodup->(iH j l).Nodup
 |[],h=>h
 |k::l,h=>by
  simp only[iH];rw[zcv]at h;cases Nat.beq k j with
  |true=>exact zO h.2
  |false=>rw[zI,zcv];exact⟨λb=>h.1 (rP.1 b).1,zO h.2⟩
theorem Hw{j:Nat}:∀{l:List Nat},(iH j l).length<=l.length
 |[]=>zaf _
 |k::l=>by simp only[iH];have:=Hw (j:=j) (l:=l);grind
theorem HE{j:Nat}:∀{l:List Nat},j∈l->(iH j l).length+1<=l.length
 |[],h=>by cases h
 |k::l,h=>by
  simp only[iH];cases hb:Nat.beq k j with
  |true=>simp[Hw,zH,zbi]
  |false=>
   have b:k≠j:=λe=>by simp_all
   have:=HE (j:=j) (l:=l) (by grind);simp_all
def BX(p:Nat->Prop):List Nat->Prop
 |[]=>True
 |[j]=>p j
 |j::k::l=>p j/\BX p (k::l)
theorem KO{p:Nat->Prop}:∀{l:List Nat},BX p l->∀j∈l,p j
 |[],_,j,h=>by cases h
 |[k],H,j,h=>by simp at h;subst h;exact H
 |k::k2::l,H,j,h=>by rcases zah.1 h with rfl|h;exact H.1;exact KO H.2 j h
def sM(p:Nat->Bool):List Nat->List Nat
 |[]=>[]
 |j::l=>bif p j then j::sM p l else sM p l
theorem xF{p:Nat->Bool}{j:Nat}:∀{l:List Nat},j∈l->p j=Ta->j∈sM p l
 |[],h,_=>by cases h
 |k::l,h,hp=>by
  simp only[sM];rcases zah.1 h with rfl|h;simp_all;cases p k with
  |true=>exact zal _ (xF h hp)
  |false=>exact xF h hp
end
section
variable {l done:List Nat} {i m n:Nat} {ops:Array Oper} {P:Program} {o:Oper} {h h0:zc} {e:aR} {a b:Act}
def DG(o:Oper):Bool:=match o.op with
 |.extract _ _=>Ta
 |_=>Tb
variable {gq : Nat}
def oE(o:Oper):Bool:=bif qg o then Ta else DG o
def ki(ops:Array Oper):Nat->List Nat->List Nat
 |0,S=>S
 |k+1,S=>ki ops k (bif S.any λp=>Region.waitsFor .any ops p k then k::S else S)
theorem vh{ops:Array Oper}{listed:Array Bool}(b:∀i p,listed.getD i Tb=Ta->Region.waitsFor .any ops i p=Ta->listed.getD p Tb=Ta):∀{m:Nat} {S:List Nat},(∀j∈S,listed.getD j Tb=Ta)->∀k∈ki ops m S,listed.getD k Tb=Ta
 |0,S,h,k,hk=>h k hk
 |m+1,S,h,k,hk=>by unfold ki at hk;refine vh b (m:=m) (λj c=>?_) k hk;grind
theorem Jx(h:memN l i=Ta):i∈l:=by
 induction l with
 |nil=>cases h
 |cons j l b=>simp only[memN]at h;grind [zak,zaq,zal]
theorem tq(h:i∈l):memN l i=Ta:=by grind [Qd]
def ZZ(ops:Array Oper)(k:Nat):Bool:=match ops[k]? with
 |some o=>!(oE o)
 |none=>Tb
def qta(gq:Nat)(ops:Array Oper)(i:Nat):Bool:=(ki ops ops.size [i]).any λk=>bif Nat.blt k (gq-1)then Tb else ZZ ops k
def U3(o:Oper):Bool:=match o.guard with
 |none=>Tb
 |some _=>Ta
def JC(ops:Array Oper)(t:Nat):Nat->Bool
 |0=>Tb
 |k+1=>bif (match ops[k]? with
  |some o=>memN (tmpsOf o.op.operands.toList) t
  |none=>Tb)then Ta else JC ops t k
def qqv(ops:Array Oper)(i:Nat)(o:Oper):Bool:=match o.op with
 |.assign _=>(match o.dst with
  |some t=>JC ops t i
  |none=>Tb)
 |_=>Tb
def eK(gq:Nat)(ops:Array Oper)(i:Nat):Bool:=match ops[i]? with
 |some o=>bif Nat.blt i (gq-1)then Tb else bif (bif U3 o then Nat.beq gq 0 else Tb)then Ta else bif oE o then(bif ql o then qta gq ops i else qqv ops i o)else Ta
 |none=>Ta
def i4(gq:Nat)(ops:Array Oper):List Nat:=(zbk ops.size).filter (eK gq ops)
theorem pk{j:Nat}:j∈i4 gq ops↔j<ops.size/\eK gq ops j=Ta:=by unfold i4;simp
theorem z7w(ops:Array Oper):(i4 gq ops).Nodup:=zd9.filter _
def nf(gq:Nat)(ops:Array Oper)(done S:List Nat)(k:Nat):Nat->Bool
 |0=>Ta
 |p+1=>bif Region.waitsFor .any ops k p then(bif (bif eK gq ops p then memN done p else memN S p)then nf gq ops done S k p else Tb)else nf gq ops done S k p
theorem tO{ops:Array Oper}{done S:List Nat}{k:Nat}:∀{m:Nat},nf gq ops done S k m=Ta↔∀p,p<m->Region.waitsFor .any ops k p=Ta->(eK gq ops p=Ta->p∈done)/\(eK gq ops p=Tb->p∈S)
 |0=>⟨λ_ p c=>by omega,λ_=>rfl⟩
 |m+1=>by
  unfold nf;have e:=tO (ops:=ops) (done:=done) (S:=S) (k:=k) (m:=m);constructor;intro h p c b;rcases zbf p m with h1|h1;grind;have:p=m:=by omega
  subst this;rw[b,zH]at h;cases hi:eK gq ops p with
  |true=>simp_all[zH,Jx]
  |false=>simp_all[zI,Jx]
  intro h;have h1:=e.2 λp c b=>h p (by omega) b;cases b:Region.waitsFor .any ops k m with
  |false=>exact h1
  |true=>simp_all[zH,tq]
def vj(gq:Nat)(ops:Array Oper)(done S:List Nat)(k:Nat):List Nat:=bif eK gq ops k then S else(bif nf gq ops done S k k then k::S else S)
def Xn(gq:Nat)(ops:Array Oper)(done:List Nat):Nat->List Nat
 |0=>[]
 |k+1=>vj gq ops done (Xn gq ops done k) k
theorem xd{ops:Array Oper}{done:List Nat}:∀{m i:Nat},i∈Xn gq ops done m->i<m/\eK gq ops i=Tb/\nf gq ops done (Xn gq ops done i) i i=Ta
 |0,i,h=>by cases h
 |m+1,i,h=>by
  unfold Xn vj at h;cases hi:eK gq ops m with
  |true=>rw[hi,zH]at h;have:=xd h;grind
  |false=>
   rw[hi,zI]at h;cases ho:nf gq ops done (Xn gq ops done m) m m with
   |false=>rw[ho,zI]at h;have:=xd h;grind
   |true=>rw[ho,zH]at h;rcases zah.1 h with rfl|h;simp_all;have:=xd h;grind
theorem Cg{ops:Array Oper}{done:List Nat}{m:Nat}:∀{m' i:Nat},m<=m'->i∈Xn gq ops done m->i∈Xn gq ops done m'
 |0,i,h,hi=>by simp_all
 |m'+1,i,h,hi=>by rcases Nat.eq_or_lt_of_le h with e|e;simp_all;have:=Cg (m':=m') (by omega) hi;unfold Xn vj;grind
theorem vy(b:i<m)(h1:eK gq ops i=Tb)(c:nf gq ops done (Xn gq ops done i) i i=Ta):i∈Xn gq ops done m:=by refine Cg (m:=i+1) b ?_;unfold Xn vj;simp_all
theorem tK{m i p:Nat}(h:i∈Xn gq ops done m)(c:p<i)(e:Region.waitsFor .any ops i p=Ta):(eK gq ops p=Ta->p∈done)/\(eK gq ops p=Tb->p∈Xn gq ops done m):=by obtain⟨h1,k,f⟩:=xd h;obtain⟨a,b⟩:=tO.1 f p c e;exact⟨a,λhi=>Cg (by omega) (b hi)⟩
def kQ(b c:List Nat)(n:Nat):List Nat:=(zbk n).filter λi=>bif memN c i then !(memN b i)else Tb
theorem Lv{c b:List Nat}:i∈kQ c b n↔i<n/\i∈b/\i∉c:=by
 unfold kQ;rw[zde,zcd];constructor;rintro⟨h1,e⟩;cases hn:memN b i with
 |false=>simp_all
 |true=>rw[hn,zH]at e;grind [Jx,tq]
 rintro⟨h1,e,f⟩;refine⟨h1,?_⟩;rw[tq e,zH];grind [Jx]
theorem Gm(b c:List Nat)(n:Nat):(kQ b c n).Pairwise (· < ·):=List.pairwise_lt_range.filter _
def wI(P:Program)(n:Nat)(h:zc)(ld:Bool)(ops:Array Oper)(K:aR->Prop):List Nat->aR->Prop
 |[],e=>K e
 |i::l,e=>match ops[i]? with
  |some o=>bif oE o then(bif (bif ld then Ta else !(ql o))then(bif Zs o.op then(match Zu ops e o.guard with
   |some c=>bif jf n c o.dst then(bif known e c o.op.operands.toList then(match Yy e c with
    |some g=>Q8 P o (iP e c) g h λv=>wI P n h ld ops K l (putO e o.dst c v)
    |none=>False)else False)else False
   |none=>False)else False)else False)else False
  |none=>False
def y8(ops:Array Oper)(f:Nat->Value):List Nat->Act->Act
 |[],a=>a
 |i::l,a=>y8 ops f l (a.put (yp ops i) (f i))
theorem N4(b:oE o=Ta){ρ:Operand->Value}{g:Option Bool}{K:Value->Prop}(H:Q8 P o ρ g h K):
  ∃v,K v/\(fK g->∀h',LdOK o ρ h h'->QExec P (execOp ρ o) h' (.value v)):=by
 unfold oE at b;cases hb:qg o with
 |true=>exact Bw hb H
 |false=>rw[hb,zI]at b;unfold DG at b;split at b;rename_i x i c;unfold Q8 at H;rw[c]at H;obtain⟨v,h1,e⟩:=qf H g;grind;cases b
theorem Eu{ops:Array Oper}{f:Nat->Value}:∀{l:List Nat} {a:Act},(y8 ops f l a).tmps.size=a.tmps.size/\(y8 ops f l a).defers=a.defers
 |[],_=>⟨rfl,rfl⟩
 |i::l,a=>by unfold y8;have:=Eu (ops:=ops) (f:=f) (l:=l) (a:=a.put (yp ops i) (f i));rw[this.1,this.2];exact⟨size_put _ _ _,yy _ _ _⟩
theorem ju{ops:Array Oper}{f:Nat->Value}{s:Nat}:∀{l:List Nat} {a:Act},(∀i∈l,yp ops i≠Tc s)->qa (y8 ops f l a) s=qa a s
 |[],_,_=>rfl
 |i::l,a,h=>by unfold y8;rw[ju λj b=>h j (zal _ b)];exact qq (h i zaq)
theorem BN{ops:Array Oper}{f:Nat->Value}:∀{l m:List Nat} {a:Act},y8 ops f (l++m) a=y8 ops f m (y8 ops f l a)
 |[],_,_=>rfl
 |i::l,m,a=>by rw[zby];show y8 ops f (l++m) _=y8 ops f m (y8 ops f l _);exact BN
theorem Bq{P:Program}{n:Nat}{h:zc}{ld:Bool}{ops:Array Oper}{K:aR->Prop}(z:Nat->Value):∀{l:List Nat} {e:aR} {a:Act},l.Nodup->wI P n h ld ops K l e->Sat n e a->∃(f:Nat->Value) (e':aR),K e'/\Sat n e' (y8 ops f l a)/\(∀i,i∉l->f i=z i) /\
  ∀b i A,l=b++i::A->∃o,ops[i]?=Tc o/\(ld=Tb->ql o=Tb)/\Zs o.op=Ta/\(∀t,o.dst=Tc t->t<n) /\ (za8 o (yielded ops (y8 ops f b a).tmps)=Ta->∀h',LdOK o (y8 ops f b a).eval h h'->QExec P (execOp (y8 ops f b a).eval o) h' (.value (f i)))/\(za8 o (yielded ops (y8 ops f b a).tmps)≠Ta->f i=undef)
 |[],e,a,_,H,hs=>⟨z,e,H,hs,λ_ _=>rfl,λb i A h=>by simp at h⟩
 |i::l,e,a,hnd,H,hs=>by
  unfold wI at H;cases ho:ops[i]? with
  |none=>simp_all
  |some o=>
   rw[ho]at H;simp only at H;cases hq:oE o with
   |false=>simp_all
   |true=>
    rw[hq,zH]at H;cases hld:(bif ld then Ta else !(ql o))with
    |false=>simp_all
    |true=>
     rw[hld,zH]at H;cases hns:Zs o.op with
     |false=>simp_all
     |true=>
      rw[hns,zH]at H;split at H;rename_i c G;cases hd:jf n c o.dst with
      |false=>simp_all
      |true=>
       rw[hd,zH]at H;cases hk:known e c o.op.operands.toList with
       |false=>simp_all
       |true=>
        rw[hk,zH]at H;split at H;rename_i g I;rw[zcv]at hnd;obtain⟨v,D,F⟩:=N4 hq H;have r:yp ops i=o.dst:=qi ho;obtain⟨u,s,p⟩:∃u,(valid (qa a) c->u=v)/\(¬valid (qa a) c->u=undef):=by by_cases k:valid (qa a) c;simp_all;simp_all
        have q:=Qr hs G;obtain⟨f,e',J,Q,M,N⟩:=Bq (λx=>if x=i then u else z x) (a:=a.put o.dst u) hnd.2 D (hs.putO hd s p);have m:f i=u:=by rw[M i hnd.1,zb rfl]
        have B:∀b,y8 ops f (i::b) a=y8 ops f b (a.put o.dst u):=λb=>by show y8 ops f b (a.put (yp ops i) (f i))=_;rw[r,m]
        refine⟨f,e',J,by grind,λj O=>?_,λb j A y=>?_⟩;simp_all;cases b with
        |nil=>simp only[zco,zcg]at y;obtain⟨rfl,rfl⟩:=y;refine⟨o,ho,λy=>by simp_all,hns,λt C=>by rw[C]at hd;unfold jf at hd;simp_all,λw h' L=>?_,λw=>?_⟩;show QExec P (execOp a.eval o) h' _;have k:=q.1 w;rw[qI hs k hns hk,m,s k];exact F (Yz hs I k) h' (LdOK.congr (λx E=>(Yx hs k hk x E).symm) L);rw[m];exact p λk=>w (q.2 k)
        |cons S b=>grind
        exact H.elim
      exact H.elim
def rv(gq:Nat)(ops:Array Oper)(U:List Nat):Nat->Bool
 |0=>Tb
 |k+1=>bif (match ops[k]? with
  |some o=>bif ql o then(bif eK gq ops k then Tb else !(memN U k))else Tb
  |none=>Tb)then Ta else rv gq ops U k
theorem Eh{ops:Array Oper}{U:List Nat}:∀{m:Nat},rv gq ops U m=Tb->∀k o,k<m->ops[k]?=Tc o->ql o=Ta->eK gq ops k=Tb->k∈U
 |0,_,k,o,hk,_,_,_=>by omega
 |m+1,h,k,o,hk,ho,hl,hi=>by
  unfold rv at h;cases hb:(match ops[m]? with
   |some o=>bif ql o then(bif eK gq ops m then Tb else !(memN U m))else Tb
   |none=>Tb)with
  |true=>simp_all
  |false=>
   rw[hb,zI]at h;rcases zbf k m with h1|h1;exact Eh h k o h1 ho hl hi;have:k=m:=by omega
   simp_all[zH,zI,Jx]
def nW(gq:Nat)(ops:Array Oper)(U:List Nat)(e:aR)(h0 h':zc)(K:Prop):Nat->Prop
 |0=>K
 |k+1=>match ops[k]? with
  |some o=>bif (bif ql o then(bif eK gq ops k then Tb else !(memN U k))else Tb)then(match o.op,Zu ops e o.guard with
   |.load _ a,some c=>bif known e c [a]then(match iP e c a,Yy e c with
    |.pointer (Tc p),some g=>req g (h'[p.block]?=h0[p.block]?)/\nW gq ops U e h0 h' K k
    |_,_=>False)else False
   |_,_=>False)else nW gq ops U e h0 h' K k
  |none=>nW gq ops U e h0 h' K k
theorem JH{ops:Array Oper}{U:List Nat}{e:aR}{h0 h':zc}{K:Prop}:∀{m:Nat},nW gq ops U e h0 h' K m->K/\∀k o,k<m->ops[k]?=Tc o->ql o=Ta->eK gq ops k=Tb->k∉U ->
  ∃t a p c g,o.op=.load t a/\Zu ops e o.guard=Tc c/\Yy e c=Tc g/\known e c [a]=Ta/\iP e c a=.pointer (Tc p)/\req g (h'[p.block]?=h0[p.block]?)
 |0,H=>⟨H,λk o l=>by omega⟩
 |m+1,H=>by
  unfold nW at H;have step:nW gq ops U e h0 h' K m->(∀o,ops[m]?=Tc o->ql o=Ta->eK gq ops m=Tb->m∉U->∃t a p c g,o.op=.load t a/\Zu ops e o.guard=Tc c/\Yy e c=Tc g/\known e c [a]=Ta/\iP e c a=.pointer (Tc p)/\req g (h'[p.block]?=h0[p.block]?)) ->
    K/\∀k o,k<m+1->ops[k]?=Tc o->ql o=Ta->eK gq ops k=Tb->k∉U->∃t a p c g,o.op=.load t a/\Zu ops e o.guard=Tc c/\Yy e c=Tc g/\known e c [a]=Ta/\iP e c a=.pointer (Tc p)/\req g (h'[p.block]?=h0[p.block]?):=λh n=>by
   obtain⟨h1,f⟩:=JH h;grind
  cases ho:ops[m]? with
  |none=>grind
  |some o=>
   rw[ho]at H;simp only at H;have same:∀b,ops[m]?=Tc b->b=o:=λb h1=>za6 (h1.symm.trans ho);cases hc:(bif ql o then(bif eK gq ops m then Tb else !(memN U m))else Tb)with
   |false=>rw[hc]at H;refine step H λb h1 f i q=>?_;rw[same b h1]at f;rw[f,i,zH,zI]at hc;grind [Jx]
   |true=>grind
def re(gq:Nat)(ops:Array Oper)(T:List Nat)(e:aR)(h0 h':zc)(K:Prop):Prop:=bif rv gq ops (ki ops ops.size T) ops.size then nW gq ops (ki ops ops.size T) e h0 h' K ops.size else K
def uz(ops:Array Oper)(todo:List Nat)(j:Nat):Bool:=todo.all λk=>bif Nat.beq k j then Ta else !(memN (ki ops ops.size [j]) k)
def ng(gq:Nat)(P:Program)(n:Nat)(ops:Array Oper)(h0:zc)(K:aR->zc->Prop):Nat->List Nat->List Nat->aR->zc->Prop
 |_,_,[],e,h=>K e h
 |0,_,_::_,_,_=>False
 |f+1,T,b::l0,e,h=>BX (λj=>match ops[j]? with
  |some o=>(match Zu ops e o.guard with|some c=>bif jf n c o.dst then lu P o e c h λv h'=>wI P n h' Tb ops (λe'=>re gq ops (j::T) e' h0 h' (ng gq P n ops h0 K f (j::T) (iH j (b::l0)) e' h')) (kQ (Xn gq ops T ops.size) (Xn gq ops (j::T) ops.size) ops.size) (putO e o.dst c v)else False|none=>False)
  |none=>False) (sM (uz ops (b::l0)) (b::l0))
theorem z4d{K:aR->zc->Prop}{f:Nat}{T todo:List Nat}(H:ng gq P n ops h0 K (f+1) T todo e h){j:Nat}(b:j∈todo)(i:uz ops todo j=Ta):match ops[j]? with
  |some o=>(match Zu ops e o.guard with|some c=>bif jf n c o.dst then lu P o e c h λv h'=>wI P n h' Tb ops (λe'=>re gq ops (j::T) e' h0 h' (ng gq P n ops h0 K f (j::T) (iH j todo) e' h')) (kQ (Xn gq ops T ops.size) (Xn gq ops (j::T) ops.size) ops.size) (putO e o.dst c v)else False|none=>False)
  |none=>False:=by
 cases todo with
 |nil=>cases b
 |cons l k=>exact KO H j (xF b i)
def oN(gq:Nat)(ops:Array Oper)(k:Nat)(S:List Nat):Nat->Bool
 |0=>Ta
 |p+1=>bif (match yp ops p with
  |some t=>bif memN S t then(bif Region.waitsFor .any ops k p then Ta else bif eK gq ops p then Region.waitsFor .any ops p k else Tb)else Ta
  |none=>Ta)then oN gq ops k S p else Tb
theorem Xo{ops:Array Oper}{k:Nat}{S:List Nat}:∀{m:Nat},oN gq ops k S m=Ta->∀p t,p<m->yp ops p=Tc t->t∈S->Region.waitsFor .any ops k p=Ta\/(eK gq ops p=Ta/\Region.waitsFor .any ops p k=Ta)
 |0,_,p,t,hp,_,_=>by omega
 |m+1,h,p,t,hp,hd,ht=>by
  simp only[oN]at h;cases hb:(match yp ops m with
   |some t=>bif memN S t then(bif Region.waitsFor .any ops k m then Ta else bif eK gq ops m then Region.waitsFor .any ops m k else Tb)else Ta
   |none=>Ta)with
  |false=>simp_all
  |true=>
   rw[hb]at h;rcases zbf p m with h1|h1;exact Xo h p t h1 hd ht;have:p=m:=by omega
   simp_all[tq,zH]
def pT(gq:Nat)(ops:Array Oper):Nat->Bool
 |0=>Ta
 |k+1=>bif (match ops[k]? with
  |some o=>oN gq ops k (tmpsOf o.op.operands.toList) ops.size
  |none=>Ta)then pT gq ops k else Tb
theorem Xp{ops:Array Oper}:∀{m:Nat},pT gq ops m=Ta->∀k o,k<m->ops[k]?=Tc o->oN gq ops k (tmpsOf o.op.operands.toList) ops.size=Ta
 |0,_,k,o,hk,_=>by omega
 |m+1,h,k,o,hk,ho=>by
  unfold pT at h;cases hb:(match ops[m]? with
   |some o=>oN gq ops m (tmpsOf o.op.operands.toList) ops.size
   |none=>Ta)with
  |false=>simp_all
  |true=>rw[hb,zH]at h;rcases zbf k m with h1|h1;exact Xp h k o h1 ho;grind
def pm(ops:Array Oper)(o:Oper):List Nat:=match o.guard with
 |none=>[]
 |some (j,_)=>match yp ops j with
  |some t=>[t]
  |none=>[]
def pa(ops:Array Oper):Nat->Bool
 |0=>Ta
 |k+1=>bif (match ops[k]? with
  |some o=>bif Zs o.op then Zc ops k (pm ops o) ops.size else Tb
  |none=>Ta)then pa ops k else Tb
theorem yU{ops:Array Oper}:∀{m:Nat},pa ops m=Ta->∀k o,k<m->ops[k]?=Tc o->Zs o.op=Ta/\Zc ops k (pm ops o) ops.size=Ta
 |0,_,k,o,hk,_=>by omega
 |m+1,h,k,o,hk,ho=>by
  unfold pa at h;cases hb:(match ops[m]? with
   |some o=>bif Zs o.op then Zc ops m (pm ops o) ops.size else Tb
   |none=>Ta)with
  |false=>simp_all
  |true=>rw[hb,zH]at h;rcases zbf k m with h1|h1;exact yU h k o h1 ho;grind
theorem y3(h:∀t∈pm ops o,qa a t=qa b t):za8 o (yielded ops a.tmps)=za8 o (yielded ops b.tmps):=by
 unfold za8;cases hg:o.guard with
 |none=>rfl
 |some f=>
  obtain⟨j,p⟩:=f;have:yielded ops a.tmps j=yielded ops b.tmps j:=by
   unfold yielded;cases hd:(ops[j]?).bind (·.dst)with
   |none=>rfl
   |some t=>
    have e:yp ops j=Tc t:=by
     unfold yp;cases hoj:ops[j]? with
     |none=>simp_all
     |some i=>simp_all
    have c:=h t (by unfold pm;simp_all);unfold qa at c;simp only[zbp]at c;simp only[zcy];cases h1:a.tmps[t]? <;> cases h2:b.tmps[t]? <;> rw[h1,h2]at c <;> simp at c <;> first|rfl|(subst c;rfl)|(rw[<-c];rfl)|(rw[c];rfl)
  grind
def rG(gq:Nat)(ops:Array Oper):Bool:=bif pa ops ops.size then(bif ym ops ops.size then(bif Yh ops ops.size then pT gq ops ops.size else Tb)else Tb)else Tb
theorem F5(h:rG gq ops=Ta):pa ops ops.size=Ta/\ym ops ops.size=Ta/\Yh ops ops.size=Ta/\pT gq ops ops.size=Ta:=by unfold rG at h;simp_all
structure St7 (gq:Nat) (P:Program) (n:Nat) (ops:Array Oper) (h0:zc) (K:aR->zc->Prop) (f:Nat->Value) (a0:Act) (listed:Array Bool) (a b:Act) (e:aR) (h:zc) (done todo:List Nat):Prop where
 inv:HeadInv .any ops ops.size listed
 ag:∀s,(∀i o,ops[i]?=Tc o->eK gq ops i=Tb->listed.getD i Tb=Tb->o.dst≠Tc s)->qa a s=qa b s
 sz:a.tmps.size=n
 ad:a.defers=[]
 sb:Sat n e b
 qv:∀i o t,ops[i]?=Tc o->i∈Xn gq ops done ops.size->o.dst=Tc t->qa b t=f i/\t<n
 qx:∀i o,ops[i]?=Tc o->i∈Xn gq ops done ops.size->listed.getD i Tb=Tb->(za8 o (yielded ops b.tmps)=Ta->∀h',LdOK o b.eval h0 h'->QExec P (execOp b.eval o) h' (.value (f i)))/\(za8 o (yielded ops b.tmps)≠Ta->f i=undef)
 tt:∀j,j∈i4 gq ops->(j∈todo↔listed.getD j Tb=Tb)
 ch:∀j,j∈i4 gq ops->(listed.getD j Tb=Ta↔j∈done)
 dn:∀j∈done,j∈i4 gq ops
 th:∀j∈todo,j∈i4 gq ops
 nd:todo.Nodup
 wt:∃fu,todo.length<=fu/\ng gq P n ops h0 K fu done todo e h
 kp:∀i o,ops[i]?=Tc o->ql o=Ta->eK gq ops i=Tb->listed.getD i Tb=Tb->za8 o (yielded ops b.tmps)=Ta->LdOK o b.eval h0 h
 sm:Same (j4 ops.toList) a0 a
theorem F0{ld:Bool}(F:pa ops ops.size=Ta)(w:ym ops ops.size=Ta)(N:Yh ops ops.size=Ta)(L:pT gq ops ops.size=Ta){f:Nat->Value}(E:b.tmps.size=n)(m:∀i∈l,i<ops.size)(aa:∀i∈l,eK gq ops i=Tb)(u:l.Pairwise (· < ·)) (H:∀c i e,l=c++i::e->∃o,ops[i]?=Tc o/\(ld=Tb->ql o=Tb)/\Zs o.op=Ta/\(∀t,o.dst=Tc t->t<n) /\ (za8 o (yielded ops (y8 ops f c b).tmps)=Ta->∀h',LdOK o (y8 ops f c b).eval h h'->QExec P (execOp (y8 ops f c b).eval o) h' (.value (f i)))/\(za8 o (yielded ops (y8 ops f c b).tmps)≠Ta->f i=undef)):
  ∀i o,ops[i]?=Tc o->i∈l->(∀t,o.dst=Tc t->qa (y8 ops f l b) t=f i/\t<n)/\(ld=Tb->ql o=Tb) /\ (za8 o (yielded ops (y8 ops f l b).tmps)=Ta->∀h',LdOK o (y8 ops f l b).eval h h'->QExec P (execOp (y8 ops f l b).eval o) h' (.value (f i)))/\(za8 o (yielded ops (y8 ops f l b).tmps)≠Ta->f i=undef):=by
 intro i o D hi;obtain⟨c,e,rfl⟩:=List.append_of_mem hi;obtain⟨y,q1,U,q4,V,Z,Y⟩:=H c i e rfl;have:y=o:=za6 (q1.symm.trans D);subst this;have p:i<ops.size:=m i (by simp);have hs:∀j∈e,i<j:=λj k=>by rw[zdp]at u;simp_all
 have q:y8 ops f (c++i::e) b=y8 ops f e ((y8 ops f c b).put (yp ops i) (f i)):=by rw[BN];rfl
 have r:yp ops i=y.dst:=qi D;have B:∀j∈i::e,Region.waitsFor .any ops i j=Ta->False:=λj k G=>by obtain⟨oj,J,x,I,Q,S⟩:=Region.waitsFor_spec G;have h1:=qh w i oj p J x I Q;grind
 have O:y8 ops f (c++i::e) b=y8 ops f (i::e) (y8 ops f c b):=BN;have z:∀t∈tmpsOf y.op.operands.toList,qa (y8 ops f (c++i::e) b) t=qa (y8 ops f c b) t:=λt s=>by rw[O];refine ju λj k C=>B j k ?_;rcases Xo (Xp L i y p D) j t (m j (by simp[k])) C s with h|h;exact h;simp_all
 have M:za8 y (yielded ops (y8 ops f (c++i::e) b).tmps)=za8 y (yielded ops (y8 ops f c b).tmps):=y3 λt s=>by rw[O];exact ju λj k C=>B j k (jm (yU F i y p D).2 j t (m j (by simp[k])) C s)
 rw[M];refine⟨λt s=>?_,U,λG h' hh=>?_,Y⟩;have A:=V t s;refine⟨?_,A⟩;rw[q,ju λj k C=>?_,r,s,jy (by rw[Eu.1,E];exact A)];have:=y5 N i j t p (m j (by simp[k])) (by rw[r,s]) C;grind;rw[Qg q4 z];exact Z G h' (LdOK.congr (λx I=>(xh z x I).symm) hh)
theorem qen{K:aR->zc->Prop}{Q:Exit->Act->World->Prop}(B:World)(hmix:rG gq ops=Ta){a0:Act}
    (hQ:∀e' a' d' h',Sat n e' a'->Same (j4 ops.toList) a0 a'->K e' h'->Q .normal a' (mk B d' h')):
    ∀(N:Nat) (U:List Nat) (listed:Array Bool) (f:Nat->Value) (a b:Act) (e:aR) (h:zc) (d:Nat) (done todo:List Nat),U.length=N->U.Nodup->(∀k,k∈U↔k<ops.size/\listed.getD k Tb=Tb) ->
      St7 gq P n ops h0 K f a0 listed a b e h done todo->wpAny P .any ops Q N listed a (mk B d h):=by
  obtain⟨hng,hback,hnd,hsl⟩:=F5 hmix
  have hgd:∀(i:Nat) (o:Oper),ops[i]?=Tc o->Zs o.op=Ta/\Zc ops i (pm ops o) ops.size=Ta:=λi o ho=>yU hng i o (zai.1 ho).1 ho
  have hslot0:∀k o,ops[k]?=Tc o->∀p t,p<ops.size->yp ops p=Tc t->t∈tmpsOf o.op.operands.toList->Region.waitsFor .any ops k p=Ta\/(eK gq ops p=Ta/\Region.waitsFor .any ops p k=Ta):=λk o ho p t hp hd ht=>
    Xo (Xp hsl k o (zai.1 ho).1 ho) p t hp hd ht
  have hbk:∀k p,Region.waitsFor .any ops k p=Ta->p<k:=λk p hw=>by
    obtain⟨oj,hoj,x,hx,hb,hon⟩:=Region.waitsFor_spec hw
    have:=qh hback k oj (zai.1 hoj).1 hoj x hx hb
    omega
  have fin:∀{listed:Array Bool} {f:Nat->Value} {a b:Act} {e:aR} {h:zc} {d:Nat} {done todo:List Nat},(∀k,k<ops.size->listed.getD k Tb=Ta)->St7 gq P n ops h0 K f a0 listed a b e h done todo->Q .normal a (mk B d h):=by
    intro listed f a b e h d done todo hall S
    have htodo:todo=[]:=by
      cases htd:todo with
      |nil=>rfl
      |cons j l=>
        have hm:j∈todo:=by rw[htd];simp
        have hj:=S.th j hm
        have:=(S.tt j hj).1 hm
        rw[hall j (pk.1 hj).1]at this;cases this
    obtain⟨fu,_,hw⟩:=S.wt
    rw[htodo]at hw
    have hw:K e h:=by cases fu <;> exact hw
    have hv:∀s,qa a s=qa b s:=λs=>S.ag s λi o ho hq hl=>by
      grind
    have hs:Sat n e a:=⟨S.ad,S.sz,λx hx=>by
      have:=S.sb.all x hx
      have e1:qa a=qa b:=funext hv
      grind⟩
    exact hQ _ _ _ _ hs S.sm hw
  intro N
  induction N with
  |zero=>
    intro U listed f a b e h d done todo hU _ hmem S
    have hUn:U=[]:=zbq.1 hU
    subst hUn
    have hall:∀k,k<ops.size->listed.getD k Tb=Ta:=λk hk=>by
      simp_all
    refine⟨?_,fin hall S⟩
    rw[List.eq_nil_iff_forall_not_mem]
    intro j hj
    obtain⟨h1,o,ho,_⟩:=mem_ready.1 hj
    grind
  |succ N ih=>
    intro U listed f a b e h d done todo hU hdup hmem S
    have hex:∃k,k<ops.size/\listed.getD k Tb=Tb:=by
      cases U with
      |nil=>cases hU
      |cons k U=>exact⟨k,(hmem k).1 zaq⟩
    refine⟨λhr=>?_,λi hi=>?_⟩
    · exfalso
      obtain⟨k,hk1,hk2,hk3⟩:=Xm hex
      have:k∈Region.ready .any ops listed:=mem_ready.2 ⟨by rw[<-hk2];simp[S.inv.size,hk1],ops[k],zbl hk1,λx hx hb=>hk3 _ (qh hback k ops[k] hk1 (zbl hk1) x hx hb)⟩
      grind
    · obtain⟨hun1,o,ho,hall⟩:=mem_ready.1 hi
      have hun:listed.getD i Tb=Tb:=getD_both hun1
      have hlt:i<ops.size:=(zai.1 ho).1
      obtain⟨hns,hgs⟩:=hgd i o ho
      have hils:i<listed.size:=by rw[S.inv.size];exact hlt
      have hU':(U.erase i).length=N:=by rw[zdr ((hmem i).2 ⟨hlt,hun⟩),hU];rfl
      have hdup':(U.erase i).Nodup:=hdup.erase i
      have hmem':∀k,k∈U.erase i↔k<ops.size/\(listed.setIfInBounds i Ta).getD k Tb=Tb:=λk=>by
        rw[hdup.mem_erase_iff,hmem k]
        by_cases hk:i=k
        · subst hk;simp[hils]
        · rw[getD_set_ne Tb hk];grind
      have inv':=S.inv.set hi hlt
      have hset:∀k,k≠i->(listed.setIfInBounds i Ta).getD k Tb=listed.getD k Tb:=λk hk=>getD_set_ne Tb (Ne.symm hk)
      have hsetI:(listed.setIfInBounds i Ta).getD i Tb=Ta:=by simp[hils]
      have hops:∀t∈tmpsOf o.op.operands.toList,qa a t=qa b t:=λt ht=>S.ag t λk ok hok hq hl hd=>by
        rcases hslot0 i o ho k t (zai.1 hok).1 (by rw[qi hok,hd]) ht with hw|hw
        grind [Zj]
        grind
      have hexec:=Qg hns hops
      have hsame:∀v,Same (j4 ops.toList) a0 (a.put o.dst v):=λv=>S.sm.trans (Same.put a o.dst _ λt ht=>pH (by
          grind) t ht)
      unfold wpOp
      rw[ho]
      simp only
      have hwab:za8 o (yielded ops a.tmps)=za8 o (yielded ops b.tmps):=y3 λt ht=>S.ag t λk ok hok hq hl hd=>by
        have hw:=jm hgs k t (zai.1 hok).1 (by rw[qi hok,hd]) ht
        grind [Zj]
      cases hq:eK gq ops i with
      |false=>
        have hrdyG:∀m k ok,k<m->ops[k]?=Tc ok->eK gq ops k=Tb->(∀p,Region.waitsFor .any ops k p=Ta->listed.getD p Tb=Ta)->k∈Xn gq ops done ops.size:=by
          intro m
          induction m with
          |zero=>omega
          |succ m ihm=>
            intro k ok hk hok hkh hkw
            refine vy (zai.1 hok).1 hkh (tO.2 λp hp hw=>⟨λhph=>?_,λhph=>?_⟩)
            · have hpl:=hkw p hw
              exact(S.ch p (pk.2 ⟨by grind,hph⟩)).1 hpl
            · have hps:p<ops.size:=by have:=(zai.1 hok).1;omega
              have hin:=ihm p ops[p] (by omega) (zbl hps) hph λq hq2=>jo S.inv (hkw p hw) hq2
              grind [xd,vy]
        have hrdy:=hrdyG (i+1) i o (by omega) ho hq λp hw=>Zj hi hw
        have hqx:=S.qx i o ho hrdy hun
        have hnot:i∉i4 gq ops:=λhm=>by rw[(pk.1 hm).2]at hq;cases hq
        have hunset:∀k,(listed.setIfInBounds i Ta).getD k Tb=Tb->listed.getD k Tb=Tb:=λk hu=>by
          grind
        have hfin:wpAny P .any ops Q N (listed.setIfInBounds i Ta) (a.put o.dst (f i)) (mk B d h):=by
         refine ih _ _ f _ b e h d done todo hU' hdup' hmem' { S with inv:=inv',ag:=λs hs=>?_,sz:=by rw[size_put];exact S.sz,ad:=by rw[yy];exact S.ad,tt:=λj hj=>(by have:j≠i:=λe=>hnot (e ▸ hj);rw[hset j this];exact S.tt j hj),ch:=λj hj=>?_,qx:=λk ok hok hk hu=>S.qx k ok hok hk (hunset k hu),kp:=λk ok hok hl hkh hk=>?_,sm:=hsame _ }
         · by_cases hd:o.dst=Tc s
           · obtain⟨hv,hsn⟩:=S.qv i o s ho hrdy hd
             rw[hd,jy (by rw[S.sz];exact hsn),hv]
           · rw[qq hd]
             refine S.ag s λk ok hok hqk hlk=>?_
             grind
         · have:j≠i:=λe=>hnot (e ▸ hj)
           rw[hset j this];exact S.ch j hj
         · by_cases hki:k=i
           grind
           · rw[hset k hki]at hk;exact S.kp k ok hok hl hkh hk
        by_cases hw:za8 o (yielded ops a.tmps)=Ta
        · rw[zb hw]
          left
          unfold Oper.wp
          rw[hexec,hqx.1 (by grind) h (by
            cases hl:ql o with
            |false=>exact .inl hl
            |true=>exact S.kp i o ho hl hq hun (by grind)) B d,Oper.upon_value]
          exact hfin
        grind
      |true=>
        have hin:i∈i4 gq ops:=pk.2 ⟨hlt,hq⟩
        have hit:i∈todo:=(S.tt i hin).2 hun
        obtain⟨fu,hfu,hW0⟩:=S.wt
        have hcl:∀p q,(listed.setIfInBounds i Ta).getD p Tb=Ta->Region.waitsFor .any ops p q=Ta->(listed.setIfInBounds i Ta).getD q Tb=Ta:=λp q h1 h2=>jo inv' h1 h2
        have hcand:uz ops todo i=Ta:=by
          unfold uz
          rw[zas]
          intro k hk
          cases hki:Nat.beq k i with
          |true=>rfl
          |false=>
            have hne:k≠i:=λe=>by rw[e]at hki;simp at hki
            cases hr:memN (ki ops ops.size [i]) k with
            |false=>rfl
            |true=>
              exfalso
              have:=vh hcl (m:=ops.size) (S:=[i]) (λj hj=>by grind) k (Jx hr)
              rw[hset k hne]at this
              have h2:=(S.tt k (S.th k hk)).1 hk
              grind
        have hW:match ops[i]? with
            |some o=>(match Zu ops e o.guard with|some c=>bif jf n c o.dst then lu P o e c h λv h'=>wI P n h' Tb ops (λe'=>re gq ops (i::done) e' h0 h' (ng gq P n ops h0 K (fu-1) (i::done) (iH i todo) e' h')) (kQ (Xn gq ops done ops.size) (Xn gq ops (i::done) ops.size) ops.size) (putO e o.dst c v)else False|none=>False)
            |none=>False:=by
          cases fu with
          |zero=>grind
          |succ fu=>
            grind [z4d]
        rw[ho]at hW
        simp only at hW
        cases hch:Zu ops e o.guard with
        |none=>grind
        |some c=>
        rw[hch]at hW
        simp only at hW
        cases hd:jf n c o.dst with
        |false=>grind
        |true=>
          rw[hd,zH]at hW
          have hwv:=Qr S.sb hch
          have key:∀(v u:Value) (d':Nat) (h':zc),(valid (qa b) c->u=v)->(¬valid (qa b) c->u=undef)->wI P n h' Tb ops (λe'=>re gq ops (i::done) e' h0 h' (ng gq P n ops h0 K (fu-1) (i::done) (iH i todo) e' h')) (kQ (Xn gq ops done ops.size) (Xn gq ops (i::done) ops.size) ops.size) (putO e o.dst c v)->wpAny P .any ops Q N (listed.setIfInBounds i Ta) (a.put o.dst u) (mk B d' h'):=by
           intro v v2 d' h' hv1 hv0 hK
           have sb1:Sat n (putO e o.dst c v) (b.put o.dst v2):=S.sb.putO hd hv1 hv0
           generalize hbl:kQ (Xn gq ops done ops.size) (Xn gq ops (i::done) ops.size) ops.size=bl at hK
           have hbm:∀k,k∈bl↔k<ops.size/\k∈Xn gq ops (i::done) ops.size/\k∉Xn gq ops done ops.size:=λk=>by rw[<-hbl];exact Lv
           have hbsort:bl.Pairwise (· < ·):=by rw[<-hbl];exact Gm _ _ _
           have hbnd:bl.Nodup:=hbsort.imp λh=>by omega
           obtain⟨f',e2,HK,sb2,hf0,hfx⟩:=Bq f hbnd hK sb1
           have hbf:=F0 hng hback hnd hsl (f:=f') (l:=bl) (b:=b.put o.dst v2) sb1.size (λk hk=>((hbm k).1 hk).1) (λk hk=>(xd ((hbm k).1 hk).2.1).2.1) hbsort hfx
           have hbnh:∀k∈bl,eK gq ops k=Tb:=λk hk=>(xd ((hbm k).1 hk).2.1).2.1
           have hlist':∀j,j∈i4 gq ops->((listed.setIfInBounds i Ta).getD j Tb=Ta↔j∈i::done):=λj hj=>by
             by_cases hji:j=i
             · subst hji;grind
             · rw[hset j hji,S.ch j hj];simp[hji]
           have hjl:∀j∈i::done,(listed.setIfInBounds i Ta).getD j Tb=Ta:=λj hj=>by
             rcases zah.1 hj with rfl|hj
             · exact hsetI
             · exact getD_set_true ((S.ch j (S.dn j hj)).2 hj)
           have hup:∀k,k∈ki ops ops.size (i::done)->(listed.setIfInBounds i Ta).getD k Tb=Ta:=λk hk=>vh hcl hjl k hk
           have hundone:i∉done:=λhm=>by rw[(S.ch i hin).2 hm]at hun;cases hun
           have hslot1:∀k ok,ops[k]?=Tc ok->k∈Xn gq ops done ops.size->listed.getD k Tb=Tb->∀t∈tmpsOf ok.op.operands.toList,qa (b.put o.dst v2) t=qa b t:=λk ok hok hk hu t ht=>qq λhdo=>by
             rcases hslot0 k ok hok i t hlt (by rw[qi ho,hdo]) ht with hw|hw
             · exact hundone ((tK hk (hbk k i hw) hw).1 hq)
             · rw[Zj hi hw.2]at hu;cases hu
           have hslot2:∀k ok,ops[k]?=Tc ok->k∈Xn gq ops done ops.size->listed.getD k Tb=Tb->∀t∈tmpsOf ok.op.operands.toList,qa (y8 ops f' bl (b.put o.dst v2)) t=qa b t:=λk ok hok hk hu t ht=>by
             rw[ju λp hp hdp=>?_]
             · exact hslot1 k ok hok hk hu t ht
             · rcases hslot0 k ok hok p t ((hbm p).1 hp).1 hdp ht with hw|hw
               · exact((hbm p).1 hp).2.2 ((tK hk (hbk k p hw) hw).2 (hbnh p hp))
               · have:=hbnh p hp
                 grind
           have hslot3:∀k ok,ops[k]?=Tc ok->k∈Xn gq ops done ops.size->za8 ok (yielded ops (y8 ops f' bl (b.put o.dst v2)).tmps)=za8 ok (yielded ops b.tmps):=λk ok hok hk=>y3 λt ht=>by
             have hwt:∀p,p<ops.size->yp ops p=Tc t->Region.waitsFor .any ops k p=Ta:=λp hp hd=>jm (hgd k ok hok).2 p t hp hd ht
             rw[ju λp hp hdp=>((hbm p).1 hp).2.2 ((tK hk (hbk k p (hwt p ((hbm p).1 hp).1 hdp)) (hwt p ((hbm p).1 hp).1 hdp)).2 (hbnh p hp))]
             exact qq λhdo=>hundone ((tK hk (hbk k i (hwt i hlt (by rw[qi ho,hdo]))) (hwt i hlt (by rw[qi ho,hdo]))).1 hq)
           have hdist:∀k ok t,ops[k]?=Tc ok->k≠i->ok.dst=Tc t->o.dst≠Tc t:=λk ok t hok hki hdk hdo=>by
             have:=y5 hnd k i t (zai.1 hok).1 hlt (by rw[qi hok,hdk]) (by rw[qi ho,hdo])
             exact hki this
           have hne_i:∀k,eK gq ops k=Tb->k≠i:=λk hk e=>by rw[e,hq]at hk;cases hk
           have hQK:ng gq P n ops h0 K (fu-1) (i::done) (iH i todo) e2 h'/\(∀k ok,ops[k]?=Tc ok->ql ok=Ta->eK gq ops k=Tb->(listed.setIfInBounds i Ta).getD k Tb=Tb->za8 ok (yielded ops (y8 ops f' bl (b.put o.dst v2)).tmps)=Ta->LdOK ok (y8 ops f' bl (b.put o.dst v2)).eval h0 h'):=by
             unfold re at HK
             cases hl:rv gq ops (ki ops ops.size (i::done)) ops.size with
             |false=>
               rw[hl,zI]at HK
               exact⟨HK,λk ok hok hlo hkh hf _=>by rw[hup k (Eh hl k ok (zai.1 hok).1 hok hlo hkh)]at hf;cases hf⟩
             |true=>
               rw[hl,zH]at HK
               obtain⟨g1,g2⟩:=JH HK
               refine⟨g1,λk ok hok hlo hkh hf hw=>.inr (.inr λt a p hop hp=>?_)⟩
               obtain⟨t',a',p',c',g',e1,ec,eg,e2',e3,e4⟩:=g2 k ok (zai.1 hok).1 hok hlo hkh (λhm=>by rw[hup k hm]at hf;cases hf)
               rw[hop]at e1
               injection e1 with _ e1
               subst e1
               have hvc:=(Qr sb2 ec).1 hw
               have eb:(y8 ops f' bl (b.put o.dst v2)).eval a=iP e2 c' a:=Yx sb2 hvc e2' a (by simp)
               rw[eb,e3]at hp
               injection hp with hp
               injection hp with hp
               rw[<-hp];exact e4.out (Yz sb2 eg hvc)
           have htt:∀j,j∈i4 gq ops->(j∈iH i todo↔(listed.setIfInBounds i Ta).getD j Tb=Tb):=λj hj=>by
             rw[rP]
             by_cases hji:j=i
             · subst hji;rw[hsetI];simp
             · rw[hset j hji,<-S.tt j hj];simp;omega
           refine ih _ _ f' _ (y8 ops f' bl (b.put o.dst v2)) e2 h' d' (i::done) (iH i todo) hU' hdup' hmem' ⟨inv',λs hs=>?_,by rw[size_put];exact S.sz,by rw[yy];exact S.ad,sb2,λk ok t hok hk hdk=>?_,λk ok hok hk hu=>?_,htt,hlist',(λj hj=>by
             rcases zah.1 hj with rfl|hj
             · exact hin
             · exact S.dn j hj),(λj hj=>S.th j (rP.1 hj).1),zO S.nd,⟨fu-1,by have:=HE hit;omega,hQK.1⟩,hQK.2,hsame _⟩
           · -- slots
             have hs':∀k ok,ops[k]?=Tc ok->eK gq ops k=Tb->listed.getD k Tb=Tb->ok.dst≠Tc s:=λk ok hok hqk hlk=>hs k ok hok hqk (by rw[hset k (hne_i k hqk)];exact hlk)
             have hbl:∀p∈bl,yp ops p≠Tc s:=λp hp hdp=>by
               have hps:=((hbm p).1 hp).1
               have hok:ops[p]?=Tc ops[p]:=zbl hps
               have hph:=hbnh p hp
               refine hs p _ hok hph ?_ (by rw[<-qi hok];exact hdp)
               cases hlp:(listed.setIfInBounds i Ta).getD p Tb with
               |false=>rfl
               |true=>
                 exfalso
                 rw[hset p (hne_i p hph)]at hlp
                 have:∀m q,q<m->q<ops.size->eK gq ops q=Tb->listed.getD q Tb=Ta->q∈Xn gq ops done ops.size:=by
                   intro m
                   induction m with
                   |zero=>omega
                   |succ m ihm=>
                     intro q hqm hqs hqh hql
                     refine vy hqs hqh (tO.2 λp2 hp2 hw2=>⟨λhph2=>?_,λhph2=>?_⟩)
                     · exact(S.ch p2 (pk.2 ⟨by omega,hph2⟩)).1 (jo S.inv hql hw2)
                     · have hin2:=ihm p2 (by omega) (by omega) hph2 (jo S.inv hql hw2)
                       obtain⟨_,g2,g3⟩:=xd hin2
                       exact vy hp2 g2 g3
                 exact((hbm p).1 hp).2.2 (this (p+1) p (by omega) hps hph hlp)
             rw[ju hbl]
             by_cases hds:o.dst=Tc s
             · rw[hds]
               have hsn:s<n:=by
                 rw[hds]at hd
                 unfold jf at hd
                 simp at hd;exact hd.2
               rw[jy (by rw[S.sz];exact hsn),jy (by rw[S.sb.size];exact hsn)]
             · rw[qq hds,qq hds];exact S.ag s hs'
           · by_cases hkb:k∈bl
             · exact(hbf k ok hok hkb).1 t hdk
             · have hk0:k∈Xn gq ops done ops.size:=zc0 λhc=>hkb ((hbm k).2 ⟨(zai.1 hok).1,hk,hc⟩)
               have hkh:=(xd hk0).2.1
               obtain⟨q1,q2⟩:=S.qv k ok t hok hk0 hdk
               refine⟨?_,q2⟩
               rw[ju λp hp hdp=>?_,qq (hdist k ok t hok (hne_i k hkh) hdk),q1,hf0 k hkb]
               have:=y5 hnd p k t ((hbm p).1 hp).1 (zai.1 hok).1 hdp (by rw[qi hok,hdk])
               subst this;exact hkb hp
           · by_cases hkb:k∈bl
             · obtain⟨_,q2,q3,q4⟩:=hbf k ok hok hkb
               exact⟨λhw h'' _=>q3 hw h'' (.inl (q2 rfl)),q4⟩
             · have hk0:k∈Xn gq ops done ops.size:=zc0 λhc=>hkb ((hbm k).2 ⟨(zai.1 hok).1,hk,hc⟩)
               have hu0:listed.getD k Tb=Tb:=by rw[<-hset k (hne_i k (xd hk0).2.1)];exact hu
               have hx:=S.qx k ok hok hk0 hu0
               rw[hslot3 k ok hok hk0,hf0 k hkb,Qg (b:=b) (hgd k ok hok).1 (hslot2 k ok hok hk0 hu0)]
               exact⟨λhw h'' hh=>hx.1 hw h'' (LdOK.congr (λx hx=>(xh (hslot2 k ok hok hk0 hu0) x hx).symm) hh),hx.2⟩
          by_cases hv:valid (qa b) c
          · rw[zb (by grind)]
            left
            unfold Oper.wp
            rw[hexec]
            refine xY (b:=b) S.sb.defers ?_
            refine AC hW S.sb hv B d λv d' h' hK=>⟨by rw[yy];exact S.sb.defers,λv2 hv2=>?_⟩
            have hbv:b.put o.dst v2=b.put o.dst v:=hv2.symm
            by_cases hds:∃t,o.dst=Tc t
            · obtain⟨t,ht⟩:=hds
              have htn:t<n:=by
                have hd2:=hd
                rw[ht]at hd2
                unfold jf at hd2
                simp at hd2;exact hd2.2
              have:v2=v:=by
                have e1:qa (b.put o.dst v2) t=qa (b.put o.dst v) t:=by rw[hbv]
                rw[ht,jy (by rw[S.sb.size];exact htn),jy (by rw[S.sb.size];exact htn)]at e1
                exact e1
              grind
            · have hdn:o.dst=Td:=by
                cases hdx:o.dst with
                |none=>rfl
                |some t=>grind
              have e1:a.put o.dst v2=a.put o.dst v:=by rw[hdn];rfl
              grind
          · rw[za (by grind)]
            obtain⟨v,hK⟩:=DK hW S.sb hv
            grind
theorem Tt(hi:i<ops.size)(b:i<gq-1):eK gq ops i=Tb:=by
 unfold eK;rw[zbl hi];simp only;have c:Nat.blt i (gq-1)=Ta:=by rw[zct];exact b
 rw[c,zH]
def rO(n:Nat)(ops:Array Oper):Nat->Bool
 |0=>Ta
 |c+1=>bif (match yp ops c with
  |some t=>Nat.blt t n
  |none=>Ta)then rO n ops c else Tb
theorem Fh{n:Nat}{ops:Array Oper}:∀{c:Nat},rO n ops c=Ta->∀i t,i<c->yp ops i=Tc t->t<n
 |0,_,i,_,hi,_=>by omega
 |c+1,h,i,t,hi,hd=>by
  unfold rO at h;cases hb:(match yp ops c with
   |some t=>Nat.blt t n
   |none=>Ta)with
  |false=>simp_all
  |true=>
   rw[hb,zH]at h;rcases zbf i c with h1|h1;exact Fh h i t h1 hd;have:i=c:=by omega
   subst this;rw[hd]at hb;rw[zct]at hb;exact hb
def oz(P:Program)(n gq:Nat)(ops:Array Oper)(h:zc)(K:aR->zc->Prop)(e:aR):Prop:=
 bif (bif rG gq ops then rO n ops (gq-1)else Tb)then wI P n h Ta ops (λe'=>ng gq P n ops h K (i4 gq ops).length [] (i4 gq ops) e' h) (kQ (zbk (gq-1)) (Xn gq ops [] ops.size) ops.size) e else False
theorem zX{K:aR->zc->Prop}{Q:Exit->Act->World->Prop}(B:World) (H:oz P n gq ops h K e) (hs:Sat n e a) (hQ:∀e' a' d' h',Sat n e' a'->Same (j4 ops.toList) a a'->K e' h'->Q .normal a' (mk B d' h')) (d:Nat) {listed:Array Bool} (aj:listed.size=ops.size) (hl:∀k,k<ops.size->listed.getD k Tb=decide (k<gq-1)):
  wpAny P .any ops Q (ops.size-(gq-1)) listed a (mk B d h):=by
 unfold oz at H;cases hmix:rG gq ops with
 |false=>rw[hmix]at H;exact H.elim
 |true=>
 cases hdl:rO n ops (gq-1)with
 |false=>rw[hmix,hdl]at H;exact H.elim
 |true=>
 rw[hmix,hdl]at H;simp only[zH]at H;obtain⟨ab,w,U,af⟩:=F5 hmix;have q:∀k,k∈kQ (zbk (gq-1)) (Xn gq ops [] ops.size) ops.size↔k∈Xn gq ops [] ops.size/\¬k<gq-1:=λk=>by rw[Lv,zcd];exact⟨λh=>⟨h.2.1,h.2.2⟩,λh=>⟨(xd h.1).1,h⟩⟩
 have r:=Gm (zbk (gq-1)) (Xn gq ops [] ops.size) ops.size;generalize kQ (zbk (gq-1)) (Xn gq ops [] ops.size) ops.size=bl at H q r;have J:bl.Nodup:=r.imp λh=>by omega
 obtain⟨f,e2,HK,ah,ai,ak⟩:=Bq (λi=>match yp ops i with|some t=>qa a t|none=>undef) J H hs;have G:=F0 ab w U af (f:=f) (l:=bl) (b:=a) hs.size (λk A=>(xd ((q k).1 A).1).1) (λk A=>(xd ((q k).1 A).1).2.1) r ak;have V:∀k,k<ops.size->listed.getD k Tb=Tb->¬k<gq-1:=λk A h=>by rw[hl k A]at h;exact zC h
 have z:∀k,k<ops.size->¬k<gq-1->listed.getD k Tb=Tb:=λk A h=>by rw[hl k A];exact zF h
 have L:∀s,(∀i o,ops[i]?=Tc o->eK gq ops i=Tb->listed.getD i Tb=Tb->o.dst≠Tc s)->qa a s=qa (y8 ops f bl a) s:=λs ae=>(ju λp F y=>by have Y:=(xd ((q p).1 F).1).1;have Z:ops[p]?=Tc ops[p]:=zbl Y;exact ae p _ Z (xd ((q p).1 F).1).2.1 (z p Y ((q p).1 F).2) (by rw[<-qi Z];exact y)).symm;have aa:∀j,j∈i4 gq ops->listed.getD j Tb=Tb:=λj u=>by obtain⟨h1,E⟩:=pk.1 u;refine z j h1 λhc=>?_;rw[Tt h1 hc]at E;cases E
 have N:((zbk ops.size).filter λk=>decide (¬k<gq-1)).length=ops.size-(gq-1):=by
  generalize gq-1=c;generalize ops.size=m;induction m with
  |zero=>simp
  |succ m ih=>rw[List.range_succ,List.filter_append,zat,ih];by_cases hm:m<c;have e:decide (¬m<c)=Tb:=zF λh=>h hm;rw[zc4,e];show m-c+0=m+1-c;omega;have e:decide (¬m<c)=Ta:=zD hm;rw[zc4,e];show m-c+1=m+1-c;omega
 refine qen B hmix hQ (ops.size-(gq-1)) ((zbk ops.size).filter λk=>decide (¬k<gq-1)) _ f a (y8 ops f bl a) e2 h d [] (i4 gq ops) N (zd9.filter _) (λk=>by rw[zde,zcd];constructor;rintro⟨h1,E⟩;exact⟨h1,z k h1 (zB E)⟩;rintro⟨h1,E⟩;exact⟨h1,zD (V k h1 E)⟩) ⟨⟨aj,λj oj u S x hx hb=>?_,λt ht an=>by omega⟩,L,hs.size,hs.defers,ah,λi o t O hi hd=>?_,λi o O hi hu=>(G i o O ((q i).2 ⟨hi,V i (xd hi).1 hu⟩)).2.2,(λj u=>by rw[aa j u];simp[u]),(λj u=>by rw[aa j u];simp),(λj u=>by cases u),(λj u=>u),z7w ops,⟨_,zaf _,HK⟩,λ_ _ _ _ _ _=>λ_=>.inr (.inl (Keep.refl _ _)),Same.refl _ _⟩;have I:=(zai.1 u).1;rw[hl j I]at S;have ap:=zB S;have am:=qh w j oj I u x hx hb;rw[hl _ (by omega)];exact zD (by omega);by_cases C:i<gq-1;have M:i∉bl:=λhm=>((q i).1 hm).2 C;have D:yp ops i=Tc t:=by rw[qi O,hd]
 refine⟨?_,Fh hdl i t C D⟩;rw[ai i M,ju λp F y=>?_];rw[D];have:=y5 U p i t (xd ((q p).1 F).1).1 (zai.1 O).1 y D;exact M (this ▸ F);exact(G i o O ((q i).2 ⟨hi,C⟩)).1 t hd
theorem Dn{K:aR->zc->Prop}{Q:Exit->Act->World->Prop}(B:World)(b:gq-1=0) (H:oz P n gq ops h K e) (i:Sat n e a)
  (c:∀e' a' f h',Sat n e' a'->Same (j4 ops.toList) a a'->K e' h'->Q .normal a' (mk B f h')) (d:Nat):wpAny P .any ops Q ops.size (zbr ops.size Tb) a (mk B d h):=by
 have:=zX (gq:=gq) B H i c d (listed:=zbr ops.size Tb) (by simp) λk l=>by rw[getD_replicate_false,b];simp
 rw[b]at this;exact this
def yT:List (Nat×Nat)->Nat->Option Nat
 |[],_=>Td
 |(j,m)::l,i=>bif Nat.beq i j then Tc m else yT l i
def regionF(P:Program)(n:Nat)(c:List (Nat×Nat))(id:Nat)(ops:Array Oper)(b:Bool)(K:aR->zc->Prop)(e:aR)(h:zc):Prop:=
 bif b then(match yT c id with
  |none=>bif Region.lexB .any ops then wQ P n ops h Ta (λe'=>K (clean e') h) ops.toList e else False
  |some m=>oz P n (bif Nat.beq m 7000 then 1 else 0) ops h (λe h=>K (clean e) h) e)
 else wR P n ops K ops.toList e h
theorem Qh(l m:List Oper):j4 (l++m)=j4 l++j4 m:=by
 induction l with
 |nil=>rfl
 |cons o l b=>simp only[zby,j4];split <;> simp[b]
theorem KJ(p:P.follows .mixedOrders=Ta){q:List (Nat×Nat)}{id:Nat}{b:Bool}{K:aR->zc->Prop} (H:regionF P n q id ops b K e h) (B:World) (d:Nat) (f:Sat n e a) {Q:Exit->Act->World->Prop}
  (i:∀e' a' c h',Sat n e' a'->Same (j4 ops.toList) a a'->K e' h'->Q .normal a' (mk B c h')):(zc8 id ops b).wp P Q a (mk B d h):=by
 unfold regionF at H;cases b with
 |false=>exact wp_region_list (Xl B _ _ _ _ _ H f i)
 |true=>
  simp only[zH]at H;split at H;cases hB:Region.lexB .any ops with
  |false=>rw[hB]at H;exact H.elim
  |true=>rw[hB]at H;refine wp_region_quiet (C:=λw=>∃d,w=mk B d h) p hB ⟨d+1,rfl⟩ ?_;refine Gt B _ _ _ H f λe' a' k o l=>?_;rintro w' ⟨c,rfl⟩;exact i _ _ _ _ k.clean o l
  rename_i m _;exact wp_region_any p (Dn B (by cases Nat.beq m 7000 <;> rfl) H f (λe' a' c h' k o l=>i _ _ _ _ k.clean o l) (d+1))
end
section
variable {P:Program} {ops:Array Oper} {i c c':Nat}
def zJ(Q:Exit->Act->World->Prop)(N:Act->World->Prop):Exit->Act->World->Prop
 |.normal,a,w=>N a w
 |.ret,a,w=>Q .ret a w
 |.exit i,a,w=>Q (.exit i) a w
 |.goto l,a,w=>Q (.goto l) a w
 |.panic c,a,w=>Q (.panic c) a w
 |.outgrown,a,w=>Q .outgrown a w
theorem Ra{ops c:Array Oper}{Q:Exit->Act->World->Prop}{N:Act->World->Prop}{a:Act}{w:World}{K k:Act->World->Prop}(m:c[i]?=ops[i]?)
  (l:∀o,ops[i]?=Tc o->za8 o (yielded c a.tmps)=za8 o (yielded ops a.tmps)) (h:∀a w,k a w->K a w) (b:wpOp P c (zJ Q N) i k a w):wpOp P ops Q i K a w:=by
 replace b:=wpOp_mono h b
 unfold wpOp at b ⊢;rw[m]at b;cases e:ops[i]? with
 |none=>rw[e]at b;exact b
 |some o=>
  rw[e]at b;simp only at b ⊢;rw[l o e]at b;by_cases f:za8 o (yielded ops a.tmps)=Ta;rw[zb f]at b ⊢;refine b.imp (λh1=>?_) λ⟨h1,a',w',p⟩=>⟨h1,a',w',p⟩;unfold Oper.wp at h1 ⊢;generalize (execOp a.eval o).run P w=r at *;cases r with
  |ok n w'=>cases n <;> simp only[Oper.upon]at h1 ⊢ <;> first|exact h1|exact Calls.mono h1 λe q s=>by cases e <;> exact s
  |halt x w'=>cases x <;> simp only[Oper.upon]at h1 ⊢ <;> exact h1
  rw[za f]at b ⊢;exact b
def takeA(ops:Array Oper)(c:Nat):Array Oper:=(ops.toList.take c).toArray
theorem CF(h:i<c):(takeA ops c)[i]?=ops[i]?:=by unfold takeA;rw[zc9,zba,zb h,zb7]
theorem Up(h:c<=ops.size):(takeA ops c).size=c:=by unfold takeA;simp;omega
def pG(ops:Array Oper)(c:Nat):Nat->Bool
 |0=>Ta
 |m+1=>bif (match ops[m]? with
  |some o=>(match o.guard with
   |some (j,_)=>Nat.blt j c
   |none=>Ta)
  |none=>Ta)then pG ops c m else Tb
theorem Hk{ops:Array Oper}{c:Nat}:∀{m:Nat},pG ops c m=Ta->∀i o j b,i<m->ops[i]?=Tc o->o.guard=Tc (j,b)->j<c
 |0,_,i,_,_,_,hi,_,_=>by omega
 |m+1,h,i,o,j,b,hi,ho,hg=>by
  unfold pG at h;cases hb:(match ops[m]? with
   |some o=>(match o.guard with
    |some (j,_)=>Nat.blt j c
    |none=>Ta)
   |none=>Ta)with
  |false=>simp_all
  |true=>
   rw[hb,zH]at h;rcases zbf i m with h1|h1;exact Hk h i o j b h1 ho hg;have:i=m:=by omega
   subst this;rw[ho]at hb;simp only[hg]at hb;rw[zct]at hb;exact hb
def oW(ops:Array Oper)(c i:Nat):Nat->Bool
 |0=>Tb
 |m+1=>bif (bif Nat.ble c (m+1)then Region.waitsFor .any ops i m else Tb)then Ta else oW ops c i m
theorem Kz{ops:Array Oper}{c i:Nat}:∀{m:Nat},oW ops c i m=Ta->∃k,k<m/\c<=k+1/\Region.waitsFor .any ops i k=Ta
 |0,h=>by cases h
 |m+1,h=>by
  unfold oW at h;cases hb:(bif Nat.ble c (m+1)then Region.waitsFor .any ops i m else Tb)with
  |true=>
   cases h1:Nat.ble c (m+1)with
   |false=>rw[h1]at hb;cases hb
   |true=>rw[h1,zH]at hb;exact⟨m,by omega,zbz h1,hb⟩
  |false=>rw[hb,zI]at h;obtain⟨k,h1,b⟩:=Kz h;exact⟨k,by omega,b⟩
def oP(ops:Array Oper)(c:Nat):Nat->Bool
 |0=>Ta
 |m+1=>bif (bif Nat.blt m c then Ta else oW ops c m m)then oP ops c m else Tb
theorem HD{ops:Array Oper}{c:Nat}:∀{m:Nat},oP ops c m=Ta->∀i,i<m->c<=i->oW ops c i i=Ta
 |0,_,i,hi,_=>by omega
 |m+1,h,i,hi,hc=>by
  unfold oP at h;cases hb:(bif Nat.blt m c then Ta else oW ops c m m)with
  |false=>rw[hb]at h;cases h
  |true=>
   rw[hb,zH]at h;rcases zbf i m with h1|h1;exact HD h i h1 hc;have:i=m:=by omega
   subst this;cases h2:Nat.blt i c with
   |true=>rw[zct]at h2;omega
   |false=>rw[h2,zI]at hb;exact hb
def rL(S:List Nat):Nat->Bool
 |0=>Ta
 |m+1=>bif memN S m then rL S m else Tb
theorem HG{S:List Nat}:∀{m:Nat},rL S m=Ta->∀j,j<m->j∈S
 |0,_,j,hj=>by omega
 |m+1,h,j,hj=>by
  unfold rL at h;cases hb:memN S m with
  |false=>rw[hb]at h;cases h
  |true=>
   rw[hb,zH]at h;rcases zbf j m with h1|h1;exact HG h j h1;have:j=m:=by omega
   exact this ▸ Jx hb
def pM(ops:Array Oper)(c c':Nat):Bool:=
 bif (bif Nat.blt c c' then Nat.ble c' ops.size else Tb)then(bif ym ops ops.size then(bif pG ops c' c' then(bif oP ops c' ops.size then rL (ki ops ops.size [c'-1]) c' else Tb)else Tb)else Tb)else Tb
theorem BG(h:pM ops c c'=Ta):c<c'/\c'<=ops.size/\ym ops ops.size=Ta/\pG ops c' c'=Ta/\oP ops c' ops.size=Ta/\rL (ki ops ops.size [c'-1]) c'=Ta:=by
 unfold pM at h;cases h1:Nat.blt c c' with
 |false=>rw[h1]at h;cases h
 |true=>
 cases h2:Nat.ble c' ops.size with
 |false=>rw[h1,h2]at h;cases h
 |true=>
 cases h3:ym ops ops.size with
 |false=>rw[h1,h2,h3]at h;cases h
 |true=>
 cases h4:pG ops c' c' with
 |false=>rw[h1,h2,h3,h4]at h;cases h
 |true=>
 cases h5:oP ops c' ops.size with
 |false=>rw[h1,h2,h3,h4,h5]at h;cases h
 |true=>
 rw[h1,h2,h3,h4,h5]at h;rw[zct]at h1;exact⟨h1,zbz h2,rfl,rfl,rfl,h⟩
theorem O4(x:pM ops c c'=Ta){listed:Array Bool}(inv:HeadInv .any ops ops.size listed):∀(m i:Nat),i<m->c'<=i->i<ops.size->(∀p,Region.waitsFor .any ops i p=Ta->listed.getD p Tb=Ta)->∀j,j<c'->listed.getD j Tb=Ta:=by
 obtain⟨h1,z,A,B,w,q⟩:=BG x;have last:listed.getD (c'-1) Tb=Ta->∀j,j<c'->listed.getD j Tb=Ta:=λo j t=>
  vh (λi p a b=>jo inv a b) (λk e=>by rw[zbm]at e;rw[e];exact o) j (HG q j t)
 intro m;induction m with
 |zero=>intro i hi;omega
 |succ m u=>intro i hi f h n;obtain⟨k,y,k2,s⟩:=Kz (HD w i h f);have e:=n k s;by_cases r:k+1=c';exact last (by rw[show c'-1=k by omega];exact e);exact u k (by omega) (by omega) (by omega) λp l=>jo inv e l
theorem Hb(c:Nat):∀m:Nat,((zbk m).filter λk=>decide (¬k<c)).length=m-c
 |0=>by simp
 |m+1=>by rw[List.range_succ,List.filter_append,zat,Hb c m];by_cases b:m<c;have e:decide (¬m<c)=Tb:=zF λh=>h b;rw[zc4,e];show m-c+0=m+1-c;omega;have e:decide (¬m<c)=Ta:=zD b;rw[zc4,e];show m-c+1=m+1-c;omega
theorem Pv{Q:Exit->Act->World->Prop}{c c' M:Nat}(hc:pM ops c c'=Ta):
  ∀(N:Nat) (U:List Nat) (listed e:Array Bool) (a:Act) (w:World),U.length=N->U.Nodup->(∀k,k∈U↔k<c'/\listed.getD k Tb=Tb)->e.size=c'->(∀k,k<c'->e.getD k Tb=listed.getD k Tb)->(∀k,c'<=k->k<ops.size->listed.getD k Tb=Tb) -> HeadInv .any ops ops.size listed -> wpAny P .any (takeA ops c') (zJ Q λa w=>∀L:Array Bool,L.size=ops.size->(∀k,k<ops.size->L.getD k Tb=decide (k<c'))->wpAny P .any ops Q M L a w) N e a w->wpAny P .any ops Q (N+M) listed a w:=by
 obtain⟨h1,h2,h3,h4,h5,h6⟩:=BG hc;intro N;induction N with
 |zero=>
  intro U listed e a w J C f l s q inv H;have Y:U=[]:=zbq.1 J;rw[za5];refine H.2 listed inv.size λk h=>?_;by_cases B:k<c';rw[zD B];cases hl:listed.getD k Tb with
  |true=>rfl
  |false=>have:=(f k).2 ⟨B,hl⟩;rw[Y]at this;cases this
  rw[zF B];exact q k (by omega) h
 |succ N ih=>
  intro U listed e a w J C f l s q inv H;obtain⟨u,V,D⟩:∃k,k<c'/\listed.getD k Tb=Tb:=by
   cases U with
   |nil=>cases J
   |cons k U=>exact⟨k,(f k).1 zaq⟩
  rw[show N+1+M=(N+M)+1 by omega];refine⟨λhr=>?_,λi hi=>?_⟩;exfalso;obtain⟨k,r,S,ae⟩:=Xm (p:=λk=>listed.getD k Tb) (N:=ops.size) ⟨u,by omega,D⟩;have:k∈Region.ready .any ops listed:=mem_ready.2 ⟨by rw[<-S];simp[inv.size,r],ops[k],zbl r,λx O I=>ae _ (qh h3 k ops[k] r (zbl r) x O I)⟩;rw[hr]at this;cases this;obtain⟨E,o,ho,G⟩:=mem_ready.1 hi;have F:listed.getD i Tb=Tb:=getD_both E;have t:i<ops.size:=(zai.1 ho).1;have m:i<c':=by refine zc0 λhn=>?_;have:=O4 hc inv (i+1) i (by omega) (by omega) t (λp hp=>Zj hi hp) u V;rw[D]at this;cases this
  have aa:i∈Region.ready .any (takeA ops c') e:=mem_ready.2 ⟨getD_in (by omega) (by rw[s i m];exact F),o,by rw[CF m];exact ho,λx O I=>by have af:=qh h3 i o t ho x O I;rw[s _ (by omega)];exact G x O I⟩;refine Ra (CF m) (λo' ab=>?_) (λa' w' hK=>?_) (H.2 i aa);unfold za8;cases hg:o'.guard with
  |none=>rfl
  |some jb=>obtain⟨j,b⟩:=jb;have hj:=Hk h4 i o' j b m ab hg;simp only[yielded,CF hj]
  have y:i<listed.size:=by rw[inv.size];exact t
  have n:∀k,k≠i->(listed.setIfInBounds i Ta).getD k Tb=listed.getD k Tb:=λk h=>getD_set_ne Tb (Ne.symm h);have A:∀k,k≠i->(e.setIfInBounds i Ta).getD k Tb=e.getD k Tb:=λk h=>getD_set_ne Tb (Ne.symm h);refine ih (U.erase i) _ _ a' w' (by rw[zdr ((f i).2 ⟨m,F⟩),J];rfl) (C.erase i) (λk=>?_) (by simpa using l) (λk h=>?_) (λk h Z=>by rw[n k (by omega)];exact q k h Z) (inv.set hi t) hK;rw[C.mem_erase_iff,f k];by_cases h:k=i;subst h;simp[y];rw[n k h];simp[h];by_cases z:k=i;subst z;simp[y,l,h];rw[n k z,A k z];exact s k h
end
section
variable {n:Nat} {e:aR} {a:Act} {ms:List Nat} {ops:Array Oper} {P:Program} {h:zc} {R:Value -> zc -> Prop} {f:FuncId}
@[reducible] def jQ:List Atom->Type->Type
 |[],X=>X
 |t::l,X=>t.den->jQ l X
def rF{X:Type}:(l:List Atom)->jQ l X->(List Value->X->Prop)->Prop
 |[],f,k=>k [] f
 |t::l,f,k=>∀x:t.den,rF l (f x) λvs y=>k (t.enc x::vs) y
def iB{X:Type}:(l:List Atom)->List Value->jQ l X->Option X
 |[],[],f=>Tc f
 |t::l,v::vs,f=>match t.dec v with
  |some x=>iB l vs (f x)
  |none=>Td
 |_,_,_=>Td
def nm{X:Type}:(l:List Atom)->(List Value->X)->jQ l X
 |[],f=>f []
 |t::l,f=>λx=>nm l λvs=>f (t.enc x::vs)
def nB{X Y:Type}:(l:List Atom)->jQ l X->jQ l Y->jQ l (X×Y)
 |[],f,g=>(f,g)
 |_::l,f,g=>λx=>nB l (f x) (g x)
theorem vO{X:Type}:∀{l:List Atom} {vs:List Value} {f:jQ l X} {x:X} {k:List Value->X->Prop},iB l vs f=Tc x->rF l f k->k vs x
 |[],[],f,x,k,h,g=>by simp only[iB,zab]at h;subst h;exact g
 |[],_::_,f,x,k,h,g=>by simp[iB]at h
 |_::_,[],f,x,k,h,g=>by simp[iB]at h
 |t::l,v::vs,f,x,k,h,g=>by simp only[iB]at h;split at h;rename_i y b;have:=vO h (g y);grind [Atom.enc_of_dec];cases h
theorem uR{X:Type}:∀{l:List Atom} {vs:List Value} {f:List Value->X} {x:X},iB l vs (nm l f)=Tc x->x=f vs
 |[],[],f,x,h=>by simp only[iB,nm,zab]at h;exact h.symm
 |[],_::_,f,x,h=>by simp[iB]at h
 |_::_,[],f,x,h=>by simp[iB]at h
 |t::l,v::vs,f,x,h=>by simp only[iB,nm]at h;split at h;rename_i y b;have:=uR h;grind [Atom.enc_of_dec];cases h
theorem tT{X:Type}:∀{l:List Atom} {f:List Value->X} {k:List Value->X->Prop},(∀vs,k vs (f vs))->rF l (nm l f) k
 |[],_,_,h=>h []
 |_::_,_,_,h=>λ_=>tT λ_=>h _
abbrev ic:=List (Nat×VT)
def wb:ic->List Atom
 |[]=>[]
 |(_,.one t)::J=>t::wb J
 |(_,.agg l)::J=>l++wb J
def iN(σ:Nat->Option Value):ic->Option (List Value)
 |[]=>Tc []
 |(i,.one _)::J=>match σ i,iN σ J with
  |some v,some vs=>Tc (v::vs)
  |_,_=>Td
 |(i,.agg l)::J=>match σ i,iN σ J with
  |some (.agg cs),some vs=>bif Nat.beq cs.toList.length l.length then Tc (cs.toList++vs)else Td
  |_,_=>Td
def Qs:ic->List Value->aR
 |[],_=>[]
 |(i,.one _)::J,v::vs=>(i,[],v)::Qs J vs
 |(_,.one _)::_,[]=>[]
 |(i,.agg l)::J,vs=>(i,[],.agg (vs.take l.length).toArray)::Qs J (vs.drop l.length)
def jt(e:aR)(i:Nat):Option Value:=match look e i with
 |some ([],v)=>Tc v
 |_=>Td
theorem jv(h:Sat n e a){i:Nat}{v:Value}(b:jt e i=Tc v):qa a i=v:=by unfold jt at b;split at b;rename_i u c;simp only[zab]at b;subst b;exact(h.all _ (pL c)).1 trivial;cases b
theorem yr{n:Nat}{e:aR}{a:Act}(h:Sat n e a):∀{J:ic} {vs:List Value},iN (jt e) J=Tc vs->iN (λi=>Tc (qa a i)) J=Tc vs
 |[],vs,hv=>hv
 |(i,.one t)::J,vs,hv=>by simp only[iN]at hv ⊢;split at hv;rename_i v us h1 b;simp only[yr h b,jv h h1];exact hv;cases hv
 |(i,.agg l)::J,vs,hv=>by simp only[iN]at hv ⊢;split at hv;rename_i cs us h1 b;simp only[yr h b,jv h h1];exact hv;cases hv
theorem xI{σ:Nat->Value}:∀{J:ic} {vs:List Value},iN (λi=>Tc (σ i)) J=Tc vs->∀x∈Qs J vs,fact σ x
 |[],vs,_,x,b=>by cases b
 |(i,.one t)::J,vs,hv,x,b=>by simp only[iN]at hv;split at hv;rename_i v us h1 e;simp only[zab]at h1 hv;subst hv;simp only[Qs,zah]at b;rcases b with rfl|b;exact⟨λ_=>h1,λf=>absurd trivial f⟩;exact xI e x b;cases hv
 |(i,.agg l)::J,vs,hv,x,b=>by
  simp only[iN]at hv;split at hv;rename_i cs us h1 e;simp only[zab]at h1;cases hb:Nat.beq cs.toList.length l.length with
  |false=>simp_all
  |true=>rw[hb]at hv;simp only[zH,zab]at hv;subst hv;have c:cs.toList.length=l.length:=zak hb;simp only[Qs,zah]at b;rcases b with rfl|b;refine⟨λ_=>?_,λf=>absurd trivial f⟩;simp_all;rw[<-c,List.drop_left]at b;exact xI e x b
  cases hv
def Jk(ms:List Nat):aR->aR
 |[]=>[]
 |(i,[],v)::e=>bif memN ms i then Jk ms e else(i,[],v)::Jk ms e
 |(_,_::_,_)::e=>Jk ms e
theorem TA{x:Nat×qk×Value}(h:x∈Jk ms e):x∈e/\x.2.1=[]/\x.1∉ms:=by
 induction e with
 |nil=>cases h
 |cons y e b=>
  obtain⟨i,c,v⟩:=y;cases c with
  |nil=>
   simp only[Jk]at h;cases hm:memN ms i with
   |true=>simp_all
   |false=>rw[hm]at h;simp only[zI]at h;rcases zah.1 h with rfl|h;exact⟨zaq,rfl,Qd hm⟩;simp_all
  |cons g c=>simp only[Jk]at h;simp_all
theorem Wo{a f:Act}(o:Sat n e a)(k:f.defers=[])(hz:f.tmps.size=n)(b:Same ms a f){J:ic}{vs:List Value}
  (q:iN (λi=>Tc (qa f i)) J=Tc vs):Sat n (Qs J vs++Jk ms e) f:=by
 refine⟨k,hz,λx c=>?_⟩;rcases zaz.1 c with c|c;exact xI q x c;obtain⟨h1,h,m⟩:=TA c;have l:=o.all x h1;refine⟨λ_=>?_,λp=>absurd (by rw[h];trivial) p⟩;rw[b _ m];exact l.1 (by rw[h];trivial)
def jz:Code->Option Nat
 |.region id _ _=>Tc id
 |.seq a b=>match jz a with
  |some i=>Tc i
  |none=>jz b
 |.cond _ a b=>match jz a with
  |some i=>Tc i
  |none=>jz b
 |.block _ b=>jz b
 |.loop b=>jz b
 |.scope b=>jz b
 |_=>Td
def Zd:Code->List Nat
 |.region _ ops _=>j4 ops.toList
 |.seq a b=>Zd a++Zd b
 |.cond _ a b=>Zd a++Zd b
 |.block _ b=>Zd b
 |.loop b=>Zd b
 |.scope b=>Zd b
 |_=>[]
structure Plan where
 tails:List (Nat×Nat)
 loops:List (Nat×ic)
 joins:List (Nat×ic)
def Dm:List (Nat×ic)->Nat->Option ic
 |[],_=>Td
 |(j,m)::l,i=>bif Nat.beq i j then Tc m else Dm l i
def sx(l:List (Nat×ic)):Option Nat->Option ic
 |some i=>Dm l i
 |none=>Td
abbrev Wp:=Exit->aR->zc->Prop
def ma(K:aR->zc->Prop)(Q:Wp):Wp
 |.normal,e,h=>K e h
 |x,e,h=>Q x e h
def mc(id:Nat)(Q:Wp):Wp
 |.exit i,e,h=>bif Nat.beq i id then Q .normal e h else Q (.exit i) e h
 |x,e,h=>Q x e h
def Ua(Q:Wp):Wp
 |.goto _,_,_=>False
 |x,e,h=>Q x e h
def qH{X:Type}(J:ic)(F:jQ (wb J) X)(e:aR)(k:X->Prop):Prop:=
 match iN (jt e) J with
 |some vs=>match iB (wb J) vs F with
  |some q=>k q
  |none=>False
 |none=>False
def wY(J:ic)(rest:aR->zc->Prop)(F:(aR->zc->Prop)->Prop)(b:aR):Prop:=
 ∀K:jQ (wb J) (zc->Prop),rF (wb J) K (λvs q=>∀h,rest (Qs J vs++b) h->q h)->F λe h=>qH J K e λq=>q h
def BW(J:ic)(body:(aR->zc->Prop)->aR->zc->Prop)(b e:aR)(h:zc):Prop:=
 ∃(I:jQ (wb J) (zc->Prop)) (μ:jQ (wb J) (zc->Nat)),(qH J (nB (wb J) I μ) e λp=>p.1 h) /\
  rF (wb J) (nB (wb J) I μ) λvs p=>∀h,p.1 h->body (λe' h'=>qH J (nB (wb J) I μ) e' λq=>q.1 h'/\q.2 h'<p.2 h) (Qs J vs++b) h
def yK:List (Nat×ic)->Nat->List (Nat×ic)
 |[],_=>[]
 |(j,m)::l,i=>bif Nat.beq (j / 1000) (100+i)then(j % 1000,m)::yK l i else yK l i
def qY(P:Program)(n:Nat)(ops:Array Oper)(K:aR->zc->Prop):List (Nat×ic)->Nat->aR->zc->Prop
 |[],c,e,h=>oz P n (c+1) ops h (λe h=>K (clean e) h) e
 |(c',J)::l,c,e,h=>bif pM ops c c' then wY J (λe h=>qY P n ops K l c' e h) (λb=>oz P n (c+1) (takeA ops c') h b e) (Jk (j4 (ops.toList.take c')) e)else False
def zM(P:Program)(n:Nat)(pl:Plan)(id:Nat)(ops:Array Oper)(b:Bool)(K:aR->zc->Prop)(e:aR)(h:zc):Prop:=match yK pl.joins id with
 |[]=>regionF P n pl.tails id ops b K e h
 |x::l=>bif b then qY P n ops K (x::l) 0 e h else False
def W(P:Program)(n:Nat)(pl:Plan):Code->Wp->aR->zc->Prop
 |.skip,Q,e,h=>Q .normal e h
 |.ret,Q,e,h=>Q .ret e h
 |.exit id,Q,e,h=>Q (.exit id) e h
 |.label _,Q,e,h=>Q .normal e h
 |.goto l,Q,e,h=>Q (.goto l) e h
 |.region id ops draw,Q,e,h=>zM P n pl id ops draw (λe h=>Q .normal e h) e h
 |.seq x y,Q,e,h=>match sx pl.joins (jz y)with
  |none=>W P n pl x (ma (λe h=>W P n pl y Q e h) Q) e h
  |some J=>wY J (λe h=>W P n pl y Q e h) (λK=>W P n pl x (ma K Q) e h) (Jk (Zd x) e)
 |.cond c x y,Q,e,h=>match Wl e [] c with
  |some (.bool b)=>(b=Ta->W P n pl x Q e h)/\(b=Tb->W P n pl y Q e h)
  |_=>False
 |.block id x,Q,e,h=>W P n pl x (mc id Q) e h
 |.loop x,Q,e,h=>match sx pl.loops (jz x)with
  |some J=>BW J (λf e h=>W P n pl x (ma f Q) e h) (Jk (Zd x) e) e h
  |none=>False
 |.scope x,Q,e,h=>W P n pl x (Ua Q) e h
 |_,_,_,_=>False
def F2(n:Nat)(B:World)(ms:List Nat)(a0:Act)(Q:Wp):Exit->Act->World->Prop:=
 λx a w=>∃e d h,w=mk B d h/\Sat n e a/\Same ms a0 a/\Q x e h
theorem Xq{X:Type}{J:ic}{F:jQ (wb J) X}{k:X->Prop}(h:qH J F e k):∃vs q,iN (jt e) J=Tc vs/\iB (wb J) vs F=Tc q/\k q:=by unfold qH at h;grind
theorem ZH{c:Nat}:∀x,x∈j4 (takeA ops c).toList->x∈j4 ops.toList:=λx b=>by rw[<-zce c ops.toList,Qh];exact zap _ b
theorem Ro{K:aR->zc->Prop}{Q:Exit->Act->World->Prop}(B:World){a0:Act}
  (V:∀e' a' u h',Sat n e' a'->Same (j4 ops.toList) a0 a'->K e' h'->Q .normal a' (mk B u h')):∀(l:List (Nat×ic)) (c:Nat) (e:aR) (h:zc),qY P n ops K l c e h->∀(a:Act) (d:Nat) (listed:Array Bool),Sat n e a->Same (j4 ops.toList) a0 a->listed.size=ops.size->(∀k,k<ops.size->listed.getD k Tb=decide (k<c)) -> (∀j p,ops[j]?=Tc p->j<c->∀x∈p.after,zex .any x=Ta->x.on<c)->wpAny P .any ops Q (ops.size-c) listed a (mk B d h):=by
 intro l;induction l with
 |nil=>intro c e h H a d listed y sm m b _;exact zX (gq:=c+1) B H y (λe' a' u h' i o Y=>V _ _ _ _ i.clean (sm.trans o) Y) d m b
 |cons x l ih=>
  obtain⟨c',J⟩:=x;intro c e h H a d listed y sm m b A;unfold qY at H;cases hc:pM ops c c' with
  |false=>rw[hc]at H;exact H.elim
  |true=>
  rw[hc,zH]at H;obtain⟨h1,U,h3,h4,h5,h6⟩:=BG hc;have H':=H (nm (wb J) λvs=>λh=>qY P n ops K l c' (Qs J vs++Jk (j4 (ops.toList.take c')) e) h) (tT λvs h G=>G);rw[show ops.size-c=(c'-c)+(ops.size-c')by omega];have bR:=Up (ops:=ops) U;refine Pv (c:=c) (c':=c') hc (c'-c) ((zbk c').filter λk=>decide (¬k<c)) listed ((zek c').map λk=>decide (k<c)) a _ (Hb c c') (zd9.filter _) (λk=>?_) (by simp) (λk f=>?_) (λk f F=>by rw[b k F];exact zF (by omega)) ⟨m,λj p r s x M D=>?_,λt ht Z=>by omega⟩ ?_;rw[zde,zcd];constructor;rintro⟨i,o⟩;exact⟨i,by rw[b k (by omega)];exact zF (zB o)⟩;rintro⟨i,o⟩;rw[b k (by omega)]at o;exact⟨i,zD (zC o)⟩;rw[b k (by omega)];simp[f];have E:=(zai.1 r).1;rw[b j E]at s;have:=A j p r (zB s) x M D;rw[b _ (by omega)];exact zD this;have key:=zX (gq:=c+1) (Q:=zJ Q λa w=>∀L:Array Bool,L.size=ops.size->(∀k,k<ops.size->L.getD k Tb=decide (k<c'))->wpAny P .any ops Q (ops.size-c') L a w) B H' y (λe' a' u h' s1 S i=>?_) d (listed:=(zek c').map λk=>decide (k<c)) (by rw[bR];simp) (λk f=>by rw[bR]at f;simp[f]);rw[bR]at key;exact key;obtain⟨vs,q,hv,G,f⟩:=Xq i;have N:=uR G;subst N;have C:Same (j4 (ops.toList.take c')) a a':=by rw[show ops.toList.take c'=(takeA ops c').toList by unfold takeA;simp];exact S
  have z:Sat n (Qs J vs++Jk (j4 (ops.toList.take c')) e) a':=Wo y s1.defers s1.size C (yr s1 hv);exact λL I O=>ih c' _ _ f a' u L z (sm.trans (S.mono ZH)) I O λj p r aa x M D=>by have:=qh h3 j p (zai.1 r).1 r x M D;omega
theorem MI(i:P.follows .mixedOrders=Ta){pl:Plan}{id:Nat}{b:Bool}{K:aR->zc->Prop} (H:zM P n pl id ops b K e h) (B:World) (d:Nat) (c:Sat n e a) {Q:Exit->Act->World->Prop}
  (f:∀e' a' l h',Sat n e' a'->Same (j4 ops.toList) a a'->K e' h'->Q .normal a' (mk B l h')):(zc8 id ops b).wp P Q a (mk B d h):=by
 unfold zM at H;split at H;exact KJ i H B d c f;cases b with
 |false=>exact H.elim
 |true=>refine wp_region_any i ?_;have:=Ro B f _ 0 e h H a (d+1) (zbr ops.size Tb) c (Same.refl _ _) (by simp) (λk m=>by rw[getD_replicate_false];simp) (λj p _ o=>by omega);exact this
theorem Uk(hm:P.follows .mixedOrders=Ta){pl:Plan}:∀(c:Code) (Q:Wp) (e:aR) (h:zc),W P n pl c Q e h ->
  ∀(B:World) (d:Nat) (a:Act),Sat n e a->c.wp P (F2 n B (Zd c) a Q) a (mk B d h):=by
 intro c;induction c with
 |skip=>exact λQ e h H B d a f=>wp_skip ⟨e,d,h,rfl,f,Same.refl _ _,H⟩
 |ret=>exact λQ e h H B d a f=>wp_ret ⟨e,d,h,rfl,f,Same.refl _ _,H⟩
 |exit id=>exact λQ e h H B d a f=>wp_exit ⟨e,d,h,rfl,f,Same.refl _ _,H⟩
 |label l=>exact λQ e h H B d a f=>wp_label ⟨e,d,h,rfl,f,Same.refl _ _,H⟩
 |goto l=>exact λQ e h H B d a f=>wp_goto ⟨e,d,h,rfl,f,Same.refl _ _,H⟩
 |region id ops ar=>exact λQ e h H B d a f=>MI hm H B d f λe' a' d' h' m t q3=>⟨e',d',h',rfl,m,t,q3⟩
 |seq x y D E=>
  intro Q e h H B d a f;simp only[W]at H;have M:∀i∈Zd x,i∈Zd (x.seq y):=λi hi=>zap _ hi;have V:∀i∈Zd y,i∈Zd (x.seq y):=λi hi=>za4 _ hi;split at H;refine wp_seq (wp_mono (D _ _ _ H B d a f) ?_);rintro ex k w1 ⟨w,r,h1,rfl,s1,s,m⟩;cases ex with
  |normal=>refine wp_mono (E _ _ _ m B r k s1) ?_;rintro ex a2 w2 ⟨u,z,A,rfl,s2,C,t⟩;exact⟨u,z,A,rfl,s2,(s.mono M).trans (C.mono V),t⟩
  |_=>exact⟨w,r,h1,rfl,s1,s.mono M,m⟩
  rename_i J hJ;have H':=H (nm (wb J) λvs=>λh=>W P n pl y Q (Qs J vs++Jk (Zd x) e) h) (tT λvs h N=>N);refine wp_seq (wp_mono (D _ _ _ H' B d a f) ?_);rintro ex k w1 ⟨w,r,h1,rfl,s1,s,m⟩;cases ex with
  |normal=>obtain⟨vs,q,U,N,hk⟩:=Xq m;have ae:=uR N;subst ae;have Y:Sat n (Qs J vs++Jk (Zd x) e) k:=Wo f s1.defers s1.size s (yr s1 U);refine wp_mono (E _ _ _ hk B r k Y) ?_;rintro ex a2 w2 ⟨u,z,A,rfl,s2,C,t⟩;exact⟨u,z,A,rfl,s2,(s.mono M).trans (C.mono V),t⟩
  |_=>exact⟨w,r,h1,rfl,s1,s.mono M,m⟩
 |cond c x y D E=>intro Q e h H B d a f;simp only[W]at H;have M:∀i∈Zd x,i∈Zd (zeq c x y):=λi hi=>zap _ hi;have V:∀i∈Zd y,i∈Zd (zeq c x y):=λi hi=>za4 _ hi;split at H;rename_i b G;refine wp_cond_split (qz f (c:=[]) trivial G) (λZ=>?_) (λai=>?_);refine wp_mono (D _ _ _ (H.1 Z) B d a f) ?_;rintro ex a2 w2 ⟨u,z,A,rfl,s2,C,t⟩;exact⟨u,z,A,rfl,s2,C.mono M,t⟩;refine wp_mono (E _ _ _ (H.2 ai) B d a f) ?_;rintro ex a2 w2 ⟨u,z,A,rfl,s2,C,t⟩;exact⟨u,z,A,rfl,s2,C.mono V,t⟩;exact H.elim
 |block id x O=>
  intro Q e h H B d a f;refine wp_block (wp_mono (O _ _ _ H B d a f) ?_);rintro ex k w1 ⟨w,r,h1,rfl,s1,s,m⟩;cases ex with
  |exit i=>simp only[mc]at m;simp only[Exit.inBlock];by_cases G:Nat.beq i id=Ta;rw[zb (zak G)];simp only[G,zH]at m;exact⟨w,r,h1,rfl,s1,s,m⟩;rw[za (λhe=>G (by rw[he];simp))];simp only[G,zI]at m;exact⟨w,r,h1,rfl,s1,s,m⟩
  |_=>exact⟨w,r,h1,rfl,s1,s,m⟩
 |loop x O=>
  intro Q e h H B d a f;simp only[W]at H;split at H;rename_i J hJ;obtain⟨I,μ,h0,L⟩:=H;obtain⟨ah,p0,an,ap,am⟩:=Xq h0;let F:=nB (wb J) I μ;let at_:Act->Option ((zc->Prop)×(zc->Nat)):=λk=>(iN (λi=>Tc (qa k i)) J).bind λvs=>iB (wb J) vs F;refine wp_loop (λk w1=>∃r h1 vs p,w1=mk B r h1/\k.defers=[]/\k.tmps.size=n/\Same (Zd x) a k/\iN (λi=>Tc (qa k i)) J=Tc vs/\iB (wb J) vs F=Tc p/\p.1 h1) (λk w1=>match at_ k with|some p=>p.2 w1.heap|none=>0) ⟨d,h,ah,p0,rfl,f.defers,f.size,Same.refl _ _,yr f an,ap,am⟩ ?_;rintro k w1 ⟨r,h1,vs,p,rfl,aa,ak,o,U,hp,hI⟩;have s1:Sat n (Qs J vs++Jk (Zd x) e) k:=Wo f aa ak o U;have G:=vO hp L h1 hI;refine wp_mono (O _ _ _ G B r k s1) ?_;rintro ex a2 w2 ⟨u,z,A,rfl,s2,C,t⟩;cases ex with
  |normal=>
   obtain⟨af,q,S,N,ab,aj⟩:=Xq t;refine⟨⟨z,A,af,q,rfl,s2.defers,s2.size,o.trans C,yr s2 S,N,ab⟩,?_⟩;have w:at_ k=Tc p:=by simp only[at_,U,zcy];exact hp
   have u:at_ a2=Tc q:=by simp only[at_,yr s2 S,zcy];exact N
   rw[w,u];exact aj
  |_=>exact⟨u,z,A,rfl,s2,o.trans C,t⟩
  exact H.elim
 |scope x O=>
  intro Q e h H B d a f;refine wp_scope_straight (wp_mono (O _ _ _ H B d a f) ?_);rintro ex k w1 ⟨w,r,h1,rfl,s1,s,m⟩;cases ex with
  |goto l=>exact m
  |_=>exact⟨w,r,h1,rfl,s1,s,m⟩
 |_=>exact λQ e h H=>H.elim
def jO:Nat->List Value->aR
 |_,[]=>[]
 |i,v::vs=>(i,[],v)::jO (i+1) vs
def jV(P:Program)(h:zc)(e:aR):List ResultVar->(List Value->Prop)->Prop
 |[],K=>K []
 |.tmp t::l,K=>match jt e t with
  |some v=>jV P h e l λvs=>K (v::vs)
  |none=>False
 |.cell a t::l,K=>match jt e a with
  |some p=>mn P h t p Td λv=>jV P h e l λvs=>K (v::vs)
  |none=>False
def jM:List Value->Value
 |[v]=>v
 |vs=>.tuple vs.toArray
def vG(P:Program)(rs:List ResultVar)(R:Value->zc->Prop):Wp
 |.normal,e,h=>jV P h e rs λvs=>R (jM vs) h
 |.ret,e,h=>jV P h e rs λvs=>R (jM vs) h
 |_,_,_=>False
def nY(tmps:Array Value):ResultVar->Sem Value
 |.tmp t=>pure (tmps.getD t undef)
 |.cell a t=>do loadVar t (<-asAddr (tmps.getD a undef))
theorem yX{P:Program}{n:Nat}{h:zc}{e:aR}{a:Act}(c:Sat n e a):∀{l:List ResultVar} {K:List Value->Prop},jV P h e l K->∃vs,K vs/\vs.length=l.length/\QExec P (l.mapM (nY a.tmps)) h vs
 |[],K,H=>⟨[],H,rfl,λ_ _=>by simp⟩
 |.tmp t::l,K,H=>by simp only[jV]at H;split at H;rename_i v q;obtain⟨vs,h1,f,i⟩:=yX c H;refine⟨v::vs,h1,by simp[f],?_⟩;rw[zel];refine QExec.bind (x:=v) ?_ (i.bind (QExec.pure _));rw[<-jv c q];exact QExec.pure _;exact H.elim
 |.cell x t::l,K,H=>by simp only[jV]at H;split at H;rename_i p k;obtain⟨v,r,o⟩:=KY H;obtain⟨vs,h1,f,i⟩:=yX c r;refine⟨v::vs,h1,by simp[f],?_⟩;rw[zel];refine QExec.bind (x:=v) ?_ (i.bind (QExec.pure _));have m:a.tmps.getD x undef=p:=jv c k;simp only[nY,m];have b:=o trivial;unfold zd0 at b;unfold mn at H;split at H;exact b;exact b;exact H.elim;exact H.elim
theorem Qi{fn:Func}(k:Sat n e a){rs:List ResultVar}(f:fn.results.toList=rs)(H:jV P h e rs λvs=>R (jM vs) h):
  ∃v,R v h/\QExec P (results fn a.tmps) h v:=by
 obtain⟨vs,h1,c,i⟩:=yX k H;refine⟨_,h1,?_⟩;intro B d;have b:results fn a.tmps=(fn.results.mapM (nY a.tmps) >>= λvs=>zdn (if h:vs.size=1 then vs[0]else .tuple vs)):=by unfold results;congr 1
 rw[b,Array.mapM_eq_mapM_toList,f,Sem.run_bind,Sem.run_map,i B d];simp only[Result.andThen_ok,Sem.run_pure]
 match vs,c with
 |[],_=>rfl
 |[v],_=>rfl
 |v::u::vs,_=>simp[jM]
theorem Wq(args:Array Value)(k:Nat):∀(vs:List Value) (i:Nat),(∀j v,vs[j]?=Tc v->(args++zbr k undef).getD (i+j) undef=v) ->
  ∀x∈jO i vs,fact (λi=>(args++zbr k undef).getD i undef) x
 |[],_,_,x,b=>by cases b
 |v::vs,i,h,x,b=>by simp only[jO,zah]at b;rcases b with rfl|b;exact⟨λ_=>h 0 v rfl,λe=>absurd trivial e⟩;exact Wq args k vs (i+1) (λj u c=>by have:=h (j+1) u (by simpa using c);grind) x b
theorem LM(s:P.follows .mixedOrders=Ta){fn:Func}{c:Code}(pl:Plan)(vs:List Value){rs:List ResultVar}(p:P.funcs[f]?=Tc fn)(o:fn.body=Tc c)(m:fn.results.toList=rs)(r:fn.ntmps=n)
  (hz:Nat.ble vs.length n=Ta) (H:W P n pl c (vG P rs R) (jO 0 vs) h):XC P f vs.toArray h R:=by
 intro B d;subst r;refine calls_of_wp p o ?_;have u:vs.length<=fn.ntmps:=zbz hz;have q:Sat fn.ntmps (jO 0 vs) { tmps:=vs.toArray++zbr (fn.ntmps-vs.toArray.size) undef,defers:=[] }:=by
  refine⟨rfl,by simp;omega,?_⟩;refine Wq vs.toArray _ vs 0 λj v t=>?_;have k:j<vs.length:=by rcases zbf j vs.length with h|h;exact h;simp_all
  simp only[za5,zbp];rw[zcu (by simpa using k)];simp[t]
 refine wp_mono (Uk s c _ _ _ H B d _ q) ?_;rintro ex a w ⟨y,b,h1,rfl,s1,x,i⟩;cases ex with
 |normal=>obtain⟨v,l,e⟩:=Qi s1 m i;exact⟨s1.defers,v,e B b,v,b,h1,rfl,rfl,l⟩
 |ret=>obtain⟨v,l,e⟩:=Qi s1 m i;exact⟨s1.defers,v,e B b,v,b,h1,rfl,rfl,l⟩
 |_=>exact i.elim
def codeOf(fn:Func):Code:=match fn.body with
 |some c=>c
 |none=>.skip
def Y0(fn:Func):Bool:=match fn.body with
 |some _=>Ta
 |none=>Tb
theorem Mt(e:P.follows .mixedOrders=Ta)(pl:Plan)(vs:List Value){fn:Func}{rs:List ResultVar}(i:P.funcs[f]?=Tc fn)(b:Y0 fn=Ta)(k:fn.results.toList=rs)(l:fn.ntmps=n)
  (hz:Nat.ble vs.length n=Ta) (H:W P n pl (codeOf fn) (vG P rs R) (jO 0 vs) h):XC P f vs.toArray h R:=by
 have c:fn.body=Tc (codeOf fn):=by unfold Y0 at b;unfold codeOf;split at b;omega;cases b
 grind [LM]
end
section
variable {n m:Nat} {h h':zc} {a:Addr} {cs xs news:List Value} {e t ty:TypeId} {s:Sl} {P:Program} {z:Value}
theorem w8(h:zc)(o:Obj):(h.push o)[h.size]?=Tc o:=by simp
theorem z4l(k:Keep n h h')(b:a.block<n):zf h' a=zf h a:=by unfold zf;rw[k.get _ b]
def Arr(n:Nat)(h:zc)(a:Option Addr)(cs:List Value):Prop:=
 cs=[]\/∃b o,a=Tc ⟨b,o,Td⟩/\b<n/\∀i v,cs[i]?=Tc v->zf h ⟨b,o+i,Td⟩=Tc v
theorem Arr.mono{a:Option Addr}(H:Arr n h a cs)(f:n<=m):Arr m h a cs:=by rcases H with e|⟨b,o,e,i,c⟩;exact .inl e;exact .inr ⟨b,o,e,by omega,c⟩
theorem Arr.keep{a:Option Addr}(H:Arr n h a cs)(k:Keep n h h'):Arr n h' a cs:=by rcases H with e|⟨b,o,e,c,f⟩;exact .inl e;exact .inr ⟨b,o,e,c,λi v hi=>(z4l k (a:=⟨b,o+i,Td⟩) c).trans (f i v hi)⟩
theorem qe(b o i:Nat):(⟨b,o,Td⟩:Addr).add i=⟨b,o+i,Td⟩:=by unfold zae;simp
theorem Me(a:Option Addr)(sz m:Nat):iD a sz 0 m=a:=by
 unfold iD;split;rfl;cases a with
 |none=>rfl
 |some p=>simp[zae]
theorem wrap64{n:Int}(h1:-9223372036854775808<=n)(c:n<=9223372036854775807):zaa .i64 n=n:=by
 unfold zaa;have e:(2:Int) ^ zem .i64=18446744073709551616:=by decide
 have e':(2:Int) ^ (zem .i64-1)=9223372036854775808:=by decide
 simp only[e,e'];have b:ze1 .i64=Ta:=rfl;grind
theorem VN{k:Nat}(h:k<9223372036854775807):zaa .i64 ((k:Int)+1)=((k+1:Nat):Int):=by grind [wrap64]
def Owns(h:zc)(base:Nat)(e:TypeId)(sz:Nat)(s:Sl)(xs:List Value):Prop:=
 (mk default 0 h).ownsRow base e sz (.slice s.a s.len s.cap) s.len xs
theorem Owns.nil(h:zc)(base:Nat)(e:TypeId)(sz:Nat):Owns h base e sz ⟨Td,0,0⟩ []:=World.ownsRow_nil _ _ _ _
theorem Owns.length{base:Nat}{sz:Nat}(H:Owns h base e sz s xs):xs.length=s.len*sz:=H.1
theorem Owns.arr{base:Nat}{sz:Nat}(H:Owns h base e sz s xs):Arr h.size h s.a xs:=by rcases H.2 with⟨f,h0⟩|⟨g,cap,b,f,q,l,n,r,o,p⟩;have k:=H.1;rw[h0]at k;exact .inl (by simpa using k);simp only[zbg]at f;have c:g<h.size:=(zai.1 l).1;refine .inr ⟨g,0,f.1,c,λi v hi=>?_⟩;have m:h[g]?=Tc (.cells b e (0,0)):=l;unfold zf;grind
theorem Owns.base_le{base:Nat}{sz:Nat}(H:Owns h base e sz s xs):∀p,s.a=Tc p->base<=p.block/\p.block<h.size:=by intro p b;exact World.ownsRow.lt H p.block (by simp[Value.ownBlock,b])
theorem Owns.keep{base:Nat}{sz:Nat}(H:Owns h base e sz s xs)(k:∀p,s.a=Tc p->h'[p.block]?=h[p.block]?):Owns h' base e sz s xs:=by refine⟨H.1,?_⟩;rcases H.2 with l|⟨g,cap,b,c,f,i,rest⟩;grind;simp only[zbg]at c;refine .inr ⟨g,cap,b,by simp[c],f,?_,rest⟩;have:=k _ c.1;exact this.trans i
theorem Owns.keepN{base:Nat}{sz:Nat}(H:Owns h base e sz s xs)(k:Keep h.size h h'):Owns h' base e sz s xs:= H.keep λp b=>k.get _ (H.base_le p b).2
structure ElemT (P:Program) (t e:TypeId) (z:Value) (sz bytes:Nat):Prop where
 slice:P.underlying t=Tc (.slice e)
 info:∃i,P.info? e=Tc i/\i.zero=Tc z/\i.size=sz/\i.bytes=bytes
 zero:z.cells.size=sz
 pos:0<sz
theorem H5{w:World}{i:TypeInfo}{sz bytes base:Nat}(x:P.underlying t=Tc (.slice e))(hi:P.info? e=Tc i)(hz:i.zero=Tc z)(A:i.size=sz)(B:i.bytes=bytes) {v:Value} (f:w.ownsRow base e sz v n xs) {m c:Nat} (s:news.length=m*sz) (b:∀j u,news[j]?=Tc u->w.cell? (a.add j)=Tc u) (h1:∀u∈news,u.oneCell'=Ta) (J:n+m<=4611686018427387904) (k:(n+m)*bytes<=140737488355328) {F:Value} {w':World} (U:(zav #[t,t] ty #[v,.slice (Tc a) m c]).run P w=.ok F w'):
  ∀y l c',F=.slice (Tc y) l c'->(∃p L S,v=.slice (Tc p) L S/\y.block=p.block)\/y.block=w.heap.size:=by
 subst A B;intro y l c' I;rcases f.2 with⟨rfl,rfl⟩|⟨g,cap,q,rfl,M,H,N,G,E,C⟩;by_cases Q:m=0;subst Q;have O:news=[]:=zbb (by simpa using s);subst O;have D:(zav #[t,t] ty #[.slice Td 0 0,.slice (Tc a) 0 c]).run P w=.ok (.slice Td 0 0) w:=by simp[zav,run_underlying x,sizeOf,typeInfo,hi,Builtin.lenOf,zc3,loadCells,loadCellsFrom]
 simp_all;have D:=run_append_nil (P:=P) (ty:=ty) w t e i z x hi hz a m c news s b (by omega) (by omega) (by grind);grind;by_cases h:n+m<=cap;have r:n*i.size+news.length<=q.size:=by rw[s,E,<-zc5];exact za2 _ h
 have D:=run_append_room (P:=P) (ty:=ty) w t e i x hi g n cap q H a m c news s b h1 h r;simp_all;have o:∀j u,xs[j]?=Tc u->w.cell? ((⟨g,0,Td⟩:Addr).add j)=Tc u:=f.cells (g:=g) rfl;have D:=run_append_grow (P:=P) (ty:=ty) w t e i z x hi hz ⟨g,0,Td⟩ n cap xs f.1 o a m c news s b (by omega) (by omega) (growslice_fits (by omega) k);grind
theorem Zk{sz bytes:Nat}(T:ElemT P t e z sz bytes){base:Nat}(H:Owns h base e sz s xs) {src:Sl} (hs:Arr n h src.a news) (hl:news.length=src.len*sz) (h1:∀u∈news,u.oneCell'=Ta) (k:(s.len+src.len)*bytes<=140737488355328) (I:s.len+src.len<=4611686018427387904) (m:base<=h.size) {K:Value->zc->Prop} (hK:∀(s':Sl) (h':zc),s'.len=s.len+src.len->Owns h' base e sz s' (xs++news)->(∀i,i<h.size->(∀p,s.a=Tc p->i≠p.block)->h'[i]?=h[i]?)->h.size<=h'.size->(∀f,s'.a=Tc f->(∃p,s.a=Tc p/\f.block=p.block)\/f.block=h.size)->K (.slice s'.a s'.len s'.cap) h'):
  Qa P (zav #[t,t] ty #[.slice s.a s.len s.cap,.slice src.a src.len src.cap]) h K:=by
 intro B d;obtain⟨i,hi,hz,A,C⟩:=T.info;have key:∃x w',(zav #[t,t] ty #[.slice s.a s.len s.cap,.slice src.a src.len src.cap]).run P (mk B d h)=.ok x w'/\w'.ownsRow base e sz x (s.len+src.len) (xs++news)/\(mk B d h).grownBy w' (Value.ownBlock (.slice s.a s.len s.cap)) /\
   ∀f l c',x=.slice (Tc f) l c'->(∃p,s.a=Tc p/\f.block=p.block)\/f.block=h.size:=by
  have c:(mk B d h).ownsRow base e sz (.slice s.a s.len s.cap) s.len xs:=H;rcases hs with O|⟨b,o,O,Q,hc⟩;subst O;have h0:src.len=0:=by rcases zdk src.len with h0|h0;exact h0;have:=Nat.mul_pos h0 T.pos;grind
  rw[h0];have N:∃q,q=src.a:=⟨_,rfl⟩;obtain⟨q,U⟩:=N;rw[<-U];cases q with
  |none=>
   refine⟨_,mk B d h,?_,by simpa using c,⟨rfl,rfl,rfl,zaf _,λ_ _ _=>rfl⟩,λf l c' y=>.inl ⟨f,by simp_all,rfl⟩⟩;have hT:=T.slice;have Z:s.len<=s.cap:=by rcases c.2 with⟨G,L⟩|⟨g,cap,V,G,_,_,ab,_⟩;omega;simp_all
   generalize s.a=sa at *;cases sa <;> simp[zav,run_underlying hT,sizeOf,typeInfo,hi,Builtin.lenOf,zc3,Z,storeCells]
  |some p=>obtain⟨x,w',D,F,r,_⟩:=run_append_own (P:=P) (w:=mk B d h) base t ty e i z sz bytes T.slice hi hz A C T.zero T.pos (.slice s.a s.len s.cap) s.len xs c p 0 src.cap [] (by simp) (by simp) (by simp) (by unfold maxLen;omega) (by simp_all) m;refine⟨x,w',D,F,r,λf l c' y=>?_⟩;rcases H5 T.slice hi hz A C c (news:=[]) (by simp) (by simp) (by simp) (by omega) (by simp_all) D f l c' y with⟨q,l0,c0,U,Q⟩|Q;simp_all;exact .inr Q
  rw[O];obtain⟨x,w',D,F,r,_⟩:=run_append_own (P:=P) (w:=mk B d h) base t ty e i z sz bytes T.slice hi hz A C T.zero T.pos (.slice s.a s.len s.cap) s.len xs c ⟨b,o,Td⟩ src.len src.cap news hl (λj u Y=>by rw[qe];exact hc j u Y) h1 (by unfold maxLen;omega) k m;refine⟨x,w',D,F,r,λf l c' y=>?_⟩;rcases H5 T.slice hi hz A C c hl (λj u Y=>by rw[qe];exact hc j u Y) h1 I k D f l c' y with⟨q,l0,c0,U,J⟩|J;simp_all;exact .inr J
 obtain⟨x,w',D,F,r,r4⟩:=key;have hw:w'=mk B w'.drawn w'.heap:=by have G:=r.os;have L:=r.tape;have e3:=r.output;cases w';simp only[mk]at *;subst G;subst L;subst e3;rfl
 rw[hw]at D;have hv:∃s':Sl,x=.slice s'.a s'.len s'.cap/\s'.len=s.len+src.len:=by rcases F.2 with⟨G,L⟩|⟨g,cap,V,G,_⟩;exact⟨⟨Td,0,0⟩,G,L.symm⟩;exact⟨⟨Tc ⟨g,0,Td⟩,s.len+src.len,cap⟩,G,rfl⟩
 obtain⟨s',rfl,E⟩:=hv;refine⟨_,_,_,D,hK s' w'.heap E ?_ ?_ r.size λf S=>r4 f s'.len s'.cap (by rw[S])⟩;rw[<-E]at F;exact F;intro j hj aa;refine r.block j hj λM=>?_;cases N:s.a with
 |none=>rw[N]at M;cases M
 |some p=>rw[N]at M;simp only[Value.ownBlock,zab]at M;grind
end
section
variable {h:zc} {m:Nat} {P:Program} {kt t et:TypeId} {z:Value}
def gR(l:List (Bt×Value))(k:Bt):Option Value:=match l with
 |[]=>Td
 |p::l=>if p.1=k then Tc p.2 else gR l k
def kN(l:List (Bt×Value))(k:Bt)(v:Value):List (Bt×Value):=match l with
 |[]=>[(k,v)]
 |p::l=>if p.1=k then(k,v)::l else p::kN l k v
theorem Li(l:List (Bt×Value))(k b:Bt)(v:Value):gR (kN l k v) b=if k=b then Tc v else gR l b:=by
 induction l with
 |nil=>simp[kN,gR]
 |cons p l c=>simp only[kN];split;rename_i h;simp only[gR];simp_all;rename_i h;simp only[gR,c];grind
def MapAt(h:zc)(m:Nat)(l:List (Bt×Value)):Prop:=∃c b,h[m]?=Tc (.map c b)/\c.toList.map (λe=>(e.key,e.val))=l.map λp=>(za1 p.1,p.2)
theorem MapAt.keep{h h':zc}{l:List (Bt×Value)}(H:MapAt h m l)(k:h'[m]?=h[m]?):MapAt h' m l:=by obtain⟨e,c,h1,b⟩:=H;exact⟨e,c,k.trans h1,b⟩
theorem MapAt.lt{l:List (Bt×Value)}(H:MapAt h m l):m<h.size:=by obtain⟨b,c,h1,e⟩:=H;grind
theorem MapAt.new(h:zc):MapAt (h.push (.map #[] 0)) h.size []:=⟨#[],0,w8 _ _,rfl⟩
structure MapT (P:Program) (t kt et:TypeId) (z:Value):Prop where
 map:P.underlying t=Tc (.map kt et)
 key:P.underlying kt=Tc .string
 zero:∃i,P.info? et=Tc i/\i.zero=Tc z
theorem tw(a b:Bt):(a==b)=decide (a=b):=by show ByteArray.beq a b=_;cases a;cases b;rw[za7];simp[ByteArray.beq]
instance lawfulBA:LawfulBEq Bt where
 eq_of_beq:=λ {a b} h=>by rw[tw]at h;simpa using h
 rfl:=λ {a}=>by rw[tw];simp
theorem Xr(k:Bt):∀(f:List MapEntry) (l:List (Bt×Value)) (i:Nat),f.map (λe=>(e.key,e.val))=l.map (λp=>(za1 p.1,p.2)) ->
  (gR l k=Td/\zec .string (.string k) f i=Tc Td)\/(∃j v e,gR l k=Tc v/\f[j]?=Tc e/\e.key=.string k/\e.val=v/\zec .string (.string k) f i=Tc (Tc (i+j,v)) /\ ∀w,(f.modify j λe=>{ e with key:=.string k,val:=w }).map (λe=>(e.key,e.val))=(kN l k w).map λp=>(za1 p.1,p.2))
 |[],l,i,h=>by
  have:l=[]:=by cases l <;> simp_all
  subst this;exact .inl ⟨rfl,rfl⟩
 |e::f,l,i,h=>by
  cases l with
  |nil=>simp at h
  |cons p l=>
   simp only[zbh,zcg,zca]at h;obtain⟨⟨h1,n⟩,q⟩:=h;by_cases c:p.1=k;refine .inr ⟨0,p.2,e,by simp[gR,c],rfl,by rw[h1,c],n,?_,λw=>?_⟩;have b:(k==p.1)=Ta:=by rw[tw];simpa using c.symm
   simp[zec,Instr.sameNow,h1,n,b];simp[kN,c,q];have b:(k==p.1)=Tb:=by rw[tw];simpa using λe=>c e.symm
   rcases Xr k f l (i+1) q with⟨m,o⟩|⟨j,v,e',m,o,u,r,t,s⟩;refine .inl ⟨by simp[gR,c,m],?_⟩;simp[zec,Instr.sameNow,h1,b,o];refine .inr ⟨j+1,v,e',by simp[gR,c,m],by simpa using o,u,r,?_,λw=>?_⟩;simp[zec,Instr.sameNow,h1,b,t];omega;simp[kN,c,h1,n,s w]
theorem yV(c:P.underlying kt=Tc .string)(b:Bool)(k:Bt)(h:zc):QExec P (Instr.checkKey b 10000 kt (.string k)) h ():=by intro B d;have e:=QExec.underlying (h:=h) c B d;unfold Instr.checkKey;simp_all
theorem Qj(c:P.underlying kt=Tc .string)(k:Bt)(b:List MapEntry)(r:Option (Nat×Value))(h:zc)(e:zec .string (.string k) b 0=Tc r):
  QExec P (Instr.findKey kt (.string k) b) h r:=by
 intro B d;have f:=QExec.underlying (h:=h) c B d;unfold Instr.findKey;simp_all
theorem Wr{b:Array MapEntry}{c:Nat}(e:h[m]?=Tc (.map b c)):QExec P (getObj m) h (.map b c):=by intro B d;have:(mk B d h).heap[m]?=Tc (.map b c):=e;simp[getObj,Sem.run,this]
theorem VE(hz:∃i,P.info? t=Tc i/\i.zero=Tc z):QExec P (zeroValue t) h z:=by obtain⟨i,h1,b⟩:=hz;intro B d;simp[zeroValue,typeInfo,program,h1,b,Sem.run]
def jE(l:List (Bt×Value))(k:Bt)(z:Value):Value:=(gR l k).getD z
theorem Xs(T:MapT P t kt et z){l:List (Bt×Value)}(H:MapAt h m l)(k:Bt)(ok:Bool):
  QExec P (zd1 t (.map (Tc m)) (.string k) ok) h (if ok then .tuple #[jE l k z,.bool (gR l k).isSome]else jE l k z):=by
 obtain⟨b,c,h1,n⟩:=H;intro B d;have o:=QExec.underlying (h:=h) T.map B d;have p:=Wr (P:=P) h1 B d;have r:=yV T.key b.isEmpty k h B d;unfold zd1;rw[Sem.run_bind,o];simp only[Result.andThen_ok,Sem.run_bind,p,Sem.run_pure,r];rcases Xr k b.toList l 0 n with⟨f,i⟩|⟨j,v,e,f,i,u,s,q,_⟩;rw[Qj T.key k b.toList Td h i B d];have hz:=VE (h:=h) T.zero B d;simp only[Result.andThen_ok,Sem.run_bind,hz,Sem.run_pure,jE,f];simp;rw[Qj T.key k b.toList _ h q B d];simp only[Result.andThen_ok,jE,f];simp
theorem wX{l:List (Bt×Value)}{k:Bt}{v:Value}(g:gR l k=Td):kN l k v=l++[(k,v)]:=by
 induction l with
 |nil=>rfl
 |cons p l c=>simp only[gR]at g;split at g;cases g;rename_i b;simp[kN,b,c g]
theorem K9(T:MapT P t kt et z){l:List (Bt×Value)}(H:MapAt h m l)(k:Bt)(v:Value){K:zc->Prop}
  (y:∀h':zc,MapAt h' m (kN l k v)->h'.size=h.size->(∀i,i≠m->h'[i]?=h[i]?)->K h'):XRunU P (zc7 t (.map (Tc m)) (.string k) v) h K:=by
 have f:=H.lt;obtain⟨b,c,h1,s⟩:=H;intro B d;have u:=QExec.underlying (h:=h) T.map B d;have x:=Wr (P:=P) h1 B d;have A:=yV T.key Tb k h B d;have n:∀o:Obj,(setObj m o).run P (mk B d h)=.ok () (mk B d (h.setIfInBounds m o)):=by intro o;have:(mk B d h).heap[m]?=Tc (.map b c):=h1;simp[setObj,Sem.run,this];rfl
 unfold zc7;rcases Xr k b.toList l 0 s with⟨r,q⟩|⟨j,I,e,r,q,D,E,C,F⟩;refine⟨d,h.setIfInBounds m (.map (b.push { key:=.string k,val:=v,born:=c }) (c+1)),?_,y _ ⟨b.push { key:=.string k,val:=v,born:=c },c+1,by simp[f],?_⟩ (by simp) (λi hi=>by grind)⟩;rw[Sem.run_bind,u];simp only[Result.andThen_ok,Sem.run_bind,x,A];rw[Qj T.key k b.toList Td h q B d];simp_all;rw[wX r];simp[s];have w:j<b.size:=by have:=(za0.1 q).1;simpa using this
 refine⟨d,_,?_,y (h.setIfInBounds m (.map (b.modify j λe=>{ e with key:=.string k,val:=v }) c)) ⟨b.modify j λe=>{ e with key:=.string k,val:=v },c,by simp[f],?_⟩ (by simp) (λi hi=>by grind)⟩;rw[Sem.run_bind,u];simp only[Result.andThen_ok,Sem.run_bind,x,A];rw[Qj T.key k b.toList _ h C B d];simp only[Result.andThen_ok,za5];have p:((b[j]?).map (·.key)).getD (.string k)=.string k:=by
  have:b[j]?=Tc e:=by simpa using q
  rw[this];exact D
 rw[p];have G:zej (.string k) (.string k)=pure (.string k):=by unfold zej;rw[zb (by show(k==k)=Ta;simp)]
 simp_all;simp_all
end
section
variable {h h':zc} {b n o:Nat} {cs:Array Value} {v:Value} {P:Program}
def Blk(h:zc)(b:Nat)(cs:Array Value):Prop:=∃T,h[b]?=Tc (.cells cs T (0,0))
theorem Blk.keep(H:Blk h b cs)(k:h'[b]?=h[b]?):Blk h' b cs:=by obtain⟨T,e⟩:=H;exact⟨T,k.trans e⟩
theorem Blk.keepN(H:Blk h b cs)(k:Keep n h h')(c:b<n):Blk h' b cs:=H.keep (k.get b c)
theorem Blk.new(h:zc)(cs:Array Value)(T:TypeId):Blk (h.push (.cells cs T)) h.size cs:=⟨T,w8 _ _⟩
theorem wq{h g:zc}{T:TypeId}(e:g=h.push (.cells cs T)):Keep h.size h g/\g.size=h.size+1/\Blk g h.size cs:=by subst e;exact⟨Keep.push _ _ (zaf _),zau _,Blk.new _ _ _⟩
theorem Blk.lt(H:Blk h b cs):b<h.size:=by obtain⟨T,e⟩:=H;grind
theorem Blk.cell(H:Blk h b cs)(c:cs[o]?=Tc v):zf h ⟨b,o,Td⟩=Tc v:=by obtain⟨T,e⟩:=H;unfold zf;simp[e,c]
theorem Blk.cellAdd{b o k:Nat}(H:Blk h b cs)(c:cs[o+k]?=Tc v):zf h ((⟨b,o,Td⟩:Addr).add k)=Tc v:=by rw[qe];exact H.cell c
theorem Blk.ld{cs:List Value}(H:Blk h b cs.toArray):zd h ⟨b,0,Td⟩ 0 cs:=by
 have key:∀(l:List Value) (i:Nat),(∀j v,l[j]?=Tc v->cs[i+j]?=Tc v)->zd h ⟨b,0,Td⟩ i l:=by
  intro l;induction l with
  |nil=>intro i _;trivial
  |cons v l c=>intro i hi;refine⟨?_,c (i+1) λj u e=>?_⟩;rw[qe,za5];exact H.cell (by have:=hi 0 v rfl;grind);have:=hi (j+1) u (by simpa using e);grind
 simp_all
theorem Keep.setBlk(o:Obj)(c:n<=b):Keep n h (h.setIfInBounds b o):= ⟨by simp,λi hi=>by grind⟩
theorem LF(H:Blk h b cs)(B:World)(d:Nat):(mk B d h).frozen? ⟨b,o,Td⟩=Tb:=by obtain⟨T,e⟩:=H;have:(mk B d h).heap[b]?=Tc (.cells cs T (0,0)):=e;simp[World.frozen?,this]
theorem FC{T:TypeId}(e:h[b]?=Tc (.cells cs T (0,0)))(l:o<cs.size)(f:v.oneCell'=Ta)(B:World)(d:Nat):
  (store ⟨b,o,Td⟩ v).run P (mk B d h)=.ok () (mk B d (h.setIfInBounds b (.cells (cs.setIfInBounds o v) T (0,0)))):=by
 have m:(mk B d h).cell? ⟨b,o,Td⟩=Tc cs[o]:=Blk.cell (h:=h) ⟨T,e⟩ (by simp[l]);have k:=LF (o:=o) (⟨T,e⟩:Blk h b cs) B d;have c:(mk B d h).setCell ⟨b,o,Td⟩ v=mk B d (h.setIfInBounds b (.cells (cs.setIfInBounds o v) T (0,0))):=by unfold World.setCell mk;simp only;congr 1;have n:b<h.size:=(zai.1 e).1;apply Array.ext_getElem?;intro i;rw[Array.getElem?_modify];by_cases hi:i=b;simp_all;grind
 cases v with
 |agg x=>simp[Value.oneCell']at f
 |tuple x=>simp[Value.oneCell']at f
 |_=>simp only[store,Sem.run,m,k,zcc,if_false,c]
theorem cells_one(b:v.oneCell'=Ta):v.cells=#[v]:=by cases v <;> first|rfl|simp[Value.oneCell']at b
theorem j5{t:TypeId}(hi:qo P t=Ta)(l:ya P t=1)(H:Blk h b cs)(f:o<cs.size)(c:v.oneCell'=Ta){K:zc->Prop}
  (n:∀h':zc,Blk h' b (cs.setIfInBounds o v)->h'.size=h.size->(∀i,i≠b->h'[i]?=h[i]?)->K h'):XRunU P (zag t (.pointer (Tc ⟨b,o,Td⟩)) v) h K:=by
 obtain⟨T,e⟩:=H;have k:b<h.size:=(zai.1 e).1;intro B d;refine⟨d,_,?_,n (h.setIfInBounds b (.cells (cs.setIfInBounds o v) T (0,0))) ⟨T,by simp[k]⟩ (by simp) λi hi=>by grind⟩;have hz:=QExec.sizeOf (P:=P) (h:=h) (we hi).choose_spec B d;unfold zag zd7;simp only[Sem.run_bind,Sem.run_pure,Result.andThen_ok];unfold storeVar;rw[Sem.run_bind,hz];simp only[Result.andThen_ok];rw[l,cells_one c];simp only[List.size_toArray,zbi,zef,za5,ne_eq,not_true_eq_false,if_false];show Sem.run P (storeCells ⟨b,o,Td⟩ [v]) _=_;unfold storeCells;rw[Sem.run_bind];have m:(⟨b,o,Td⟩:Addr).add 0=⟨b,o,Td⟩:=by rw[qe];rfl
 rw[m,FC e f c B d];rfl
theorem J9{P:Program}{b:Nat}{T:TypeId}(B:World)(d:Nat):∀(vs:List Value) (i:Nat) (h:zc) (cs:Array Value),h[b]?=Tc (.cells cs T (0,0))->i+vs.length<=cs.size->(∀v∈vs,v.oneCell'=Ta) ->
  ∃h',(storeCells ⟨b,0,Td⟩ vs i).run P (mk B d h)=.ok () (mk B d h')/\h'[b]?=Tc (.cells (cs.toList.take i++vs++cs.toList.drop (i+vs.length)).toArray T (0,0))/\h'.size=h.size/\∀j,j≠b->h'[j]?=h[j]?
 |[],i,h,cs,e,_,_=>⟨h,rfl,by simpa using e,rfl,λ_ _=>rfl⟩
 |v::vs,i,h,cs,e,hl,hv=>by
  have l:b<h.size:=(zai.1 e).1;simp only[zbi]at hl;have h1:=FC (P:=P) e (o:=i) (by omega) (hv v zaq) B d;have e':(h.setIfInBounds b (.cells (cs.setIfInBounds i v) T (0,0)))[b]?=Tc (.cells (cs.setIfInBounds i v) T (0,0)):=by simp[l]
  have c:i+1+vs.length<=(cs.setIfInBounds i v).size:=by rw[zbc];omega
  obtain⟨h',n,m,f,p⟩:=J9 (P:=P) B d vs (i+1) (h.setIfInBounds b (.cells (cs.setIfInBounds i v) T (0,0))) (cs.setIfInBounds i v) e' c λu k=>hv u (zal _ k);refine⟨h',?_,?_,by rw[f];simp,λj q=>by grind⟩;unfold storeCells;rw[Sem.run_bind,qe,za5,h1];simp_all;rw[m];congr 3;have hi:i<cs.toList.length:=by simp;omega
  simp only[Array.toList_setIfInBounds,zbi];rw[List.take_set,List.drop_set_of_lt (by omega)];have r:(cs.toList.take (i+1)).set i v=cs.toList.take i++[v]:=by
   rw[zar hi,List.set_append_right _ _ (by simp;omega)];have:i-(cs.toList.take i).length=0:=by simp;omega
   rw[this];rfl
  grind
theorem Owns.base{h:zc}{base b:Nat}{e:TypeId}{sz:Nat}{s:Sl}{xs:List Value}(H:Owns h base e sz s xs)(k:b<=base):Owns h b e sz s xs:=by refine⟨H.1,?_⟩;rcases H.2 with l|⟨g,cap,c,f,i,rest⟩;grind;exact .inr ⟨g,cap,c,f,by omega,rest⟩
end
end Go.X
end
section
namespace Go.X
variable {cs:List Value}
inductive Tr where
 |mk (kind:Int) (text:Bt) (keys:List Bt) (items:List Tr)
namespace Tr
@[reducible] def kind:Tr->Int|mk k _ _ _=>k
@[reducible] def text:Tr->Bt|mk _ s _ _=>s
@[reducible] def keys:Tr->List Bt|mk _ _ ks _=>ks
@[reducible] def items:Tr->List Tr|mk _ _ _ xs=>xs
@[simp] theorem eta(t:Tr):mk t.kind t.text t.keys t.items=t:=by cases t;rfl
instance:Inhabited Tr:=⟨mk 0 ⟨#[]⟩ [] []⟩
end Tr
inductive Ty where
 |int (k:IntKind)|bool|str|row (t:Ty)|tree|unit|pair (a b:Ty)|ptr (t:Ty)|iter|err
 deriving DecidableEq
@[reducible] def El:Ty->Type
 |.int _=>Int
 |.bool=>Bool
 |.str=>Bt
 |.row t=>List (El t)
 |.tree=>Tr
 |.unit=>Unit
 |.pair a b=>El a×El b
 |.ptr t=>El t
 |.iter=>Bt×Nat
 |.err=>Bool
def qT:(t:Ty)->El t
 |.int _=>(0:Int)
 |.bool=>Tb
 |.str=>(⟨#[]⟩:Bt)
 |.row _=>[]
 |.tree=>default
 |.unit=>()
 |.pair a b=>(qT a,qT b)
 |.ptr t=>qT t
 |.iter=>(⟨#[]⟩,0)
 |.err=>Ta
def sz:Ty->Nat
 |.tree=>4
 |.unit=>0
 |.pair a b=>sz a+sz b
 |_=>1
abbrev Fr:=Nat->Option (Array Value)
def Fr.le(M M':Fr):Prop:=∀b cs,M b=Tc cs->M' b=Tc cs
theorem Fr.le.refl(M:Fr):Fr.le M M:=λ_ _ h=>h
theorem Fr.le.trans{a b c:Fr}(h:Fr.le a b)(k:Fr.le b c):Fr.le a c:=λ_ _ e=>k _ _ (h _ _ e)
def cut(cs:Array Value)(o n:Nat):List Value:=(cs.toList.drop o).take n
def RowAt(M:Fr){α:Type}(R:α->List Value->Prop)(z:Nat)(xs:List α)(v:Value):Prop:=
 ∃a c,v=.slice a xs.length c/\(xs.length<=140737488355328/\xs.length<=c)/\(xs=[]\/∃b o cs,a=Tc ⟨b,o,Td⟩/\M b=Tc cs/\∀i (h:i<xs.length),R xs[i] (cut cs (o+i*z) z))
inductive TrRd (M:Fr):Tr->List Value->Prop where
 |mk {k:Int} {s:Bt} {ks:List Bt} {xs:List Tr} {vk:Value} {a:Option Addr} {c b o:Nat} {cs:Array Value}
  (hk:RowAt M (λs cs=>cs=[.string s]) 1 ks vk) (hn:xs.length<=140737488355328/\xs.length<=c) (hz:xs=[]\/(a=Tc ⟨b,o,Td⟩/\M b=Tc cs))
  (hi:∀i (h:i<xs.length),TrRd M xs[i] (cut cs (o+i*4) 4)):TrRd M (.mk k s ks xs) [.int .i64 k,.string s,vk,.slice a xs.length c]
def Qk(s:Bt)(p:Nat):Value:=.iface 0 (.agg #[.string s,.int .i64 p])
def Rd(M:Fr):(t:Ty)->El t->List Value->Prop
 |.int k,i,cs=>cs=[.int k i]
 |.bool,b,cs=>cs=[.bool b]
 |.str,s,cs=>cs=[.string s]
 |.row t,xs,cs=>∃v,cs=[v]/\RowAt M (Rd M t) (sz t) xs v
 |.tree,t,cs=>TrRd M t cs
 |.unit,_,cs=>cs=[]
 |.pair a b,x,cs=>∃e c2,cs=e++c2/\Rd M a x.1 e/\Rd M b x.2 c2
 |.ptr t,x,cs=>∃b o c,cs=[.pointer (Tc ⟨b,o,Td⟩)]/\M b=Tc c/\Rd M t x (cut c o (sz t))
 |.iter,x,cs=>cs=[Qk x.1 x.2]
 |.err,b,cs=>∃v,cs=[v]/\((b=Ta/\v=.nilIface)\/(b=Tb/\∃t u,v=.iface t u))
theorem RowAt.mono{M M':Fr}(k:Fr.le M M'){α:Type}{R f:α->List Value->Prop}{z:Nat}{xs:List α}{v:Value}(H:RowAt M R z xs v)(p:∀x∈xs,∀cs,R x cs->f x cs):RowAt M' f z xs v:=by obtain⟨a,c,e,m,h⟩:=H;refine⟨a,c,e,m,h.imp id ?_⟩;rintro⟨b,o,cs,n,q,l⟩;exact⟨b,o,cs,n,k _ _ q,λi h=>p _ (zay _) _ (l i h)⟩
theorem TrRd.mono{M M':Fr}(b:Fr.le M M'){t:Tr}(H:TrRd M t cs):TrRd M' t cs:=by
 induction H with
 |mk c f hz _ e=>exact .mk (c.mono b λ_ _ _ h=>h) f (hz.imp id λh=>⟨h.1,b _ _ h.2⟩) e
theorem Rd.mono{M M':Fr}(c:Fr.le M M'):∀{t:Ty} {x:El t} {cs:List Value},Rd M t x cs->Rd M' t x cs
 |.int _,_,_,h=>h
 |.bool,_,_,h=>h
 |.str,_,_,h=>h
 |.row _,_,_,⟨v,e,h⟩=>⟨v,e,h.mono c λ_ _ _ h=>Rd.mono c h⟩
 |.tree,_,_,h=>TrRd.mono c h
 |.unit,_,_,h=>h
 |.pair _ _,_,_,⟨c1,c2,e,h1,h2⟩=>⟨c1,c2,e,Rd.mono c h1,Rd.mono c h2⟩
 |.ptr _,_,_,⟨b,o,cc,e,h1,h2⟩=>⟨b,o,cc,e,c _ _ h1,Rd.mono c h2⟩
 |.iter,_,_,h=>h
 |.err,_,_,h=>h
theorem Rd.len{M:Fr}:∀{t:Ty} {x:El t} {cs:List Value},Rd M t x cs->cs.length=sz t
 |.int _,_,_,h=>by rw[h];rfl
 |.bool,_,_,h=>by rw[h];rfl
 |.str,_,_,h=>by rw[h];rfl
 |.row t,_,_,⟨v,e,_⟩=>by rw[e];rfl
 |.tree,_,_,h=>by cases h;rfl
 |.unit,_,_,h=>by rw[h];rfl
 |.pair _ _,_,_,⟨c1,c2,e,h1,h2⟩=>by rw[e,zat,Rd.len h1,Rd.len h2];rfl
 |.ptr _,_,_,⟨b,o,cc,e,_⟩=>by rw[e];rfl
 |.iter,_,_,h=>by rw[h];rfl
 |.err,_,_,⟨v,e,_⟩=>by rw[e];rfl
theorem Rd.one{M:Fr}:∀{t:Ty} {x:El t} {cs:List Value},Rd M t x cs->∀v∈cs,v.oneCell'=Ta
 |.int _,_,_,h=>by rw[h];simp[Value.oneCell']
 |.bool,_,_,h=>by rw[h];simp[Value.oneCell']
 |.str,_,_,h=>by rw[h];simp[Value.oneCell']
 |.row t,_,_,⟨v,e,a,c,e2,_⟩=>by rw[e,e2];simp[Value.oneCell']
 |.tree,_,_,h=>by
  cases h with
  |mk i _ _ _=>obtain⟨a,c,e,_⟩:=i;rw[e];simp[Value.oneCell']
 |.unit,_,_,h=>by rw[h];simp
 |.pair _ _,_,_,⟨c1,c2,e,h1,h2⟩=>by intro v f;rw[e]at f;rcases zaz.1 f with f|f;exact Rd.one h1 v f;exact Rd.one h2 v f
 |.ptr _,_,_,⟨b,o,cc,e,_⟩=>by rw[e];simp[Value.oneCell']
 |.iter,_,_,h=>by rw[h];simp[Value.oneCell',Qk]
 |.err,_,_,⟨v,e,h⟩=>by rw[e];rcases h with⟨_,rfl⟩|⟨_,t,u,rfl⟩ <;> simp[Value.oneCell']
theorem TrRd.keys{M:Fr}{t:Tr}(H:TrRd M t cs):∃vk vi,cs=[.int .i64 t.kind,.string t.text,vk,vi]/\Rd M (.row .str) t.keys [vk]/\Rd M (.row .tree) t.items [vi]:=by
 cases H with
 | @mk k s ks xs vk a c b o cs hk hn hz hi=>exact⟨vk,_,rfl,⟨vk,rfl,hk⟩,⟨_,rfl,a,c,rfl,hn,hz.imp id λh=>⟨b,o,cs,h.1,h.2,hi⟩⟩⟩
theorem TrRd.of{M:Fr}{k:Int}{s:Bt}{ks:List Bt}{xs:List Tr}{vk vi:Value}(h1:Rd M (.row .str) ks [vk])(f:Rd M (.row .tree) xs [vi]):TrRd M (.mk k s ks xs) [.int .i64 k,.string s,vk,vi]:=by
 obtain⟨v,e,h1⟩:=h1;obtain⟨q,e',a,c,l,m,f⟩:=f;cases e;cases e';subst l;rcases f with rfl|⟨b,o,cs,p,l,n⟩;exact .mk (b:=0) (o:=0) (cs:=#[]) h1 m (.inl rfl) λi h=>absurd h (by simp)
 exact .mk h1 m (.inr ⟨p,l⟩) n
def Bd:(t:Ty)->El t->Prop
 |.row _,xs=>xs.length<=140737488355328
 |.tree,t=>t.keys.length<=140737488355328/\t.items.length<=140737488355328
 |.pair a b,x=>Bd a x.1/\Bd b x.2
 |_,_=>True
theorem Rd.bd{M:Fr}:∀{t:Ty} {x:El t} {cs:List Value},Rd M t x cs->Bd t x
 |.int _,_,_,_=>trivial
 |.bool,_,_,_=>trivial
 |.str,_,_,_=>trivial
 |.row t,_,_,⟨v,_,a,c,_,h,_⟩=>h.1
 |.tree,_,_,h=>by
  cases h with
  |mk b f _ _=>obtain⟨a,c,e,h,_⟩:=b;exact⟨h.1,f.1⟩
 |.unit,_,_,_=>trivial
 |.pair _ _,_,_,⟨_,_,_,h1,h2⟩=>⟨Rd.bd h1,Rd.bd h2⟩
 |.ptr _,_,_,_=>trivial
 |.iter,_,_,_=>trivial
 |.err,_,_,_=>trivial
inductive AA where
 |v (x:Value)
 |d (t:Ty) (x:El t)
 |box (c o:Nat)
 |own (c:Nat)
 |oelt (c z:Nat) (i:Nat) (o:Nat)
 |elt (t:Ty) (x:El t) (o:Nat)
 |dc (t:Ty) (xs:List (El t))
inductive AG where
 |a (x:AA)
 |agg (l:List AA)
inductive AV where
 |g (x:AG)
 |tup (l:List AG)
 |nx (b:Bool) (p:Int) (c:Int)
structure Gh where
 M:Fr
 β:Nat->Nat
 σ:Nat->Sl
def All2{α β:Type}(R:α->β->Prop):List α->List β->Prop
 |[],[]=>True
 |x::xs,y::ys=>R x y/\All2 R xs ys
 |_,_=>False
def aK(s:Sl):Value:=.slice s.a s.len s.cap
abbrev iV(x : Int): Value := .int .i64 x
abbrev tA(a : Int)(b : Bt)(c d : Sl): Value := .agg #[.int .i64 a, .string b, aK c, aK d]
abbrev tL(a : Int)(b : Bt)(c d : Sl): List Value := [.int .i64 a, .string b, aK c, aK d]
abbrev tC: Array Value := #[.int .i64 0, .string ⟨#[]⟩, .slice Td 0 0, .slice Td 0 0]
abbrev tZ: Value := .agg tC
def DenA(γ:Gh):AA->Value->Prop
 |.v x,u=>u=x
 |.d t x,u=>Rd γ.M t x [u]
 |.box c o,u=>u=.pointer (Tc ⟨γ.β c,o,Td⟩)
 |.own c,u=>u=aK (γ.σ c)
 |.oelt c z i o,u=>∃g,(γ.σ c).a=Tc ⟨g,0,Td⟩/\u=.pointer (Tc ⟨g,i*z+o,Td⟩)
 |.elt t x o,u=>∃b f cs,u=.pointer (Tc ⟨b,f+o,Td⟩)/\γ.M b=Tc cs/\Rd γ.M t x (cut cs f (sz t))
 |.dc t xs,u=>∃s:Sl,u=aK s/\s.cap=s.len/\Rd γ.M (.row t) xs [u]
def DenG(γ:Gh):AG->Value->Prop
 |.a x,u=>DenA γ x u
 |.agg l,u=>∃us,u=.agg us.toArray/\All2 (DenA γ) l us
def DenV(γ:Gh):AV->Value->Prop
 |.g x,u=>DenG γ x u
 |.tup l,u=>∃us,u=.tuple us.toArray/\All2 (DenG γ) l us
 |.nx b p c,u=>(b=Ta->u=.tuple #[.bool Ta,.int .i64 p,.int .i32 c])/\(b=Tb->u=.tuple #[.bool Tb])
theorem All2.length{α β:Type}{R:α->β->Prop}:∀{l:List α} {m:List β},All2 R l m->l.length=m.length
 |[],[],_=>rfl
 |[],_::_,h=>h.elim
 |_::_,[],h=>h.elim
 |_::_,_::_,h=>by simp[All2.length h.2]
theorem All2.imp{α β:Type}{R b:α->β->Prop}:∀{l:List α} {m:List β},All2 R l m->(∀x∈l,∀y,R x y->b x y)->All2 b l m
 |[],[],_,_=>trivial
 |[],_::_,h,_=>h.elim
 |_::_,[],h,_=>h.elim
 |_::_,_::_,h,k=>⟨k _ zaq _ h.1,All2.imp h.2 λx e y c=>k x (zal _ e) y c⟩
theorem All2.append{α β:Type}{R:α->β->Prop}:∀{l b:List α} {m m':List β},All2 R l m->All2 R b m'->All2 R (l++b) (m++m')
 |[],_,[],_,_,h=>h
 |[],_,_::_,_,h,_=>h.elim
 |_::_,_,[],_,h,_=>h.elim
 |_::_,_,_::_,_,h,k=>⟨h.1,All2.append h.2 k⟩
theorem All2.take{α β:Type}{R:α->β->Prop}:∀(n:Nat) {l:List α} {m:List β},All2 R l m->All2 R (l.take n) (m.take n)
 |0,_,_,_=>by simp[All2]
 |_+1,[],[],_=>trivial
 |_+1,[],_::_,h=>h.elim
 |_+1,_::_,[],h=>h.elim
 |n+1,_::_,_::_,h=>⟨h.1,All2.take n h.2⟩
theorem All2.drop{α β:Type}{R:α->β->Prop}:∀(n:Nat) {l:List α} {m:List β},All2 R l m->All2 R (l.drop n) (m.drop n)
 |0,_,_,h=>by simpa using h
 |_+1,[],[],_=>trivial
 |_+1,[],_::_,h=>h.elim
 |_+1,_::_,[],h=>h.elim
 |n+1,_::_,_::_,h=>by simpa using All2.drop n h.2
theorem All2.get{α β:Type}{R:α->β->Prop}:∀{l:List α} {m:List β} {i:Nat} {x:α},All2 R l m->l[i]?=Tc x->∃y,m[i]?=Tc y/\R x y
 |[],[],_,_,_,h=>by simp at h
 |[],_::_,_,_,h,_=>h.elim
 |_::_,[],_,_,h,_=>h.elim
 |_::_,y::_,0,_,h,e=>by simp at e;subst e;exact⟨y,rfl,h.1⟩
 |_::_,_::_,i+1,_,h,e=>by simpa using All2.get h.2 (by simpa using e)
def Ws:(t:Ty)->El t->List AA
 |.int k,i=>[.v (.int k i)]
 |.bool,b=>[.v (.bool b)]
 |.str,s=>[.v (.string s)]
 |.row t,xs=>[.d (.row t) xs]
 |.tree,t=>[.v (.int .i64 t.kind),.v (.string t.text),.d (.row .str) t.keys,.d (.row .tree) t.items]
 |.unit,_=>[]
 |.pair a b,x=>Ws a x.1++Ws b x.2
 |.ptr t,x=>[.elt t x 0]
 |.iter,x=>[.d .iter x]
 |.err,x=>[.d .err x]
theorem Zl{γ:Gh}:∀{t:Ty} {x:El t} {cs:List Value},Rd γ.M t x cs->All2 (DenA γ) (Ws t x) cs
 |.int _,_,_,h=>by rw[h];exact⟨rfl,trivial⟩
 |.bool,_,_,h=>by rw[h];exact⟨rfl,trivial⟩
 |.str,_,_,h=>by rw[h];exact⟨rfl,trivial⟩
 |.row t,_,_,⟨v,e,h⟩=>by rw[e];exact⟨⟨v,rfl,h⟩,trivial⟩
 |.tree,_,_,h=>by obtain⟨vk,vi,e,h1,c⟩:=TrRd.keys h;rw[e];exact⟨rfl,rfl,h1,c,trivial⟩
 |.unit,_,_,h=>by rw[h];trivial
 |.pair _ _,_,_,⟨c1,c2,e,h1,c⟩=>by rw[e];exact(Zl h1).append (Zl c)
 |.ptr t,x,_,⟨b,o,cc,e,h1,c⟩=>by rw[e];exact⟨⟨b,o,cc,rfl,h1,c⟩,trivial⟩
 |.iter,x,_,h=>by rw[h];exact⟨rfl,trivial⟩
 |.err,x,_,⟨v,e,h⟩=>by rw[e];exact⟨⟨v,rfl,h⟩,trivial⟩
def n3:Ty->Bool
 |.iter=>Ta
 |.err=>Ta
 |.pair a b=>bif n3 a then Ta else n3 b
 |_=>Tb
theorem Rd.noIt{M:Fr}:∀{t:Ty} {x:El t} {cs:List Value},n3 t=Tb->Rd M t x cs->∀s p,Qk s p∉cs
 |.int _,_,_,_,h,s,p=>by rw[h];simp[Qk]
 |.bool,_,_,_,h,s,p=>by rw[h];simp[Qk]
 |.str,_,_,_,h,s,p=>by rw[h];simp[Qk]
 |.row t,_,_,_,⟨v,e,a,c,e2,_⟩,s,p=>by rw[e,e2];simp[Qk]
 |.tree,_,_,_,h,s,p=>by
  cases h with
  |mk i _ _ _=>obtain⟨a,c,e,_⟩:=i;rw[e];simp[Qk]
 |.unit,_,_,_,h,s,p=>by rw[h];simp
 |.pair a b,_,_,hi,⟨c1,c2,e,h1,h2⟩,s,p=>by
  simp only[n3]at hi;cases ha:n3 a with
  |true=>simp_all
  |false=>rw[ha]at hi;rw[e];intro f;rcases zaz.1 f with f|f;exact Rd.noIt ha h1 s p f;exact Rd.noIt hi h2 s p f
 |.ptr _,_,_,_,⟨b,o,cc,e,_⟩,s,p=>by rw[e];simp[Qk]
 |.iter,_,_,hi,_,_,_=>by cases hi
 |.err,_,_,hi,_,_,_=>by cases hi
def iz:List AA->Bool
 |[.d t _]=>n3 t
 |[.v (.iface _ _)]=>Ta
 |_=>Tb
theorem vN{γ:Gh}{l:List AA}{us:List Value}(h:iz l=Tb)(k:All2 (DenA γ) l us)(s:Bt)(p:Nat):us≠[Qk s p]:=by
 intro e;subst e
 match l,k with
 |[x],k=>
  cases x with
  |v y=>rw[<-show Qk s p=y from k.1]at h;simp[iz,Qk]at h
  |d t y=>exact Rd.noIt (show n3 t=Tb from h) (show Rd γ.M t y [Qk s p]from k.1) s p (by simp)
  |box c o=>have:Qk s p=_:=k.1;simp[Qk]at this
  |own c=>have:Qk s p=_:=k.1;simp[Qk,aK]at this
  |oelt c z i o=>obtain⟨g,_,e⟩:=k.1;simp[Qk]at e
  |elt t y o=>obtain⟨b,f,cs,e,_⟩:=k.1;simp[Qk]at e
  |dc t xs=>obtain⟨s',e,_⟩:=k.1;simp[Qk,aK]at e
 |[],k=>exact k.elim
 |_::_::_,k=>exact k.2.elim
inductive Ch where
 |box (l:List AA)
 |row (e:TypeId) (t:Ty) (xs:List (El t))
 |fz (t:Ty) (xs:List (El t))
abbrev CS:=List (Nat×Ch)
def Y1:CS->Nat->Option Ch
 |[],_=>Td
 |(j,k)::l,i=>bif Nat.beq i j then Tc k else Y1 l i
theorem qp{l:CS}{i:Nat}{k:Ch}(h:Y1 l i=Tc k):(i,k)∈l:=by
 induction l with
 |nil=>cases h
 |cons x l b=>obtain⟨j,e⟩:=x;simp only[Y1]at h;by_cases c:Nat.beq i j=Ta;simp_all;simp_all
def Q9(t t':Ty)(x:El t):Option (El t'):=if h:t=t' then Tc (h ▸ x)else Td
theorem Xt{M:Fr}{t t':Ty}{x:El t}{y:El t'}(h:Q9 t t' x=Tc y)(r:Rd M t x cs):Rd M t' y cs:=by unfold Q9 at h;grind
def lD(cs:CS):(t:Ty)->AA->Option (El t)
 |.int k,.v (.int k' i)=>if k=k' then Tc i else Td
 |.bool,.v (.bool b)=>Tc b
 |.str,.v (.string s)=>Tc s
 |.row t,.v (.slice Td 0 0)=>Tc ([]:List (El t))
 |.row t,.d t' x=>Q9 t' (.row t) x
 |.row t,.dc t' x=>Q9 (.row t') (.row t) x
 |.row t,.own c=>match Y1 cs c with
  |some (.fz t' xs)=>Q9 (.row t') (.row t) xs
  |_=>Td
 |.ptr t,.elt t' x 0=>Q9 t' t x
 |.ptr t,.d t' x=>Q9 t' (.ptr t) x
 |.iter,.d t' x=>Q9 t' .iter x
 |.err,.d t' x=>Q9 t' .err x
 |.err,.v .nilIface=>Tc Ta
 |.err,.v (.iface _ _)=>Tc Tb
 |_,_=>Td
def collect(cs:CS):(t:Ty)->List AA->Option (El t×List AA)
 |.unit,l=>Tc ((),l)
 |.pair a b,l=>match collect cs a l with
  |some (x,l')=>match collect cs b l' with
   |some (y,l'')=>Tc ((x,y),l'')
   |none=>Td
  |none=>Td
 |.tree,k::s::ks::xs::l=>match lD cs (.int .i64) k,lD cs .str s,lD cs (.row .str) ks,lD cs (.row .tree) xs with
  |some k,Tc s,Tc ks,some xs=>Tc (Tr.mk k s ks xs,l)
  |_,_,_,_=>Td
 |.tree,_=>Td
 |t,x::l=>match lD cs t x with
  |some y=>Tc (y,l)
  |none=>Td
 |_,[]=>Td
def lz(γ:Gh)(cs:CS):Prop:=∀c t xs,(c,Ch.fz t xs)∈cs->Rd γ.M (.row t) xs [aK (γ.σ c)]
theorem w9{γ:Gh}{cs:CS}(k:lz γ cs){t:Ty}{x:AA}{y:El t}(h:lD cs t x=Tc y){u:Value}(c:DenA γ x u):Rd γ.M t y [u]:=by unfold lD at h;split at h;split at h;rename_i l;simp only[zab]at h;subst h;subst l;exact congrArg (λu=>[u]) c;cases h;simp only[zab]at h;subst h;exact congrArg (λu=>[u]) c;simp only[zab]at h;subst h;exact congrArg (λu=>[u]) c;simp only[zab]at h;subst h;exact⟨u,rfl,Td,0,c,by simp,.inl rfl⟩;exact Xt h c;obtain⟨s,_,_,c⟩:=c;exact Xt h c;split at h;rename_i t' xs i;rw[show u=_ from c];exact Xt h (k _ _ _ (qp i));cases h;rename_i t t' x;obtain⟨b,f,cs',e,h1,m⟩:=c;exact⟨b,f,cs',by rw[e];rfl,h1,by unfold Q9 at h;grind⟩;exact Xt h c;exact Xt h c;exact Xt h c;simp only[zab]at h;subst h;exact⟨u,rfl,.inl ⟨rfl,c⟩⟩;rename_i t' n;simp only[zab]at h;subst h;exact⟨u,rfl,.inr ⟨rfl,_,_,c⟩⟩;cases h
theorem Wt{γ:Gh}{cs:CS}(c:lz γ cs):∀{t:Ty} {l e:List AA} {y:El t},collect cs t l=Tc (y,e)->∀{us:List Value},All2 (DenA γ) l us->∃f c2,us=f++c2/\Rd γ.M t y f/\All2 (DenA γ) e c2
 |.unit,l,e,y,h,us,hu=>by simp only[collect,zab,zca]at h;obtain⟨_,rfl⟩:=h;exact⟨[],us,rfl,rfl,hu⟩
 |.pair a b,l,e,y,h,us,hu=>by simp only[collect]at h;split at h;rename_i x N h1;split at h;rename_i z O m;simp only[zab,zca]at h;obtain⟨rfl,rfl⟩:=h;obtain⟨f,c2,rfl,n,p⟩:=Wt c h1 hu;obtain⟨q,L,rfl,i,o⟩:=Wt c m p;exact⟨f++q,L,by simp,⟨f,q,rfl,n,i⟩,o⟩;cases h;cases h
 |.tree,l,e,y,h,us,hu=>by
  match l,us,hu,h with
  |k::s::ks::xs::l,u1::u2::u3::u4::us,hu,h=>simp only[collect]at h;split at h;rename_i E s' B A h1 m H C;simp only[zab,zca]at h;obtain⟨rfl,rfl⟩:=h;obtain⟨D,r,w,I,G⟩:=hu;have n:=w9 c h1 D;have p:=w9 c m r;have i:=w9 c H w;have o:=w9 c C I;refine⟨[u1,u2,u3,u4],us,rfl,?_,G⟩;have J:[u1]=[zez .i64 E]:=n;have F:[u2]=[za1 s']:=p;cases J;cases F;exact TrRd.of i o;cases h
  |[],_,_,h=>simp[collect]at h
  |[_],_,_,h=>simp[collect]at h
  |[_,_],_,_,h=>simp[collect]at h
  |[_,_,_],_,_,h=>simp[collect]at h
  |_::_::_::_::_,[],hu,_=>exact hu.elim
  |_::_::_::_::_,[_],hu,_=>exact hu.2.elim
  |_::_::_::_::_,[_,_],hu,_=>exact hu.2.2.elim
  |_::_::_::_::_,[_,_,_],hu,_=>exact hu.2.2.2.elim
 |.int k,x::l,e,y,h,u::us,hu=>by simp only[collect]at h;split at h;rename_i z hz;simp only[zab,zca]at h;obtain⟨rfl,rfl⟩:=h;exact⟨[u],us,rfl,w9 c hz hu.1,hu.2⟩;cases h
 |.bool,x::l,e,y,h,u::us,hu=>by simp only[collect]at h;split at h;rename_i z hz;simp only[zab,zca]at h;obtain⟨rfl,rfl⟩:=h;exact⟨[u],us,rfl,w9 c hz hu.1,hu.2⟩;cases h
 |.str,x::l,e,y,h,u::us,hu=>by simp only[collect]at h;split at h;rename_i z hz;simp only[zab,zca]at h;obtain⟨rfl,rfl⟩:=h;exact⟨[u],us,rfl,w9 c hz hu.1,hu.2⟩;cases h
 |.row _,x::l,e,y,h,u::us,hu=>by simp only[collect]at h;split at h;rename_i z hz;simp only[zab,zca]at h;obtain⟨rfl,rfl⟩:=h;exact⟨[u],us,rfl,w9 c hz hu.1,hu.2⟩;cases h
 |.ptr _,x::l,e,y,h,u::us,hu=>by simp only[collect]at h;split at h;rename_i z hz;simp only[zab,zca]at h;obtain⟨rfl,rfl⟩:=h;exact⟨[u],us,rfl,w9 c hz hu.1,hu.2⟩;cases h
 |.iter,x::l,e,y,h,u::us,hu=>by simp only[collect]at h;split at h;rename_i z hz;simp only[zab,zca]at h;obtain⟨rfl,rfl⟩:=h;exact⟨[u],us,rfl,w9 c hz hu.1,hu.2⟩;cases h
 |.iter,_::_,_,_,_,[],hu=>hu.elim
 |.iter,[],_,_,h,_,_=>by simp[collect]at h
 |.err,x::l,e,y,h,u::us,hu=>by simp only[collect]at h;split at h;rename_i z hz;simp only[zab,zca]at h;obtain⟨rfl,rfl⟩:=h;exact⟨[u],us,rfl,w9 c hz hu.1,hu.2⟩;cases h
 |.err,_::_,_,_,_,[],hu=>hu.elim
 |.err,[],_,_,h,_,_=>by simp[collect]at h
 |.int _,_::_,_,_,_,[],hu=>hu.elim
 |.bool,_::_,_,_,_,[],hu=>hu.elim
 |.str,_::_,_,_,_,[],hu=>hu.elim
 |.row _,_::_,_,_,_,[],hu=>hu.elim
 |.ptr _,_::_,_,_,_,[],hu=>hu.elim
 |.int _,[],_,_,h,_,_=>by simp[collect]at h
 |.bool,[],_,_,h,_,_=>by simp[collect]at h
 |.str,[],_,_,h,_,_=>by simp[collect]at h
 |.row _,[],_,_,h,_,_=>by simp[collect]at h
 |.ptr _,[],_,_,h,_,_=>by simp[collect]at h
end Go.X
end
section
namespace Go.X
section
variable {M M':Fr} {h h':zc} {b c o n0:Nat} {γ γ':Gh} {us:List Value} {u:Value} {t:Ty} {cs C R:CS} {e:TypeId}
def AgM(M:Fr)(h:zc):Prop:=∀b c,M b=Tc c->∃T m,h[b]?=Tc (.cells c T m)
theorem AgM.lt(H:AgM M h){c:Array Value}(e:M b=Tc c):b<h.size:=by obtain⟨T,m,e'⟩:=H b c e;grind
theorem AgM.none{M:Fr}{h:zc}(H:AgM M h){b:Nat}(f:h.size<=b):M b=Td:=by
 cases e:M b with
 |none=>rfl
 |some c=>have:=H.lt e;omega
theorem AgM.cell(H:AgM M h){c:Array Value}{v:Value}(e:M b=Tc c)(f:c[o]?=Tc v):zf h ⟨b,o,Option.none⟩=Tc v:=by obtain⟨T,m,e'⟩:=H b c e;unfold zf;simp[e',f]
def Gx(c:Option Nat)(γ γ':Gh):Prop:=Fr.le γ.M γ'.M/\∀i,c≠Tc i->γ'.β i=γ.β i/\γ'.σ i=γ.σ i
theorem Gx.refl(c:Option Nat)(γ:Gh):Gx c γ γ:=⟨Fr.le.refl _,λ_ _=>⟨rfl,rfl⟩⟩
def kD(c:Nat):AA->Bool
 |.box j _=>Nat.beq j c
 |.own j=>Nat.beq j c
 |.oelt j _ _ _=>Nat.beq j c
 |_=>Tb
def iL(c:Nat):List AA->Bool
 |[]=>Tb
 |x::l=>bif kD c x then Ta else iL c l
def jT(c:Nat):Ch->Bool
 |.box l=>iL c l
 |_=>Tb
def ud(c:Nat):AG->Bool
 |.a x=>kD c x
 |.agg l=>iL c l
def vK(c:Nat):List AG->Bool
 |[]=>Tb
 |x::l=>bif ud c x then Ta else vK c l
def lJ(c:Nat):AV->Bool
 |.g x=>ud c x
 |.tup l=>vK c l
 |.nx _ _ _=>Tb
def kI{α:Type}(f:Nat->α->Bool):Option Nat->α->Bool
 |none,_=>Tb
 |some c,x=>f c x
theorem sK{j c:Nat}(h:Nat.beq j c=Tb):Tc c≠Tc j:=by intro e;simp_all
theorem DenA.gx{c:Option Nat}(g:Gx c γ γ'):∀{x:AA} {u:Value},kI kD c x=Tb->DenA γ x u->DenA γ' x u
 |.v _,_,_,h=>h
 |.d _ _,_,_,h=>Rd.mono g.1 h
 |.box j o,u,hm,h=>by
  have:c≠Tc j:=by cases c with|none=>simp|some c=>exact sK hm
  rw[show u=_ from h];simp only[DenA,(g.2 j this).1]
 |.own j,u,hm,h=>by
  have:c≠Tc j:=by cases c with|none=>simp|some c=>exact sK hm
  rw[show u=_ from h];simp only[DenA,(g.2 j this).2]
 |.oelt j z i o,u,hm,h=>by
  have:c≠Tc j:=by cases c with|none=>simp|some c=>exact sK hm
  obtain⟨b,k,l⟩:=h;exact⟨b,by rw[(g.2 j this).2];exact k,l⟩
 |.elt _ _ _,_,_,⟨b,f,cs,e,h1,h2⟩=>⟨b,f,cs,e,g.1 _ _ h1,Rd.mono g.1 h2⟩
 |.dc _ _,_,_,⟨s,k,l,h⟩=>⟨s,k,l,Rd.mono g.1 h⟩
theorem UV{l:List AA}(h:iL c l=Tb):∀x∈l,kD c x=Tb:=by
 induction l with
 |nil=>simp
 |cons y l b=>intro x e;simp only[iL]at h;grind
theorem DenL.gx{c:Option Nat}(g:Gx c γ γ'){l:List AA}(b:kI iL c l=Tb)(h:All2 (DenA γ) l us):All2 (DenA γ') l us:= h.imp λx f u e=>DenA.gx g (by cases c with|none=>rfl|some c=>exact UV b x f) e
theorem DenG.gx{c:Option Nat}(g:Gx c γ γ'){x:AG}(b:kI ud c x=Tb)(h:DenG γ x u):DenG γ' x u:=by
 cases x with
 |a x=>exact DenA.gx g (by cases c <;> exact b) h
 |agg l=>obtain⟨us,e,h⟩:=h;exact⟨us,e,DenL.gx g (by cases c <;> exact b) h⟩
theorem YG{l:List AG}(h:vK c l=Tb):∀x∈l,ud c x=Tb:=by
 induction l with
 |nil=>simp
 |cons y l b=>intro x e;simp only[vK]at h;grind
theorem DenV.gx{c:Option Nat}(g:Gx c γ γ'){x:AV}(f:kI lJ c x=Tb)(h:DenV γ x u):DenV γ' x u:=by
 cases x with
 |g x=>exact DenG.gx g (by cases c <;> exact f) h
 |tup l=>obtain⟨us,e,h⟩:=h;exact⟨us,e,h.imp λx k u i=>DenG.gx g (by cases c with|none=>rfl|some c=>exact YG f x k) i⟩
 |nx b p c=>exact h
def RowC(M:Fr)(t:Ty)(xs:List (El t))(cells:List Value):Prop:=
 cells.length=xs.length*sz t/\∀i (h:i<xs.length),Rd M t xs[i] ((cells.drop (i*sz t)).take (sz t))
theorem RowC.mono(b:Fr.le M M'){xs:List (El t)}{cells:List Value}(H:RowC M t xs cells):RowC M' t xs cells:=⟨H.1,λi h=>Rd.mono b (H.2 i h)⟩
theorem RowC.nil(M:Fr)(t:Ty):RowC M t [] []:=⟨by simp,λi h=>absurd h (by simp)⟩
theorem RowC.single{x:El t}{cs:List Value}(h:Rd M t x cs):RowC M t [x] cs:=by
 have b:=h.len;refine⟨by simp[b],λi hi=>?_⟩;have:i=0:=by simpa using hi
 subst this;grind
theorem RowC.append{xs ys:List (El t)}{f c2:List Value}(h1:RowC M t xs f)(l:RowC M t ys c2):RowC M t (xs++ys) (f++c2):=by
 refine⟨by rw[zat,zat,h1.1,l.1,zc5],λi hi=>?_⟩;by_cases b:i<xs.length;rw[List.getElem_append_left b];have k:(i+1)*sz t<=f.length:=by rw[h1.1];exact za2 _ b
 rw[zc5,zev]at k;rw[List.drop_append_of_le_length (by omega),List.take_append_of_le_length (by grind)];exact h1.2 i b;have c:xs.length<=i:=by omega
 rw[List.getElem_append_right c];have h:i-xs.length<ys.length:=by rw[zat]at hi;omega
 have:=l.2 (i-xs.length) h;have e:(f++c2).drop (i*sz t)=c2.drop ((i-xs.length)*sz t):=by
  rw[List.drop_append];have:f.length<=i*sz t:=by rw[h1.1];exact za2 _ c
  rw[zci this,zco,h1.1,<-Nat.sub_mul]
 grind
theorem RowC.one{xs:List (El t)}{cells:List Value}(H:RowC M t xs cells):∀v∈cells,v.oneCell'=Ta:=by
 intro v c;obtain⟨j,b,rfl⟩:=zcf c;have hz:0<sz t:=by rcases zdk (sz t)with h|h;rw[H.1,h,Nat.mul_zero]at b;omega;exact h
 have hi:j / sz t<xs.length:=by rw[H.1]at b;exact Nat.div_lt_of_lt_mul (by grind)
 refine Rd.one (H.2 _ hi) _ ?_;rw[zdm];refine⟨j % sz t,?_⟩;rw[zba,zb (Nat.mod_lt _ hz),zbs,Nat.mul_comm,Nat.div_add_mod,zaj b]
theorem RowC.rd{xs:List (El t)}{cells:List Value}(H:RowC M t xs cells){cs:Array Value}(h:M b=Tc cs)(k:(cs.toList.drop o).take (xs.length*sz t)=cells)(l:xs.length<=140737488355328/\xs.length<=c):
  Rd M (.row t) xs [.slice (Tc ⟨b,o,Td⟩) xs.length c]:=by
 refine⟨_,rfl,_,_,rfl,l,.inr ⟨b,o,cs,rfl,h,λi hi=>?_⟩⟩;have:=H.2 i hi;rw[<-k]at this;have f:(i+1)*sz t<=xs.length*sz t:=za2 _ hi;rw[zc5,zev]at f;have e:(((cs.toList.drop o).take (xs.length*sz t)).drop (i*sz t)).take (sz t)=cut cs (o+i*sz t) (sz t):=by unfold cut;rw[List.drop_take,List.take_take,zdb,zeg (by omega)]
 simp_all
theorem Rd.rowC(ag:AgM M h){xs:List (El t)}(H:Rd M (.row t) xs [u]):∃s:Sl,u=aK s/\s.len=xs.length/\(xs.length<=140737488355328/\xs.length<=s.cap)/\∃cells,RowC M t xs cells/\Arr h.size h s.a cells:=by
 obtain⟨v,e,a,c,rfl,n,H⟩:=H;cases e;refine⟨⟨a,xs.length,c⟩,rfl,rfl,n,?_⟩;rcases H with rfl|⟨b,o,cs,rfl,m,hi⟩;exact⟨[],RowC.nil _ _,.inl rfl⟩;have f:xs=[]\/xs.length*sz t<=(cs.toList.drop o).length:=by
  rcases zdk xs.length with h0|h0;simp_all;right;have:=(hi (xs.length-1) (by omega)).len;unfold cut at this;rw[zcr,zb2]at this;rw[zb2];rcases zdk (sz t)with hz|hz;grind;have e:xs.length*sz t=(xs.length-1)*sz t+sz t:=by rw[<-zd2];congr 1;omega
  rw[e];omega
 rcases f with rfl|f;exact⟨[],RowC.nil _ _,.inl rfl⟩;refine⟨(cs.toList.drop o).take (xs.length*sz t),⟨by simp_all,λi k=>?_⟩,.inr ⟨b,o,rfl,ag.lt m,λi v p=>?_⟩⟩;have:=hi i k;have l:(i+1)*sz t<=xs.length*sz t:=za2 _ k;rw[zc5,zev]at l;unfold cut at this;rw[List.drop_take,List.take_take,zdb,zeg (by omega)];exact this;refine ag.cell m ?_;grind
def yN(o:Option Obj)(us:List Value):Prop:=((∃T,o=Tc (.cells us.toArray T (0,0)))/\∀s p,us≠[Qk s p])\/(∃s p,us=[Qk s p]/\o=Tc (.stringIter s p))
def DenC(n0:Nat)(γ:Gh)(h:zc)(c:Nat):Ch->Prop
 |.box l=>∃us,yN h[γ.β c]? us/\All2 (DenA γ) l us
 |.row e t xs=>∃cells,Owns h n0 e (sz t) (γ.σ c) cells/\RowC γ.M t xs cells/\xs.length<=140737488355328/\(γ.σ c).len=xs.length
 |.fz t xs=>Rd γ.M (.row t) xs [aK (γ.σ c)]
def blk(γ:Gh)(c:Nat):Ch->Option Nat
 |.box _=>Tc (γ.β c)
 |.row _ _ _=>(γ.σ c).a.map (·.block)
 |.fz _ _=>Td
structure Inv (h0:zc) (W:Nat->Prop) (M0:Fr) (cs:CS) (γ:Gh) (h:zc):Prop where
 ag:AgM γ.M h
 frame:∀i,i<h0.size->¬W i->h[i]?=h0[i]?
 size:h0.size<=h.size
 old:∀b,b<h0.size->γ.M b=M0 b
 le:Fr.le M0 γ.M
 den:∀x∈cs,DenC h0.size γ h x.1 x.2
 sep:∀x∈cs,∀b,blk γ x.1 x.2=Tc b->(h0.size<=b\/W b)/\γ.M b=Td
 apart:cs.Pairwise λx y=>∀b,blk γ x.1 x.2=Tc b->blk γ y.1 y.2≠Tc b
variable {h0 : zc} {W : Nat -> Prop} {M0 : Fr}
theorem DenC.lt{k:Ch}(H:DenC n0 γ h c k):∀b,blk γ c k=Tc b->b<h.size:=by
 intro b f;cases k with
 |box l=>obtain⟨us,e,_⟩:=H;simp only[blk,zab]at f;subst f;rcases e with⟨⟨T,e⟩,_⟩|⟨s,p,_,e⟩;grind;grind
 |row e t xs=>obtain⟨cells,h1,_⟩:=H;simp only[blk,zcz]at f;obtain⟨p,i,rfl⟩:=f;exact(h1.base_le p i).2
 |fz t xs=>cases f
theorem DenC.gx{c:Option Nat}(g:Gx c γ γ'){j:Nat}{k:Ch}(s:c≠Tc j)(q:kI jT c k=Tb)(H:DenC n0 γ h j k)(f:∀b,blk γ j k=Tc b->h'[b]?=h[b]?):DenC n0 γ' h' j k:=by
 obtain⟨r,i⟩:=g.2 j s;cases k with
 |box l=>obtain⟨us,e,h1⟩:=H;exact⟨us,by rw[r,f _ rfl];exact e,DenL.gx g (by cases c <;> exact q) h1⟩
 |row e t xs=>obtain⟨cells,h1,n,o,u⟩:=H;refine⟨cells,?_,n.mono g.1,o,by grind⟩;rw[i];exact h1.keep λp m=>f _ (by simp[blk,m])
 |fz t xs=>simp only[DenC,i];exact Rd.mono g.1 H
theorem pQ{c:Option Nat}(g:Gx c γ γ'){j:Nat}(k:Ch)(e:c≠Tc j):blk γ' j k=blk γ j k:=by obtain⟨b,f⟩:=g.2 j e;cases k <;> simp[blk,b,f]
theorem Inv.rest{cs rest:CS}{γ γ':Gh}{h h':zc}(I:Inv h0 W M0 cs γ h)(hsub:rest.Sublist cs){c:Option Nat}(g:Gx c γ γ') (hmen:∀x∈rest,c≠Tc x.1/\kI jT c x.2=Tb) (hk:∀x∈rest,∀b,blk γ x.1 x.2=Tc b->h'[b]?=h[b]?/\γ'.M b=Td)
  (ag:AgM γ'.M h') (hframe:∀i,i<h0.size->¬W i->h'[i]?=h[i]?) (hsize:h.size<=h'.size) (hold:∀b,b<h0.size->γ'.M b=γ.M b):Inv h0 W M0 rest γ' h' where
 ag:=ag
 frame:=λi hi hw=>(hframe i hi hw).trans (I.frame i hi hw)
 size:=zbx I.size hsize
 old:=λb hb=>(hold b hb).trans (I.old b hb)
 le:=I.le.trans g.1
 den:=λx hx=>(I.den x (hsub.subset hx)).gx g (hmen x hx).1 (hmen x hx).2 λb hb=>(hk x hx b hb).1
 sep:=λx hx b hb=>by rw[pQ g _ (hmen x hx).1]at hb;exact⟨(I.sep x (hsub.subset hx) b hb).1,(hk x hx b hb).2⟩
 apart:=by refine(I.apart.sublist hsub).imp_of_mem λ {x y} hx hy h=>?_;intro b hb;rw[pQ g _ (hmen x hx).1]at hb;rw[pQ g _ (hmen y hy).1];exact h b hb
theorem Inv.cons{rest:CS}(I:Inv h0 W M0 rest γ h){k:Ch}(hd:DenC h0.size γ h c k)(hs:∀b,blk γ c k=Tc b->(h0.size<=b\/W b)/\γ.M b=Td)
  (ha:∀b,blk γ c k=Tc b->∀x∈rest,blk γ x.1 x.2≠Tc b):Inv h0 W M0 ((c,k)::rest) γ h where
 ag:=I.ag
 frame:=I.frame
 size:=I.size
 old:=I.old
 le:=I.le
 den:=λx hx=>by rcases zah.1 hx with rfl|hx;exact hd;exact I.den x hx
 sep:=λx hx=>by rcases zah.1 hx with rfl|hx;exact hs;exact I.sep x hx
 apart:=zcl.2 ⟨λy hy b hb=>ha b hb y hy,I.apart⟩
theorem Inv.sub{cs rest:CS}(I:Inv h0 W M0 cs γ h)(hsub:rest.Sublist cs):Inv h0 W M0 rest γ h where
 ag:=I.ag
 frame:=I.frame
 size:=I.size
 old:=I.old
 le:=I.le
 den:=λx hx=>I.den x (hsub.subset hx)
 sep:=λx hx=>I.sep x (hsub.subset hx)
 apart:=I.apart.sublist hsub
theorem Inv.fz(I:Inv h0 W M0 cs γ h):lz γ cs:=λc t xs b=>I.den _ b
theorem Inv.call(I:Inv h0 W M0 cs γ h)(k:Keep h.size h h')(n:Fr.le γ.M M')(e:∀b,b<h.size->M' b=γ.M b)(ag:AgM M' h'):Inv h0 W M0 cs { γ with M:=M' } h':= I.rest (List.Sublist.refl _) (c:=Td) ⟨n,λ_ _=>⟨rfl,rfl⟩⟩ (λx _=>⟨by simp,rfl⟩) (λx m b l=>by have f:=(I.den x m).lt b l;exact⟨k.get b f,(e b f).trans (I.sep x m b l).2⟩) ag (λi hi _=>k.get i (zdj hi I.size)) k.size (λb l=>e b (zdj l I.size))
def yn(c:Nat):CS->CS
 |[]=>[]
 |(j,k)::l=>bif (bif Nat.beq j c then Ta else jT c k)then yn c l else(j,k)::yn c l
def yc(c:Nat):CS->Bool
 |[]=>Ta
 |(j,k)::l=>bif (bif Nat.beq j c then Ta else jT c k)then Tb else yc c l
def Xu(c:Nat):CS->CS
 |[]=>[]
 |(j,k)::l=>bif Nat.beq j c then Xu c l else(j,k)::Xu c l
theorem xj(c:Nat):∀l:CS,(yn c l).Sublist l
 |[]=>.slnil
 |(j,k)::l=>by
  simp only[yn];cases(bif Nat.beq j c then Ta else jT c k)with
  |true=>exact(xj c l).cons _
  |false=>exact(xj c l).cons_cons _
theorem xz(c:Nat):∀l:CS,(Xu c l).Sublist l
 |[]=>.slnil
 |(j,k)::l=>by
  simp only[Xu];cases Nat.beq j c with
  |true=>exact(xz c l).cons _
  |false=>exact(xz c l).cons_cons _
theorem B0{c:Nat}:∀{l:CS} {x:Nat×Ch},x∈yn c l->Tc c≠Tc x.1/\jT c x.2=Tb
 |(j,k)::l,x,h=>by
  simp only[yn]at h;cases hb:(bif Nat.beq j c then Ta else jT c k)with
  |true=>rw[hb]at h;exact B0 h
  |false=>
   rw[hb]at h;rcases zah.1 h with rfl|h;cases hj:Nat.beq j c with
   |true=>simp[hj]at hb
   |false=>simp only[hj,zI]at hb;exact⟨sK hj,hb⟩
   exact B0 h
theorem Y2{c:Nat}:∀{l:CS},yc c l=Ta->∀x∈l,Tc c≠Tc x.1/\jT c x.2=Tb
 |[],_,x,h=>by cases h
 |(j,k)::l,hn,x,h=>by
  simp only[yc]at hn;cases hb:(bif Nat.beq j c then Ta else jT c k)with
  |true=>simp_all
  |false=>
   rw[hb]at hn;rcases zah.1 h with rfl|h;cases hj:Nat.beq j c with
   |true=>simp[hj]at hb
   |false=>simp only[hj,zI]at hb;exact⟨sK hj,hb⟩
   exact Y2 hn x h
theorem Jy{c:Nat}:∀{l:CS} {x:Nat×Ch},x∈Xu c l->x∈l/\x.1≠c
 |(j,k)::l,x,h=>by
  simp only[Xu]at h;cases hb:Nat.beq j c with
  |true=>rw[hb]at h;exact⟨zal _ (Jy h).1,(Jy h).2⟩
  |false=>rw[hb]at h;rcases zah.1 h with rfl|h;refine⟨zaq,λe=>?_⟩;simp_all;exact⟨zal _ (Jy h).1,(Jy h).2⟩
def kz(γ:Gh)(c b:Nat):Gh:={ γ with β:=λi=>bif Nat.beq i c then b else γ.β i }
def jp(γ:Gh)(c:Nat)(s:Sl):Gh:={ γ with σ:=λi=>bif Nat.beq i c then s else γ.σ i }
theorem mU(γ:Gh)(c b:Nat):Gx (Tc c) γ (kz γ c b):=⟨Fr.le.refl _,λi hi=>by
 have:Nat.beq i c=Tb:=by
  cases h:Nat.beq i c with
  |false=>rfl
  |true=>simp_all
 simp[kz,this]⟩
theorem Ya(γ:Gh)(c:Nat)(s:Sl):Gx (Tc c) γ (jp γ c s):=⟨Fr.le.refl _,λi hi=>by
 have:Nat.beq i c=Tb:=by
  cases h:Nat.beq i c with
  |false=>rfl
  |true=>simp_all
 simp[jp,this]⟩
theorem Qt(γ:Gh)(c b:Nat):(kz γ c b).β c=b:=by simp[kz]
theorem yu(γ:Gh)(c:Nat)(s:Sl):(jp γ c s).σ c=s:=by simp[jp]
theorem nL(e:yc c R=Ta):∀x∈yn c C++R,Tc c≠Tc x.1/\kI jT (Tc c) x.2=Tb:=by intro x b;rcases zaz.1 b with b|b;exact B0 b;exact Y2 e x b
theorem Inv.newBoxO(I:Inv h0 W M0 (C++R) γ h)(q:yc c R=Ta){l:List AA}(r:All2 (DenA γ) l us)(t:iL c l=Tb){p:Obj}(o:yN (Tc p) us):
  Inv h0 W M0 ((c,.box l)::yn c C++R) (kz γ c h.size) (h.push p):=by
 have n:∀x∈yn c C++R,∀b,blk γ x.1 x.2=Tc b->b<h.size:=λx k b f=>(I.den x (((xj c C).append_right R).subset k)).lt b f;have s:Inv h0 W M0 (yn c C++R) (kz γ c h.size) (h.push p):=by refine I.rest ((xj c C).append_right R) (mU γ c h.size) (nL q) (λx k b f=>?_) (λb u e=>?_) (λi hi _=>?_) (by simp) (λb f=>rfl);have:=n x k b f;exact⟨by grind,(I.sep x (((xj c C).append_right R).subset k) b f).2⟩;have:=I.ag.lt e;obtain⟨w,m,e'⟩:=I.ag b u e;grind;have:=I.size;grind
 refine s.cons ⟨us,by rw[Qt,w8];exact o,DenL.gx (mU γ c h.size) t r⟩ (λb f=>?_) (λb f x k e=>?_);simp only[blk,Qt,zab]at f;subst f;exact⟨.inl I.size,I.ag.none (zaf _)⟩;simp only[blk,Qt,zab]at f;subst f;rw[pQ (mU γ c h.size) _ (nL q x k).1]at e;grind
theorem Inv.newBox(I:Inv h0 W M0 (C++R) γ h)(i:yc c R=Ta){l:List AA}(e:All2 (DenA γ) l us)(f:iL c l=Tb)(b:iz l=Tb)(T:TypeId):
  Inv h0 W M0 ((c,.box l)::yn c C++R) (kz γ c h.size) (h.push (.cells us.toArray T)):=
 Inv.newBoxO I i e f (.inl ⟨⟨T,rfl⟩,λs p=>vN b e s p⟩)
theorem sc{α:Type}{R:α->α->Prop}(c:∀x y,R x y->R y x):∀{l:List α},l.Pairwise R->∀{x y:α},x∈l->y∈l->x≠y->R x y
 |[],_,_,_,hx,_,_=>by cases hx
 |z::l,h,x,y,hx,hy,hne=>by rw[zcl]at h;rcases zah.1 hx with e|h1;grind;rcases zah.1 hy with f|b;simp_all;exact sc c h.2 h1 b hne
theorem Inv.setBox(I:Inv h0 W M0 (C++R) γ h){l s:List AA}(t:(c,Ch.box l)∈C)(e:yN h'[γ.β c]? us)
  (A:∀i,i≠γ.β c->h'[i]?=h[i]?) (F:h'.size=h.size) (w:All2 (DenA γ) s us) (H:∀x∈R,x.1≠c):Inv h0 W M0 ((c,.box s)::Xu c C++R) γ h':=by
 have r:=I.sep _ (zap R t) _ rfl;have q:∀x∈Xu c C++R,blk γ x.1 x.2≠Tc (γ.β c):=by
  intro x k;have o:x≠(c,Ch.box l):=by rintro rfl;rcases zaz.1 k with k|k;exact(Jy k).2 rfl;grind
  have n:x∈C++R:=((xz c C).append_right R).subset k;have u:=@sc _ (λ(x y:Nat×Ch)=>∀b,blk γ x.1 x.2=Tc b->blk γ y.1 y.2≠Tc b) (λx y h b f p=>h b p f) _ I.apart;intro f;exact u (zap R t) n (λe=>o e.symm) _ rfl f
 have z:Inv h0 W M0 (Xu c C++R) γ h':=by refine I.rest ((xz c C).append_right R) (c:=Td) (Gx.refl _ _) (λx _=>⟨by simp,rfl⟩) (λx k b f=>?_) (λb B D=>?_) (λi hi E=>?_) (by omega) (λb f=>rfl);exact⟨A b λe'=>q x k (e' ▸ f),(I.sep x (((xz c C).append_right R).subset k) b f).2⟩;obtain⟨G,m,e'⟩:=I.ag b B D;grind;grind
 refine z.cons ⟨us,e,w⟩ (λb f=>?_) (λb f x k=>?_);simp only[blk,zab]at f;grind;simp only[blk,zab]at f;simp_all
theorem Inv.newRow(I:Inv h0 W M0 (C++R) γ h)(D:yc c R=Ta)(G:h.size<=h'.size){p:Option Nat}(z:∀i,i<h.size->p≠Tc i->h'[i]?=h[i]?) (u:∀b,p=Tc b->h0.size<=b/\γ.M b=Td/\∀x∈C++R,blk γ x.1 x.2≠Tc b) {s:Sl} {xs:List (El t)} {cells:List Value} (o:Owns h' h0.size e (sz t) s cells) (l:∀q,s.a=Tc q->p=Tc q.block\/q.block=h.size) (r:RowC γ.M t xs cells) (H:xs.length<=140737488355328) (F:s.len=xs.length):
  Inv h0 W M0 ((c,.row e t xs)::yn c C++R) (jp γ c s) h':=by
 have f:=(xj c C).append_right R;have w:∀x∈yn c C++R,∀b,blk γ x.1 x.2=Tc b->b<h.size:=λx n b l=>(I.den x (f.subset n)).lt b l;have E:Inv h0 W M0 (yn c C++R) (jp γ c s) h':=by refine I.rest f (Ya γ c s) (nL D) (λx n b l=>?_) (λb A y=>?_) (λi hi N=>?_) G (λb l=>rfl);exact⟨z b (w x n b l) λe'=>(u b e').2.2 x (f.subset n) l,(I.sep x (f.subset n) b l).2⟩;obtain⟨J,m,e'⟩:=I.ag b A y;exact⟨J,m,by rw[z b (I.ag.lt y) λL=>by have:=(u b L).2.1;rw[show γ.M b=Tc A from y]at this;cases this];exact e'⟩;have:=I.size;grind
 refine E.cons ⟨cells,by rw[yu];exact o,r,H,by rw[yu];exact F⟩ (λb k=>?_) (λb k x n e'=>?_);simp only[blk,yu,zcz]at k;obtain⟨q,B,rfl⟩:=k;rcases l q B with h1|h1;exact⟨.inl (u _ h1).1,(u _ h1).2.1⟩;rw[h1];exact⟨.inl I.size,I.ag.none (zaf _)⟩;simp only[blk,yu,zcz]at k;obtain⟨q,B,rfl⟩:=k;rw[pQ (Ya γ c s) _ (nL D x n).1]at e';grind
def nG(c:Nat):CS->CS
 |[]=>[]
 |(j,k)::l=>bif Nat.beq j c then(match k with
  |.row _ t xs=>(j,.fz t xs)::nG c l
  |k=>(j,k)::nG c l)else(j,k)::nG c l
def gY(γ:Gh)(b:Nat)(cs:Array Value):Gh:={ γ with M:=λi=>bif Nat.beq i b then Tc cs else γ.M i }
theorem Inv.freeze1{A C:CS}{xs:List (El t)}(I:Inv h0 W M0 (A++(c,.row e t xs)::C) γ h):∃γ',Inv h0 W M0 (A++(c,.fz t xs)::C) γ' h/\Gx Td γ γ':=by
 obtain⟨cells,w,p,Z,S⟩:=I.den (c,.row e t xs) (by simp);have N:=p.1;rcases w.2 with⟨n,h1⟩|⟨g,cap,k,n,l,O,U,L,Y,G⟩;refine⟨γ,?_,Gx.refl _ _⟩;have H:xs=[]:=zbb (by omega);have V:DenC h0.size γ h c (.fz t xs):=by subst H;simp only[zbg]at n;exact⟨_,rfl,Td,0,by simp[aK,n],⟨by simp,by simp⟩,.inl rfl⟩
 have m:∀x,x∈A++(c,Ch.fz t xs)::C->x∈A++(c,Ch.row e t xs)::C\/x=(c,Ch.fz t xs):=by intro x f;simp only[zaz,zah]at f ⊢;rcases f with h|h|h;grind;exact .inr h;simp_all
 refine⟨I.ag,I.frame,I.size,I.old,I.le,λx f=>?_,λx f b i=>?_,?_⟩;grind [den];rcases m x f with h|rfl;exact I.sep x h b i;cases i;have:=I.apart;simp only[zdp,zcl]at this ⊢;obtain⟨D,⟨a2,B⟩,F⟩:=this;refine⟨D,⟨λy s b i=>(by simp[blk]at i),B⟩,λx f y s b i=>?_⟩;rcases zah.1 s with rfl|s;simp[blk];grind;simp only[zbg]at n;have Q:γ.M g=Td:=(I.sep (c,.row e t xs) (by simp) g (by simp[blk,n.1])).2;have z:Fr.le γ.M (gY γ g k).M:=by
  intro b J u;have:Nat.beq b g=Tb:=by
   cases i:Nat.beq b g with
   |false=>rfl
   |true=>simp_all
  simp[gY,this,u]
 have gx:Gx Td γ (gY γ g k):=⟨z,λ_ _=>⟨rfl,rfl⟩⟩;have P:g<h.size:=(zai.1 O).1;have E:∀x,x∈A++C->blk γ x.1 x.2≠Tc g:=by intro x f;have:=I.apart;simp only[zdp,zcl]at this;obtain⟨D,⟨a2,B⟩,F⟩:=this;rcases zaz.1 f with f|f;intro i;exact F x f (c,.row e t xs) zaq g i (by simp[blk,n.1]);exact a2 x f g (by simp[blk,n.1])
 have q:∀b,b≠g->(gY γ g k).M b=γ.M b:=by
  intro b i;have:Nat.beq b g=Tb:=by
   cases h:Nat.beq b g with
   |false=>rfl
   |true=>simp_all
  simp[gY,this]
 have r:Inv h0 W M0 (A++C) (gY γ g k) h:=by
  refine I.rest (by simp) gx (λx _=>⟨by simp,rfl⟩) (λx f b i=>?_) (λb J u=>?_) (λ_ _ _=>rfl) (zaf _) (λb i=>q b (by omega));have l:b≠g:=λe'=>E x f (e' ▸ i);refine⟨rfl,(q b l).trans (I.sep x ?_ b i).2⟩;grind;by_cases l:b=g;subst l;have:J=k:=by simp[gY]at u;exact u.symm
  subst this;exact⟨_,_,O⟩;rw[q b l]at u;exact I.ag b J u
 refine⟨gY γ g k,?_,gx⟩;have V:DenC h0.size (gY γ g k) h c (.fz t xs):=by
  have:=(p.mono z).rd (b:=g) (o:=0) (c:=cap) (cs:=k) (by simp[gY]) (by simp_all) ⟨Z,by omega⟩;show Rd _ _ _ [aK (γ.σ c)];have e3:aK (γ.σ c)=.slice (Tc ⟨g,0,Td⟩) xs.length cap:=by unfold aK;rw[n.1,S,n.2.2]
  rw[e3];exact this
 have m:∀x,x∈A++(c,Ch.fz t xs)::C->x∈A++C\/x=(c,Ch.fz t xs):=by intro x f;simp only[zaz,zah]at f ⊢;rcases f with h|h|h;grind;exact .inr h;grind
 refine⟨r.ag,r.frame,r.size,r.old,r.le,λx f=>?_,λx f b i=>?_,?_⟩;grind [den];rcases m x f with h|rfl;exact r.sep x h b i;cases i;have:=r.apart;simp only[zdp,zcl]at this ⊢;obtain⟨D,B,F⟩:=this;refine⟨D,⟨λy s b i=>(by simp[blk]at i),B⟩,λx f y s b i=>?_⟩;rcases zah.1 s with rfl|s;simp[blk];grind
theorem Inv.freeze{R:CS}{h:zc}(c:Nat):∀(C A:CS) {γ:Gh},Inv h0 W M0 (A++C++R) γ h->∃γ',Inv h0 W M0 (A++nG c C++R) γ' h/\Gx Td γ γ'
 |[],A,γ,I=>⟨γ,I,Gx.refl _ _⟩
 |(j,k)::l,A,γ,I=>by
  have go:∀(k:Ch) {γ:Gh},Inv h0 W M0 (A++(j,k)::l++R) γ h->∃γ',Inv h0 W M0 (A++(j,k)::nG c l++R) γ' h/\Gx Td γ γ':=by intro k γ I;have:=Inv.freeze c l (A++[(j,k)]) (R:=R) (γ:=γ) (by simpa using I);simpa using this
  simp only[nG];cases Nat.beq j c with
  |true=>
   cases k with
   |row e t xs=>obtain⟨o,p,b⟩:=Inv.freeze1 (A:=A) (C:=l++R) (γ:=γ) (by simpa using I);obtain⟨m,n,f⟩:=go (.fz t xs) (γ:=o) (by simpa using p);exact⟨m,n,b.1.trans f.1,λi hi=>⟨(f.2 i hi).1.trans (b.2 i hi).1,(f.2 i hi).2.trans (b.2 i hi).2⟩⟩
   |box q=>exact go _ I
   |fz t xs=>exact go _ I
  |false=>exact go _ I
end
section
variable {i n:Nat} {c:qk} {v:AV} {γ γ':Gh} {a:Act} {u:Value} {o:Oper} {g:Option Bool} {σ:Operand -> Value}
abbrev yb:=List (Nat×qk×AV)
def lT:yb->Nat->Option (qk×AV)
 |[],_=>Td
 |(j,c,v)::e,i=>bif Nat.beq i j then Tc (c,v)else lT e i
def mq(γ:Gh)(σ:Nat->Value)(x:Nat×qk×AV):Prop:=(valid σ x.2.1->DenV γ x.2.2 (σ x.1))/\(¬valid σ x.2.1->σ x.1=undef)
structure SatA (n:Nat) (e:yb) (γ:Gh) (a:Act):Prop where
 defers:a.defers=[]
 size:a.tmps.size=n
 all:∀x∈e,mq γ (qa a) x
def qO:yb->Nat->yb
 |[],_=>[]
 |(j,c,v)::e,i=>bif (bif Nat.beq i j then Ta else mentions c i)then qO e i else(j,c,v)::qO e i
def Gg(e:yb)(i:Nat)(c:qk)(v:AV):yb:=(i,c,v)::qO e i
def v8(e:yb):Option Nat->qk->AV->yb
 |none,_,_=>e
 |some d,c,v=>Gg e d c v
def mL:yb->yb
 |[]=>[]
 |(j,[],v)::e=>(j,[],v)::mL e
 |(_,_::_,_)::e=>mL e
def sf(c:Nat):yb->yb
 |[]=>[]
 |(j,ch,v)::e=>bif lJ c v then sf c e else(j,ch,v)::sf c e
def vp:Option Nat->yb->yb
 |none,e=>e
 |some c,e=>sf c e
theorem Qu{e:yb}(h:lT e i=Tc (c,v)):(i,c,v)∈e:=by
 induction e with
 |nil=>cases h
 |cons x e f=>obtain⟨j,b,l⟩:=x;simp only[lT]at h;by_cases k:Nat.beq i j=Ta;simp_all;simp_all
theorem qeu{e:yb}{x:Nat×qk×AV}(h:x∈qO e i):x∈e/\x.1≠i/\mentions x.2.1 i=Tb:=by
 induction e with
 |nil=>cases h
 |cons y e o=>
  obtain⟨j,f,n⟩:=y;simp only[qO]at h;by_cases k:Nat.beq i j=Ta;simp_all;have c:Nat.beq i j=Tb:=Bool.eq_false_iff.2 k;simp only[c,zI]at h;by_cases l:mentions f i=Ta;simp_all;have b:mentions f i=Tb:=by simpa using l
  simp only[b,zI]at h;rcases zah.1 h with rfl|h;refine⟨zaq,λm=>?_,b⟩;simp_all;simp_all
theorem OB{e:yb}{x:Nat×qk×AV}(h:x∈mL e):x∈e/\x.2.1=[]:=by
 induction e with
 |nil=>cases h
 |cons y e i=>
  obtain⟨j,b,f⟩:=y;cases b with
  |nil=>simp only[mL]at h;grind
  |cons c cs=>simp only[mL]at h;simp_all
theorem YS{c:Option Nat}{e:yb}{x:Nat×qk×AV}(h:x∈vp c e):x∈e/\kI lJ c x.2.2=Tb:=by
 cases c with
 |none=>exact⟨h,rfl⟩
 |some c=>
  have key:∀e:yb,x∈sf c e->x∈e/\lJ c x.2.2=Tb:=by
   intro e;induction e with
   |nil=>intro h;cases h
   |cons y e b=>obtain⟨j,f,i⟩:=y;intro h;simp only[sf]at h;grind
  exact key e h
theorem SatA.sub{e e':yb}(h:SatA n e γ a)(b:∀x∈e',x∈e):SatA n e' γ a:=⟨h.defers,h.size,λx c=>h.all x (b x c)⟩
theorem SatA.clean{e:yb}(h:SatA n e γ a):SatA n (mL e) γ a:=h.sub λ_ b=>(OB b).1
theorem SatA.gx{e:yb}{c:Option Nat}(h:SatA n e γ a)(g:Gx c γ γ'):SatA n (vp c e) γ' a:= ⟨h.defers,h.size,λx i=>by obtain⟨h1,f⟩:=YS i;exact⟨λb=>((h.all x h1).1 b).gx g f,(h.all x h1).2⟩⟩
theorem SatA.gx0{e:yb}(h:SatA n e γ a)(g:Gx Td γ γ'):SatA n e γ' a:=h.gx g
theorem SatA.put{e:yb}(h:SatA n e γ a)(hi:i<n)(t:mentions c i=Tb)
  (w:valid (qa a) c->DenV γ v u) (s:¬valid (qa a) c->u=undef):SatA n (Gg e i c v) γ (a.put (Tc i) u):=by
 refine⟨by rw[yy];exact h.defers,by rw[size_put];exact h.size,λx m=>?_⟩;have k:i<a.tmps.size:=by rw[h.size];exact hi
 rcases zah.1 m with rfl|m;have l:=Qb (σ:=qa (a.put (Tc i) u)) (τ:=qa a) t (λj o=>qt o);refine⟨λf=>?_,λf=>?_⟩;simp only;rw[jy k];grind;exact(jy k).trans (s (λb=>f (l.2 b)));obtain⟨h1,q,r⟩:=qeu m;have l:=Qb (σ:=qa (a.put (Tc i) u)) (τ:=qa a) r (λj o=>qt o);have p:=h.all x h1;refine⟨λf=>?_,λf=>?_⟩;rw[qt q];exact p.1 (l.1 f);exact(qt q).trans (p.2 (λb=>f (l.2 b)))
theorem SatA.putO{e:yb}(h:SatA n e γ a){d:Option Nat}(f:jf n c d=Ta)
  (l:valid (qa a) c->DenV γ v u) (m:¬valid (qa a) c->u=undef):SatA n (v8 e d c v) γ (a.put d u):=by
 cases d with
 |none=>exact h
 |some i=>
  simp only[jf]at f;by_cases k:mentions c i=Ta;grind;have b:mentions c i=Tb:=by simpa using k
  simp only[b,zI]at f;exact h.put (by simp_all) b l m
def Ae:Value->AG
 |.agg cs=>.agg (cs.toList.map .v)
 |v=>.a (.v v)
def py:Value->AV
 |.tuple vs=>.tup (vs.toList.map Ae)
 |v=>.g (Ae v)
theorem JY(γ:Gh)(v:Value):DenG γ (Ae v) v:=by
 cases v with
 |agg cs=>
  refine⟨cs.toList,by simp,?_⟩;generalize cs.toList=l;induction l with
  |nil=>trivial
  |cons x l b=>exact⟨rfl,b⟩
 |_=>exact rfl
theorem Wu(γ:Gh)(v:Value):DenV γ (py v) v:=by
 cases v with
 |tuple vs=>
  refine⟨vs.toList,by simp,?_⟩;generalize vs.toList=l;induction l with
  |nil=>trivial
  |cons x l b=>exact⟨JY γ x,b⟩
 |agg cs=>exact JY γ (.agg cs)
 |_=>exact rfl
def kV:List AA->Option (List Value)
 |[]=>Tc []
 |.v x::l=>match kV l with
  |some vs=>Tc (x::vs)
  |none=>Td
 |_::_=>Td
def pN:AV->Option Value
 |.g (.a (.v x))=>Tc x
 |.g (.agg l)=>match kV l with
  |some vs=>Tc (.agg vs.toArray)
  |none=>Td
 |_=>Td
theorem K6{γ:Gh}:∀{l:List AA} {vs us:List Value},kV l=Tc vs->All2 (DenA γ) l us->us=vs
 |[],vs,[],h,_=>by simp only[kV,zab]at h;exact h
 |[],_,_::_,_,h=>h.elim
 |.v x::l,vs,u::us,h,hd=>by simp only[kV]at h;split at h;rename_i c b;simp only[zab]at h;subst h;rw[show u=x from hd.1,K6 b hd.2];cases h
 |.v _::_,_,[],_,h=>h.elim
 |.d _ _::_,_,_,h,_=>by simp[kV]at h
 |.box _ _::_,_,_,h,_=>by simp[kV]at h
 |.own _::_,_,_,h,_=>by simp[kV]at h
 |.oelt _ _ _ _::_,_,_,h,_=>by simp[kV]at h
 |.elt _ _ _::_,_,_,h,_=>by simp[kV]at h
 |.dc _ _::_,_,_,h,_=>by simp[kV]at h
theorem x5{x:AV}{v u:Value}(h:pN x=Tc v)(b:DenV γ x u):u=v:=by unfold pN at h;split at h;simp only[zab]at h;subst h;exact b;rename_i l;split at h;rename_i vs c;simp only[zab]at h;subst h;obtain⟨us,rfl,e⟩:=b;rw[K6 c e];cases h;cases h
def ia(e:yb)(c:qk):Operand->Option AV
 |.tmp t=>match lT e t with
  |some (cs,v)=>bif kY cs c then Tc v else Td
  |none=>Td
 |.const v=>Tc (py v)
 |.global g=>Tc (.g (.a (.v (.pointer (Tc ⟨g,0,Td⟩)))))
 |.func f=>Tc (.g (.a (.v (.func (.func f) #[] #[]))))
theorem qc{e:yb}(h:SatA n e γ a)(l:valid (qa a) c){x:Operand}(b:ia e c x=Tc v):DenV γ v (a.eval x):=by
 cases x with
 |tmp t=>simp only[ia]at b;split at b;rename_i cs u k;by_cases i:kY cs c=Ta;simp only[i,zH,zab]at b;subst b;exact(h.all _ (Qu k)).1 (Wk i l);grind;cases b
 |const u=>simp only[ia,zab]at b;subst b;exact Wu γ u
 |global g=>simp only[ia,zab]at b;subst b;exact rfl
 |func f=>simp only[ia,zab]at b;subst b;exact rfl
def pq:AV->Option Bool
 |.g (.a (.v (.bool b)))=>Tc b
 |_=>Td
theorem CU{b:Bool}(h:pq v=Tc b)(c:DenV γ v u):u=.bool b:=by unfold pq at h;split at h;simp only[zab]at h;subst h;exact c;cases h
def Jz(ops:Array Oper)(e:yb):Option (Nat×Bool)->Option qk
 |none=>Tc []
 |some (j,p)=>match yp ops j with
  |some g=>match lT e g with
   |some (cg,v)=>match pq v with
    |some _=>Tc ((g,p)::cg)
    |none=>Td
   |none=>Td
  |none=>Td
def qW(e:yb):qk->Option Bool
 |[]=>Tc Ta
 |(g,p)::c=>match lT e g with
  |some (cg,v)=>match pq v with
   |some b=>bif Qc cg c then(match qW e c with
    |some f=>Tc (f&&(bif p then b else !b))
    |none=>Td)else Td
   |none=>Td
  |none=>Td
theorem A4{n:Nat}{e:yb}{γ:Gh}{a:Act}(h:SatA n e γ a):∀{c:qk} {b:Bool},qW e c=Tc b->(b=Ta↔valid (qa a) c)
 |[],b,hb=>by simp only[qW,zab]at hb;simp[<-hb,valid]
 |(g,p)::c,b,hb=>by
  simp only[qW]at hb;split at hb;rename_i u v r;split at hb;rename_i q k;by_cases o:Qc u c=Ta;simp only[o,zH]at hb;split at hb;rename_i l i;simp only[zab]at hb;have t:=A4 h i;have m:=h.all _ (Qu r);rw[Wj o]at m;by_cases f:valid (qa a) c;have h1:qa a g=.bool q:=CU k (m.1 f);have s:=t.2 f;subst hb;simp only[valid,h1,f,s,zcq,and_true,Value.bool.injEq];grind;have h1:l=Tb:=by cases l with|false=>rfl|true=>simp_all
  subst hb;simp[valid,f,h1];cases hb;grind;cases hb;cases hb
theorem Zx{ops:Array Oper}{e:yb}(h:SatA n e γ a)(f:Jz ops e o.guard=Tc c):
  za8 o (yielded ops a.tmps)=Ta↔valid (qa a) c:=by
 unfold za8;cases hg:o.guard with
 |none=>rw[hg]at f;simp only[Jz,zab]at f;simp[<-f,valid]
 |some s=>
  obtain⟨j,p⟩:=s;rw[hg]at f;simp only[Jz]at f;split at f;rename_i g i;split at f;rename_i t v q;split at f;rename_i b u;simp only[zab]at f;subst f;have k:((ops[j]?).bind (·.dst))=Tc g:=by simp only[yp]at i;split at i;simp_all;cases i
  have m:=h.all _ (Qu q);have r:yielded ops a.tmps j=Tc p↔qa a g=.bool p:=by
   unfold yielded qa;rw[k];simp only[zcy];cases ht:a.tmps[g]? with
   |none=>simp[zbp,ht,undef]
   |some v=>cases v <;> simp[zbp,ht]
  simp only[beq_iff_eq,r,valid];constructor;intro h1;refine⟨h1,?_⟩;by_cases l:valid (qa a) t;exact l;have:=m.2 l;simp only at this;rw[h1]at this;exact absurd this.symm GI;simp_all;cases f;cases f;cases f
def Xv(e:yb):qk->Option (Option Bool)
 |[]=>Tc Td
 |c=>match qW e c with
  |some b=>Tc (Tc b)
  |none=>Td
theorem Zm{e:yb}(i:SatA n e γ a)(h:Xv e c=Tc g)(k:valid (qa a) c):fK g:=by unfold Xv at h;split at h;simp only[zab]at h;subst h;trivial;split at h;rename_i b f;simp only[zab]at h;subst h;exact(A4 i f).2 k;cases h
theorem zK{e:yb}(k:SatA n e γ a)(h:Xv e c=Tc g)(f:¬valid (qa a) c):g=Tc Tb:=by
 unfold Xv at h;split at h;exact absurd trivial f;split at h;rename_i b i;simp only[zab]at h;subst h;cases b with
 |false=>rfl
 |true=>exact absurd ((A4 k i).1 rfl) f
 cases h
def ve(ρ:Operand->Option AV)(x:Operand):Value:=match ρ x with
 |some av=>match pN av with
  |some v=>v
  |none=>undef
 |none=>undef
def nA(ρ:Operand->Option AV):List Operand->Bool
 |[]=>Ta
 |x::l=>match ρ x with
  |some av=>match pN av with
   |some _=>nA ρ l
   |none=>Tb
  |none=>Tb
theorem Uv{ρ:Operand->Option AV}(h:∀x av,ρ x=Tc av->DenV γ av (σ x)){l:List Operand}(c:nA ρ l=Ta):∀x∈l,σ x=ve ρ x:=by
 induction l with
 |nil=>simp
 |cons y l i=>intro x f;simp only[nA]at c;split at c;rename_i av e;split at c;rename_i v b;rcases zah.1 f with rfl|f;rw[x5 b (h _ _ e)];simp[ve,e,b];grind;cases c;cases c
theorem Iy{ρ:Operand->Option AV}(f:∀x av,ρ x=Tc av->DenV γ av (σ x))(c:Zs o.op=Ta)(e:nA ρ o.op.operands.toList=Ta):
  execOp σ o=execOp (ve ρ) o:=
 execOp_congr o (λcs b h=>by rw[h]at c;cases c) λx i=>Uv f e x (by simpa using i)
end
section
variable {o n f k:Nat} {h:zc} {u:Value} {us:List Value} {cs:CS} {γ:Gh} {t ty:TypeId} {P:Program} {s:Option Nat}
variable {h0 : zc} {W : Nat -> Prop} {M0 : Fr}
def takeN(l:List AA)(o n:Nat):Option (List AA):=bif Nat.beq ((l.drop o).take n).length n then Tc ((l.drop o).take n)else Td
theorem uo{l r:List AA}(h:takeN l o n=Tc r):r=(l.drop o).take n/\r.length=n:=by
 unfold takeN at h;cases hb:Nat.beq ((l.drop o).take n).length n with
 |false=>simp_all
 |true=>rw[hb]at h;simp_all
theorem D5{h:zc}{p:Addr}:∀{us:List Value} {i:Nat},(∀j v,us[j]?=Tc v->zf h (p.add (i+j))=Tc v)->zd h p i us
 |[],_,_=>trivial
 |v::us,i,H=>⟨by have:=H 0 v rfl;omega,D5 λj u b=>by have:=H (j+1) u (by simpa using b);grind⟩
def Behind(h:zc)(u:Value)(us:List Value):Prop:=∃b o,u=.pointer (Tc ⟨b,o,Td⟩)/\∀j v,us[j]?=Tc v->zf h ⟨b,o+j,Td⟩=Tc v
theorem Behind.ld(H:Behind h u us):∃p:Addr,u=.pointer (Tc p)/\zd h p 0 us/\∀v,us=[v]->zf h p=Tc v:=by obtain⟨b,o,e,f⟩:=H;refine⟨_,e,D5 λj v c=>?_,λv c=>?_⟩;rw[qe,za5];exact f j v c;have:=f 0 v (by rw[c];rfl);omega
theorem PK{cs:Array Value}{f n j:Nat}{v:Value}(h:(cut cs f n)[j]?=Tc v):cs[f+j]?=Tc v:=by unfold cut at h;grind
def uH(cs:CS)(n:Nat):AA->Option (List AA)
 |.box c o=>match Y1 cs c with
  |some (.box l)=>bif iz l then Td else takeN l o n
  |_=>Td
 |.elt t x o=>takeN (Ws t x) o n
 |_=>Td
theorem XZ(I:Inv h0 W M0 cs γ h){y:AA}{r:List AA}(k:uH cs n y=Tc r)(w:DenA γ y u):
  ∃us,Behind h u us/\us.length=n/\All2 (DenA γ) r us:=by
 unfold uH at k;split at k
 ·rename_i c o;split at k
  ·rename_i l z;cases hit:iz l with
   |true=>simp_all
   |false=>
   rw[hit]at k;obtain⟨rfl,q⟩:=uo k;obtain⟨us,e,A⟩:=I.den _ (qp z);rcases e with⟨⟨T,e⟩,_⟩|⟨s,p,e,_⟩;case inr=>grind [vN]
   have m:=(A.drop o).take n;refine⟨(us.drop o).take n,⟨_,_,w,λj v i=>?_⟩,by rw[<-m.length];exact q,m⟩;rw[zba]at i;split at i;rw[zbs]at i;unfold zf;simp_all;cases i
  cases k
 rename_i t x o;obtain⟨rfl,q⟩:=uo k;obtain⟨b,f,D,e,C,B⟩:=w;have m:=((Zl (γ:=γ) B).drop o).take n;refine⟨_,⟨_,_,e,λj v i=>?_⟩,by rw[<-m.length];exact q,m⟩;rw[zba]at i;split at i;rw[zbs]at i;have:=PK i;exact I.ag.cell C (by grind);cases i;cases k
theorem NQ(I:Inv h0 W M0 cs γ h){c:Nat}{e:TypeId}{t:Ty}{xs:List (El t)}(G:Y1 cs c=Tc (.row e t xs)){i:Nat}{y:El t}(z:xs[i]?=Tc y){r:List AA}(E:takeN (Ws t y) o n=Tc r)(B:DenA γ (.oelt c (sz t) i o) u):∃us,Behind h u us/\us.length=n/\All2 (DenA γ) r us:=by
 obtain⟨rfl,F⟩:=uo E;obtain⟨g,C,rfl⟩:=B;obtain⟨cells,f,l,_,D⟩:=I.den _ (qp G);simp only at D f;rcases f.2 with⟨m,h1⟩|⟨g',cap,s,m,_,p,_,_,_,k⟩;simp_all;simp only[zbg]at m;rw[C]at m;have w:g=g':=by have:=m.1;simp only[zab,Addr.mk.injEq]at this;exact this.1
 subst w;have hi:i<xs.length:=(za0.1 z).1;have q:xs[i]=y:=(za0.1 z).2;have x:=l.2 i hi;rw[q]at x;have A:=((Zl (γ:=γ) x).drop o).take n;refine⟨_,⟨_,_,rfl,λj v b=>?_⟩,by rw[<-A.length];exact F,A⟩;rw[zba]at b;split at b;rw[zbs,zba]at b;split at b;rw[zbs,<-k,zba]at b;split at b;have H:h[g]?=Tc (.cells s e (0,0)):=p;unfold zf;grind;cases b;cases b;cases b
def lY:Option Nat->List AA->Option AG
 |none,[x]=>Tc (.a x)
 |some _,l=>Tc (.agg l)
 |_,_=>Td
def kM(P:Program)(t:TypeId):Option (Option Nat):=match kw P t with
 |some (.one _)=>Tc Td
 |some (.agg l)=>Tc (Tc l.length)
 |none=>Td
def lP:Option Nat->Nat
 |none=>1
 |some n=>n
theorem Ao(c:kM P t=Tc s)(o:Behind h u us)(m:us.length=lP s){r:List AA}(b:All2 (DenA γ) r us){ag:AG}(i:lY s r=Tc ag):
  ∃v,DenG γ ag v/\QExec P (zd0 t u) h v:=by
 obtain⟨p,e,n,h1⟩:=o.ld;subst e;have f:∀v,QExec P (loadVar t p) h v->QExec P (zd0 t (.pointer (Tc p))) h v:=λv q B d=>by unfold zd0 zd7;simp only[Sem.run_bind,Sem.run_pure,Result.andThen_ok];exact q B d
 unfold kM at c;split at c;rename_i a k;simp only[zab]at c;subst c
 match us,m,r,b with
 |[v],_,[x],b=>simp only[lY,zab]at i;subst i;exact⟨v,b.1,f v (pC k (h1 v rfl))⟩
 |[v],_,[],b=>exact b.elim
 |[v],_,_::_::_,b=>exact b.2.elim
 rename_i l k;simp only[zab]at c;subst c;simp only[lY,zab]at i;subst i;exact⟨.agg us.toArray,⟨us,rfl,b⟩,f _ (pP k m n)⟩;cases c
def oY(P:Program)(cs:CS)(t:TypeId)(b:AA)(g:Option Bool)(K:AV->Prop):Prop:=
 match kM P t with
 |some s=>match b with
  |.oelt c z i o=>match Y1 cs c with
   |some (.row e ty xs)=>bif Nat.beq z (sz ty)then(∃y:El ty,req g (xs[i]?=Tc y)/\match takeN (Ws ty y) o (lP s)with
    |some r=>match lY s r with
     |some ag=>K (.g ag)
     |none=>False
    |none=>False)else False
   |_=>False
  |b=>match uH cs (lP s) b with
   |some r=>match lY s r with
    |some ag=>K (.g ag)
    |none=>False
   |none=>False
 |none=>False
theorem ID{q:AA}{g:Option Bool}{K:AV->Prop}(H:oY P cs t q g K):
  ∃av,K av/\(fK g->∀γ h u,Inv h0 W M0 cs γ h->DenA γ q u->∃v,DenV γ av v/\QExec P (zd0 t u) h v):=by
 unfold oY at H;split at H;rename_i s n;split at H;rename_i c z i o;split at H;rename_i e ty xs x;cases hz:Nat.beq z (sz ty)with
 |false=>simp_all
 |true=>rw[hz]at H;obtain⟨y,w,H⟩:=H;split at H;rename_i r l;split at H;rename_i ag f;refine⟨_,H,λp γ h u I b=>?_⟩;rw[zak hz]at b;obtain⟨us,h1,k,m⟩:=NQ I x (w.out p) l b;exact Ao n h1 k m f;exact H.elim;exact H.elim
 exact H.elim;split at H;rename_i r l;split at H;rename_i ag f;refine⟨_,H,λp γ h u I b=>?_⟩;obtain⟨us,h1,k,m⟩:=XZ I l b;exact Ao n h1 k m f;exact H.elim;exact H.elim;exact H.elim
def sn(P:Program)(t:TypeId)(f:Nat):Option (Nat×TypeId):=match P.underlying t with
 |some (.struct fs)=>match fs[f]? with
  |some fl=>match P.info? fl.type with
   |some i=>bif Nat.beq i.size 0 then Td else Tc (fl.offset,fl.type)
   |none=>Td
  |none=>Td
 |_=>Td
def tE(k:Nat):AA->Option AA
 |.box c o=>Tc (.box c (o+k))
 |.elt t x o=>Tc (.elt t x (o+k))
 |.oelt c z i o=>Tc (.oelt c z i (o+k))
 |_=>Td
theorem OZ(c:sn P t f=Tc (k,ty))(b o:Nat):QExec P (Instr.fieldAt t (.pointer (Tc ⟨b,o,Td⟩)) f) h (.pointer (Tc ⟨b,o+k,Td⟩)):=by
 unfold sn at c;split at c;rename_i r p;split at c;rename_i fl m;split at c;rename_i i hi;cases hz:Nat.beq i.size 0 with
 |true=>simp_all
 |false=>
  rw[hz]at c;simp only[zI,zab,zca]at c;obtain⟨rfl,rfl⟩:=c;intro B d;have n:=QExec.underlying (h:=h) p B d;have q:=QExec.sizeOf (h:=h) hi B d;have l:¬(ya P fl.type=0):=by unfold ya;rw[hi];intro e;simp only at e;rw[e]at hz;simp at hz
  unfold Instr.fieldAt zd7 fieldPlace;simp only[Sem.run_bind,n,Result.andThen_ok,m,Sem.run_pure,q,l,if_false,qe]
 cases c;cases c;cases c
theorem Ft{l c:AA}(h:tE k l=Tc c)(i:DenA γ l u):∃b o,u=.pointer (Tc ⟨b,o,Td⟩)/\DenA γ c (.pointer (Tc ⟨b,o+k,Td⟩)):=by unfold tE at h;split at h;simp only[zab]at h;subst h;exact⟨_,_,i,rfl⟩;simp only[zab]at h;subst h;obtain⟨b,f,cs,e,h1,n⟩:=i;exact⟨_,_,e,b,f,cs,by grind,h1,n⟩;simp only[zab]at h;subst h;obtain⟨g,m,p⟩:=i;exact⟨_,_,p,g,m,by grind⟩;cases h
def sW(P:Program)(ty:TypeId)(l:List AA)(k:Nat):Option AG:=match kM P ty with
 |some s=>match takeN l k (lP s)with
  |some r=>lY s r
  |none=>Td
 |none=>Td
theorem Lz(c:kM P t=Tc s)(h:zc):QExec P (isAgg t) h s.isSome:=by
 unfold kM at c;split at c;rename_i a b;simp only[zab]at c;subst c;unfold kw at b;split at b;grind;grind;rename_i d i p f;intro B e;have k:=QExec.underlying (h:=h) f B e;unfold isAgg;simp_all;cases b;rename_i l b;simp only[zab]at c;subst c;unfold kw at b;have f:(∃o,P.underlying t=Tc (.struct o))\/∃n e,P.underlying t=Tc (.array n e):=by split at b;simp_all;simp_all;simp at b;cases b
 intro B e;rcases f with⟨o,f⟩|⟨m,e',f⟩;have k:=QExec.underlying (h:=h) f B e;unfold isAgg;simp_all;have k:=QExec.underlying (h:=h) f B e;unfold isAgg;simp_all;cases c
theorem ZL(b:kM P t=Tc (Tc n)):ya P t=n/\∃i,P.info? t=Tc i:=by
 unfold kM at b;split at b;cases b
 ·rename_i l c;simp only[zab]at b;subst b;unfold kw at c;have key:∀x:Option (List Atom),(match x with
    |some l=>bif Nat.beq l.length (ya P t)then Tc (VT.agg l)else Td
    |none=>Td)=Tc (.agg l)->ya P t=l.length:=by
   intro x e;split at e;rename_i f;cases hb:Nat.beq f.length (ya P t)with
   |false=>simp_all
   |true=>simp_all
   cases e
  split at c;exact⟨key _ c,info_of_underlying (by assumption)⟩;exact⟨key _ c,info_of_underlying (by assumption)⟩;simp at c;cases c
 cases b
theorem yW{l:List AA}{ag:AG}(b:sW P ty l k=Tc ag)(o:All2 (DenA γ) l us)(h:zc):∃v,DenG γ ag v/\QExec P (part ty us.toArray k) h v:=by
 unfold sW at b;split at b;rename_i s m;split at b;rename_i r t;obtain⟨rfl,u⟩:=uo t;have c:=(o.drop k).take (lP s);have e:((us.drop k).take (lP s)).length=lP s:=by rw[<-c.length];exact u
 cases s with
 |none=>
  generalize f:(us.drop k).take (lP Td)=q at *
  match q,e,f with
  |[v],_,f=>
   generalize p:(l.drop k).take (lP Td)=r' at *
   match r',c with
   |[x],c=>
    simp only[lY,zab]at b;subst b;refine⟨v,c.1,λB d=>?_⟩;have w:=Lz m h B d;have y:us[k]?=Tc v:=by
     have:((us.drop k).take 1)[0]?=Tc v:=by rw[show(us.drop k).take 1=[v]from f];rfl
     rw[zba,zb (by omega),zbs]at this;simpa using this
    unfold part;simp_all
   |[],c=>exact c.elim
   |_::_::_,c=>exact c.2.elim
 |some n=>simp only[lY,zab]at b;subst b;refine⟨.agg ((us.drop k).take n).toArray,⟨_,rfl,c⟩,λB d=>?_⟩;have w:=Lz m h B d;obtain⟨hz,i,hi⟩:=ZL m;have z:=QExec.sizeOf (h:=h) hi B d;unfold part;simp_all
 cases b;cases b
end
end Go.X
end
