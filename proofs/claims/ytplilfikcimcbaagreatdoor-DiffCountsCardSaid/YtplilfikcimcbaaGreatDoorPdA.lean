/- A part of the proof: nothing is stated here for its own sake. -/
import Derived.Deep.Quiet
import Derived.StillTail
import Derived.Laws.Strings
import Derived.Laws.Cover3
import Derived.Laws.Pointers
import Derived.Scope
import Derived.Laws.OwnMore
open _root_.Go.Addr renaming add->XT
open _root_.Array renaming ext_getElem?->zdf,getD_eq_getD_getElem?->zas,getElem?_append_left->zb0,getElem?_eq_getElem->zae,getElem?_eq_some_iff->YE,getElem?_push->zau,getElem?_setIfInBounds_ne->YV,replicate->za0,size_setIfInBounds->ZL
open _root_.Bool renaming and_eq_true->YH,eq_iff_iff->YW,false_eq_true->zad,not_eq_true'->zb8,true_and->zal
open _root_.Go.Builtin renaming append_->YO,firstCells->zbv,len_->zb4
open _root_.Go.Code renaming cond->zdn,region->zdq
open _root_.Go.Deferred renaming ofValue->zc7
open _root_.Go.Instr renaming entry->zc3,findNow->zbr,indexAt->zdo,keyThatStays->zch,loadAt->zc6,lookup->zbe,makeSlice->ZW,mapUpdate->zbc,next->zcg,range->zdg,sameNow->zde,sliceAt->zdd,storeAt->YG,sureAddr->zc2
open _root_.Go.IntKind renaming bits->zah,signed->zdi,wrap->XS
open _root_.List renaming all_eq_true->ZH,any_eq_true->zc8,cons_append->ZU,drop_drop->zcv,drop_eq_nil_of_le->zaw,drop_zero->za2,eq_nil_of_length_eq_zero->YU,getElem?_drop->zaa,getElem?_eq_getElem->YA,getElem?_eq_none->ZQ,getElem?_eq_some_iff->ZV,getElem?_take->ZJ,getElem_append_left->za8,getElem_append_right->zbm,getElem_mem->YI,getElem_of_mem->zca,length_append->XX,length_cons->YL,length_drop->zai,length_eq_zero_iff->zba,length_nil->zag,length_take->ZP,mapM_cons->zdh,map_cons->ZE,mem_append->YK,mem_append_left->YM,mem_append_right->ZD,mem_cons->YB,mem_cons_of_mem->XZ,mem_cons_self->YJ,mem_filter->zaq,mem_range->ZR,nil_append->za6,nodup_cons->zaj,nodup_range->zc9,pairwise_append->zby,pairwise_cons->zam,range->ZN,replicate->za9,size_toArray->zcl,take_append_of_le_length->zb5,take_left->zc4,take_length->YR,take_succ_eq_append_getElem->YD,take_take->zdj
open _root_.List.cons renaming injEq->zbs
open _root_.Nat renaming add_mul->za4,blt_eq->zbo,eq_of_beq_eq_true->YC,eq_zero_or_pos->zcy,le_of_ble_eq_true->za3,le_refl->XV,le_trans->zay,lt_of_lt_of_le->zbu,lt_or_ge->ZX,min_eq_left->zck,mul_comm->zcm,mul_le_mul_right->ZK,one_mul->zc5,succ_mul->zcz,zero_add->YP,zero_mul->zda
open _root_.Go.Next renaming value->zcp
open _root_.Go.Op renaming equal->zdt
open _root_.Option renaming bind_some->zbj,map_eq_some_iff->zbk
open _root_.Option.some renaming inj->ZA,injEq->XU
open _root_.Prod.mk renaming injEq->zar
open _root_.Pure renaming pure->zcj
open _root_.Go.Region renaming wanted->za5
open _root_.Go.Result.ok renaming injEq->zdr
open _root_.Go.Value renaming int->zax,string->ZC
open _root_.Go.Value.slice renaming injEq->ZG
set_option linter.unusedVariables false
set_option maxRecDepth 100000
namespace Go.X
end Go.X
namespace Go.Proofs
end Go.Proofs
open Go Go.X Go.Proofs
open _root_.Bool renaming true->Ta,false->Tc
open _root_.Option renaming some->Td,none->Te
section
namespace Go.X
section
theorem za{c:Prop}{h:Decidable c}(n:¬c){α:Sort _}{t e:α}:@ite α c h t e=e:=if_neg n
theorem zb{c:Prop}{h:Decidable c}(n:c){α:Sort _}{t e:α}:@ite α c h t e=t:=if_pos n
theorem zv{p:Prop}[Decidable p]:(decide p=true)=p:=decide_eq_true_eq
theorem zA{p:Prop}[Decidable p](h:decide p=true):p:=of_decide_eq_true h
theorem zG{p:Prop}[Decidable p](h:decide p=false):¬p:=of_decide_eq_false h
theorem zH{p:Prop}[Decidable p](h:p):decide p=true:=decide_eq_true h
theorem zI{α:Sort _}(a b:α):cond true a b=a:=rfl
theorem zJ{α:Sort _}(a b:α):cond false a b=b:=rfl
abbrev Bt:= ByteArray
variable {i n m:Nat} {v u:Value} {a:Act} {o:Oper}
abbrev zc:=Array Obj
abbrev qf:=List (Nat×Bool)
abbrev bK:=List (Nat×qf×Value)
def mk(B:World)(d:Nat)(h:zc):World:={ B with heap:=h,drawn:=d }
def look:bK->Nat->Option (qf×Value)
 |[],_=>Te
 |(j,c,v)::e,i=>bif Nat.beq i j then Td (c,v)else look e i
def valid(σ:Nat->Value):qf->Prop
 |[]=>True
 |(g,p)::c=>σ g=.bool p/\valid σ c
def qh(a:Act)(i:Nat):Value:=a.tmps.getD i undef
def fact(σ:Nat->Value)(x:Nat×qf×Value):Prop:=(valid σ x.2.1->σ x.1=x.2.2)/\(¬valid σ x.2.1->σ x.1=undef)
structure Sat (n:Nat) (e:bK) (a:Act):Prop where
 defers:a.defers=[]
 size:a.tmps.size=n
 all:∀x∈e,fact (qh a) x
def mentions:qf->Nat->Bool
 |[],_=>Tc
 |(g,_)::c,i=>bif Nat.beq i g then Ta else mentions c i
def sn:bK->Nat->bK
 |[],_=>[]
 |(j,c,v)::e,i=>bif (bif Nat.beq i j then Ta else mentions c i)then sn e i else(j,c,v)::sn e i
def put(e:bK)(i:Nat)(c:qf)(v:Value):bK:=(i,c,v)::sn e i
def putO(e:bK):Option Nat->qf->Value->bK
 |none,_,_=>e
 |some d,c,v=>put e d c v
def clean:bK->bK
 |[]=>[]
 |(j,[],v)::e=>(j,[],v)::clean e
 |(_,_::_,_)::e=>clean e
theorem oK{e:bK}{c:qf}(h:look e i=Td (c,v)):(i,c,v)∈e:=by
 induction e with
 |nil=>cases h
 |cons x e f=>obtain⟨j,k,l⟩:=x;simp only[look]at h;by_cases b:Nat.beq i j=Ta;simp only[b,zI,XU,zar]at h;obtain⟨rfl,rfl⟩:=h;rw[YC b];exact YJ;simp only[b,zJ]at h;exact XZ _ (f h)
theorem PN{e:bK}{x:Nat×qf×Value}(h:x∈sn e i):x∈e/\x.1≠i/\mentions x.2.1 i=Tc:=by
 induction e with
 |nil=>cases h
 |cons y e b=>
  obtain⟨j,n,o⟩:=y;simp only[sn]at h;by_cases k:Nat.beq i j=Ta;simp only[k,zI]at h;exact⟨XZ _ (b h).1,(b h).2⟩;have l:Nat.beq i j=Tc:=Bool.eq_false_iff.2 k;simp only[l,zJ]at h;by_cases m:mentions n i=Ta;simp only[m,zI]at h;exact⟨XZ _ (b h).1,(b h).2⟩;have c:mentions n i=Tc:=by simpa using m
  simp only[c,zJ]at h;rcases YB.1 h with rfl|h;refine⟨YJ,λf=>?_,c⟩;simp only at f;rw[f]at k;exact k (by simp);exact⟨XZ _ (b h).1,(b h).2⟩
theorem UY{e:bK}{x:Nat×qf×Value}(h:x∈clean e):x∈e/\x.2.1=[]:=by
 induction e with
 |nil=>cases h
 |cons y e b=>
  obtain⟨j,f,i⟩:=y;cases f with
  |nil=>simp only[clean]at h;rcases YB.1 h with rfl|h;exact⟨YJ,rfl⟩;exact⟨XZ _ (b h).1,(b h).2⟩
  |cons c cs=>simp only[clean]at h;exact⟨XZ _ (b h).1,(b h).2⟩
theorem Sat.sub{e b:bK}(h:Sat n e a)(c:∀x∈b,x∈e):Sat n b a:=⟨h.defers,h.size,λx f=>h.all x (c x f)⟩
theorem Sat.clean{n:Nat}{e:bK}{a:Act}(h:Sat n e a):Sat n (clean e) a:=h.sub λ_ b=>(UY b).1
theorem Zo{σ τ:Nat->Value}{c:qf}(b:mentions c i=Tc)(h:∀j,j≠i->σ j=τ j):valid σ c↔valid τ c:=by
 induction c with
 |nil=>exact Iff.rfl
 |cons x c k=>obtain⟨g,p⟩:=x;simp only[mentions]at b;by_cases f:Nat.beq i g=Ta;simp[f]at b;simp only[f,zJ]at b;have l:g≠i:=λe=>f (by rw[e];simp);simp only[valid,h g l,k b]
theorem xa(hi:i<a.tmps.size):qh (a.put (Td i) u) i=u:=by simp[qh,Act.put,hi]
theorem ql{i j:Nat}(h:j≠i):qh (a.put (Td i) u) j=qh a j:=by simp[qh,Act.put,YV (Ne.symm h)]
theorem size_put(a:Act)(d:Option Nat)(u:Value):(a.put d u).tmps.size=a.tmps.size:=by cases d <;> simp[Act.put]
theorem xp(a:Act)(d:Option Nat)(u:Value):(a.put d u).defers=a.defers:=by cases d <;> simp[Act.put]
theorem Sat.put{n:Nat}{e:bK}{a:Act}(h:Sat n e a){i:Nat}{c:qf}{v u:Value}(hi:i<n)(z:mentions c i=Tc)
  (t:valid (qh a) c->u=v) (y:¬valid (qh a) c->u=undef):Sat n (put e i c v) (a.put (Td i) u):=by
 refine⟨by rw[xp];exact h.defers,by rw[size_put];exact h.size,λx m=>?_⟩;have k:i<a.tmps.size:=by rw[h.size];exact hi
 rcases YB.1 m with rfl|m;have l:=Zo (σ:=qh (a.put (Td i) u)) (τ:=qh a) z (λj o=>ql o);refine⟨λf=>?_,λf=>?_⟩;exact(xa k).trans (t (l.1 f));exact(xa k).trans (y (λb=>f (l.2 b)));obtain⟨h1,r,w⟩:=PN m;have l:=Zo (σ:=qh (a.put (Td i) u)) (τ:=qh a) w (λj o=>ql o);have p:=h.all x h1;refine⟨λf=>?_,λf=>?_⟩;exact(ql r).trans (p.1 (l.1 f));exact(ql r).trans (p.2 (λb=>f (l.2 b)))
def jr(n:Nat)(c:qf):Option Nat->Bool
 |none=>Ta
 |some d=>bif mentions c d then Tc else Nat.blt d n
theorem Sat.putO{n:Nat}{e:bK}{a:Act}(h:Sat n e a){d:Option Nat}{c:qf}{v u:Value}(f:jr n c d=Ta)
  (k:valid (qh a) c->u=v) (l:¬valid (qh a) c->u=undef):Sat n (putO e d c v) (a.put d u):=by
 cases d with
 |none=>exact h
 |some i=>
  simp only[jr]at f;by_cases j:mentions c i=Ta;simp[j]at f;have b:mentions c i=Tc:=by simpa using j
  simp only[b,zJ]at f;exact h.put (by simpa[zbo]using f) b k l
def Zp:qf->qf->Bool
 |[],[]=>Ta
 |(g,p)::c,(g',p')::c'=>bif Nat.beq g g' then(bif p then(bif p' then Zp c c' else Tc)else(bif p' then Tc else Zp c c'))else Tc
 |_,_=>Tc
theorem Y9:∀{c b:qf},Zp c b=Ta->c=b
 |[],[],_=>rfl
 |[],_::_,h=>by simp[Zp]at h
 |_::_,[],h=>by simp[Zp]at h
 |(g,p)::c,(g',p')::b,h=>by simp only[Zp]at h;by_cases e:Nat.beq g g'=Ta;simp only[e,zI]at h;have f:=YC e;cases p <;> cases p' <;> simp at h <;> rw[f,Y9 h];simp[e]at h
def lu(cs:qf):qf->Bool
 |[]=>Zp cs []
 |x::c=>bif Zp cs (x::c)then Ta else lu cs c
theorem Ja{σ:Nat->Value}{cs:qf}:∀{c:qf},lu cs c=Ta->valid σ c->valid σ cs
 |[],h,_=>by rw[Y9 h];trivial
 |x::c,h,hv=>by simp only[lu]at h;by_cases b:Zp cs (x::c)=Ta;rw[Y9 b];exact hv;simp only[b,zJ]at h;exact Ja h hv.2
def Xd(e:bK)(c:qf):Operand->Option Value
 |.tmp t=>match look e t with
  |some (cs,v)=>bif lu cs c then Td v else Te
  |none=>Te
 |.const v=>Td v
 |.global g=>Td (.pointer (Td ⟨g,0,Te⟩))
 |.func f=>Td (.func (.func f) #[] #[])
theorem qu{e:bK}(h:Sat n e a){c:qf}(k:valid (qh a) c){x:Operand}(b:Xd e c x=Td v):a.eval x=v:=by
 cases x with
 |tmp t=>simp only[Xd]at b;split at b;rename_i cs u j;by_cases i:lu cs c=Ta;simp only[i,zI,XU]at b;subst b;exact(h.all _ (oK j)).1 (Ja i k);simp[i]at b;cases b
 |const u=>simp only[Xd,XU]at b;exact b
 |global g=>simp only[Xd,XU]at b;exact b
 |func f=>simp only[Xd,XU]at b;exact b
def jF(e:bK)(c:qf)(x:Operand):Value:=match Xd e c x with
 |some v=>v
 |none=>undef
def known(e:bK)(c:qf):List Operand->Bool
 |[]=>Ta
 |x::l=>match Xd e c x with
  |some _=>known e c l
  |none=>Tc
theorem Jx{e:bK}(h:Sat n e a){c:qf}(k:valid (qh a) c){l:List Operand}(f:known e c l=Ta):∀x∈l,a.eval x=jF e c x:=by
 induction l with
 |nil=>intro x b;cases b
 |cons y l j=>intro x b;simp only[known]at f;split at f;rename_i v i;rcases YB.1 b with rfl|b;rw[qu h k i];simp[jF,i];exact j f x b;cases f
def Yk:Op->Bool
 |.select _ _=>Tc
 |_=>Ta
theorem u0{e:bK}(h:Sat n e a){c:qf}(k:valid (qh a) c)(f:Yk o.op=Ta)(i:known e c o.op.operands.toList=Ta):
  execOp a.eval o=execOp (jF e c) o:=
 execOp_congr o (λcs b j=>by rw[j]at f;cases f) λx l=>Jx h k i x (by simpa using l)
def ja(ops:Array Oper)(j:Nat):Option Nat:=match ops[j]? with
 |some o=>o.dst
 |none=>Te
def Jy(ops:Array Oper)(e:bK):Option (Nat×Bool)->Option qf
 |none=>Td []
 |some (j,p)=>match ja ops j with
  |some g=>match look e g with
   |some (cg,.bool _)=>Td ((g,p)::cg)
   |_=>Te
  |none=>Te
def p7(e:bK):qf->Option Bool
 |[]=>Td Ta
 |(g,p)::c=>match look e g with
  |some (cg,.bool b)=>bif Zp cg c then(match p7 e c with
    |some cb=>Td (cb&&(bif p then b else !b))
    |none=>Te)else Te
  |_=>Te
theorem IA{b:Bool}:undef≠.bool b:=by simp[undef]
theorem yM{n:Nat}{e:bK}{a:Act}(h:Sat n e a):∀{c:qf} {b:Bool},p7 e c=Td b->(b=Ta↔valid (qh a) c)
 |[],b,hb=>by simp only[p7,XU]at hb;simp[<-hb,valid]
 |(g,p)::c,b,hb=>by
  simp only[p7]at hb;split at hb;rename_i t k o;by_cases j:Zp t c=Ta;simp only[j,zI]at hb;split at hb;rename_i cb i;simp only[XU]at hb;have m:=yM h i;have l:=h.all _ (oK o);rw[Y9 j]at l;by_cases f:valid (qh a) c;have h1:qh a g=.bool k:=l.1 f;have r:=m.2 f;subst hb;simp only[valid,h1,f,r,zal,and_true,Value.bool.injEq];cases p <;> cases k <;> simp;have h1:cb=Tc:=by cases cb with|false=>rfl|true=>exact absurd (m.1 rfl) f
  subst hb;simp[valid,f,h1];cases hb;simp[j]at hb;cases hb
theorem Xl{ops:Array Oper}{e:bK}(h:Sat n e a){c:qf}(f:Jy ops e o.guard=Td c):
  za5 o (yielded ops a.tmps)=Ta↔valid (qh a) c:=by
 unfold za5;cases hg:o.guard with
 |none=>rw[hg]at f;simp only[Jy,XU]at f;simp[<-f,valid]
 |some w=>
  obtain⟨j,p⟩:=w;rw[hg]at f;simp only[Jy]at f;split at f;rename_i g i;split at f;rename_i x b t;simp only[XU]at f;subst f;have l:((ops[j]?).bind (·.dst))=Td g:=by simp only[ja]at i;split at i;rename_i y k;simp[k,i];cases i
  have r:=h.all _ (oK t);have u:yielded ops a.tmps j=Td p↔qh a g=.bool p:=by
   unfold yielded qh;rw[l];simp only[zbj];cases ht:a.tmps[g]? with
   |none=>simp[zas,ht,undef]
   |some v=>cases v <;> simp[zas,ht]
  simp only[beq_iff_eq,u,valid];constructor;intro h1;refine⟨h1,?_⟩;by_cases m:valid (qh a) x;exact m;have:=r.2 m;simp only at this;rw[h1]at this;exact absurd this.symm IA;exact λh1=>h1.1;cases f;cases f
structure Keep (n:Nat) (h h':zc):Prop where
 size:h.size<=h'.size
 get:∀i,i<n->h'[i]?=h[i]?
theorem Keep.refl(n:Nat)(h:zc):Keep n h h:=⟨XV _,λ_ _=>rfl⟩
theorem Keep.trans{a b c:zc}(h:Keep n a b)(k:Keep m b c)(e:n<=m):Keep n a c:= ⟨zay h.size k.size,λi hi=>(k.get i (zbu hi e)).trans (h.get i hi)⟩
theorem Keep.mono{a b:zc}(h:Keep n a b)(c:m<=n):Keep m a b:=⟨h.size,λi hi=>h.get i (zbu hi c)⟩
theorem Keep.push(h:zc)(o:Obj)(b:n<=h.size):Keep n h (h.push o):= ⟨by simp,λi hi=>by rw[zau,za (by omega)]⟩
end
section
variable {P:Program} {α:Type} {h:zc} {v x i:Value} {t:TypeId} {g:Option Bool} {n l r:Int}
def zd(h:zc)(a:Addr):Option Value:=
 match h[a.block]? with
 |some (.cells c _ _)=>if a.spot.isSome then Te else c[a.off]?
 |_=>Te
theorem A4(B:World)(d:Nat)(h:zc)(a:Addr):(mk B d h).cell? a=zd h a:=rfl
def Yn(P:Program){α:Type}:Sem α->Option α
 |.pure a=>Td a
 |.program k=>Yn P (k P)
 |.mark _ k=>Yn P k
 |_=>Te
def QExec(P:Program){α:Type}(s:Sem α)(h:zc)(x:α):Prop:=∀B d,s.run P (mk B d h)=.ok x (mk B d h)
theorem Ir{s:Sem α}{x:α}(h:Yn P s=Td x)(w:World):s.run P w=.ok x w:=by
 induction s with
 |pure a=>simp only[Yn,XU]at h;subst h;rfl
 |program k b=>exact b P h
 |mark m k b=>exact b h
 |_=>simp[Yn]at h
theorem Mh{s:Sem α}{x:α}(h:Yn P s=Td x)(b:zc):QExec P s b x:=λ_ _=>Ir h _
theorem QExec.bind{α β:Type}{s:Sem α}{f:α->Sem β}{x:α}{y:β}(h1:QExec P s h x)(b:QExec P (f x) h y):QExec P (s >>= f) h y:=by intro B d;rw[Sem.run_bind,h1 B d];exact b B d
theorem QExec.pure(x:α):QExec P (zcj x) h x:=λ_ _=>rfl
theorem QExec.val{s:Sem Value}(h1:QExec P s h v):QExec P (s >>= λx=>zcj (zcp x)) h (zcp v):=h1.bind (QExec.pure _)
theorem QExec.underlying{d:TypeDesc}(b:P.underlying t=Td d):QExec P (Go.underlying t) h d:=by intro B e;simp[Go.underlying,program,b,Sem.run]
def yf(P:Program)(t:TypeId):Nat:=match P.info? t with
 |some i=>i.size
 |none=>0
theorem QExec.sizeOf{i:TypeInfo}(hi:P.info? t=Td i):QExec P (Go.sizeOf t) h (yf P t):=by intro B d;simp[Go.sizeOf,typeInfo,program,hi,Sem.run,yf]
theorem info_of_underlying{d:TypeDesc}(b:P.underlying t=Td d):∃i,P.info? t=Td i:=by
 unfold Program.underlying at b;cases h:P.info? t with
 |none=>rw[h]at b;cases b
 |some i=>exact⟨i,rfl⟩
inductive Atom where
 |int (k:IntKind)|bool|str|sl|mp|ptr|raw|ad
structure Sl where
 a:Option Addr
 len:Nat
 cap:Nat
@[reducible] def Atom.den:Atom->Type
 |.int _=>Int | .bool=>Bool | .str=>Bt | .sl=>Sl | .mp=>Option Nat | .ptr=>Option Addr | .raw=>Value | .ad=>Addr
def Atom.enc:(t:Atom)->t.den->Value
 |.int k,n=>.int k n
 |.bool,b=>.bool b
 |.str,s=>.string s
 |.sl,s=>.slice s.a s.len s.cap
 |.mp,m=>.map m
 |.ptr,p=>.pointer p
 |.raw,v=>v
 |.ad,p=>.pointer (Td p)
def Atom.dec:(t:Atom)->Value->Option t.den
 |.int k,.int k' n=>if k=k' then Td n else Te
 |.bool,.bool b=>Td b
 |.str,.string s=>Td s
 |.sl,.slice a l c=>Td ⟨a,l,c⟩
 |.mp,.map m=>Td m
 |.ptr,.pointer p=>Td p
 |.raw,v=>Td v
 |.ad,.pointer (Td p)=>Td p
 |_,_=>Te
theorem Atom.enc_of_dec{t:Atom}{x:t.den}(h:t.dec v=Td x):t.enc x=v:=by
 cases t with
 |ad=>
  cases v with
  |pointer p=>
   cases p with
   |none=>simp[Atom.dec]at h
   |some a=>simp[Atom.dec]at h;rw[h];rfl
  |_=>simp[Atom.dec]at h
 |_=>cases v <;> simp_all[Atom.dec,Atom.enc] <;> (subst h;first|rfl|exact⟨rfl,rfl,rfl⟩)
inductive VT where
 |one (t:Atom)
 |agg (l:List Atom)
inductive RT where
 |one (v:VT)
 |tup (l:List VT)
def sL:List Atom->(List Value->Prop)->Prop
 |[],F=>F []
 |t::l,F=>∃x:t.den,sL l λvs=>F (t.enc x::vs)
def AB:VT->(Value->Prop)->Prop
 |.one t,F=>∃x:t.den,F (t.enc x)
 |.agg l,F=>sL l λvs=>F (.agg vs.toArray)
def xD:List VT->(List Value->Prop)->Prop
 |[],F=>F []
 |t::l,F=>AB t λv=>xD l λvs=>F (v::vs)
def m3:RT->(Value->Prop)->Prop
 |.one v,F=>AB v F
 |.tup l,F=>xD l λvs=>F (.tuple vs.toArray)
def qL:List Atom->(List Value->Prop)->Prop
 |[],F=>F []
 |t::l,F=>∀x:t.den,qL l λvs=>F (t.enc x::vs)
def qU:VT->(Value->Prop)->Prop
 |.one t,F=>∀x:t.den,F (t.enc x)
 |.agg l,F=>qL l λvs=>F (.agg vs.toArray)
def pk:List VT->(List Value->Prop)->Prop
 |[],F=>F []
 |t::l,F=>qU t λv=>pk l λvs=>F (v::vs)
def Gg:RT->(Value->Prop)->Prop
 |.one v,F=>qU v F
 |.tup l,F=>pk l λvs=>F (.tuple vs.toArray)
theorem Jb:∀{l:List Atom} {F G:List Value->Prop},sL l F->qL l G->∃vs,vs.length=l.length/\F vs/\G vs
 |[],_,_,h,g=>⟨[],rfl,h,g⟩
 |_::_,_,_,⟨x,h⟩,g=>let ⟨vs,h0,h1,h2⟩:=Jb h (g x);⟨_,by simp[h0],h1,h2⟩
theorem wq:∀(l:List Atom),qL l λ_=>True
 |[]=>trivial
 |_::l=>λ_=>wq l
theorem xG{v:VT}{F G:Value->Prop}(h:AB v F)(g:qU v G):∃u,F u/\G u:=by
 cases v with
 |one t=>obtain⟨x,h⟩:=h;exact⟨_,h,g x⟩
 |agg l=>obtain⟨vs,_,h1,b⟩:=Jb h g;exact⟨_,h1,b⟩
theorem WP(v:VT):qU v λ_=>True:=by
 cases v with
 |one t=>exact λ_=>trivial
 |agg l=>exact wq l
theorem AR:∀{l:List VT} {F G:List Value->Prop},xD l F->pk l G->∃vs,F vs/\G vs
 |[],_,_,h,g=>⟨[],h,g⟩
 |_::_,_,_,h,g=>let ⟨_,h1,h2⟩:=xG h g;let ⟨_,h3,h4⟩:=AR h1 h2;⟨_,h3,h4⟩
theorem GC:∀(l:List VT),pk l λ_=>True
 |[]=>trivial
 |v::l=>by
  have h:=GC l;simp only[pk];cases v with
  |one t=>exact λ_=>h
  |agg b=>
   simp only[qU];have key:∀(b:List Atom) (f:List Value->List Value),qL b λ_=>pk l λ_=>True:=λb _=>by
    induction b with
    |nil=>exact h
    |cons t b c=>exact λ_=>c
   exact key b id
theorem CU{r:RT}{F G:Value->Prop}(h:m3 r F)(g:Gg r G):∃v,F v/\G v:=by
 cases r with
 |one v=>exact xG h g
 |tup l=>obtain⟨vs,h1,b⟩:=AR h g;exact⟨_,h1,b⟩
theorem tf{r:RT}{F:Value->Prop}(h:m3 r F):∃v,F v:=by
 cases r with
 |one v=>obtain⟨u,h1,_⟩:=xG h (WP v);exact⟨u,h1⟩
 |tup l=>obtain⟨vs,h1,_⟩:=AR h (GC l);exact⟨_,h1⟩
def E5:TypeDesc->Atom
 |.int k=>.int k
 |.bool=>.bool
 |.string=>.str
 |.slice _=>.sl
 |.map _ _=>.mp
 |.pointer _=>.ptr
 |_=>.raw
def uD(P:Program):Nat->TypeId->Option (List Atom)
 |0,_=>Te
 |n+1,t=>match P.underlying t with
  |some (.struct fs)=>fs.toList.foldr (λf l=>match uD P n f.type,l with
    |some x,some y=>Td (x++y)
    |_,_=>Te) (Td [])
  |some (.array m e)=>match uD P n e with
    |some x=>Td (za9 m x).flatten
    |none=>Te
  |some d=>Td [E5 d]
  |none=>Te
def kM(P:Program)(t:TypeId):Option VT:=match P.underlying t with
 |some (.struct _)|some (.array _ _)=>match uD P 8 t with
  |some l=>bif Nat.beq l.length (yf P t)then Td (.agg l)else Te
  |none=>Te
 |some d=>Td (.one (E5 d))
 |none=>Te
def HQ(P:Program):List TypeId->Option (List VT)
 |[]=>Td []
 |t::l=>match kM P t,HQ P l with
  |some x,some y=>Td (x::y)
  |_,_=>Te
def qG(P:Program)(t:TypeId):Option RT:=match P.underlying t with
 |some (.tuple ts)=>match HQ P ts.toList with
  |some l=>Td (.tup l)
  |none=>Te
 |_=>match kM P t with
  |some v=>Td (.one v)
  |none=>Te
def req:Option Bool->Prop->Prop
 |none,p=>p
 |some b,p=>b=Ta->p
def ij:Option Bool->Prop
 |none=>True
 |some b=>b=Ta
theorem req.out{p:Prop}(h:req g p)(c:ij g):p:=by
 cases g with
 |none=>exact h
 |some b=>exact h c
def zf(h:zc)(p:Addr):Nat->List Value->Prop
 |_,[]=>True
 |i,v::vs=>zd h (p.add i)=Td v/\zf h p (i+1) vs
def mZ(P:Program)(h:zc)(t:TypeId)(p:Value)(g:Option Bool)(K:Value->Prop):Prop:=
 match p,kM P t with
 |.pointer (Td p),Td (.one a)=>∃x:a.den,req g (zd h p=Td (a.enc x))/\K (a.enc x)
 |.pointer (Td p),Td (.agg l)=>sL l λvs=>req g (zf h p 0 vs)/\K (.agg vs.toArray)
 |_,_=>False
theorem Xm{P:Program}{h:zc}{p:Addr}:∀(vs:List Value) (i:Nat) (b:Array Value),zf h p i vs->QExec P (loadCellsFrom p i vs.length b) h (b++vs.toArray)
 |[],i,b,_=>by intro B d;simp[loadCellsFrom]
 |v::vs,i,b,⟨h1,h2⟩=>by have c:=Xm (P:=P) vs (i+1) (b.push v) h2;intro B d;simp only[YL,loadCellsFrom,Sem.run_bind,run_load];rw[A4,h1];simp only[Result.andThen_ok];rw[c B d];simp
theorem tz{a:Atom}{p:Addr}(b:kM P t=Td (.one a))(i:zd h p=Td v):QExec P (loadVar t p) h v:=by
 unfold kM at b;cases hu:P.underlying t with
 |none=>rw[hu]at b;cases b
 |some d=>
  rw[hu]at b;intro B e;have f:=QExec.underlying (h:=h) hu B e;have c:(isAgg t).run P (mk B e h)=.ok Tc (mk B e h):=by unfold isAgg;rw[Sem.run_bind,f];cases d <;> first|rfl|(exfalso;revert b;dsimp only;split <;> first|(intro h;cases h;done)|(cases j:Nat.beq _ _ <;> intro h <;> cases h))
  unfold loadVar;rw[Sem.run_bind,c];simp only[Result.andThen_ok,zad,if_false,run_load];rw[A4,i]
theorem tI{l:List Atom}{p:Addr}{vs:List Value}(f:kM P t=Td (.agg l))(m:vs.length=l.length)(w:zf h p 0 vs):QExec P (loadVar t p) h (.agg vs.toArray):=by
 unfold kM at f;cases hu:P.underlying t with
 |none=>rw[hu]at f;cases f
 |some d=>
  rw[hu]at f;obtain⟨i,hi⟩:=info_of_underlying hu;have b:(∃j,d=.struct j)\/(∃n e,d=.array n e):=by cases d <;> first|exact Or.inl ⟨_,rfl⟩|exact Or.inr ⟨_,_,rfl⟩|(simp at f)
  have k:yf P t=l.length:=by
   have c:(match uD P 8 t with
     |some l=>bif Nat.beq l.length (yf P t)then Td (VT.agg l)else Te
     |none=>Te)=Td (.agg l):=by
    rcases b with⟨j,rfl⟩|⟨n,e,rfl⟩ <;> exact f
   split at c;rename_i u _;cases hb:Nat.beq u.length (yf P t)with
   |false=>rw[hb]at c;cases c
   |true=>rw[hb]at c;simp only[zI,XU,VT.agg.injEq]at c;rw[<-c];exact(YC hb).symm
   cases c
  intro B e;have o:=QExec.underlying (h:=h) hu B e;have hA:(isAgg t).run P (mk B e h)=.ok Ta (mk B e h):=by unfold isAgg;rw[Sem.run_bind,o];rcases b with⟨j,rfl⟩|⟨n,x,rfl⟩ <;> rfl
  have r:=QExec.sizeOf (h:=h) hi B e;unfold loadVar;rw[Sem.run_bind,hA];simp only[Result.andThen_ok,if_true];rw[Sem.run_bind,r];simp only[Result.andThen_ok];have hL:=Xm (P:=P) vs 0 #[] w B e;unfold loadCells;rw[Sem.run_bind,k,<-m,hL];simp
theorem Fy{p:Value}{K:Value->Prop}(H:mZ P h t p g K):
  ∃v,K v/\(ij g->QExec P (zc6 t p) h v):=by
 unfold mZ at H;split at H;rename_i q a b;obtain⟨x,h1,c⟩:=H;exact⟨_,c,λe=>tz b (h1.out e)⟩;rename_i q l b;obtain⟨vs,h0,⟨h1,c⟩,_⟩:=Jb H (wq l);exact⟨_,c,λe=>tI b h0 (h1.out e)⟩;exact H.elim
def rV(P:Program)(t:TypeId)(x i:Value)(g:Option Bool)(K:Value->Prop):Prop:=
 match P.underlying t with
 |some (.slice el)=>match x,i with
  |.slice base len _,.int _ n=>∃a:Addr,req g (base=Td a/\0<=n/\n<(len:Int))/\K (.pointer (Td (a.add (n.toNat*yf P el))))
  |_,_=>False
 |some (.array len el)=>match x,i with
  |.pointer base,.int _ n=>∃a:Addr,req g (base=Td a/\0<=n/\n<(len:Int))/\K (.pointer (Td (a.add (n.toNat*yf P el))))
  |_,_=>False
 |_=>False
def yc(P:Program)(t:TypeId):Bool:=match P.info? t with
 |some _=>Ta
 |none=>Tc
theorem jm(h:yc P t=Ta):∃i,P.info? t=Td i:=by unfold yc at h;split at h;exact⟨_,by assumption⟩;cases h
theorem xb(t:TypeId)(B:World)(d:Nat):(∃i,P.info? t=Td i)->(Go.sizeOf t).run P (mk B d h)=.ok (yf P t) (mk B d h):=λ⟨_,hi⟩=>QExec.sizeOf hi B d
theorem Z0{K:Value->Prop} (c:∀el,(P.underlying t=Td (.slice el)\/∃n,P.underlying t=Td (.array n el))->∃i,P.info? el=Td i) (H:rV P t x i g K):
  ∃v,K v/\(ij g->∀h:zc,QExec P (zdo t x i) h v):=by
 unfold rV at H;split at H;rename_i el b;split at H;rename_i base len cap k n;obtain⟨a,h1,e⟩:=H;refine⟨_,e,λl=>?_⟩;obtain⟨rfl,f,o⟩:=h1.out l;intro h B d;have m:=QExec.underlying (h:=h) b B d;have j:=xb (h:=h) el B d (c el (Or.inl b));unfold zdo;simp[asIntOf,Sem.run_bind,m,j,f,o];exact H.elim;rename_i len el b;split at H;rename_i base k n;obtain⟨a,h1,e⟩:=H;refine⟨_,e,λl=>?_⟩;obtain⟨rfl,f,o⟩:=h1.out l;intro h B d;have m:=QExec.underlying (h:=h) b B d;have j:=xb (h:=h) el B d (c el (Or.inr ⟨_,b⟩));unfold zdo;simp[asIntOf,Sem.run_bind,m,j,f,o,zc2];exact H.elim;exact H.elim
def ze(s:Bt)(i:Nat):Int:=((s.data[i]?.getD 0).toNat:Int)
def wM(x i:Value)(g:Option Bool)(K:Value->Prop):Prop:=
 match x,i with
 |.string s,.int _ n=>req g (0<=n/\n<(s.size:Int))/\K (.int .u8 (ze s n.toNat))
 |_,_=>False
theorem M1(s:Bt)(i:Nat)(h:i<s.size):s[i]?=Td (s.data[i]?.getD 0):=by have h':i<s.data.size:=h;rw[getElem?_pos s i h];simp[zae h'];rfl
theorem Xn{K:Value->Prop}(e:P.underlying t=Td .string)(H:wM x i g K):
  ∃v,K v/\(ij g->∀h:zc,QExec P (Instr.index t x i) h v):=by
 unfold wM at H;split at H;rename_i s k n;obtain⟨h1,c⟩:=H;refine⟨_,c,λl=>?_⟩;obtain⟨f,m⟩:=h1.out l;intro h B d;have b:=QExec.underlying (h:=h) e B d;unfold Instr.index;have j:=M1 s n.toNat (by omega);simp only[asIntOf,Sem.run_bind,b,Sem.run_pure,Result.andThen_ok,f,if_true,j,ze];exact H.elim
def iG(a:Option Addr)(sz l m:Nat):Option Addr:=if m=l then a else a.map (·.add (l*sz))
def yz:Option Value->Int->Option Int
 |none,d=>Td d
 |some (.int _ n),_=>Td n
 |some _,_=>Te
def vc(P:Program)(t:TypeId)(x:Value)(lo hi mx:Option Value)(g:Option Bool)(K:Value->Prop):Prop:=
 match P.underlying t with
 |some .string=>match x,mx with
  |.string s,none=>match yz lo 0,yz hi (s.size:Int)with
   |some l,some r=>req g (0<=l/\l<=r/\r<=(s.size:Int))/\K (.string (s.extract l.toNat r.toNat))
   |_,_=>False
  |_,_=>False
 |some (.slice el)=>match x with
  |.slice a len cap=>match yz lo 0,yz hi (len:Int),yz mx (cap:Int)with
   |some l,Td r,some m=>(mx=Te\/∃v,hi=Td v)/\req g (0<=l/\l<=r/\r<=m/\m<=(cap:Int))/\K (.slice (iG a (yf P el) l.toNat m.toNat) (r.toNat-l.toNat) (m.toNat-l.toNat))
   |_,_,_=>False
  |_=>False
 |some (.array n el)=>match x,mx with
  |.pointer (Td a),none=>match yz lo 0,yz hi (n:Int)with
   |some l,some r=>req g (0<=l/\l<=r/\r<=(n:Int))/\K (.slice (iG (Td a) (yf P el) l.toNat n) (r.toNat-l.toNat) (n-l.toNat))
   |_,_=>False
  |_,_=>False
 |_=>False
theorem jo{v:Option Value}{d n:Int}(h:yz v d=Td n):(v=Te/\n=d)\/∃k,v=Td (.int k n):=by unfold yz at h;split at h;exact Or.inl ⟨rfl,by simpa using h.symm⟩;simp only[XU]at h;exact Or.inr ⟨_,by rw[h]⟩;cases h
theorem jb{k:IntKind}{y:Nat}{c:BoundsCode}(h0:0<=n)(h1:n<=(y:Int)):QExec P (Instr.sliceBound (.int k n) y c) h n.toNat:=by intro B d;simp[Instr.sliceBound,asIntOf,h0,h1]
theorem CV{n:Nat}{lo hi:Option Value}(f:yz lo 0=Td l)(j:yz hi (n:Int)=Td r)(c:0<=l)(i:l<=r)(b:r<=(n:Int)):
  QExec P (Instr.sliceBounds Tc n n lo hi Te) h (l.toNat,r.toNat,n):=by
 have e:(r.toNat:Int)=r:=Int.toNat_of_nonneg (by omega);rcases jo f with⟨rfl,rfl⟩|⟨k,rfl⟩ <;> rcases jo j with⟨rfl,rfl⟩|⟨k',rfl⟩;exact QExec.pure _;exact QExec.bind (QExec.pure n) (QExec.bind (jb (by omega) b) (QExec.pure _));exact QExec.bind (QExec.pure n) (QExec.bind (QExec.pure n) (QExec.bind (jb c i) (QExec.pure _)));exact QExec.bind (QExec.pure n) (QExec.bind (jb (by omega) b) (QExec.bind (jb c (by omega)) (QExec.pure _)))
theorem SN{len cap:Nat}{lo hi mx:Option Value}{l r m:Int}(f:yz lo 0=Td l)(i:yz hi (len:Int)=Td r)(o:yz mx (cap:Int)=Td m) (h0:mx=Te\/∃v,hi=Td v) (b:0<=l) (p:l<=r) (n:r<=m) (j:m<=(cap:Int)):
  QExec P (Instr.sliceBounds Ta len cap lo hi mx) h (l.toNat,r.toNat,m.toNat):=by
 have e:(r.toNat:Int)=r:=Int.toNat_of_nonneg (by omega);have w:(m.toNat:Int)=m:=Int.toNat_of_nonneg (by omega);rcases jo o with⟨rfl,rfl⟩|⟨u,rfl⟩;rcases jo f with⟨rfl,rfl⟩|⟨k,rfl⟩ <;> rcases jo i with⟨rfl,rfl⟩|⟨t,rfl⟩;exact QExec.pure _;exact QExec.bind (QExec.pure cap) (QExec.bind (jb (by omega) n) (QExec.pure _));exact QExec.bind (QExec.pure cap) (QExec.bind (QExec.pure len) (QExec.bind (jb b p) (QExec.pure _)));exact QExec.bind (QExec.pure cap) (QExec.bind (jb (by omega) n) (QExec.bind (jb b (by omega)) (QExec.pure _)));rcases h0 with h0|⟨v,rfl⟩;cases h0;rcases jo i with⟨c,_⟩|⟨t,c⟩;cases c;cases c;rcases jo f with⟨rfl,rfl⟩|⟨k,rfl⟩;exact QExec.bind (x:=m.toNat) (jb (by omega) j) (QExec.bind (jb (by omega) (by omega)) (QExec.pure _));exact QExec.bind (x:=m.toNat) (jb (by omega) j) (QExec.bind (jb (by omega) (by omega)) (QExec.bind (jb b (by omega)) (QExec.pure _)))
theorem Yo{lo hi mx:Option Value}{K:Value->Prop} (p:∀el,(P.underlying t=Td (.slice el)\/∃n,P.underlying t=Td (.array n el))->∃i,P.info? el=Td i) (H:vc P t x lo hi mx g K):
  ∃v,K v/\(ij g->∀h:zc,QExec P (zdd t x lo hi mx) h v):=by
 unfold vc at H;split at H;rename_i b;split at H;rename_i s;split at H;rename_i l r e j;obtain⟨h1,f⟩:=H;refine⟨_,f,λo=>?_⟩;obtain⟨k,u,w⟩:=h1.out o;intro h B d;have c:=QExec.underlying (h:=h) b B d;have bb:=CV (P:=P) (h:=h) e j k u w B d;unfold zdd;rw[Sem.run_bind,c];simp only[Result.andThen_ok];unfold Instr.slice;rw[Sem.run_bind,c];simp[bb];exact H.elim;exact H.elim;rename_i el b;split at H;rename_i a len cap;split at H;rename_i l r m e j z;obtain⟨h0,h1,f⟩:=H;refine⟨_,f,λo=>?_⟩;obtain⟨k,u,w,A⟩:=h1.out o;intro h B d;have c:=QExec.underlying (h:=h) b B d;have y:=xb (h:=h) el B d (p el (.inl b));have bb:=SN (P:=P) (h:=h) e j z h0 k u w A B d;unfold zdd;rw[Sem.run_bind,c];simp only[Result.andThen_ok];unfold Instr.slice;rw[Sem.run_bind,c];simp[bb,y,iG];exact H.elim;exact H.elim;rename_i n el b;split at H;rename_i a;split at H;rename_i l r e j;obtain⟨h1,f⟩:=H;refine⟨_,f,λo=>?_⟩;obtain⟨k,u,w⟩:=h1.out o;intro h B d;have c:=QExec.underlying (h:=h) b B d;have y:=xb (h:=h) el B d (p el (.inr ⟨n,b⟩));have bb:=CV (P:=P) (h:=h) e j k u w B d;unfold zdd;rw[Sem.run_bind,c];simp only[Result.andThen_ok,zc2,Sem.run_bind,Sem.run_pure,bb,y];unfold iG;split <;> rfl;exact H.elim;exact H.elim;exact H.elim
end
section
variable {P:Program} {f:FuncId} {h:zc} {K:Value -> zc -> Prop} {t ty t':TypeId} {g:Option Bool} {w w':World} {v:Value} {o:Oper} {ρ:Operand -> Value} {a:Act}
def XC(P:Program)(f:FuncId)(args:Array Value)(h:zc)(R:Value->zc->Prop):Prop:=
 ∀B d,Calls P f args (mk B d h) λe w'=>∃v b h',e=.returned v/\w'=mk B b h'/\R v h'
theorem XC.mono{args:Array Value}{R b:Value->zc->Prop}(H:XC P f args h R)(e:∀v h',R v h'->b v h'):XC P f args h b:= λB d=>(H B d).mono λ_ _ ⟨v,i,h',c,j,r⟩=>⟨v,i,h',c,j,e _ _ r⟩
def yp(P:Program)(s:Sem Value)(h:zc)(K:Value->zc->Prop):Prop:=∀B d,∃v b h',s.run P (mk B d h)=.ok v (mk B b h')/\K v h'
def XRunU(P:Program)(s:Sem Unit)(h:zc)(K:zc->Prop):Prop:=∀B d,∃b h',s.run P (mk B d h)=.ok () (mk B b h')/\K h'
theorem XRunU.mono{s:Sem Unit}{K b:zc->Prop}(H:XRunU P s h K)(c:∀h',K h'->b h'):XRunU P s h b:= λB d=>let ⟨d',h',e,k⟩:=H B d;⟨d',h',e,c _ k⟩
def zw(n:Nat):Prop:=n<=9223372036854775807
def kC(P:Program)(s:Sem Next)(K:Value->Prop):Prop:=match Yn P s with
 |some (.value v)=>K v
 |_=>False
def uP(P:Program)(ty:TypeId)(s:Sem Value)(g:Option Bool)(h:zc)(K:Value->Prop):Prop:=match qG P ty with
 |some b=>m3 b λv=>req g (QExec P s h v)/\K v
 |none=>False
def oE(P:Program)(t:TypeId):Bool:=match P.underlying t with
 |some (.slice _)=>Ta
 |_=>Tc
def oM(P:Program)(t:TypeId):Bool:=match P.underlying t with
 |some (.pointer e)=>Nat.beq e (P.pointee t)
 |_=>Tc
theorem He(h:oM P t=Ta):P.underlying t=Td (.pointer (P.pointee t)):=by unfold oM at h;split at h;rename_i e b;rw[b,YC h];cases h
def td(P:Program)(t:TypeId)(s:Sem Next)(c:BinOp)(x y:Value)(g:Option Bool)(K:Value->Prop):Prop:=
 match c,x,y with
 |.eql,.slice a _ _,.slice Te 0 0=>bif oE P t then K (.bool a.isNone)else kC P s K
 |.neq,.slice a _ _,.slice Te 0 0=>bif oE P t then K (.bool (!a.isNone))else kC P s K
 |.eql,.pointer a,.pointer none=>bif oM P t then K (.bool a.isNone)else kC P s K
 |.neq,.pointer a,.pointer none=>bif oM P t then K (.bool (!a.isNone))else kC P s K
 |.quo,.int k a,.int k' b=>k=k'/\req g (b≠0)/\K (.int k (k.wrap (a.tdiv b)))
 |.rem,.int k a,.int k' b=>k=k'/\req g (b≠0)/\K (.int k (a.tmod b))
 |.add,.string a,.string b=>req g (zw (a.size+b.size))/\K (.string (a++b))
 |_,_,_=>kC P s K
def xP(b:BinOp)(y:Operand):Bool:=match y with
 |.const _=>Tc
 |_=>match b with
  |.shl | .shr=>Ta
  |_=>Tc
def u9(c:BinOp)(x y:Value)(g:Option Bool)(K:Value->Prop):Prop:=
 match x,y with
 |.int k a,.int _ b=>match c with
  |.shl=>req g (0<=b)/\K (.int k (k.wrap (a*2 ^ (min b.toNat k.bits))))
  |.shr=>req g (0<=b)/\K (.int k (a.fdiv (2 ^ (min b.toNat k.bits))))
  |_=>False
 |_,_=>False
def qH(P:Program)(t:TypeId)(y:Operand):Bool:=match y with
 |.const .nilIface=>match P.underlying t with
  |some (.interface _)=>Ta
  |_=>Tc
 |_=>Tc
def qK:Value->Bool
 |.nilIface=>Ta
 |.iface _ _=>Ta
 |_=>Tc
def xS:Value->Bool
 |.nilIface=>Ta
 |_=>Tc
def tE(b:BinOp)(x y:Value)(g:Option Bool)(K:Value->Prop):Prop:=match y with
 |.nilIface=>match b with
  |.eql=>req g (qK x=Ta)/\K (.bool (xS x))
  |.neq=>req g (qK x=Ta)/\K (.bool (!xS x))
  |_=>False
 |_=>False
def GO(b:Builtin)(c:Array TypeId)(e:TypeId)(args:Array Value):Option (Sem Value):=
 match b with
 |.append=>Td (YO c e args)
 |.copy=>Td (Builtin.copy_ c e args)
 |.clear=>Td (Builtin.clear_ c e args)
 |.delete=>Td (Builtin.delete_ c e args)
 |.len=>Td (zb4 c e args)
 |_=>Te
def wZ(P:Program)(s:Sem Next)(ty:TypeId)(b:Array TypeId)(args:Array Value)(g:Option Bool)(h:zc)(K:Value->Prop):Prop:=
 match (args[0]?:Option Value)with
 |some (Value.map _)=>uP P ty (zb4 b ty args) g h K
 |_=>kC P s K
def lV(P:Program)(t:TypeId):Bool:=match P.underlying t with
 |some (.slice el)=>yc P el
 |some (.array _ el)=>yc P el
 |_=>Ta
theorem Zq(h:lV P t=Ta):∀el,(P.underlying t=Td (.slice el)\/∃n,P.underlying t=Td (.array n el))->∃i,P.info? el=Td i:=by intro el b;unfold lV at h;rcases b with b|⟨n,b⟩ <;> rw[b]at h <;> exact jm h
def rK(P:Program)(t:TypeId):Bool:=match P.underlying t with
 |some .string=>Ta
 |_=>Tc
theorem DL(h:rK P t=Ta):P.underlying t=Td .string:=by unfold rK at h;split at h;assumption;cases h
def sX(P:Program)(s:Sem Next)(x:Value)(g:Option Bool)(K:Value->Prop):Prop:=match x with
 |.pointer p=>∃a:Addr,req g (p=Td a)/\K (.pointer (Td a))
 |_=>kC P s K
def Jz(P:Program)(o:Oper)(ρ:Operand->Value)(g:Option Bool)(h:zc)(K:Value->Prop):Prop:=
 match o.op with
 |.load t a=>mZ P h t (ρ a) g K
 |.indexAddr t x i=>bif lV P t then rV P t (ρ x) (ρ i) g K else False
 |.index t x i=>bif rK P t then wM (ρ x) (ρ i) g K else kC P (execOp ρ o) K
 |.slice t x lo hi mx=>bif lV P t then vc P t (ρ x) (lo.map ρ) (hi.map ρ) (mx.map ρ) g K else False
 |.binOp b t x y _=>bif xP b y then u9 b (ρ x) (ρ y) g K else bif qH P t y then tE b (ρ x) (ρ y) g K else td P t (execOp ρ o) b (ρ x) (ρ y) g K
 |.lookup t m k ok=>uP P o.type (zbe t (ρ m) (ρ k) ok) g h K
 |.nilCheck x=>sX P (execOp ρ o) (ρ x) g K
 |.call c=>match c.callee with
  |.builtin .len=>wZ P (execOp ρ o) o.type c.argTypes (c.args.map ρ) g h K
  |_=>kC P (execOp ρ o) K
 |_=>kC P (execOp ρ o) K
theorem qd{s:Sem Next}{K:Value->Prop}(H:kC P s K)(g:Option Bool):∃v,K v/\(ij g->∀h:zc,QExec P s h (.value v)):=by unfold kC at H;split at H;rename_i v b;exact⟨v,H,λ_ h=>Mh b h⟩;exact H.elim
theorem EE{s:Sem Value}{K:Value->Prop}(H:uP P ty s g h K):∃v,K v/\(ij g->QExec P s h v):=by unfold uP at H;split at H;obtain⟨v,h1,c⟩:=tf H;exact⟨v,c,λb=>h1.out b⟩;exact H.elim
theorem xy{c:BinOp}(t:TypeId)(x y:Operand)(a b:Value)(h1:(c matches .eql | .neq)=Tc):eqGuard c t x y a b=pure ():=by unfold eqGuard;cases c <;> simp at h1 <;> rfl
theorem uM{s:Sem Value}(h:s.run P w=.ok v w'):(s >>= λx=>(zcj (zcp x):Sem Next)).run P w=.ok (.value v) w':=by rw[Sem.run_bind,h];rfl
theorem pf{s:Sem Next}{K:Value->Prop}(h:zc)(H:∃v,K v/\(ij g->∀h:zc,QExec P s h (.value v))):∃v,K v/\(ij g->QExec P s h (.value v)):=
 let ⟨v,h1,h2⟩:=H;⟨v,h1,λb=>h2 b h⟩
theorem U2{n:BinOp}{x y:Operand}(r:o.op=.binOp n t x y t'){K:Value->Prop}
  (H:td P t (execOp ρ o) n (ρ x) (ρ y) g K):∃v,K v/\(ij g->∀h:zc,QExec P (execOp ρ o) h (.value v)):=by
 have i:∀(n:BinOp) (x y:Operand) (a b:Option Addr) (l c C A:Nat) (w:World),(eqGuard n t x y (.slice a l c) (.slice b C A)).run P w=.ok () w:=λn x y a b l c C A w=>by unfold eqGuard;cases n <;> rfl
 have f:∀(n:BinOp) (x y:Operand) (a b:Option Addr) (w:World),(eqGuard n t x y (.pointer a) (.pointer b)).run P w=.ok () w:=λn x y a b w=>by unfold eqGuard;cases n <;> rfl
 unfold td at H;split at H;rename_i a l c m j;cases hs:oE P t with
 |false=>rw[hs]at H;exact qd H g
 |true=>
  rw[hs,zI]at H;refine⟨_,H,λp h B d=>?_⟩;have e:∃el,P.underlying t=Td (.slice el):=by unfold oE at hs;split at hs;rename_i el e;exact⟨el,e⟩;cases hs
  obtain⟨el,e⟩:=e;simp only[execOp,r,m,j];refine uM ?_;rw[Sem.run_bind,i];simp only[Result.andThen_ok,binOp,Sem.run_bind,run_equal_slice_nil _ t _ _ _ _ e];rfl
 rename_i a l c m j;cases hs:oE P t with
 |false=>rw[hs]at H;exact qd H g
 |true=>
  rw[hs,zI]at H;refine⟨_,H,λp h B d=>?_⟩;have e:∃el,P.underlying t=Td (.slice el):=by unfold oE at hs;split at hs;rename_i el e;exact⟨el,e⟩;cases hs
  obtain⟨el,e⟩:=e;simp only[execOp,r,m,j];refine uM ?_;rw[Sem.run_bind,i];simp only[Result.andThen_ok,binOp,Sem.run_bind,run_equal_slice_nil _ t _ _ _ _ e];rfl
 rename_i a m j;cases hs:oM P t with
 |false=>rw[hs]at H;exact qd H g
 |true=>rw[hs,zI]at H;refine⟨_,H,λp h B d=>?_⟩;have e:=He hs;simp only[execOp,r,m,j];refine uM ?_;rw[Sem.run_bind,f];simp only[Result.andThen_ok,binOp,Sem.run_bind,run_equal_pointer_nil _ t _ e];rfl
 rename_i a m j;cases hs:oM P t with
 |false=>rw[hs]at H;exact qd H g
 |true=>rw[hs,zI]at H;refine⟨_,H,λp h B d=>?_⟩;have e:=He hs;simp only[execOp,r,m,j];refine uM ?_;rw[Sem.run_bind,f];simp only[Result.andThen_ok,binOp,Sem.run_bind,run_equal_pointer_nil _ t _ e];rfl
 rename_i k a E b m j;obtain⟨rfl,h1,u⟩:=H;refine⟨_,u,λp=>?_⟩;have z:=h1.out p;intro h B d;simp only[execOp,r,m,j];rw[xy _ _ _ _ _ rfl];simp[binOp,Op.intDiv,z];rename_i k a E b m j;obtain⟨rfl,h1,u⟩:=H;refine⟨_,u,λp=>?_⟩;have z:=h1.out p;intro h B d;simp only[execOp,r,m,j];rw[xy _ _ _ _ _ rfl];simp[binOp,Op.intDiv,z];rename_i a b m j;obtain⟨h1,u⟩:=H;refine⟨_,u,λp=>?_⟩;have z:=h1.out p;intro h B d;simp only[execOp,r,m,j];rw[xy _ _ _ _ _ rfl];have D:¬((a.size+b.size:Nat):Int)>IntKind.i64.max:=by
  unfold zw at z;have:IntKind.i64.max=9223372036854775807:=by decide
  omega
 simp only[binOp,Op.stringOp,za D];rfl;exact qd H g
theorem Rr{l:BinOp}{x y:Operand}(f:o.op=.binOp l t x y t'){K:Value->Prop}
  (H:u9 l (ρ x) (ρ y) g K):∃v,K v/\(ij g->∀h:zc,QExec P (execOp ρ o) h (.value v)):=by
 unfold u9 at H;split at H;rename_i k a n b j i;split at H;obtain⟨h1,c⟩:=H;refine⟨_,c,λe h B d=>?_⟩;have m:=h1.out e;simp only[execOp,f,j,i];rw[xy _ _ _ _ _ rfl];simp only[binOp,Op.shift,za (show¬b<0 by omega)];rfl;obtain⟨h1,c⟩:=H;refine⟨_,c,λe h B d=>?_⟩;have m:=h1.out e;simp only[execOp,f,j,i];rw[xy _ _ _ _ _ rfl];simp only[binOp,Op.shift,za (show¬b<0 by omega)];rfl;exact H.elim;exact H.elim
theorem Pi{b:BinOp}{x y:Operand}(j:o.op=.binOp b t x y t'){K:Value->Prop}
  (i:qH P t y=Ta) (H:tE b (ρ x) (ρ y) g K):∃v,K v/\(ij g->∀h:zc,QExec P (execOp ρ o) h (.value v)):=by
 have f:∃ms,P.underlying t=Td (.interface ms)/\y=.const .nilIface:=by unfold qH at i;split at i;split at i;rename_i ms f;exact⟨ms,f,rfl⟩;cases i;cases i
 obtain⟨ms,f,rfl⟩:=f;have key:∀{u:Value} (h:zc),qK u=Ta->QExec P (zdt t u .nilIface) h (xS u):=by intro u h hi B d;have m:=QExec.underlying (h:=h) f B d;unfold zdt Op.maxDepth;cases u <;> first|(cases hi;done)|(unfold Op.equalIn;rw[Sem.run_bind,m];rfl)
 have l:∀b u (h:zc),qK u=Ta->QExec P (eqGuard b t x (.const .nilIface) u .nilIface) h ():=by intro b u h hi B d;unfold eqGuard;cases u <;> first|(cases hi;done)|(cases b <;> simp)
 have c:∀b u,qK u=Ta->(binOp b t u .nilIface=match b with | .eql=>(do pure (.bool (<-zdt t u .nilIface))) | .neq=>(do pure (.bool (!(<-zdt t u .nilIface))))|_=>binOp b t u .nilIface):=by intro b u hi;cases u <;> first|(cases hi;done)|(cases b <;> rfl)
 unfold tE at H;split at H;rename_i k;split at H;refine⟨_,H.2,λe h=>?_⟩;have hi:=H.1.out e;simp only[execOp,j,k];refine QExec.val ((l _ _ h hi).bind ?_);rw[c _ _ hi];exact(key h hi).bind (QExec.pure _);refine⟨_,H.2,λe h=>?_⟩;have hi:=H.1.out e;simp only[execOp,j,k];refine QExec.val ((l _ _ h hi).bind ?_);rw[c _ _ hi];exact(key h hi).bind (QExec.pure _);exact H.elim;exact H.elim
theorem zP{b:BinOp}{x y:Operand}(c:o.op=.binOp b t x y t'){K:Value->Prop}
  (H:bif xP b y then u9 b (ρ x) (ρ y) g K else bif qH P t y then tE b (ρ x) (ρ y) g K else td P t (execOp ρ o) b (ρ x) (ρ y) g K):∃v,K v/\(ij g->∀h:zc,QExec P (execOp ρ o) h (.value v)):=by
 cases hb:xP b y with
 |true=>rw[hb]at H;exact Rr c H
 |false=>
  rw[hb]at H;cases hn:qH P t y with
  |true=>rw[hn]at H;exact Pi c hn H
  |false=>rw[hn]at H;exact U2 c H
theorem MO{c:Call}(b:o.op=.call c)(i:c.callee=.builtin .len){K:Value->Prop}
  (H:wZ P (execOp ρ o) o.type c.argTypes (c.args.map ρ) g h K):∃v,K v/\(ij g->QExec P (execOp ρ o) h (.value v)):=by
 unfold wZ at H;split at H;obtain⟨v,h1,e⟩:=EE H;refine⟨v,h1,λf=>?_⟩;have:=e f;intro B d;simp only[execOp,b,resolve,i,Sem.run_bind,Sem.run_pure,Result.andThen_ok,invoke,builtin];rw[this B d];rfl;exact pf h (qd H g)
theorem AE{K:Value->Prop}(H:Jz P o ρ g h K):∃v,K v/\(ij g->QExec P (execOp ρ o) h (.value v)):=by
 unfold Jz at H;split at H;rename_i t a b;obtain⟨v,h1,e⟩:=Fy H;refine⟨v,h1,λf=>?_⟩;simp only[execOp,b];exact(e f).val;rename_i t x i b;cases he:lV P t with
 |false=>rw[he]at H;exact H.elim
 |true=>rw[he]at H;obtain⟨v,h1,e⟩:=Z0 (Zq he) H;refine⟨v,h1,λf=>?_⟩;simp only[execOp,b];exact(e f h).val
 rename_i t x i b;cases he:rK P t with
 |false=>rw[he]at H;exact pf h (qd H g)
 |true=>rw[he]at H;obtain⟨v,h1,e⟩:=Xn (DL he) H;refine⟨v,h1,λf=>?_⟩;simp only[execOp,b];exact(e f h).val
 rename_i t x lo hi mx b;cases he:lV P t with
 |false=>rw[he]at H;exact H.elim
 |true=>rw[he]at H;obtain⟨v,h1,e⟩:=Yo (Zq he) H;refine⟨v,h1,λf=>?_⟩;simp only[execOp,b];exact(e f h).val
 rename_i r t x y t' b;exact pf h (zP b H);rename_i t m k ok b;obtain⟨v,h1,e⟩:=EE H;refine⟨v,h1,λf=>?_⟩;simp only[execOp,b];exact(e f).val;rename_i x b;unfold sX at H;split at H;rename_i p l;obtain⟨a,h1,e⟩:=H;refine⟨_,e,λf=>?_⟩;have j:=h1.out f;subst j;intro B d;simp only[execOp,b,l];rfl;exact pf h (qd H g);rename_i c b;split at H;rename_i n;exact MO b n H;exact pf h (qd H g);exact pf h (qd H g)
def lP(o:Oper):Bool:=match o.op with
 |.lookup .. => Tc
 |.call c=>match c.callee with
  |.builtin .len=>Tc
  |_=>Ta
 |_=>Ta
theorem SE{p:Addr}(H:zd h p=Td v):p.block<h.size:=by
 unfold zd at H;cases e:h[p.block]? with
 |none=>simp[e]at H
 |some o=>exact(YE.1 e).1
theorem Ck{h h':zc}(k:Keep h.size h h'){p:Addr}(H:zd h p=Td v):zd h' p=Td v:=by have:=SE H;unfold zd at H ⊢;rw[k.get _ this];exact H
theorem IC{h h':zc}(k:Keep h.size h h'){p:Addr}:∀{vs:List Value} {i:Nat},zf h p i vs->zf h' p i vs
 |[],_,_=>trivial
 |_::_,_,⟨h1,h2⟩=>⟨Ck k h1,IC k h2⟩
theorem wC{K:Value->Prop}(w:lP o=Ta)(H:Jz P o ρ g h K):∃v,K v/\(ij g->∀h',Keep h.size h h'->QExec P (execOp ρ o) h' (.value v)):=by
 unfold Jz at H;split at H;rename_i t a j;unfold mZ at H;split at H;rename_i q b n u;obtain⟨x,h1,e⟩:=H;refine⟨_,e,λf h' r=>?_⟩;simp only[execOp,j,n];exact(tz u (Ck r (h1.out f))).val;rename_i q l n u;obtain⟨vs,h0,⟨h1,e⟩,_⟩:=Jb H (wq l);refine⟨_,e,λf h' r=>?_⟩;simp only[execOp,j,n];exact(tI u h0 (IC r (h1.out f))).val;exact H.elim;rename_i t x i j;cases he:lV P t with
 |false=>rw[he]at H;exact H.elim
 |true=>rw[he]at H;obtain⟨v,h1,e⟩:=Z0 (Zq he) H;refine⟨v,h1,λf h' _=>?_⟩;simp only[execOp,j];exact(e f h').val
 rename_i t x i j;cases he:rK P t with
 |false=>rw[he]at H;obtain⟨v,h1,e⟩:=qd H g;exact⟨v,h1,λf h' _=>e f h'⟩
 |true=>rw[he]at H;obtain⟨v,h1,e⟩:=Xn (DL he) H;refine⟨v,h1,λf h' _=>?_⟩;simp only[execOp,j];exact(e f h').val
 rename_i t x lo hi mx j;cases he:lV P t with
 |false=>rw[he]at H;exact H.elim
 |true=>rw[he]at H;obtain⟨v,h1,e⟩:=Yo (Zq he) H;refine⟨v,h1,λf h' _=>?_⟩;simp only[execOp,j];exact(e f h').val
 rename_i C t x y t' j;obtain⟨v,h1,e⟩:=zP j H;exact⟨v,h1,λf h' _=>e f h'⟩;rename_i t m k ok j;simp[lP,j]at w;rename_i x j;unfold sX at H;split at H;rename_i p z;obtain⟨a,h1,e⟩:=H;refine⟨_,e,λf h' _=>?_⟩;have n:=h1.out f;subst n;intro B d;simp only[execOp,j,z];rfl;obtain⟨v,h1,e⟩:=qd H g;exact⟨v,h1,λf h' _=>e f h'⟩;rename_i c j;split at H;rename_i A;simp[lP,j,A]at w;obtain⟨v,h1,e⟩:=qd H g;exact⟨v,h1,λf h' _=>e f h'⟩;obtain⟨v,h1,e⟩:=qd H g;exact⟨v,h1,λf h' _=>e f h'⟩
def mM(P:Program){α:Type}:Sem α->zc->(α->zc->Prop)->Prop
 |.pure a,h,K=>K a h
 |.program k,h,K=>mM P (k P) h K
 |.mark _ k,h,K=>mM P k h K
 |.new o k,h,K=>mM P (k h.size) (h.push o) K
 |_,_,_=>False
theorem AX{α:Type}{s:Sem α}{K:α->zc->Prop}(H:mM P s h K)(B:World)(d:Nat):∃x h',s.run P (mk B d h)=.ok x (mk B d h')/\K x h':=by
 induction s generalizing h with
 |pure a=>exact⟨a,h,rfl,H⟩
 |program k b=>exact b P H
 |mark m k b=>exact b H
 |new o k b=>obtain⟨x,h',h1,c⟩:=b h.size H;exact⟨x,h',h1,c⟩
 |_=>exact H.elim
def typed(P:Program)(ty:TypeId)(v:Value)(K:Value->Prop):Prop:=match qG P ty with
 |some c=>m3 c λb=>v=b/\K b
 |none=>False
theorem xz{K:Value->Prop}(H:typed P ty v K):K v:=by unfold typed at H;split at H;obtain⟨c,h1,b⟩:=tf H;rw[h1];exact b;exact H.elim
def zm(P:Program)(f:FuncId):Bool:=match P.funcs[f]? with
 |some fn=>(match fn.body with
  |some _=>Ta
  | none => false) && !(fn.name == "runtime.NumGoroutine")
 |none=>Tc
theorem Xo(h:zm P f=Ta)(args:Array Value)(w:World):(callFunc f args).run P w=.ok (.enter f args) w:=by unfold zm at h;split at h;rename_i fn c;simp only[YH,zb8]at h;obtain⟨h1,e⟩:=h;unfold callFunc;simp only[program,Sem.run_bind,Sem.run,Result.andThen_ok,c];split at h1;rename_i b i;simp[e,i];cases h1;cases h
def l5(P:Program)(v:Value)(args:Array Value)(K:FuncId->Array Value->Prop):Prop:=match v with
 |.func (.func f) first cap=>zm P f=Ta/\K f (first++args++cap)
 |_=>False
theorem CC{c:Call}{x:Operand}(b:o.op=.call c)(i:c.callee=.value x){K:FuncId->Array Value->Prop}(H:l5 P (ρ x) (c.args.map ρ) K):
  ∃f args,K f args/\∀w,(execOp ρ o).run P w=.ok (.enter f args) w:=by
 unfold l5 at H;split at H;rename_i f first cap e
 obtain⟨h1,h⟩:=H;refine⟨_,_,h,λw=>?_⟩;simp only[execOp,b,resolve,i,e,zc7,Sem.run_bind,Sem.run_pure,Result.andThen_ok,invoke];exact Xo h1 _ w;exact H.elim
def pL:Operand->Bool
 |.func _=>Ta
 |_=>Tc
def VW(P:Program)(f:FuncId):Bool:=match P.funcs[f]? with
 |some fn=>(match fn.body with
  |some _=>Tc
  |none=>Ta)
 |none=>Tc
def SI(P:Program)(f:FuncId)(args:Array Value)(h:zc)(K:Value->zc->Prop):Prop:=∀B d,∃v b h',(callFunc f args).run P (mk B d h)=.ok (.value v) (mk B b h')/\K v h'
def EX(P:Program):Operand->Bool
 |.func f=>VW P f
 |_=>Tc
def xY(P:Program)(v:Value)(args:Array Value)(h:zc)(K:Value->zc->Prop):Prop:=match v with
 |.func (.func f) first cap=>SI P f (first++args++cap) h K
 |_=>False
theorem Lw{c:Call}{x:Operand}(e:o.op=.call c)(k:c.callee=.value x)(H:xY P (ρ x) (c.args.map ρ) h K)(B:World)(d:Nat):
  ∃v b h',(execOp ρ o).run P (mk B d h)=.ok (.value v) (mk B b h')/\K v h':=by
 unfold xY at H;split at H;rename_i f first cap i
 obtain⟨v,b,h',h1,j⟩:=H B d;refine⟨v,b,h',?_,j⟩;simp only[execOp,e,resolve,k,i,zc7,Sem.run_bind,Sem.run_pure,Result.andThen_ok,invoke];exact h1;exact H.elim
def Gl(P:Program)(t:TypeId):Bool:=match P.underlying t with
 |some (.map _ _)=>Ta
 |_=>Tc
def tm(P:Program)(o:Oper)(ρ:Operand->Value)(h:zc)(K:Value->zc->Prop):Prop:=
 match o.op with
 |.store t a x=>XRunU P (YG t (ρ a) (ρ x)) h λh'=>K undef h'
 |.mapUpdate t m k x=>XRunU P (zbc t (ρ m) (ρ k) (ρ x)) h λh'=>K undef h'
 |.insert t m k x=>XRunU P (zbc t (ρ m) (ρ k) (ρ x)) h λh'=>K undef h'
 |.entryStore t m s x=>XRunU P (Instr.entryStore t (ρ m) (ρ s) (ρ x)) h λh'=>K undef h'
 |.mapEntry t m k=>yp P (Instr.mapEntry t (ρ m) (ρ k)) h λv h'=>typed P o.type v λe=>K e h'
 |.makeSlice t l c=>yp P (ZW t (ρ l) (ρ c)) h λv h'=>typed P o.type v λe=>K e h'
 |.convert s t x=>yp P (convert s t (ρ x)) h λv h'=>typed P o.type v λe=>K e h'
 |.typeAssert x t t' ok=>yp P (Instr.typeAssert (ρ x) t t' ok) h λv h'=>typed P o.type v λe=>K e h'
 |.range t x=>bif Gl P t then yp P (zdg t (ρ x)) h λv h'=>∃q:Option Addr,v=.pointer q/\K (.pointer q) h' else mM P (execOp ρ o) h λi h'=>match i with
   |.value v=>K v h'
   |.skip=>K undef h'
   |_=>False
 |.next x s=>bif s then yp P (zcg (ρ x) s o.type) h λv h'=>(v=.tuple #[.bool Tc]/\K (.tuple #[.bool Tc]) h')\/∃k u:Int,v=.tuple #[.bool Ta,.int .i64 k,.int .i32 u]/\K (.tuple #[.bool Ta,.int .i64 k,.int .i32 u]) h'
  else yp P (zcg (ρ x) s o.type) h λv h'=>(v=.tuple #[.bool Tc]/\K (.tuple #[.bool Tc]) h')\/∃k u:Value,v=.tuple #[.bool Ta,k,u]/\K (.tuple #[.bool Ta,k,u]) h'
 |.entry x=>yp P (zc3 (ρ x)) h λv h'=>∃k u:Value,v=.tuple #[k,u]/\K (.tuple #[k,u]) h'
 |.call c=>match c.callee with
  |.builtin b=>match GO b c.argTypes o.type (c.args.map ρ)with
   |some s=>yp P s h λv h'=>typed P o.type v λe=>K e h'
   |none=>False
  |.value x=>bif EX P x then xY P (ρ x) (c.args.map ρ) h (λv h'=>typed P o.type v λe=>K e h')else bif pL x then(mM P (execOp ρ o) h λi h'=>match i with
   |.enter f args=>XC P f args h' λv h''=>typed P o.type v λe=>K e h''
   |.value v=>K v h'
   |_=>False)else l5 P (ρ x) (c.args.map ρ) λf args=>XC P f args h λv h''=>typed P o.type v λe=>K e h''
  |_=>False
 |_=>mM P (execOp ρ o) h λi h'=>match i with
   |.value v=>K v h'
   |.skip=>K undef h'
   |_=>False
def LV:Builtin->Bool
 |.append | .copy | .clear | .delete=>Ta
 |_=>Tc
def Vh(P:Program)(s t:TypeId):Bool:=match P.underlying s,P.underlying t with
 |some (.int _),Td (.int _)=>Ta
 |some .string,Td .string=>Ta
 |_,_=>Tc
def lH(P:Program)(o:Oper):Bool:=
 match o.op with
 |.load _ _ | .indexAddr _ _ _ | .index _ _ _ | .slice _ _ _ _ _ | .binOp _ _ _ _ _ | .lookup _ _ _ _ | .nilCheck _=>Ta
 |.move _ | .assign _ | .unOp _ _ _ | .build _ _ | .makeFunc _ _ _ | .makeInterface _ _ | .extract _ _ | .field _ _ _ | .fieldAddr _ _ _=>Ta
 |.convert s t _=>Vh P s t
 |.call c=>match c.callee with
  |.builtin b=>!LV b
  |_=>Tc
 |_=>Tc
def wS(P:Program)(o:Oper)(ρ:Operand->Value)(b:Bool)(h:zc)(K:Value->zc->Prop):Prop:=
 match qG P o.type with
 |some c=>∃J:Value->zc->Prop,(b=Ta->tm P o ρ h J)/\(b=Tc->m3 c λv=>J v h)/\(b=Ta->∀v h',J v h'->m3 c λe=>v=e)/\Gg c λv=>∀h',J v h'->K v h'
 |none=>False
def stepW(P:Program)(o:Oper)(ρ:Operand->Value)(g:Option Bool)(h:zc)(K:Value->zc->Prop):Prop:=
 bif lH P o then Jz P o ρ g h (λv=>K v h)else match g with
  |none=>tm P o ρ h K
  |some b=>wS P o ρ b h K
theorem upon_value{next:Act->World->Prop}{Q:Exit->Act->World->Prop}{s:Sem Next}(h:s.run P w=.ok (.value v) w')(b:next (a.put o.dst v) w'): o.upon P a next Q (s.run P w):=by rw[h];exact b
theorem upon_skip{next:Act->World->Prop}{Q:Exit->Act->World->Prop}{s:Sem Next}(h:s.run P w=.ok .skip w')(b:next (a.put o.dst undef) w'): o.upon P a next Q (s.run P w):=by rw[h];exact b
theorem Yl{s:Sem Value}(h:s.run P w=.ok v w'):(s >>= λx=>(zcj (zcp x):Sem Next)).run P w=.ok (.value v) w':=by rw[Sem.run_bind,h];rfl
theorem ov{s:Sem Unit}(h:s.run P w=.ok () w'):(s >>= λ_=>(zcj Next.skip:Sem Next)).run P w=.ok .skip w':=by rw[Sem.run_bind,h];rfl
theorem Gt(H:tm P o ρ h K)(B:World)(d:Nat){next:Act->World->Prop}{Q:Exit->Act->World->Prop}
  (j:∀v n h',K v h'->next (a.put o.dst v) (mk B n h')):o.upon P a next Q ((execOp ρ o).run P (mk B d h)):=by
 unfold tm at H;split at H;case h_1 t x y ho=>obtain⟨n,h',h1,i⟩:=H B d;exact upon_skip (by simp only[execOp,ho];exact ov h1) (j _ _ _ i)
 case h_2 t m k x ho=>obtain⟨n,h',h1,i⟩:=H B d;exact upon_skip (by simp only[execOp,ho];exact ov h1) (j _ _ _ i)
 case h_3 t m k x ho=>obtain⟨n,h',h1,i⟩:=H B d;exact upon_skip (by simp only[execOp,ho];exact ov h1) (j _ _ _ i)
 case h_4 t m s x ho=>obtain⟨n,h',h1,i⟩:=H B d;exact upon_skip (by simp only[execOp,ho];exact ov h1) (j _ _ _ i)
 case h_5 t m k ho=>obtain⟨v,n,h',h1,i⟩:=H B d;exact upon_value (by simp only[execOp,ho];exact Yl h1) (j _ _ _ (xz i))
 case h_6 t l c ho=>obtain⟨v,n,h',h1,i⟩:=H B d;exact upon_value (by simp only[execOp,ho];exact Yl h1) (j _ _ _ (xz i))
 case h_7 s t x ho=>obtain⟨v,n,h',h1,i⟩:=H B d;exact upon_value (by simp only[execOp,ho];exact Yl h1) (j _ _ _ (xz i))
 case h_8 x t t' ok ho=>obtain⟨v,n,h',h1,i⟩:=H B d;exact upon_value (by simp only[execOp,ho];exact Yl h1) (j _ _ _ (xz i))
 case h_9 t x ho=>
  cases hm:Gl P t with
  |true=>rw[hm]at H;obtain⟨v,n,h',h1,q,rfl,i⟩:=H B d;exact upon_value (by simp only[execOp,ho];exact Yl h1) (j _ _ _ i)
  |false=>
   rw[hm]at H;obtain⟨r,h',h1,i⟩:=AX H B d;cases r with
   |value v=>exact upon_value h1 (j _ _ _ i)
   |skip=>exact upon_skip h1 (j _ _ _ i)
   |_=>exact i.elim
 case h_10 x s ho=>
  cases s with
  |true=>simp only[zI]at H;obtain⟨v,n,h',h1,i⟩:=H B d;refine upon_value (v:=v) (w':=mk B n h') (by simp only[execOp,ho];exact Yl h1) (j _ _ _ ?_);rcases i with⟨rfl,i⟩|⟨k,u,rfl,i⟩ <;> exact i
  |false=>simp only[zJ]at H;obtain⟨v,n,h',h1,i⟩:=H B d;refine upon_value (v:=v) (w':=mk B n h') (by simp only[execOp,ho];exact Yl h1) (j _ _ _ ?_);rcases i with⟨rfl,i⟩|⟨k,u,rfl,i⟩ <;> exact i
 case h_11 x ho=>obtain⟨v,n,h',h1,k,u,rfl,i⟩:=H B d;exact upon_value (by simp only[execOp,ho];exact Yl h1) (j _ _ _ i)
 case h_12 c ho=>
  split at H;rename_i b A;split at H;rename_i s p;obtain⟨v,n,h',h1,i⟩:=H B d;refine upon_value (w':=mk B n h') ?_ (j _ _ _ (xz i));have key:execOp ρ o=s >>= λx=>(zcj (zcp x):Sem Next):=by
   simp only[execOp,ho,resolve,A];unfold GO at p;split at p <;> first
    |(simp only[XU]at p;subst p;rfl)
    |cases p
  rw[key];exact Yl h1;exact H.elim
  ·rename_i x z;cases hex:EX P x with
   |true=>rw[hex]at H;obtain⟨v,n,h',h1,i⟩:=Lw ho z H B d;exact upon_value h1 (j _ _ _ (xz i))
   |false=>
   rw[hex]at H;simp only[zJ]at H;cases hst:pL x with
   |true=>
    rw[hst]at H;obtain⟨r,h',h1,i⟩:=AX H B d;cases r with
    |enter f args=>rw[h1];refine(i B d).mono ?_;rintro e w' ⟨v,n,h'',rfl,rfl,w⟩;exact j _ _ _ (xz w)
    |value v=>exact upon_value h1 (j _ _ _ i)
    |_=>exact i.elim
   |false=>rw[hst]at H;simp only[zJ]at H;obtain⟨f,args,h1,i⟩:=CC ho z H;rw[i];refine(h1 B d).mono ?_;rintro e w' ⟨v,n,h'',rfl,rfl,w⟩;exact j _ _ _ (xz w)
  exact H.elim
 case h_13=>
  obtain⟨r,h',h1,i⟩:=AX H B d;cases r with
  |value v=>exact upon_value h1 (j _ _ _ i)
  |skip=>exact upon_skip h1 (j _ _ _ i)
  |_=>exact i.elim
theorem N3(H:stepW P o ρ g h K)(i:ij g)(B:World)(d:Nat){next:Act->World->Prop}{Q:Exit->Act->World->Prop}
  (c:∀v e h',K v h'->next (a.put o.dst v) (mk B e h')):o.upon P a next Q ((execOp ρ o).run P (mk B d h)):=by
 unfold stepW at H;cases hq:lH P o with
 |true=>rw[hq]at H;obtain⟨v,h1,j⟩:=AE H;exact upon_value (j i B d) (c _ _ _ h1)
 |false=>
  rw[hq]at H;cases g with
  |none=>exact Gt H B d c
  |some b=>have l:b=Ta:=i;subst l;simp only[zJ]at H;unfold wS at H;split at H;rename_i t n;obtain⟨J,h1,_,k,p⟩:=H;refine Gt (h1 rfl) B d λv e h' f=>?_;obtain⟨u,m,r⟩:=CU (k rfl v h' f) p;subst m;exact c _ _ _ (r _ f);exact H.elim
theorem Ri(H:stepW P o ρ (Td Tc) h K):∃v,K v h:=by
 unfold stepW at H;cases hq:lH P o with
 |true=>rw[hq]at H;obtain⟨v,h1,_⟩:=AE H;exact⟨v,h1⟩
 |false=>rw[hq]at H;simp only[zJ]at H;unfold wS at H;split at H;obtain⟨J,_,c,_,e⟩:=H;obtain⟨v,b,f⟩:=CU (c rfl) e;exact⟨v,f _ b⟩;exact H.elim
end
section
variable {n:Nat} {e:bK} {a b:Act} {c:qf} {g:Option Bool} {P:Program} {o:Oper} {h:zc} {K:Value -> zc -> Prop} {ms:List Nat}
def oh(e:bK):qf->Option (Option Bool)
 |[]=>Td Te
 |c=>match p7 e c with
  |some b=>Td (Td b)
  |none=>Te
theorem AP(i:Sat n e a)(h:oh e c=Td g)(j:valid (qh a) c):ij g:=by unfold oh at h;split at h;simp only[XU]at h;subst h;trivial;split at h;rename_i b f;simp only[XU]at h;subst h;exact(yM i f).2 j;cases h
theorem OU(j:Sat n e a)(h:oh e c=Td g)(f:¬valid (qh a) c):g=Td Tc:=by
 unfold oh at h;split at h;exact absurd trivial f;split at h;rename_i b i;simp only[XU]at h;subst h;cases b with
 |false=>rfl
 |true=>exact absurd ((yM j i).1 rfl) f
 cases h
def rY(b:Bool):Value->Value->Value
 |.bool x,.bool y=>.bool (bif b then x else y)
 |x,y=>bif b then x else y
theorem D9(b:Bool)(x y:Value):rY b x y=if b=Ta then x else y:=by unfold rY;split <;> cases b <;> rfl
def vw:Option Value->Option Value->Option Value
 |some v,_=>Td v
 |none,w=>w
def vn(e:bK)(c:qf)(x a b:Operand)(K:Value->Prop):Prop:=
 match x with
 |.tmp s=>match look e s with
  |some (cs,.bool t)=>bif lu cs c then(match vw (Xd e c a) (Xd e ((s,Ta)::cs) a),vw (Xd e c b) (Xd e ((s,Tc)::cs) b)with
    |some va,some vb=>K (rY t va vb)
    |_,_=>False)else False
  |_=>False
 |_=>False
theorem yt{f:Act}(i:Sat n e f){x a b:Operand}{K:Value->Prop}(H:vn e c x a b K):
  ∃v,K v/\(valid (qh f) c->∃t,f.eval x=.bool t/\(if t=Ta then f.eval a else f.eval b)=v):=by
 unfold vn at H;split at H;rename_i s;split at H;rename_i cs t m;cases hsf:lu cs c with
 |false=>rw[hsf]at H;exact H.elim
 |true=>
  rw[hsf]at H;simp only[zI]at H;split at H;rename_i p r k j;refine⟨_,H,λl=>⟨t,?_,?_⟩⟩;exact(i.all _ (oK m)).1 (Ja hsf l);have h:=Ja hsf l;have o:qh f s=.bool t:=(i.all _ (oK m)).1 h;rw[D9];cases t with
  |true=>simp only[if_true];unfold vw at k;split at k;rename_i v _ h1;simp only[XU]at k;subst k;exact qu i l h1;exact qu i (c:=(s,Ta)::cs) ⟨o,h⟩ k
  |false=>simp only[zad,if_false];unfold vw at j;split at j;rename_i v _ h1;simp only[XU]at j;subst j;exact qu i l h1;exact qu i (c:=(s,Tc)::cs) ⟨o,h⟩ j
  exact H.elim
 exact H.elim;exact H.elim
def mI(P:Program)(o:Oper)(e:bK)(c:qf)(h:zc)(K:Value->zc->Prop):Prop:=
 match o.op with
 |.pick x a b=>vn e c x a b λv=>K v h
 |_=>bif Yk o.op then(bif known e c o.op.operands.toList then(match oh e c with
   |some g=>stepW P o (jF e c) g h K
   |none=>False)else False)else False
def wR(P:Program)(n:Nat)(ops:Array Oper)(K:bK->zc->Prop):List Oper->bK->zc->Prop
 |[],e,h=>K (clean e) h
 |o::rest,e,h=>match Jy ops e o.guard with
  |some c=>bif jr n c o.dst then mI P o e c h λv h'=>wR P n ops K rest (putO e o.dst c v) h' else False
  |none=>False
theorem F6(H:mI P o e c h K)(b:Sat n e a)(f:valid (qh a) c)(B:World)(d:Nat)
  {next:Act->World->Prop} {Q:Exit->Act->World->Prop} (i:∀v l h',K v h'->next (a.put o.dst v) (mk B l h')):o.wp P a (mk B d h) next Q:=by
 unfold mI at H;unfold Oper.wp;split at H;rename_i x y z j;obtain⟨v,h1,k⟩:=yt b H;obtain⟨t,m,r⟩:=k f;refine upon_value (w':=mk B d h) (v:=v) ?_ (i _ _ _ h1);simp only[execOp,j,m,asBool,Sem.run_bind,Sem.run_pure,Result.andThen_ok];rw[r];cases hns:Yk o.op with
 |false=>rw[hns]at H;exact H.elim
 |true=>
  rw[hns]at H;cases hk:known e c o.op.operands.toList with
  |false=>rw[hk]at H;exact H.elim
  |true=>rw[hk]at H;simp only[zI]at H;split at H;rename_i g p;rw[u0 b f hns hk];exact N3 H (AP b p f) B d i;exact H.elim
theorem H3(H:mI P o e c h K)(b:Sat n e a)(i:¬valid (qh a) c):∃v,K v h:=by
 unfold mI at H;split at H;obtain⟨v,h1,_⟩:=yt b H;exact⟨v,h1⟩;cases hns:Yk o.op with
 |false=>rw[hns]at H;exact H.elim
 |true=>
  rw[hns]at H;cases hk:known e c o.op.operands.toList with
  |false=>rw[hk]at H;exact H.elim
  |true=>rw[hk]at H;simp only[zI]at H;split at H;rename_i g f;rw[OU b f i]at H;exact Ri H;exact H.elim
def wl:List Oper->List Nat
 |[]=>[]
 |o::l=>match o.dst with
  |some d=>d::wl l
  |none=>wl l
def Same(ms:List Nat)(a b:Act):Prop:=∀i,i∉ms->qh b i=qh a i
theorem Same.refl(ms:List Nat)(a:Act):Same ms a a:=λ_ _=>rfl
theorem Same.trans{a b c:Act}(h:Same ms a b)(k:Same ms b c):Same ms a c:=λi hi=>(k i hi).trans (h i hi)
theorem Same.mono{ms c:List Nat}(h:Same ms a b)(f:∀x∈ms,x∈c):Same c a b:=λi hi=>h i λe=>hi (f i e)
theorem Same.put(a:Act)(d:Option Nat)(v:Value)(h:∀i,d=Td i->i∈ms):Same ms a (a.put d v):=by
 intro i hi;cases d with
 |none=>rfl
 |some j=>exact ql λe=>hi (e ▸ h j rfl)
theorem rM{P:Program}{n:Nat}{ops:Array Oper}{K:bK->zc->Prop}{Q:Exit->Act->World->Prop}(B:World):
  ∀(l:List Oper) (e:bK) (h:zc) (a:Act) (d:Nat),wR P n ops K l e h->Sat n e a->(∀t p k h',Sat n t p->Same (wl l) a p->K t h'->Q .normal p (mk B k h'))->wpList P ops Q l a (mk B d h)
 |[],e,h,a,d,H,hs,hQ=>hQ _ _ _ _ hs.clean (Same.refl _ _) H
 |o::rest,e,h,a,d,H,hs,hQ=>by
  unfold wR at H;split at H;rename_i c G;cases hd:jr n c o.dst with
  |false=>rw[hd]at H;exact H.elim
  |true=>
   rw[hd]at H;simp only[zI]at H;have A:=Xl hs G;have r:∀i,o.dst=Td i->i∈wl (o::rest):=λi hi=>by simp[wl,hi]
   have j:∀x∈wl rest,x∈wl (o::rest):=λx w=>by unfold wl;split;exact XZ _ w;exact w
   have b:∀v u k h',(valid (qh a) c->u=v)->(¬valid (qh a) c->u=undef)->wR P n ops K rest (putO e o.dst c v) h'->wpList P ops Q rest (a.put o.dst u) (mk B k h'):=λv u k h' h1 C F=>
    rM B rest _ _ _ _ F (hs.putO hd h1 C) λt p z h'' D I E=>hQ t p z h'' D ((Same.put a o.dst u r).trans (I.mono j)) E
   unfold wpList;by_cases m:valid (qh a) c;rw[zb (A.2 m)];exact .inl (F6 H hs m B d λv k h' y=>b v v k h' (λ_=>rfl) (λf=>absurd m f) y);rw[za (λw=>m (A.1 w))];obtain⟨v,y⟩:=H3 H hs m;exact b v undef d h (λf=>absurd f m) (λ_=>rfl) y
  exact H.elim
def Bq(P:Program)(o:Oper)(ρ:Operand->Value)(g:Option Bool)(h:zc)(K:Value->Prop):Prop:=
 match o.op with
 |.call c=>match c.callee with
  |.value x=>bif pL x then(match Yn P (execOp ρ o)with
    |some (.enter f args)=>match qG P o.type with
     |some b=>m3 b λv=>req g (XC P f args h λe h'=>e=v/\h'=h)/\K v
     |none=>False
    |_=>False)else(match qG P o.type with
     |some b=>m3 b λv=>req g (l5 P (ρ x) (c.args.map ρ) λf args=>XC P f args h λe h'=>e=v/\h'=h)/\K v
     |none=>False)
  |_=>False
 |_=>False
theorem UT{ρ:Operand->Value}{K:Value->Prop}(H:Bq P o ρ g h K):
  ∃v,K v/\(ij g->∃f args,(∀w,(execOp ρ o).run P w=.ok (.enter f args) w)/\XC P f args h λj h'=>j=v/\h'=h):=by
 unfold Bq at H;split at H;rename_i c i;split at H;rename_i x l;cases hst:pL x with
 |true=>rw[hst]at H;simp only[zI]at H;split at H;rename_i f args m;split at H;obtain⟨v,h1,b⟩:=tf H;exact⟨v,b,λe=>⟨f,args,λw=>Ir m w,h1.out e⟩⟩;exact H.elim;exact H.elim
 |false=>rw[hst]at H;simp only[zJ]at H;split at H;obtain⟨v,h1,b⟩:=tf H;refine⟨v,b,λe=>?_⟩;obtain⟨f,args,k,n⟩:=CC i l (h1.out e);exact⟨f,args,n,k⟩;exact H.elim
 exact H.elim;exact H.elim
def qW(o:Oper):Bool:=match o.op with
 |.call c=>match c.callee with
  |.builtin _=>Tc
  |_=>Ta
 |_=>Tc
def AS(P:Program)(o:Oper)(e:bK)(c:qf)(h:zc)(f:Bool)(K:Value->Prop):Prop:=
 match o.op with
 |.pick x a b=>vn e c x a b K
 |_=>bif Yk o.op then(bif known e c o.op.operands.toList then(match oh e c with
   |some g=>bif qW o then(bif f then Bq P o (jF e c) g h K else False)else Jz P o (jF e c) g h K
   |none=>False)else False)else False
def wQ(P:Program)(n:Nat)(ops:Array Oper)(h:zc)(b:Bool)(K:bK->Prop):List Oper->bK->Prop
 |[],e=>K e
 |o::rest,e=>match Jy ops e o.guard with
  |some c=>bif jr n c o.dst then AS P o e c h b λv=>wQ P n ops h b K rest (putO e o.dst c v)else False
  |none=>False
def YQ(P:Program)(o:Oper)(a:Act)(B:World)(h:zc)(b:Bool)(v:Value):Prop:=
 (∀d,(execOp a.eval o).run P (mk B d h)=.ok (.value v) (mk B d h)) \/
 (b=Ta/\∃f args,(∀d,(execOp a.eval o).run P (mk B d h)=.ok (.enter f args) (mk B d h))/\XC P f args h λc h'=>c=v/\h'=h)
theorem So{b:Bool}{K:Value->Prop}(H:AS P o e c h b K)(k:Sat n e a)(B:World):
  ∃v,K v/\(valid (qh a) c->YQ P o a B h b v):=by
 unfold AS at H;split at H;rename_i x y z r;obtain⟨v,h1,j⟩:=yt k H;refine⟨v,h1,λi=>?_⟩;obtain⟨t,l,m⟩:=j i;refine .inl λd=>?_;simp only[execOp,r,l,asBool,Sem.run_bind,Sem.run_pure,Result.andThen_ok];rw[m];cases hns:Yk o.op with
 |false=>rw[hns]at H;exact H.elim
 |true=>
  rw[hns]at H;cases hk:known e c o.op.operands.toList with
  |false=>rw[hk]at H;exact H.elim
  |true=>
   rw[hk]at H;simp only[zI]at H;split at H;rename_i g p;cases hc:qW o with
   |false=>rw[hc]at H;obtain⟨v,h1,j⟩:=AE H;refine⟨v,h1,λi=>.inl λd=>?_⟩;rw[u0 k i hns hk];exact j (AP k p i) B d
   |true=>
    rw[hc]at H;cases b with
    |false=>exact H.elim
    |true=>simp only[zI]at H;obtain⟨v,h1,j⟩:=UT H;refine⟨v,h1,λi=>?_⟩;obtain⟨f,args,l,m⟩:=j (AP k p i);refine .inr ⟨rfl,f,args,λd=>?_,m⟩;rw[u0 k i hns hk];exact l _
   exact H.elim
theorem I8{P:Program}{n:Nat}{ops:Array Oper}{h:zc}{m:Bool}{K:bK->Prop}{Q:Act->Prop}(B:World):
  ∀(l:List Oper) (e:bK) (a:Act),wQ P n ops h m K l e->Sat n e a->(∀r p,Sat n r p->Same (wl l) a p->K r->Q p)->wpQuiet P ops (λw=>∃d,w=mk B d h) Q l a
 |[],e,a,H,hs,hQ=>hQ _ _ hs (Same.refl _ _) H
 |o::rest,e,a,H,hs,hQ=>by
  unfold wQ at H;split at H;rename_i c J;cases hd:jr n c o.dst with
  |false=>rw[hd]at H;exact H.elim
  |true=>
   rw[hd]at H;simp only[zI]at H;have C:=Xl hs J;have t:∀i,o.dst=Td i->i∈wl (o::rest):=λi hi=>by simp[wl,hi]
   have k:∀x∈wl rest,x∈wl (o::rest):=λx z=>by unfold wl;split;exact XZ _ z;exact z
   obtain⟨v,E,G⟩:=So H hs B;have b:∀u,(valid (qh a) c->u=v)->(¬valid (qh a) c->u=undef)->wpQuiet P ops (λw=>∃d,w=mk B d h) Q rest (a.put o.dst u):=λu h1 A=>
    I8 B rest _ _ E (hs.putO hd h1 A) λr p D L F=>hQ r p D ((Same.put a o.dst u t).trans (L.mono k)) F
   unfold wpQuiet;by_cases y:valid (qh a) c;rw[zb (C.2 y)];refine⟨v,?_,b v (λ_=>rfl) (λj=>absurd y j)⟩;rintro w ⟨d,rfl⟩;unfold Oper.quietAt;rcases G y with h1|⟨_,f,args,h1,A⟩;rw[h1 d];exact⟨rfl,rfl⟩;rw[h1 d];refine⟨rfl,(A B d).mono ?_⟩;rintro r w'' ⟨M,I,h',rfl,rfl,rfl,rfl⟩;exact⟨rfl,I,rfl⟩;rw[za (λz=>y (C.1 z))];exact b undef (λj=>absurd j y) (λ_=>rfl)
  exact H.elim
end
section
variable {i:Nat} {a b:Act} {o:Oper} {h h':zc} {P:Program} {ρ:Operand -> Value} {ops:Array Oper} {listed:Array Bool}
def memN:List Nat->Nat->Bool
 |[],_=>Tc
 |j::l,i=>bif Nat.beq i j then Ta else memN l i
theorem Qq{l:List Nat}(h:memN l i=Tc):i∉l:=by
 induction l with
 |nil=>simp
 |cons j l c=>simp only[memN]at h;by_cases b:Nat.beq i j=Ta;simp[b]at h;simp only[b,zJ]at h;simp only[YB,not_or];exact⟨λe=>b (by rw[e];simp),c h⟩
def tmpsOf:List Operand->List Nat
 |[]=>[]
 |.tmp t::l=>t::tmpsOf l
 |_::l=>tmpsOf l
def Zr(ops:Array Oper)(o:Oper):List Nat:=(match o.guard with
 |some (j,_)=>match ja ops j with
  |some g=>[g]
  |none=>[]
 |none=>[])++tmpsOf o.op.operands.toList
def Qy(ops:Array Oper)(k:Nat)(S:List Nat):Nat->Bool
 |0=>Ta
 |p+1=>bif (match ja ops p with
  |some t=>bif memN S t then Region.waitsFor .any ops k p else Ta
  |none=>Ta)then Qy ops k S p else Tc
theorem Yp{ops:Array Oper}{k:Nat}{S:List Nat}:∀{m:Nat},Qy ops k S m=Ta->∀p t,p<m->ja ops p=Td t->t∈S->Region.waitsFor .any ops k p=Ta
 |0,_,p,t,hp,_,_=>by omega
 |m+1,h,p,t,hp,hd,ht=>by
  simp only[Qy]at h;cases hb:(match ja ops m with
   |some t=>bif memN S t then Region.waitsFor .any ops k m else Ta
   |none=>Ta)with
  |false=>rw[hb]at h;cases h
  |true=>
   rw[hb]at h;rcases ZX p m with h1|h1;exact Yp h p t h1 hd ht;have:p=m:=by omega
   subst this;rw[hd]at hb;simp only at hb;cases hm:memN S t with
   |false=>exact absurd ht (Qq hm)
   |true=>rw[hm]at hb;exact hb
def js(ops:Array Oper):Nat->Bool
 |0=>Ta
 |j+1=>bif (match ops[j]? with
  |some o=>o.after.toList.all λe=>!(Region.binds .any e)||Nat.blt e.on j
  |none=>Ta)then js ops j else Tc
theorem y0{ops:Array Oper}:∀{n:Nat},js ops n=Ta->∀j o,j<n->ops[j]?=Td o->∀e∈o.after,Region.binds .any e=Ta->e.on<j
 |0,_,j,_,hj,_,_,_,_=>by omega
 |n+1,h,j,o,hj,ho,e,he,hb=>by
  simp only[js]at h;cases hc:(match ops[n]? with
   |some o=>o.after.toList.all λe=>!(Region.binds .any e)||Nat.blt e.on n
   |none=>Ta)with
  |false=>rw[hc]at h;cases h
  |true=>
   rw[hc]at h;rcases ZX j n with h1|h1;exact y0 h j o h1 ho e he hb;have:j=n:=by omega
   subst this;rw[ho]at hc;have:=ZH.1 hc e (by simpa using he);rw[hb]at this;simpa[zbo]using this
def pX(ops:Array Oper)(d:Nat):Nat->Bool
 |0=>Tc
 |p+1=>bif (match ja ops p with
  |some t=>Nat.beq t d
  |none=>Tc)then Ta else pX ops d p
def Yq(ops:Array Oper):Nat->Bool
 |0=>Ta
 |p+1=>bif (match ja ops p with
  |some t=>!(pX ops t p)
  |none=>Ta)then Yq ops p else Tc
theorem Aa{ops:Array Oper}{d:Nat}:∀{m:Nat},pX ops d m=Tc->∀p,p<m->ja ops p≠Td d
 |0,_,p,hp=>by omega
 |m+1,h,p,hp=>by
  simp only[pX]at h;cases hb:(match ja ops m with
   |some t=>Nat.beq t d
   |none=>Tc)with
  |true=>rw[hb]at h;cases h
  |false=>
   rw[hb]at h;rcases ZX p m with h1|h1;exact Aa h p h1;have:p=m:=by omega
   subst this;intro e;rw[e]at hb;simp at hb
theorem wa{ops:Array Oper}:∀{m:Nat},Yq ops m=Ta->∀p q t,p<m->q<m->ja ops p=Td t->ja ops q=Td t->p=q
 |0,_,p,q,t,hp,_,_,_=>by omega
 |m+1,h,p,q,t,hp,hq,e1,e2=>by
  simp only[Yq]at h;cases hb:(match ja ops m with
   |some t=>!(pX ops t m)
   |none=>Ta)with
  |false=>rw[hb]at h;cases h
  |true=>
   rw[hb]at h;rcases ZX p m with h1|h1 <;> rcases ZX q m with h2|h2;exact wa h p q t h1 h2 e1 e2;have:q=m:=by omega
   subst this;rw[e2]at hb;simp only[zb8]at hb;exact absurd e1 (Aa hb p h1);have:p=m:=by omega
   subst this;rw[e1]at hb;simp only[zb8]at hb;exact absurd e2 (Aa hb q h2);omega
def nS(o:Oper):Option Bool:=match o.op with
 |.fieldAddr _ _ _=>Td Ta
 |.indexAddr _ _ _=>Td Ta
 |.move _=>Td Ta
 |.assign _=>match o.after.toList with
  |[]=>Td Ta
  |_=>Te
 |.nilCheck _=>Td Ta
 |.slice _ _ _ _ _=>Td Ta
 |.binOp _ _ _ _ _=>Td Ta
 |.load _ _=>Td Tc
 |_=>Te
def pG(o:Oper):Bool:=match nS o with
 |some _=>Ta
 |none=>Tc
def jd(o:Oper):Bool:=match nS o with
 |some b=>!b
 |none=>Tc
def KX(ops:Array Oper)(i:Nat):List Nat->Bool
 |[]=>Tc
 |j::l=>bif Region.waitsFor .any ops j i then Ta else KX ops i l
theorem vp{a b:Act}:∀{l:List Operand},(∀t∈tmpsOf l,qh a t=qh b t)->∀x∈l,a.eval x=b.eval x
 |[],_,x,c=>by cases c
 |y::l,h,x,c=>by
  rcases YB.1 c with rfl|c;cases x with
  |tmp t=>exact h t (by simp[tmpsOf])
  |const v=>rfl
  |global g=>rfl
  |func f=>rfl
  refine vp (l:=l) (λt e=>h t ?_) x c;cases y <;> simp[tmpsOf,e]
theorem yB(c:Yk o.op=Ta)(h:∀t∈tmpsOf o.op.operands.toList,qh a t=qh b t):execOp a.eval o=execOp b.eval o:= execOp_congr o (λcs b e=>by rw[e]at c;cases c) λx f=>vp h x (by simpa using f)
theorem QY{p:Addr}(e:h'[p.block]?=h[p.block]?)(i:Nat):zd h' (p.add i)=zd h (p.add i):=by
 have b:(p.add i).block=p.block:=by unfold XT;split <;> rfl
 unfold zd;rw[b,e]
theorem ID{h h':zc}{p:Addr}(e:h'[p.block]?=h[p.block]?):∀{vs:List Value} {i:Nat},zf h p i vs->zf h' p i vs
 |[],_,_=>trivial
 |v::vs,i,⟨h1,h2⟩=>⟨(QY e i).trans h1,ID e h2⟩
theorem QM{t:TypeId}{x:Value}{K:Value->Prop}(H:mZ P h t x Te K):∃v p,x=.pointer (Td p)/\K v/\∀h',h'[p.block]?=h[p.block]?->QExec P (zc6 t x) h' v:=by unfold mZ at H;split at H;rename_i q a b;obtain⟨x,h1,c⟩:=H;refine⟨_,q,rfl,c,λh' e=>tz b ?_⟩;have h1:zd h q=Td _:=h1;unfold zd at h1 ⊢;rw[e];exact h1;rename_i q l b;obtain⟨vs,h0,⟨h1,c⟩,_⟩:=Jb H (wq l);exact⟨_,q,rfl,c,λh' e=>tI b h0 (ID e h1)⟩;exact H.elim
def LdOK(o:Oper)(ρ:Operand->Value)(h h':zc):Prop:=jd o=Tc\/Keep h.size h h'\/∀t a p,o.op=.load t a->ρ a=.pointer (Td p)->h'[p.block]?=h[p.block]?
theorem LdOK.congr{ρ c:Operand->Value}(e:∀x∈o.op.operands.toList,c x=ρ x)(H:LdOK o ρ h h'):LdOK o c h h':=by rcases H with H|H|H;exact .inl H;exact .inr (.inl H);refine .inr (.inr λt a p b f=>H t a p b ?_);rw[<-e a (by rw[b];simp[Op.operands])];exact f
theorem R5(f:pG o=Ta){K:Value->Prop}(H:Jz P o ρ Te h K):
  ∃v,K v/\∀h',LdOK o ρ h h'->QExec P (execOp ρ o) h' (.value v):=by
 cases ho:o.op with
 |load t x=>
  have e:lP o=Ta:=by unfold lP;rw[ho]
  obtain⟨k,l,k2⟩:=wC e H;unfold Jz at H;rw[ho]at H;simp only at H;obtain⟨v,p,j,h1,b⟩:=QM H;have n:k=v:=by
   have a1:=k2 trivial h (Keep.refl _ _) default 0;have a2:QExec P (execOp ρ o) h (.value v):=by simp only[execOp,ho];exact(b h rfl).val
   have a2:=a2 default 0;rw[a1]at a2;injection a2 with a2 _;injection a2
  subst n;refine⟨k,l,λh' c=>?_⟩;rcases c with c|c|c;unfold jd nS at c;rw[ho]at c;cases c;exact k2 trivial h' c;have:=b h' (c t x p ho j);simp only[execOp,ho];exact this.val
 |fieldAddr t x i=>unfold Jz at H;rw[ho]at H;obtain⟨v,h1,b⟩:=qd H Te;exact⟨v,h1,λh' _=>b trivial h'⟩
 |indexAddr t x i=>
  unfold Jz at H;rw[ho]at H;simp only at H;cases he:lV P t with
  |false=>rw[he]at H;exact H.elim
  |true=>rw[he]at H;obtain⟨v,h1,b⟩:=Z0 (Zq he) H;refine⟨v,h1,λh' _=>?_⟩;simp only[execOp,ho];exact(b trivial h').val
 |move x=>unfold Jz at H;rw[ho]at H;obtain⟨v,h1,b⟩:=qd H Te;exact⟨v,h1,λh' _=>b trivial h'⟩
 |assign x=>unfold Jz at H;rw[ho]at H;obtain⟨v,h1,b⟩:=qd H Te;exact⟨v,h1,λh' _=>b trivial h'⟩
 |slice t x lo hi mx=>
  unfold Jz at H;rw[ho]at H;simp only at H;cases he:lV P t with
  |false=>rw[he]at H;exact H.elim
  |true=>rw[he]at H;obtain⟨v,h1,b⟩:=Yo (Zq he) H;refine⟨v,h1,λh' _=>?_⟩;simp only[execOp,ho];exact(b (show ij Te from trivial) h').val
 |binOp r t x y t'=>unfold Jz at H;rw[ho]at H;obtain⟨v,h1,b⟩:=zP ho H;exact⟨v,h1,λh' _=>b trivial h'⟩
 |nilCheck x=>unfold Jz at H;rw[ho]at H;simp only at H;unfold sX at H;split at H;rename_i p j;obtain⟨a,h1,b⟩:=H;have m:=h1.out (g:=Te) trivial;subst m;refine⟨_,b,λh' _ B d=>?_⟩;simp only[execOp,ho,j];rfl;obtain⟨v,h1,b⟩:=qd H Te;exact⟨v,h1,λh' _=>b trivial h'⟩
 |_=>unfold pG nS at f;rw[ho]at f;cases f
theorem tB(σ:Nat->Value):valid σ []:=by unfold valid;trivial
theorem xq{d:Option Nat}{u:Value}{s:Nat}(h:d≠Td s):qh (a.put d u) s=qh a s:=by
 cases d with
 |none=>rfl
 |some t=>exact ql λe=>h (by rw[e])
theorem PH{next:Act->World->Prop}{Q:Exit->Act->World->Prop}{r:Result Next}(j:b.defers=[])
  (H:o.upon P b (λc w=>c.defers=[]/\∀v,c=b.put o.dst v->next (a.put o.dst v) w) (λ_ _ _=>False) r):o.upon P a next Q r:=by
 have lo:¬LetsOut (λ(_:Exit) (_:Act) (_:World)=>False):=λh=>by obtain⟨_,_,h⟩:=h;exact h
 cases r with
 |ok x w=>
  cases x with
  |value v=>exact H.2 v rfl
  |skip=>exact H.2 undef rfl
  |defer d=>have:=H.1;rw[xp]at this;cases this
  |enter f args=>
   refine Calls.mono (show Calls P f args w _ from H) λe w' i=>?_;cases e with
   |returned v=>exact i.2 v rfl
   |panicked c=>exact i.elim
   |outgrown=>exact absurd i lo
  |row row args=>exact Rows.mono (show Rows P row args w _ from H) λv w' i=>i.2 v rfl
  |_=>exact H
 |halt x w=>cases x <;> first|exact H.elim|exact H
theorem sO{i p:Nat}(hi:i∈Region.ready .any ops listed)(h:Region.waitsFor .any ops i p=Ta):listed.getD p Tc=Ta:=by obtain⟨m,f,e,k,l,c⟩:=Region.waitsFor_spec h;obtain⟨_,o,j,b⟩:=mem_ready.1 hi;have:m=o:=ZA (f.symm.trans j);subst this;rw[<-c];exact b e k l
theorem Yr{n:Nat}(inv:HeadInv .any ops n listed){i p:Nat}(hi:listed.getD i Tc=Ta)(f:Region.waitsFor .any ops i p=Ta):listed.getD p Tc=Ta:=by obtain⟨k,c,e,h,j,b⟩:=Region.waitsFor_spec f;rw[<-b];exact inv.closed i k c hi e h j
theorem V7{p:Nat->Bool}{N:Nat}(h:∃k,k<N/\p k=Tc):∃k,k<N/\p k=Tc/\∀j,j<k->p j=Ta:=by
 obtain⟨k,h1,f⟩:=h;induction k using Nat.strongRecOn with
 |_ k e=>
  by_cases b:∃j,j<k/\p j=Tc;obtain⟨j,l,i⟩:=b;exact e j l (by omega) i;exact⟨k,h1,f,λj c=>by
   cases hb:p j with
   |true=>rfl
   |false=>exact absurd ⟨j,c,hb⟩ b⟩
theorem Fa{o:Oper}:∀{l:List Oper},o∈l->∀i,o.dst=Td i->i∈wl l
 |[],h,_,_=>by cases h
 |x::l,h,i,hi=>by unfold wl;rcases YB.1 h with rfl|h;rw[hi];exact YJ;have:=Fa h i hi;split;exact XZ _ this;exact this
theorem j5{k:Nat}(h:ops[k]?=Td o):ja ops k=o.dst:=by simp[ja,h]
def i4(j:Nat):List Nat->List Nat
 |[]=>[]
 |k::l=>bif Nat.beq k j then i4 j l else k::i4 j l
theorem pT{j x:Nat}:∀{l:List Nat},x∈i4 j l↔x∈l/\x≠j
 |[]=>by simp[i4]
 |k::l=>by
  simp only[i4];cases hb:Nat.beq k j with
  |true=>have:=YC hb;subst this;rw[zI,pT,YB];exact⟨λh=>⟨.inr h.1,h.2⟩,λh=>⟨h.1.resolve_left h.2,h.2⟩⟩
  |false=>
   have b:k≠j:=λe=>by rw[e]at hb;simp at hb
   rw[zJ,YB,YB,pT];constructor;rintro(rfl|h);exact⟨.inl rfl,b⟩;exact⟨.inr h.1,h.2⟩;rintro⟨rfl|h,c⟩;exact .inl rfl;exact .inr ⟨h,c⟩
theorem yU{j:Nat}:∀{l:List Nat},l.Nodup->(i4 j l).Nodup
 |[],h=>h
 |k::l,h=>by
  simp only[i4];rw[zaj]at h;cases Nat.beq k j with
  |true=>exact yU h.2
  |false=>rw[zJ,zaj];exact⟨λb=>h.1 (pT.1 b).1,yU h.2⟩
theorem Eo{j:Nat}:∀{l:List Nat},(i4 j l).length<=l.length
 |[]=>XV _
 |k::l=>by
  simp only[i4];have:=Eo (j:=j) (l:=l);cases Nat.beq k j with
  |true=>rw[zI,YL];omega
  |false=>rw[zJ,YL,YL];omega
theorem Co{j:Nat}:∀{l:List Nat},j∈l->(i4 j l).length+1<=l.length
 |[],h=>by cases h
 |k::l,h=>by
  simp only[i4];cases hb:Nat.beq k j with
  |true=>have:=Eo (j:=j) (l:=l);rw[zI,YL];omega
  |false=>
   have b:k≠j:=λe=>by rw[e]at hb;simp at hb
   have:=Co (j:=j) (l:=l) (by rcases YB.1 h with rfl|h;exact absurd rfl b;exact h);rw[zJ,YL,YL];omega
def wA(p:Nat->Prop):List Nat->Prop
 |[]=>True
 |[j]=>p j
 |j::k::l=>p j/\wA p (k::l)
theorem Hh{p:Nat->Prop}:∀{l:List Nat},wA p l->∀j∈l,p j
 |[],_,j,h=>by cases h
 |[k],H,j,h=>by simp at h;subst h;exact H
 |k::k2::l,H,j,h=>by rcases YB.1 h with rfl|h;exact H.1;exact Hh H.2 j h
def sA(p:Nat->Bool):List Nat->List Nat
 |[]=>[]
 |j::l=>bif p j then j::sA p l else sA p l
theorem BL{p:Nat->Bool}{j:Nat}:∀{l:List Nat},j∈l->p j=Ta->j∈sA p l
 |[],h,_=>by cases h
 |k::l,h,hp=>by
  simp only[sA];rcases YB.1 h with rfl|h;rw[hp];exact YJ;cases p k with
  |true=>exact XZ _ (BL h hp)
  |false=>exact BL h hp
end
section
variable {l:List Nat} {i m n:Nat} {ops:Array Oper} {P:Program} {o:Oper} {h h0:zc} {md:Bool} {e:bK} {a b:Act}
def BR(o:Oper):Bool:=match o.op with
 |.extract _ _=>Ta
 |_=>Tc
def m8(o:Oper):Bool:=bif pG o then Ta else BR o
def lN(ops:Array Oper):Nat->List Nat->List Nat
 |0,S=>S
 |k+1,S=>lN ops k (bif S.any λp=>Region.waitsFor .any ops p k then k::S else S)
theorem xE{ops:Array Oper}{listed:Array Bool}(c:∀i p,listed.getD i Tc=Ta->Region.waitsFor .any ops i p=Ta->listed.getD p Tc=Ta):∀{m:Nat} {S:List Nat},(∀j∈S,listed.getD j Tc=Ta)->∀k∈lN ops m S,listed.getD k Tc=Ta
 |0,S,h,k,hk=>h k hk
 |m+1,S,h,k,hk=>by
  unfold lN at hk;refine xE c (m:=m) (λj b=>?_) k hk;cases ha:(S.any λp=>Region.waitsFor .any ops p m)with
  |false=>rw[ha]at b;exact h j b
  |true=>rw[ha,zI]at b;rcases YB.1 b with rfl|b;obtain⟨p,e,f⟩:=zc8.1 ha;exact c p _ (h p e) f;exact h j b
theorem J0(h:memN l i=Ta):i∈l:=by
 induction l with
 |nil=>cases h
 |cons j l b=>
  simp only[memN]at h;cases hb:Nat.beq i j with
  |true=>rw[YC hb];exact YJ
  |false=>rw[hb]at h;exact XZ _ (b h)
theorem r7(h:i∈l):memN l i=Ta:=by
 cases hm:memN l i with
 |true=>rfl
 |false=>exact absurd h (Qq hm)
def KH(ops:Array Oper)(k:Nat):Bool:=match ops[k]? with
 |some o=>!(m8 o)
 |none=>Tc
def P8(ops:Array Oper)(i:Nat):Bool:=(lN ops ops.size [i]).any (KH ops)
def uO(o:Oper):Bool:=match o.guard with
 |none=>Tc
 |some _=>Ta
def Db(ops:Array Oper)(t:Nat):Nat->Bool
 |0=>Tc
 |k+1=>bif (match ops[k]? with
  |some o=>memN (tmpsOf o.op.operands.toList) t
  |none=>Tc)then Ta else Db ops t k
def Ua(ops:Array Oper)(i:Nat)(o:Oper):Bool:=match o.op with
 |.assign _=>(match o.dst with
  |some t=>Db ops t i
  |none=>Tc)
 |_=>Tc
def Jc(ops:Array Oper)(i:Nat):Bool:=match ops[i]? with
 |some o=>bif uO o then Ta else bif m8 o then(bif jd o then P8 ops i else Ua ops i o)else Ta
 |none=>Ta
def i0(ops:Array Oper):List Nat:=(ZN ops.size).filter (Jc ops)
theorem rL{j:Nat}:j∈i0 ops↔j<ops.size/\Jc ops j=Ta:=by unfold i0;rw[zaq,ZR]
theorem Vy(ops:Array Oper):(i0 ops).Nodup:=zc9.filter _
def mw(ops:Array Oper)(done S:List Nat)(k:Nat):Nat->Bool
 |0=>Ta
 |p+1=>bif Region.waitsFor .any ops k p then(bif (bif Jc ops p then memN done p else memN S p)then mw ops done S k p else Tc)else mw ops done S k p
theorem ve{ops:Array Oper}{done S:List Nat}{k:Nat}:∀{m:Nat},mw ops done S k m=Ta↔∀p,p<m->Region.waitsFor .any ops k p=Ta->(Jc ops p=Ta->p∈done)/\(Jc ops p=Tc->p∈S)
 |0=>⟨λ_ p f=>by omega,λ_=>rfl⟩
 |m+1=>by
  unfold mw;have i:=ve (ops:=ops) (done:=done) (S:=S) (k:=k) (m:=m);constructor
  ·intro h p f c;rcases ZX p m with h1|h1
   ·refine i.1 ?_ p h1 c;revert h;cases Region.waitsFor .any ops k m with
    |false=>exact id
    |true=>
     cases(bif Jc ops m then memN done m else memN S m)with
     |false=>intro h;cases h
     |true=>exact id
   ·have:p=m:=by omega
    subst this;rw[c,zI]at h;cases hi:Jc ops p with
    |true=>
     rw[hi,zI]at h;cases hm:memN done p with
     |false=>rw[hm]at h;cases h
     |true=>exact⟨λ_=>J0 hm,(λe=>by cases e)⟩
    |false=>
     rw[hi,zJ]at h;cases hm:memN S p with
     |false=>rw[hm]at h;cases h
     |true=>exact⟨(λe=>by cases e),λ_=>J0 hm⟩
  intro h;have h1:=i.2 λp f c=>h p (by omega) c;cases c:Region.waitsFor .any ops k m with
  |false=>exact h1
  |true=>
   obtain⟨a,b⟩:=h m (by omega) c;rw[zI];cases hi:Jc ops m with
   |true=>rw[zI,r7 (a hi)];exact h1
   |false=>rw[zJ,r7 (b hi)];exact h1
def uE(ops:Array Oper)(done S:List Nat)(k:Nat):List Nat:=bif Jc ops k then S else(bif mw ops done S k k then k::S else S)
def Jd(ops:Array Oper)(done:List Nat):Nat->List Nat
 |0=>[]
 |k+1=>uE ops done (Jd ops done k) k
theorem xd{ops:Array Oper}{done:List Nat}:∀{m i:Nat},i∈Jd ops done m->i<m/\Jc ops i=Tc/\mw ops done (Jd ops done i) i i=Ta
 |0,i,h=>by cases h
 |m+1,i,h=>by
  unfold Jd uE at h;cases hi:Jc ops m with
  |true=>rw[hi,zI]at h;have:=xd h;exact⟨by omega,this.2⟩
  |false=>
   rw[hi,zJ]at h;cases ho:mw ops done (Jd ops done m) m m with
   |false=>rw[ho,zJ]at h;have:=xd h;exact⟨by omega,this.2⟩
   |true=>rw[ho,zI]at h;rcases YB.1 h with rfl|h;exact⟨by omega,hi,ho⟩;have:=xd h;exact⟨by omega,this.2⟩
theorem Bz{ops:Array Oper}{done:List Nat}{m:Nat}:∀{m' i:Nat},m<=m'->i∈Jd ops done m->i∈Jd ops done m'
 |0,i,h,hi=>by(have:m=0:=by omega);subst this;exact hi
 |m'+1,i,h,hi=>by
  rcases Nat.eq_or_lt_of_le h with e|e;rw[<-e];exact hi
  ·have:=Bz (m':=m') (by omega) hi;unfold Jd uE;cases Jc ops m' with
   |true=>exact this
   |false=>
    rw[zJ];cases mw ops done (Jd ops done m') m' m' with
    |true=>exact XZ _ this
    |false=>exact this
theorem tg{done:List Nat}(b:i<m)(h1:Jc ops i=Tc)(c:mw ops done (Jd ops done i) i i=Ta):i∈Jd ops done m:=by refine Bz (m:=i+1) b ?_;unfold Jd uE;rw[h1,c];exact YJ
theorem D1{done:List Nat}{m i p:Nat}(h:i∈Jd ops done m)(c:p<i)(e:Region.waitsFor .any ops i p=Ta):(Jc ops p=Ta->p∈done)/\(Jc ops p=Tc->p∈Jd ops done m):=by obtain⟨h1,j,f⟩:=xd h;obtain⟨a,b⟩:=ve.1 f p c e;exact⟨a,λhi=>Bz (by omega) (b hi)⟩
def Je(b c:List Nat)(n:Nat):List Nat:=(ZN n).filter λi=>bif memN c i then !(memN b i)else Tc
theorem IH{b c:List Nat}:i∈Je b c n↔i<n/\i∈c/\i∉b:=by
 unfold Je;rw[zaq,ZR];constructor;rintro⟨h1,e⟩;cases hn:memN c i with
 |false=>rw[hn]at e;cases e
 |true=>rw[hn,zI]at e;exact⟨h1,J0 hn,λf=>by rw[r7 f]at e;cases e⟩
 rintro⟨h1,e,h⟩;refine⟨h1,?_⟩;rw[r7 e,zI];cases hw:memN b i with
 |false=>rfl
 |true=>exact absurd (J0 hw) h
theorem Il(b c:List Nat)(n:Nat):(Je b c n).Pairwise (· < ·):=List.pairwise_lt_range.filter _
def wI(P:Program)(n:Nat)(h:zc)(ld:Bool)(ops:Array Oper)(K:bK->Prop):List Nat->bK->Prop
 |[],e=>K e
 |i::l,e=>match ops[i]? with
  |some o=>bif m8 o then(bif (bif ld then Ta else !(jd o))then(bif jr n [] o.dst then(bif Yk o.op then(bif known e [] o.op.operands.toList then Jz P o (jF e []) Te h λv=>wI P n h ld ops K l (putO e o.dst [] v)else False)else False)else False)else False)else False
  |none=>False
def jh(ops:Array Oper)(f:Nat->Value):List Nat->Act->Act
 |[],a=>a
 |i::l,a=>jh ops f l (a.put (ja ops i) (f i))
theorem QG(b:m8 o=Ta){ρ:Operand->Value}{K:Value->Prop}(H:Jz P o ρ Te h K):
  ∃v,K v/\∀h',LdOK o ρ h h'->QExec P (execOp ρ o) h' (.value v):=by
 unfold m8 at b;cases hb:pG o with
 |true=>exact R5 hb H
 |false=>rw[hb,zJ]at b;unfold BR at b;split at b;rename_i x i c;unfold Jz at H;rw[c]at H;obtain⟨v,h1,e⟩:=qd H Te;exact⟨v,h1,λh' _=>e trivial h'⟩;cases b
theorem Eg{ops:Array Oper}{f:Nat->Value}:∀{l:List Nat} {a:Act},(jh ops f l a).tmps.size=a.tmps.size/\(jh ops f l a).defers=a.defers
 |[],_=>⟨rfl,rfl⟩
 |i::l,a=>by unfold jh;have:=Eg (ops:=ops) (f:=f) (l:=l) (a:=a.put (ja ops i) (f i));rw[this.1,this.2];exact⟨size_put _ _ _,xp _ _ _⟩
theorem xe{ops:Array Oper}{f:Nat->Value}{s:Nat}:∀{l:List Nat} {a:Act},(∀i∈l,ja ops i≠Td s)->qh (jh ops f l a) s=qh a s
 |[],_,_=>rfl
 |i::l,a,h=>by unfold jh;rw[xe λj b=>h j (XZ _ b)];exact xq (h i YJ)
theorem AY{ops:Array Oper}{f:Nat->Value}:∀{l m:List Nat} {a:Act},jh ops f (l++m) a=jh ops f m (jh ops f l a)
 |[],_,_=>rfl
 |i::l,m,a=>by rw[ZU];show jh ops f (l++m) _=jh ops f m (jh ops f l _);exact AY
theorem BA{P:Program}{n:Nat}{h:zc}{ld:Bool}{ops:Array Oper}{K:bK->Prop}(y:Nat->Value):∀{l:List Nat} {e:bK} {a:Act},l.Nodup->wI P n h ld ops K l e->Sat n e a->∃(f:Nat->Value) (t:bK),K t/\Sat n t (jh ops f l a)/\(∀i,i∉l->f i=y i) /\
  ∀b i w,l=b++i::w->∃o,ops[i]?=Td o/\m8 o=Ta/\(ld=Tc->jd o=Tc)/\Yk o.op=Ta/\jr n [] o.dst=Ta/\∀h',LdOK o (jh ops f b a).eval h h'->QExec P (execOp (jh ops f b a).eval o) h' (.value (f i))
 |[],e,a,_,H,hs=>⟨y,e,H,hs,λ_ _=>rfl,λb i w h=>by simp at h⟩
 |i::l,e,a,hnd,H,hs=>by
  unfold wI at H;cases ho:ops[i]? with
  |none=>rw[ho]at H;exact H.elim
  |some o=>
   rw[ho]at H;simp only at H;cases hq:m8 o with
   |false=>rw[hq]at H;exact H.elim
   |true=>
    rw[hq,zI]at H;cases hld:(bif ld then Ta else !(jd o))with
    |false=>rw[hld]at H;exact H.elim
    |true=>
     rw[hld,zI]at H;cases hd:jr n [] o.dst with
     |false=>rw[hd]at H;exact H.elim
     |true=>
      rw[hd,zI]at H;cases hns:Yk o.op with
      |false=>rw[hns]at H;exact H.elim
      |true=>
       rw[hns,zI]at H;cases hk:known e [] o.op.operands.toList with
       |false=>rw[hk]at H;exact H.elim
       |true=>
        rw[hk,zI]at H;rw[zaj]at hnd;obtain⟨v,G,M⟩:=QG hq H;have c:ja ops i=o.dst:=j5 ho;obtain⟨f,t,g1,g2,A,F⟩:=BA (λx=>if x=i then v else y x) (a:=a.put o.dst v) hnd.2 G (hs.putO hd (λ_=>rfl) λN=>absurd (tB _) N);have m:f i=v:=by rw[A i hnd.1,zb rfl]
        have r:jh ops f (i::l) a=jh ops f l (a.put o.dst v):=by show jh ops f l (a.put (ja ops i) (f i))=_;rw[c,m]
        refine⟨f,t,g1,by rw[r];exact g2,λj z=>?_,λb j w p=>?_⟩;simp only[YB,not_or]at z;rw[A j z.2,za z.1];cases b with
        |nil=>simp only[za6,zbs]at p;obtain⟨rfl,rfl⟩:=p;refine⟨o,ho,hq,λp=>by rw[p]at hld;simpa using hld,hns,hd,λh' u=>?_⟩;show QExec P (execOp a.eval o) h' _;rw[u0 hs (tB _) hns hk,m];exact M h' (LdOK.congr (λx L=>(Jx hs (tB _) hk x L).symm) u)
        |cons Q b=>
         simp only[ZU,zbs]at p;obtain⟨rfl,rfl⟩:=p;obtain⟨J,C,O,D,I,E,B⟩:=F b j w rfl;have k:jh ops f (i::b) a=jh ops f b (a.put o.dst v):=by show jh ops f b (a.put (ja ops i) (f i))=_;rw[c,m]
         refine⟨J,C,O,D,I,E,λh' u=>?_⟩;rw[k]at u ⊢;exact B h' u
def sq(ops:Array Oper)(U:List Nat):Nat->Bool
 |0=>Tc
 |k+1=>bif (match ops[k]? with
  |some o=>bif jd o then(bif Jc ops k then Tc else !(memN U k))else Tc
  |none=>Tc)then Ta else sq ops U k
theorem IJ{ops:Array Oper}{U:List Nat}:∀{m:Nat},sq ops U m=Tc->∀k o,k<m->ops[k]?=Td o->jd o=Ta->Jc ops k=Tc->k∈U
 |0,_,k,o,hk,_,_,_=>by omega
 |m+1,h,k,o,hk,ho,hl,hi=>by
  unfold sq at h;cases hb:(match ops[m]? with
   |some o=>bif jd o then(bif Jc ops m then Tc else !(memN U m))else Tc
   |none=>Tc)with
  |true=>rw[hb]at h;cases h
  |false=>
   rw[hb,zJ]at h;rcases ZX k m with h1|h1;exact IJ h k o h1 ho hl hi;have:k=m:=by omega
   subst this;rw[ho]at hb;simp only[hl,hi,zI,zJ]at hb;exact J0 (by simpa using hb)
def nQ(ops:Array Oper)(U:List Nat)(e:bK)(h0 h':zc)(K:Prop):Nat->Prop
 |0=>K
 |k+1=>match ops[k]? with
  |some o=>bif (bif jd o then(bif Jc ops k then Tc else !(memN U k))else Tc)then(match o.op with
   |.load _ a=>bif known e [] [a]then(match jF e [] a with
    |.pointer (Td p)=>h'[p.block]?=h0[p.block]?/\nQ ops U e h0 h' K k
    |_=>False)else False
   |_=>False)else nQ ops U e h0 h' K k
  |none=>nQ ops U e h0 h' K k
theorem IT{ops:Array Oper}{U:List Nat}{e:bK}{h0 h':zc}{K:Prop}:∀{m:Nat},nQ ops U e h0 h' K m->K/\∀k o,k<m->ops[k]?=Td o->jd o=Ta->Jc ops k=Tc->k∉U ->
  ∃t a p,o.op=.load t a/\known e [] [a]=Ta/\jF e [] a=.pointer (Td p)/\h'[p.block]?=h0[p.block]?
 |0,H=>⟨H,λk o i=>by omega⟩
 |m+1,H=>by
  unfold nQ at H;have step:nQ ops U e h0 h' K m->(∀o,ops[m]?=Td o->jd o=Ta->Jc ops m=Tc->m∉U->∃t a p,o.op=.load t a/\known e [] [a]=Ta/\jF e [] a=.pointer (Td p)/\h'[p.block]?=h0[p.block]?) ->
    K/\∀k o,k<m+1->ops[k]?=Td o->jd o=Ta->Jc ops k=Tc->k∉U->∃t a p,o.op=.load t a/\known e [] [a]=Ta/\jF e [] a=.pointer (Td p)/\h'[p.block]?=h0[p.block]?:=λw x=>by
   obtain⟨h1,f⟩:=IT w;refine⟨h1,λk o i b l hi n=>?_⟩;rcases ZX k m with h|h;exact f k o h b l hi n;have:k=m:=by omega
   subst this;exact x o b l hi n
  cases b:ops[m]? with
  |none=>rw[b]at H;exact step H λo h1=>by rw[b]at h1;cases h1
  |some o=>
   rw[b]at H;simp only at H;have same:∀c,ops[m]?=Td c->c=o:=λc h1=>ZA (h1.symm.trans b);cases hc:(bif jd o then(bif Jc ops m then Tc else !(memN U m))else Tc)with
   |false=>rw[hc]at H;refine step H λc h1 f h r=>?_;rw[same c h1]at f;rw[f,h,zI,zJ]at hc;exact absurd (J0 (by simpa using hc)) r
   |true=>
    rw[hc,zI]at H;split at H;rename_i t a j;cases i:known e [] [a]with
    |false=>rw[i]at H;exact H.elim
    |true=>rw[i,zI]at H;split at H;rename_i p u;exact step H.2 λc h1 f h r=>⟨t,a,p,by rw[same c h1];exact j,i,u,H.1⟩;exact H.elim
    exact H.elim
def qB(md:Bool)(ops:Array Oper)(T:List Nat)(e:bK)(h0 h':zc)(K:Prop):Prop:=bif sq ops (lN ops ops.size T) ops.size then(bif md then nQ ops (lN ops ops.size T) e h0 h' K ops.size else Keep h0.size h0 h'/\K)else K
def vz(ops:Array Oper)(todo:List Nat)(j:Nat):Bool:=todo.all λk=>bif Nat.beq k j then Ta else !(memN (lN ops ops.size [j]) k)
def lm(P:Program)(n:Nat)(ops:Array Oper)(h0:zc)(K:bK->zc->Prop)(md:Bool):Nat->List Nat->List Nat->bK->zc->Prop
 |_,_,[],e,h=>K (clean e) h
 |0,_,_::_,_,_=>False
 |f+1,T,b::l0,e,h=>wA (λj=>match ops[j]? with
  |some o=>(match Jy ops e o.guard with|some c=>bif jr n c o.dst then mI P o e c h λv h'=>wI P n h' Tc ops (λi=>qB md ops (j::T) i h0 h' (lm P n ops h0 K md f (j::T) (i4 j (b::l0)) i h')) (Je (Jd ops T ops.size) (Jd ops (j::T) ops.size) ops.size) (putO e o.dst c v)else False|none=>False)
  |none=>False) (sA (vz ops (b::l0)) (b::l0))
theorem VV{K:bK->zc->Prop}{f:Nat}{T todo:List Nat}(H:lm P n ops h0 K md (f+1) T todo e h){j:Nat}(b:j∈todo)(k:vz ops todo j=Ta):match ops[j]? with
  |some o=>(match Jy ops e o.guard with|some c=>bif jr n c o.dst then mI P o e c h λv h'=>wI P n h' Tc ops (λi=>qB md ops (j::T) i h0 h' (lm P n ops h0 K md f (j::T) (i4 j todo) i h')) (Je (Jd ops T ops.size) (Jd ops (j::T) ops.size) ops.size) (putO e o.dst c v)else False|none=>False)
  |none=>False:=by
 cases todo with
 |nil=>cases b
 |cons m l=>exact Hh H j (BL b k)
def py(ops:Array Oper)(k:Nat)(S:List Nat):Nat->Bool
 |0=>Ta
 |p+1=>bif (match ja ops p with
  |some t=>bif memN S t then(bif Region.waitsFor .any ops k p then Ta else bif Jc ops p then Region.waitsFor .any ops p k else Tc)else Ta
  |none=>Ta)then py ops k S p else Tc
theorem J1{ops:Array Oper}{k:Nat}{S:List Nat}:∀{m:Nat},py ops k S m=Ta->∀p t,p<m->ja ops p=Td t->t∈S->Region.waitsFor .any ops k p=Ta\/(Jc ops p=Ta/\Region.waitsFor .any ops p k=Ta)
 |0,_,p,t,hp,_,_=>by omega
 |m+1,h,p,t,hp,hd,ht=>by
  simp only[py]at h;cases hb:(match ja ops m with
   |some t=>bif memN S t then(bif Region.waitsFor .any ops k m then Ta else bif Jc ops m then Region.waitsFor .any ops m k else Tc)else Ta
   |none=>Ta)with
  |false=>rw[hb]at h;cases h
  |true=>
   rw[hb]at h;rcases ZX p m with h1|h1;exact J1 h p t h1 hd ht;have:p=m:=by omega
   subst this;rw[hd]at hb;simp only at hb;rw[r7 ht,zI]at hb;cases hw:Region.waitsFor .any ops k p with
   |true=>exact .inl rfl
   |false=>
    rw[hw,zJ]at hb;cases hh:Jc ops p with
    |false=>rw[hh]at hb;cases hb
    |true=>rw[hh,zI]at hb;exact .inr ⟨rfl,hb⟩
def oY(ops:Array Oper):Nat->Bool
 |0=>Ta
 |k+1=>bif (match ops[k]? with
  |some o=>py ops k (tmpsOf o.op.operands.toList) ops.size
  |none=>Ta)then oY ops k else Tc
theorem J2{ops:Array Oper}:∀{m:Nat},oY ops m=Ta->∀k o,k<m->ops[k]?=Td o->py ops k (tmpsOf o.op.operands.toList) ops.size=Ta
 |0,_,k,o,hk,_=>by omega
 |m+1,h,k,o,hk,ho=>by
  unfold oY at h;cases hb:(match ops[m]? with
   |some o=>py ops m (tmpsOf o.op.operands.toList) ops.size
   |none=>Ta)with
  |false=>rw[hb]at h;cases h
  |true=>
   rw[hb,zI]at h;rcases ZX k m with h1|h1;exact J2 h k o h1 ho;have:k=m:=by omega
   subst this;rw[ho]at hb;exact hb
def pj(ops:Array Oper)(o:Oper):List Nat:=match o.guard with
 |none=>[]
 |some (j,_)=>match ja ops j with
  |some t=>[t]
  |none=>[]
def oO(ops:Array Oper):Nat->Bool
 |0=>Ta
 |k+1=>bif (match ops[k]? with
  |some o=>bif Yk o.op then Qy ops k (pj ops o) ops.size else Tc
  |none=>Ta)then oO ops k else Tc
theorem D6{ops:Array Oper}:∀{m:Nat},oO ops m=Ta->∀k o,k<m->ops[k]?=Td o->Yk o.op=Ta/\Qy ops k (pj ops o) ops.size=Ta
 |0,_,k,o,hk,_=>by omega
 |m+1,h,k,o,hk,ho=>by
  unfold oO at h;cases hb:(match ops[m]? with
   |some o=>bif Yk o.op then Qy ops m (pj ops o) ops.size else Tc
   |none=>Ta)with
  |false=>rw[hb]at h;cases h
  |true=>
   rw[hb,zI]at h;rcases ZX k m with h1|h1;exact D6 h k o h1 ho;have:k=m:=by omega
   subst this;rw[ho]at hb;simp only at hb;cases h2:Yk o.op with
   |false=>rw[h2]at hb;cases hb
   |true=>rw[h2,zI]at hb;exact⟨rfl,hb⟩
theorem Pb(h:∀t∈pj ops o,qh a t=qh b t):za5 o (yielded ops a.tmps)=za5 o (yielded ops b.tmps):=by
 unfold za5;cases hg:o.guard with
 |none=>rfl
 |some f=>
  obtain⟨j,p⟩:=f;have:yielded ops a.tmps j=yielded ops b.tmps j:=by
   unfold yielded;cases hd:(ops[j]?).bind (·.dst)with
   |none=>rfl
   |some t=>
    have e:ja ops j=Td t:=by
     unfold ja;cases hoj:ops[j]? with
     |none=>rw[hoj]at hd;simp at hd
     |some i=>rw[hoj]at hd;simpa using hd
    have c:=h t (by unfold pj;rw[hg];simp only;rw[e];simp);unfold qh at c;simp only[zas]at c;simp only[zbj];cases h1:a.tmps[t]? <;> cases h2:b.tmps[t]? <;> rw[h1,h2]at c <;> simp at c <;> first|rfl|(subst c;rfl)|(rw[<-c];rfl)|(rw[c];rfl)
  simp only[this]
theorem U9(h:uO o=Tc):o.guard=Te:=by
 unfold uO at h;cases hg:o.guard with
 |none=>rfl
 |some g=>rw[hg]at h;cases h
theorem Re(b:ops[i]?=Td o)(h:Jc ops i=Tc):o.guard=Te:=by
 unfold Jc at h;rw[b]at h;simp only at h;cases hg:uO o with
 |true=>rw[hg]at h;cases h
 |false=>exact U9 hg
def mY(ops:Array Oper):Bool:=bif oO ops ops.size then(bif js ops ops.size then(bif Yq ops ops.size then oY ops ops.size else Tc)else Tc)else Tc
theorem GG(h:mY ops=Ta):oO ops ops.size=Ta/\js ops ops.size=Ta/\Yq ops ops.size=Ta/\oY ops ops.size=Ta:=by unfold mY at h;cases h1:oO ops ops.size <;> cases h2:js ops ops.size <;> cases h3:Yq ops ops.size <;> simp[h1,h2,h3]at h ⊢;exact h
structure St7 (P:Program) (n:Nat) (ops:Array Oper) (h0:zc) (K:bK->zc->Prop) (md:Bool) (f:Nat->Value) (a0:Act) (listed:Array Bool) (a b:Act) (e:bK) (h:zc) (done todo:List Nat):Prop where
 inv:HeadInv .any ops ops.size listed
 ag:∀s,(∀i o,ops[i]?=Td o->Jc ops i=Tc->listed.getD i Tc=Tc->o.dst≠Td s)->qh a s=qh b s
 sz:a.tmps.size=n
 ad:a.defers=[]
 sb:Sat n e b
 qv:∀i o t,ops[i]?=Td o->i∈Jd ops done ops.size->o.dst=Td t->qh b t=f i/\t<n
 qx:∀i o,ops[i]?=Td o->i∈Jd ops done ops.size->listed.getD i Tc=Tc->∀h',LdOK o b.eval h0 h'->QExec P (execOp b.eval o) h' (.value (f i))
 tt:∀j,j∈i0 ops->(j∈todo↔listed.getD j Tc=Tc)
 ch:∀j,j∈i0 ops->(listed.getD j Tc=Ta↔j∈done)
 dn:∀j∈done,j∈i0 ops
 th:∀j∈todo,j∈i0 ops
 nd:todo.Nodup
 wt:∃fu,todo.length<=fu/\lm P n ops h0 K md fu done todo e h
 kp:∀i o,ops[i]?=Td o->jd o=Ta->Jc ops i=Tc->listed.getD i Tc=Tc->LdOK o b.eval h0 h
 sm:Same (wl ops.toList) a0 a
theorem Ge{ld:Bool}(u:js ops ops.size=Ta)(N:Yq ops ops.size=Ta)(M:oY ops ops.size=Ta){f:Nat->Value}(E:b.tmps.size=n)(w:∀i∈l,i<ops.size)(O:∀i∈l,Jc ops i=Tc)(c:l.Pairwise (· < ·)) (H:∀e i p,l=e++i::p->∃o,ops[i]?=Td o/\m8 o=Ta/\(ld=Tc->jd o=Tc)/\Yk o.op=Ta/\jr n [] o.dst=Ta/\∀h',LdOK o (jh ops f e b).eval h h'->QExec P (execOp (jh ops f e b).eval o) h' (.value (f i))):
  ∀i o,ops[i]?=Td o->i∈l->(∀t,o.dst=Td t->qh (jh ops f l b) t=f i/\t<n)/\(ld=Tc->jd o=Tc)/\∀h',LdOK o (jh ops f l b).eval h h'->QExec P (execOp (jh ops f l b).eval o) h' (.value (f i)):=by
 intro i o F hi;obtain⟨e,p,rfl⟩:=List.append_of_mem hi;obtain⟨D,q1,q2,U,q4,C,Z⟩:=H e i p rfl;have:D=o:=ZA (q1.symm.trans F);subst this;have y:i<ops.size:=w i (by simp);have Q:∀j∈p,i<j:=λj k=>by rw[zby]at c;exact(zam.1 c.2.1).1 j k
 have m:jh ops f (e++i::p) b=jh ops f p ((jh ops f e b).put (ja ops i) (f i)):=by rw[AY];rfl
 have r:ja ops i=D.dst:=j5 F;refine⟨λt z=>?_,U,λh' hh=>?_⟩;have B:t<n:=by rw[z]at C;unfold jr at C;simp at C;exact C.2
 refine⟨?_,B⟩;rw[m,xe λj k I=>?_,r,z,xa (by rw[Eg.1,E];exact B)];have:=wa N i j t y (w j (by simp[k])) (by rw[r,z]) I;have:=Q j k;omega;have A:∀t∈tmpsOf D.op.operands.toList,qh (jh ops f (e++i::p) b) t=qh (jh ops f e b) t:=λt z=>by
  have Y:jh ops f (e++i::p) b=jh ops f (i::p) (jh ops f e b):=AY;rw[Y];refine xe λj k I=>?_;have J:j<ops.size:=w j (by simp[k]);have V:Region.waitsFor .any ops i j=Ta:=by rcases J1 (J2 M i D y F) j t J I z with h|h;exact h;have:=O j (by simp[k]);rw[h.1]at this;cases this
  obtain⟨oj,L,x,G,S,T⟩:=Region.waitsFor_spec V;have h1:=y0 u i oj y L x G S;rcases YB.1 k with rfl|k;omega;have:=Q j k;omega
 rw[yB q4 A];exact Z h' (LdOK.congr (λx G=>(vp A x G).symm) hh)
theorem Ke{K:bK->zc->Prop}{Q:Exit->Act->World->Prop}(B:World)(hmix:mY ops=Ta){a0:Act}
    (hQ:∀e' a' d' h',Sat n e' a'->Same (wl ops.toList) a0 a'->K e' h'->Q .normal a' (mk B d' h')):
    ∀(N:Nat) (U:List Nat) (listed:Array Bool) (f:Nat->Value) (a b:Act) (e:bK) (h:zc) (d:Nat) (done todo:List Nat),U.length=N->U.Nodup->(∀k,k∈U↔k<ops.size/\listed.getD k Tc=Tc) ->
      St7 P n ops h0 K md f a0 listed a b e h done todo->wpAny P .any ops Q N listed a (mk B d h):=by
  obtain⟨hng,hback,hnd,hsl⟩:=GG hmix
  have hgd:∀(i:Nat) (o:Oper),ops[i]?=Td o->Yk o.op=Ta/\Qy ops i (pj ops o) ops.size=Ta:=λi o ho=>D6 hng i o (YE.1 ho).1 ho
  have hslot0:∀k o,ops[k]?=Td o->∀p t,p<ops.size->ja ops p=Td t->t∈tmpsOf o.op.operands.toList->Region.waitsFor .any ops k p=Ta\/(Jc ops p=Ta/\Region.waitsFor .any ops p k=Ta):=λk o ho p t hp hd ht=>
    J1 (J2 hsl k o (YE.1 ho).1 ho) p t hp hd ht
  have hbk:∀k p,Region.waitsFor .any ops k p=Ta->p<k:=λk p hw=>by
    obtain⟨oj,hoj,x,hx,hb,hon⟩:=Region.waitsFor_spec hw
    have:=y0 hback k oj (YE.1 hoj).1 hoj x hx hb
    omega
  have fin:∀{listed:Array Bool} {f:Nat->Value} {a b:Act} {e:bK} {h:zc} {d:Nat} {done todo:List Nat},(∀k,k<ops.size->listed.getD k Tc=Ta)->St7 P n ops h0 K md f a0 listed a b e h done todo->Q .normal a (mk B d h):=by
    intro listed f a b e h d done todo hall S
    have htodo:todo=[]:=by
      cases htd:todo with
      |nil=>rfl
      |cons j l=>
        have hm:j∈todo:=by rw[htd];simp
        have hj:=S.th j hm
        have:=(S.tt j hj).1 hm
        rw[hall j (rL.1 hj).1]at this;cases this
    obtain⟨fu,_,hw⟩:=S.wt
    rw[htodo]at hw
    have hw:K (clean e) h:=by cases fu <;> exact hw
    have hv:∀s,qh a s=qh b s:=λs=>S.ag s λi o ho hq hl=>by
      rw[hall i (YE.1 ho).1]at hl;cases hl
    have hs:Sat n e a:=⟨S.ad,S.sz,λx hx=>by
      have:=S.sb.all x hx
      have e1:qh a=qh b:=funext hv
      rw[e1];exact this⟩
    exact hQ _ _ _ _ hs.clean S.sm hw
  intro N
  induction N with
  |zero=>
    intro U listed f a b e h d done todo hU _ hmem S
    have hUn:U=[]:=zba.1 hU
    subst hUn
    have hall:∀k,k<ops.size->listed.getD k Tc=Ta:=λk hk=>by
      cases hb:listed.getD k Tc with
      |true=>rfl
      |false=>exact absurd ((hmem k).2 ⟨hk,hb⟩) (by simp)
    refine⟨?_,fin hall S⟩
    rw[List.eq_nil_iff_forall_not_mem]
    intro j hj
    obtain⟨h1,o,ho,_⟩:=mem_ready.1 hj
    have hlt:=(YE.1 ho).1
    have:=hall j hlt
    have h2:=getD_both h1
    rw[this]at h2;cases h2
  |succ N ih=>
    intro U listed f a b e h d done todo hU hdup hmem S
    have hex:∃k,k<ops.size/\listed.getD k Tc=Tc:=by
      cases U with
      |nil=>cases hU
      |cons k U=>exact⟨k,(hmem k).1 YJ⟩
    refine⟨λhr=>?_,λi hi=>?_⟩
    · exfalso
      obtain⟨k,hk1,hk2,hk3⟩:=V7 hex
      have:k∈Region.ready .any ops listed:=mem_ready.2 ⟨by rw[<-hk2];simp[S.inv.size,hk1],ops[k],zae hk1,λx hx hb=>hk3 _ (y0 hback k ops[k] hk1 (zae hk1) x hx hb)⟩
      rw[hr]at this;cases this
    · obtain⟨hun1,o,ho,hall⟩:=mem_ready.1 hi
      have hun:listed.getD i Tc=Tc:=getD_both hun1
      have hlt:i<ops.size:=(YE.1 ho).1
      obtain⟨hns,hgs⟩:=hgd i o ho
      have hils:i<listed.size:=by rw[S.inv.size];exact hlt
      have hU':(U.erase i).length=N:=by rw[List.length_erase_of_mem ((hmem i).2 ⟨hlt,hun⟩),hU];rfl
      have hdup':(U.erase i).Nodup:=hdup.erase i
      have hmem':∀k,k∈U.erase i↔k<ops.size/\(listed.setIfInBounds i Ta).getD k Tc=Tc:=λk=>by
        rw[hdup.mem_erase_iff,hmem k]
        by_cases hk:i=k
        · subst hk;simp[hils]
        · rw[getD_set_ne Tc hk];exact⟨λhx=>hx.2,λhx=>⟨λe=>hk e.symm,hx⟩⟩
      have inv':=S.inv.set hi hlt
      have hset:∀k,k≠i->(listed.setIfInBounds i Ta).getD k Tc=listed.getD k Tc:=λk hk=>getD_set_ne Tc (Ne.symm hk)
      have hsetI:(listed.setIfInBounds i Ta).getD i Tc=Ta:=by simp[hils]
      have hops:∀t∈tmpsOf o.op.operands.toList,qh a t=qh b t:=λt ht=>S.ag t λk ok hok hq hl hd=>by
        rcases hslot0 i o ho k t (YE.1 hok).1 (by rw[j5 hok,hd]) ht with hw|hw
        · rw[sO hi hw]at hl;cases hl
        · rw[hw.1]at hq;cases hq
      have hexec:=yB hns hops
      have hsame:∀v,Same (wl ops.toList) a0 (a.put o.dst v):=λv=>S.sm.trans (Same.put a o.dst _ λt ht=>Fa (by
          obtain⟨hl2,e2⟩:=YE.1 ho
          rw[<-e2];simp) t ht)
      unfold wpOp
      rw[ho]
      simp only
      have hwab:za5 o (yielded ops a.tmps)=za5 o (yielded ops b.tmps):=Pb λt ht=>S.ag t λk ok hok hq hl hd=>by
        have hw:=Yp hgs k t (YE.1 hok).1 (by rw[j5 hok,hd]) ht
        rw[sO hi hw]at hl;cases hl
      cases hq:Jc ops i with
      |false=>
        have hwant:za5 o (yielded ops a.tmps)=Ta:=by unfold za5;rw[Re ho hq]
        rw[zb hwant]
        left
        unfold Oper.wp
        rw[hexec]
        have hrdyG:∀m k ok,k<m->ops[k]?=Td ok->Jc ops k=Tc->(∀p,Region.waitsFor .any ops k p=Ta->listed.getD p Tc=Ta)->k∈Jd ops done ops.size:=by
          intro m
          induction m with
          |zero=>intro k ok hk;omega
          |succ m ihm=>
            intro k ok hk hok hkh hkw
            refine tg (YE.1 hok).1 hkh (ve.2 λp hp hw=>⟨λhph=>?_,λhph=>?_⟩)
            · have hpl:=hkw p hw
              exact(S.ch p (rL.2 ⟨by have:=(YE.1 hok).1;omega,hph⟩)).1 hpl
            · have hps:p<ops.size:=by have:=(YE.1 hok).1;omega
              have hin:=ihm p ops[p] (by omega) (zae hps) hph λq hq2=>Yr S.inv (hkw p hw) hq2
              obtain⟨_,g2,g3⟩:=xd hin
              exact tg hp g2 g3
        have hrdy:=hrdyG (i+1) i o (by omega) ho hq λp hw=>sO hi hw
        have hx:=S.qx i o ho hrdy hun h (by
          cases hl:jd o with
          |false=>exact .inl hl
          |true=>exact S.kp i o ho hl hq hun) B d
        rw[hx,Oper.upon_value]
        have hnot:i∉i0 ops:=λhm=>by rw[(rL.1 hm).2]at hq;cases hq
        have hunset:∀k,(listed.setIfInBounds i Ta).getD k Tc=Tc->listed.getD k Tc=Tc:=λk hu=>by
          by_cases hki:k=i
          · subst hki;exact hun
          · rw[<-hset k hki];exact hu
        refine ih _ _ f _ b e h d done todo hU' hdup' hmem' { S with inv:=inv',ag:=λs hs=>?_,sz:=by rw[size_put];exact S.sz,ad:=by rw[xp];exact S.ad,tt:=λj hj=>(by have:j≠i:=λe=>hnot (e ▸ hj);rw[hset j this];exact S.tt j hj),ch:=λj hj=>?_,qx:=λk ok hok hk hu=>S.qx k ok hok hk (hunset k hu),kp:=λk ok hok hl hkh hk=>?_,sm:=hsame _ }
        · by_cases hd:o.dst=Td s
          · obtain⟨hv,hsn⟩:=S.qv i o s ho hrdy hd
            rw[hd,xa (by rw[S.sz];exact hsn),hv]
          · rw[xq hd]
            refine S.ag s λk ok hok hqk hlk=>?_
            by_cases hki:k=i
            · subst hki
              have:ok=o:=ZA (hok.symm.trans ho)
              subst this;exact hd
            · exact hs k ok hok hqk (by rw[hset k hki];exact hlk)
        · have:j≠i:=λe=>hnot (e ▸ hj)
          rw[hset j this];exact S.ch j hj
        · by_cases hki:k=i
          · subst hki;rw[hsetI]at hk;cases hk
          · rw[hset k hki]at hk;exact S.kp k ok hok hl hkh hk
      |true=>
        have hin:i∈i0 ops:=rL.2 ⟨hlt,hq⟩
        have hit:i∈todo:=(S.tt i hin).2 hun
        obtain⟨fu,hfu,hW0⟩:=S.wt
        have hcl:∀p q,(listed.setIfInBounds i Ta).getD p Tc=Ta->Region.waitsFor .any ops p q=Ta->(listed.setIfInBounds i Ta).getD q Tc=Ta:=λp q h1 h2=>Yr inv' h1 h2
        have hcand:vz ops todo i=Ta:=by
          unfold vz
          rw[ZH]
          intro k hk
          cases hki:Nat.beq k i with
          |true=>rfl
          |false=>
            have hne:k≠i:=λe=>by rw[e]at hki;simp at hki
            cases hr:memN (lN ops ops.size [i]) k with
            |false=>rfl
            |true=>
              exfalso
              have:=xE hcl (m:=ops.size) (S:=[i]) (λj hj=>by simp at hj;subst hj;exact hsetI) k (J0 hr)
              rw[hset k hne]at this
              have h2:=(S.tt k (S.th k hk)).1 hk
              rw[this]at h2;cases h2
        have hW:match ops[i]? with
            |some o=>(match Jy ops e o.guard with|some c=>bif jr n c o.dst then mI P o e c h λv h'=>wI P n h' Tc ops (λe'=>qB md ops (i::done) e' h0 h' (lm P n ops h0 K md (fu-1) (i::done) (i4 i todo) e' h')) (Je (Jd ops done ops.size) (Jd ops (i::done) ops.size) ops.size) (putO e o.dst c v)else False|none=>False)
            |none=>False:=by
          cases fu with
          |zero=>(have:todo.length=0:=by omega);rw[zba.1 this]at hit;cases hit
          |succ fu=>
            have:=VV (show lm P n ops h0 K md (fu+1) done todo e h from hW0) hit hcand
            exact this
        rw[ho]at hW
        simp only at hW
        cases hch:Jy ops e o.guard with
        |none=>rw[hch]at hW;exact hW.elim
        |some c=>
        rw[hch]at hW
        simp only at hW
        cases hd:jr n c o.dst with
        |false=>rw[hd]at hW;exact hW.elim
        |true=>
          rw[hd,zI]at hW
          have hwv:=Xl S.sb hch
          have key:∀(v u:Value) (d':Nat) (h':zc),(valid (qh b) c->u=v)->(¬valid (qh b) c->u=undef)->wI P n h' Tc ops (λe'=>qB md ops (i::done) e' h0 h' (lm P n ops h0 K md (fu-1) (i::done) (i4 i todo) e' h')) (Je (Jd ops done ops.size) (Jd ops (i::done) ops.size) ops.size) (putO e o.dst c v)->wpAny P .any ops Q N (listed.setIfInBounds i Ta) (a.put o.dst u) (mk B d' h'):=by
           intro v v2 d' h' hv1 hv0 hK
           have sb1:Sat n (putO e o.dst c v) (b.put o.dst v2):=S.sb.putO hd hv1 hv0
           generalize hbl:Je (Jd ops done ops.size) (Jd ops (i::done) ops.size) ops.size=bl at hK
           have hbm:∀k,k∈bl↔k<ops.size/\k∈Jd ops (i::done) ops.size/\k∉Jd ops done ops.size:=λk=>by rw[<-hbl];exact IH
           have hbsort:bl.Pairwise (· < ·):=by rw[<-hbl];exact Il _ _ _
           have hbnd:bl.Nodup:=hbsort.imp λh=>by omega
           obtain⟨f',e2,HK,sb2,hf0,hfx⟩:=BA f hbnd hK sb1
           have hbf:=Ge hback hnd hsl (f:=f') (l:=bl) (b:=b.put o.dst v2) sb1.size (λk hk=>((hbm k).1 hk).1) (λk hk=>(xd ((hbm k).1 hk).2.1).2.1) hbsort hfx
           have hbnh:∀k∈bl,Jc ops k=Tc:=λk hk=>(xd ((hbm k).1 hk).2.1).2.1
           have hlist':∀j,j∈i0 ops->((listed.setIfInBounds i Ta).getD j Tc=Ta↔j∈i::done):=λj hj=>by
             by_cases hji:j=i
             · subst hji;rw[hsetI];simp
             · rw[hset j hji,S.ch j hj];simp[hji]
           have hjl:∀j∈i::done,(listed.setIfInBounds i Ta).getD j Tc=Ta:=λj hj=>by
             rcases YB.1 hj with rfl|hj
             · exact hsetI
             · exact getD_set_true ((S.ch j (S.dn j hj)).2 hj)
           have hup:∀k,k∈lN ops ops.size (i::done)->(listed.setIfInBounds i Ta).getD k Tc=Ta:=λk hk=>xE hcl hjl k hk
           have hundone:i∉done:=λhm=>by rw[(S.ch i hin).2 hm]at hun;cases hun
           have hslot1:∀k ok,ops[k]?=Td ok->k∈Jd ops done ops.size->listed.getD k Tc=Tc->∀t∈tmpsOf ok.op.operands.toList,qh (b.put o.dst v2) t=qh b t:=λk ok hok hk hu t ht=>xq λhdo=>by
             rcases hslot0 k ok hok i t hlt (by rw[j5 ho,hdo]) ht with hw|hw
             · exact hundone ((D1 hk (hbk k i hw) hw).1 hq)
             · rw[sO hi hw.2]at hu;cases hu
           have hslot2:∀k ok,ops[k]?=Td ok->k∈Jd ops done ops.size->listed.getD k Tc=Tc->∀t∈tmpsOf ok.op.operands.toList,qh (jh ops f' bl (b.put o.dst v2)) t=qh b t:=λk ok hok hk hu t ht=>by
             rw[xe λp hp hdp=>?_]
             · exact hslot1 k ok hok hk hu t ht
             · rcases hslot0 k ok hok p t ((hbm p).1 hp).1 hdp ht with hw|hw
               · exact((hbm p).1 hp).2.2 ((D1 hk (hbk k p hw) hw).2 (hbnh p hp))
               · have:=hbnh p hp
                 rw[hw.1]at this;cases this
           have hdist:∀k ok t,ops[k]?=Td ok->k≠i->ok.dst=Td t->o.dst≠Td t:=λk ok t hok hki hdk hdo=>by
             have:=wa hnd k i t (YE.1 hok).1 hlt (by rw[j5 hok,hdk]) (by rw[j5 ho,hdo])
             exact hki this
           have hne_i:∀k,Jc ops k=Tc->k≠i:=λk hk e=>by rw[e,hq]at hk;cases hk
           have hQK:lm P n ops h0 K md (fu-1) (i::done) (i4 i todo) e2 h'/\(∀k ok,ops[k]?=Td ok->jd ok=Ta->Jc ops k=Tc->(listed.setIfInBounds i Ta).getD k Tc=Tc->LdOK ok (jh ops f' bl (b.put o.dst v2)).eval h0 h'):=by
             unfold qB at HK
             cases hl:sq ops (lN ops ops.size (i::done)) ops.size with
             |false=>
               rw[hl,zJ]at HK
               exact⟨HK,λk ok hok hlo hkh hf=>by rw[hup k (IJ hl k ok (YE.1 hok).1 hok hlo hkh)]at hf;cases hf⟩
             |true=>
               rw[hl,zI]at HK
               cases md with
               |false=>exact⟨HK.2,λ_ _ _ _ _ _=>.inr (.inl HK.1)⟩
               |true=>
                 rw[zI]at HK
                 obtain⟨g1,g2⟩:=IT HK
                 refine⟨g1,λk ok hok hlo hkh hf=>.inr (.inr λt a p hop hp=>?_)⟩
                 obtain⟨t',a',p',e1,e2',e3,e4⟩:=g2 k ok (YE.1 hok).1 hok hlo hkh (λhm=>by rw[hup k hm]at hf;cases hf)
                 rw[hop]at e1
                 injection e1 with _ e1
                 subst e1
                 have eb:(jh ops f' bl (b.put o.dst v2)).eval a=jF e2 [] a:=Jx sb2 (tB _) e2' a (by simp)
                 rw[eb,e3]at hp
                 injection hp with hp
                 injection hp with hp
                 rw[<-hp];exact e4
           have htt:∀j,j∈i0 ops->(j∈i4 i todo↔(listed.setIfInBounds i Ta).getD j Tc=Tc):=λj hj=>by
             rw[pT]
             by_cases hji:j=i
             · subst hji;rw[hsetI];simp
             · rw[hset j hji,<-S.tt j hj];exact⟨λhx=>hx.1,λhx=>⟨hx,hji⟩⟩
           refine ih _ _ f' _ (jh ops f' bl (b.put o.dst v2)) e2 h' d' (i::done) (i4 i todo) hU' hdup' hmem' ⟨inv',λs hs=>?_,by rw[size_put];exact S.sz,by rw[xp];exact S.ad,sb2,λk ok t hok hk hdk=>?_,λk ok hok hk hu h'' hh=>?_,htt,hlist',(λj hj=>by
             rcases YB.1 hj with rfl|hj
             · exact hin
             · exact S.dn j hj),(λj hj=>S.th j (pT.1 hj).1),yU S.nd,⟨fu-1,by have:=Co hit;omega,hQK.1⟩,hQK.2,hsame _⟩
           · -- slots
             have hs':∀k ok,ops[k]?=Td ok->Jc ops k=Tc->listed.getD k Tc=Tc->ok.dst≠Td s:=λk ok hok hqk hlk=>hs k ok hok hqk (by rw[hset k (hne_i k hqk)];exact hlk)
             have hbl:∀p∈bl,ja ops p≠Td s:=λp hp hdp=>by
               have hps:=((hbm p).1 hp).1
               have hok:ops[p]?=Td ops[p]:=zae hps
               have hph:=hbnh p hp
               refine hs p _ hok hph ?_ (by rw[<-j5 hok];exact hdp)
               cases hlp:(listed.setIfInBounds i Ta).getD p Tc with
               |false=>rfl
               |true=>
                 exfalso
                 rw[hset p (hne_i p hph)]at hlp
                 have:∀m q,q<m->q<ops.size->Jc ops q=Tc->listed.getD q Tc=Ta->q∈Jd ops done ops.size:=by
                   intro m
                   induction m with
                   |zero=>intro q hq;omega
                   |succ m ihm=>
                     intro q hqm hqs hqh hql
                     refine tg hqs hqh (ve.2 λp2 hp2 hw2=>⟨λhph2=>?_,λhph2=>?_⟩)
                     · exact(S.ch p2 (rL.2 ⟨by omega,hph2⟩)).1 (Yr S.inv hql hw2)
                     · have hin2:=ihm p2 (by omega) (by omega) hph2 (Yr S.inv hql hw2)
                       obtain⟨_,g2,g3⟩:=xd hin2
                       exact tg hp2 g2 g3
                 exact((hbm p).1 hp).2.2 (this (p+1) p (by omega) hps hph hlp)
             rw[xe hbl]
             by_cases hds:o.dst=Td s
             · rw[hds]
               have hsn:s<n:=by
                 rw[hds]at hd
                 unfold jr at hd
                 simp at hd;exact hd.2
               rw[xa (by rw[S.sz];exact hsn),xa (by rw[S.sb.size];exact hsn)]
             · rw[xq hds,xq hds];exact S.ag s hs'
           · by_cases hkb:k∈bl
             · exact(hbf k ok hok hkb).1 t hdk
             · have hk0:k∈Jd ops done ops.size:=Classical.byContradiction λhc=>hkb ((hbm k).2 ⟨(YE.1 hok).1,hk,hc⟩)
               have hkh:=(xd hk0).2.1
               obtain⟨q1,q2⟩:=S.qv k ok t hok hk0 hdk
               refine⟨?_,q2⟩
               rw[xe λp hp hdp=>?_,xq (hdist k ok t hok (hne_i k hkh) hdk),q1,hf0 k hkb]
               have:=wa hnd p k t ((hbm p).1 hp).1 (YE.1 hok).1 hdp (by rw[j5 hok,hdk])
               subst this;exact hkb hp
           · by_cases hkb:k∈bl
             · obtain⟨_,q2,q3⟩:=hbf k ok hok hkb
               exact q3 h'' (.inl (q2 rfl))
             · have hk0:k∈Jd ops done ops.size:=Classical.byContradiction λhc=>hkb ((hbm k).2 ⟨(YE.1 hok).1,hk,hc⟩)
               have hu0:listed.getD k Tc=Tc:=by rw[<-hset k (hne_i k (xd hk0).2.1)];exact hu
               rw[yB (b:=b) (hgd k ok hok).1 (hslot2 k ok hok hk0 hu0),hf0 k hkb]
               exact S.qx k ok hok hk0 hu0 h'' (LdOK.congr (λx hx=>(vp (hslot2 k ok hok hk0 hu0) x hx).symm) hh)
          by_cases hv:valid (qh b) c
          · rw[zb (by rw[hwab];exact hwv.2 hv)]
            left
            unfold Oper.wp
            rw[hexec]
            refine PH (b:=b) S.sb.defers ?_
            refine F6 hW S.sb hv B d λv d' h' hK=>⟨by rw[xp];exact S.sb.defers,λv2 hv2=>?_⟩
            have hbv:b.put o.dst v2=b.put o.dst v:=hv2.symm
            by_cases hds:∃t,o.dst=Td t
            · obtain⟨t,ht⟩:=hds
              have htn:t<n:=by
                have hd2:=hd
                rw[ht]at hd2
                unfold jr at hd2
                simp at hd2;exact hd2.2
              have:v2=v:=by
                have e1:qh (b.put o.dst v2) t=qh (b.put o.dst v) t:=by rw[hbv]
                rw[ht,xa (by rw[S.sb.size];exact htn),xa (by rw[S.sb.size];exact htn)]at e1
                exact e1
              subst this
              exact key v2 v2 d' h' (λ_=>rfl) (λhx=>absurd hv hx) hK
            · have hdn:o.dst=Te:=by
                cases hdx:o.dst with
                |none=>rfl
                |some t=>exact absurd ⟨t,hdx⟩ hds
              have e1:a.put o.dst v2=a.put o.dst v:=by rw[hdn];rfl
              rw[e1]
              exact key v v d' h' (λ_=>rfl) (λhx=>absurd hv hx) hK
          · rw[za (by rw[hwab];exact λhx=>hv (hwv.1 hx))]
            obtain⟨v,hK⟩:=H3 hW S.sb hv
            exact key v undef d h (λhx=>absurd hx hv) (λ_=>rfl) hK
theorem C7{K:bK->zc->Prop}{Q:Exit->Act->World->Prop}(B:World)(r:mY ops=Ta) (H:wI P n h Ta ops (λC=>lm P n ops h K md (i0 ops).length [] (i0 ops) C h) (Je [] (Jd ops [] ops.size) ops.size) e) (D:Sat n e a)
  (hQ:∀C F d' h',Sat n C F->Same (wl ops.toList) a F->K C h'->Q .normal F (mk B d' h')) (d:Nat):wpAny P .any ops Q ops.size (za0 ops.size Tc) a (mk B d h):=by
 obtain⟨V,u,N,L⟩:=GG r;have m:∀k,k∈Je [] (Jd ops [] ops.size) ops.size↔k∈Jd ops [] ops.size:=λk=>by rw[IH];exact⟨λh=>h.2.1,λh=>⟨(xd h).1,h,by simp⟩⟩
 have c:=Il [] (Jd ops [] ops.size) ops.size;generalize Je [] (Jd ops [] ops.size) ops.size=bl at H m c;have A:bl.Nodup:=c.imp λh=>by omega
 obtain⟨f,Y,HK,M,_,O⟩:=BA (λ_=>undef) A H D;have z:=Ge u N L (f:=f) (l:=bl) (b:=a) D.size (λk J=>(xd ((m k).1 J)).1) (λk J=>(xd ((m k).1 J)).2.1) c O;have x:∀s,(∀i o,ops[i]?=Td o->Jc ops i=Tc->(za0 ops.size Tc).getD i Tc=Tc->o.dst≠Td s)->qh a s=qh (jh ops f bl a) s:=λs E=>(xe λp U I=>by have S:=(xd ((m p).1 U)).1;have y:ops[p]?=Td ops[p]:=zae S;exact E p _ y (xd ((m p).1 U)).2.1 (getD_replicate_false _ _) (by rw[<-j5 y];exact I)).symm;refine Ke B r hQ ops.size (ZN ops.size) _ f a (jh ops f bl a) Y h d [] (i0 ops) List.length_range zc9 (λk=>by rw[ZR,getD_replicate_false];simp) ⟨⟨by simp,λj oj _ T=>(by rw[getD_replicate_false]at T;cases T),λt ht Z=>by omega⟩,x,D.size,D.defers,M,λi o t G hi hd=>(z i o G ((m i).2 hi)).1 t hd,λi o G hi _=>(z i o G ((m i).2 hi)).2.2,(λj w=>by rw[getD_replicate_false];simp[w]),(λj w=>by rw[getD_replicate_false];simp),(λj w=>by cases w),(λj w=>w),Vy ops,⟨_,XV _,HK⟩,λ_ _ _ _ _ _=>.inr (.inl (Keep.refl _ _)),Same.refl _ _⟩
def AQ:List (Nat×Nat)->Nat->Option Nat
 |[],_=>Te
 |(j,m)::l,i=>bif Nat.beq i j then Td m else AQ l i
def regionF(P:Program)(n:Nat)(f:List (Nat×Nat))(id:Nat)(ops:Array Oper)(b:Bool)(K:bK->zc->Prop)(e:bK)(h:zc):Prop:=
 bif b then(match AQ f id with
  |none=>bif Region.lexB .any ops then wQ P n ops h Ta (λc=>K (clean c) h) ops.toList e else False
  |some _=>bif mY ops then wI P n h Ta ops (λc=>lm P n ops h K Ta (i0 ops).length [] (i0 ops) c h) (Je [] (Jd ops [] ops.size) ops.size) e else False)
 else wR P n ops K ops.toList e h
theorem Qz(l m:List Oper):wl (l++m)=wl l++wl m:=by
 induction l with
 |nil=>rfl
 |cons o l b=>simp only[ZU,wl];split <;> simp[b]
theorem Fv(l:P.follows .mixedOrders=Ta){m:List (Nat×Nat)}{id:Nat}{b:Bool}{K:bK->zc->Prop} (H:regionF P n m id ops b K e h) (B:World) (d:Nat) (f:Sat n e a) {Q:Exit->Act->World->Prop}
  (i:∀j c k h',Sat n j c->Same (wl ops.toList) a c->K j h'->Q .normal c (mk B k h')):(zdq id ops b).wp P Q a (mk B d h):=by
 unfold regionF at H;cases b with
 |false=>exact wp_region_list (rM B _ _ _ _ _ H f i)
 |true=>
  simp only[zI]at H;split at H;cases hB:Region.lexB .any ops with
  |false=>rw[hB]at H;exact H.elim
  |true=>rw[hB]at H;refine wp_region_quiet (C:=λw=>∃d,w=mk B d h) l hB ⟨d+1,rfl⟩ ?_;refine I8 B _ _ _ H f λj c o r p=>?_;rintro w' ⟨k,rfl⟩;exact i _ _ _ _ o.clean r p
  cases hB:mY ops with
  |false=>rw[hB]at H;exact H.elim
  |true=>rw[hB]at H;exact wp_region_any l (C7 B hB H f i (d+1))
end
section
variable {n:Nat} {e:bK} {a:Act} {ms:List Nat} {P:Program} {h:zc} {R:Value -> zc -> Prop} {f:FuncId}
@[reducible] def kw:List Atom->Type->Type
 |[],X=>X
 |t::l,X=>t.den->kw l X
def qN{X:Type}:(l:List Atom)->kw l X->(List Value->X->Prop)->Prop
 |[],f,k=>k [] f
 |t::l,f,k=>∀x:t.den,qN l (f x) λvs y=>k (t.enc x::vs) y
def iY{X:Type}:(l:List Atom)->List Value->kw l X->Option X
 |[],[],f=>Td f
 |t::l,v::vs,f=>match t.dec v with
  |some x=>iY l vs (f x)
  |none=>Te
 |_,_,_=>Te
def nT{X:Type}:(l:List Atom)->(List Value->X)->kw l X
 |[],f=>f []
 |t::l,f=>λx=>nT l λvs=>f (t.enc x::vs)
def nZ{X Y:Type}:(l:List Atom)->kw l X->kw l Y->kw l (X×Y)
 |[],f,g=>(f,g)
 |_::l,f,g=>λx=>nZ l (f x) (g x)
theorem vh{X:Type}:∀{l:List Atom} {vs:List Value} {f:kw l X} {x:X} {k:List Value->X->Prop},iY l vs f=Td x->qN l f k->k vs x
 |[],[],f,x,k,h,g=>by simp only[iY,XU]at h;subst h;exact g
 |[],_::_,f,x,k,h,g=>by simp[iY]at h
 |_::_,[],f,x,k,h,g=>by simp[iY]at h
 |t::l,v::vs,f,x,k,h,g=>by simp only[iY]at h;split at h;rename_i y b;have:=vh h (g y);rw[Atom.enc_of_dec b]at this;exact this;cases h
theorem AN{X:Type}:∀{l:List Atom} {vs:List Value} {f:List Value->X} {x:X},iY l vs (nT l f)=Td x->x=f vs
 |[],[],f,x,h=>by simp only[iY,nT,XU]at h;exact h.symm
 |[],_::_,f,x,h=>by simp[iY]at h
 |_::_,[],f,x,h=>by simp[iY]at h
 |t::l,v::vs,f,x,h=>by simp only[iY,nT]at h;split at h;rename_i y b;have:=AN h;rw[Atom.enc_of_dec b]at this;exact this;cases h
theorem AF{X:Type}:∀{l:List Atom} {f:List Value->X} {k:List Value->X->Prop},(∀vs,k vs (f vs))->qN l (nT l f) k
 |[],_,_,h=>h []
 |_::_,_,_,h=>λ_=>AF λ_=>h _
abbrev iP:=List (Nat×VT)
def ju:iP->List Atom
 |[]=>[]
 |(_,.one t)::J=>t::ju J
 |(_,.agg l)::J=>l++ju J
def Xe(σ:Nat->Option Value):iP->Option (List Value)
 |[]=>Td []
 |(i,.one _)::J=>match σ i,Xe σ J with
  |some v,some vs=>Td (v::vs)
  |_,_=>Te
 |(i,.agg l)::J=>match σ i,Xe σ J with
  |some (.agg cs),some vs=>bif Nat.beq cs.toList.length l.length then Td (cs.toList++vs)else Te
  |_,_=>Te
def Q0:iP->List Value->bK
 |[],_=>[]
 |(i,.one _)::J,v::vs=>(i,[],v)::Q0 J vs
 |(_,.one _)::_,[]=>[]
 |(i,.agg l)::J,vs=>(i,[],.agg (vs.take l.length).toArray)::Q0 J (vs.drop l.length)
def ml(e:bK)(i:Nat):Option Value:=match look e i with
 |some ([],v)=>Td v
 |_=>Te
theorem Q1(h:Sat n e a){i:Nat}{v:Value}(b:ml e i=Td v):qh a i=v:=by unfold ml at b;split at b;rename_i u c;simp only[XU]at b;subst b;exact(h.all _ (oK c)).1 trivial;cases b
theorem yj{n:Nat}{e:bK}{a:Act}(h:Sat n e a):∀{J:iP} {vs:List Value},Xe (ml e) J=Td vs->Xe (λi=>Td (qh a i)) J=Td vs
 |[],vs,hv=>hv
 |(i,.one t)::J,vs,hv=>by simp only[Xe]at hv ⊢;split at hv;rename_i v us h1 b;simp only[yj h b,Q1 h h1];exact hv;cases hv
 |(i,.agg l)::J,vs,hv=>by simp only[Xe]at hv ⊢;split at hv;rename_i cs us h1 b;simp only[yj h b,Q1 h h1];exact hv;cases hv
theorem Xp{σ:Nat->Value}:∀{J:iP} {vs:List Value},Xe (λi=>Td (σ i)) J=Td vs->∀x∈Q0 J vs,fact σ x
 |[],vs,_,x,b=>by cases b
 |(i,.one t)::J,vs,hv,x,b=>by simp only[Xe]at hv;split at hv;rename_i v us h1 e;simp only[XU]at h1 hv;subst hv;simp only[Q0,YB]at b;rcases b with rfl|b;exact⟨λ_=>h1,λf=>absurd trivial f⟩;exact Xp e x b;cases hv
 |(i,.agg l)::J,vs,hv,x,b=>by
  simp only[Xe]at hv;split at hv;rename_i cs us h1 e;simp only[XU]at h1;cases hb:Nat.beq cs.toList.length l.length with
  |false=>rw[hb]at hv;cases hv
  |true=>rw[hb]at hv;simp only[zI,XU]at hv;subst hv;have c:cs.toList.length=l.length:=YC hb;simp only[Q0,YB]at b;rcases b with rfl|b;refine⟨λ_=>?_,λf=>absurd trivial f⟩;simp only;rw[h1,<-c,zc4];rw[<-c,List.drop_left]at b;exact Xp e x b
  cases hv
def J3(ms:List Nat):bK->bK
 |[]=>[]
 |(i,[],v)::e=>bif memN ms i then J3 ms e else(i,[],v)::J3 ms e
 |(_,_::_,_)::e=>J3 ms e
theorem KP{x:Nat×qf×Value}(h:x∈J3 ms e):x∈e/\x.2.1=[]/\x.1∉ms:=by
 induction e with
 |nil=>cases h
 |cons y e b=>
  obtain⟨i,c,v⟩:=y;cases c with
  |nil=>
   simp only[J3]at h;cases hm:memN ms i with
   |true=>rw[hm]at h;exact⟨XZ _ (b h).1,(b h).2⟩
   |false=>rw[hm]at h;simp only[zJ]at h;rcases YB.1 h with rfl|h;exact⟨YJ,rfl,Qq hm⟩;exact⟨XZ _ (b h).1,(b h).2⟩
  |cons g c=>simp only[J3]at h;exact⟨XZ _ (b h).1,(b h).2⟩
theorem Xq{a a1:Act}(l:Sat n e a)(h:a1.defers=[])(hz:a1.tmps.size=n)(b:Same ms a a1){J:iP}{vs:List Value}
  (o:Xe (λi=>Td (qh a1 i)) J=Td vs):Sat n (Q0 J vs++J3 ms e) a1:=by
 refine⟨h,hz,λx c=>?_⟩;rcases YK.1 c with c|c;exact Xp o x c;obtain⟨h1,f,k⟩:=KP c;have j:=l.all x h1;refine⟨λ_=>?_,λm=>absurd (by rw[f];trivial) m⟩;rw[b _ k];exact j.1 (by rw[f];trivial)
def y9:Code->Option Nat
 |.region id _ _=>Td id
 |.seq a b=>match y9 a with
  |some i=>Td i
  |none=>y9 b
 |.cond _ a b=>match y9 a with
  |some i=>Td i
  |none=>y9 b
 |.block _ b=>y9 b
 |.loop b=>y9 b
 |.scope b=>y9 b
 |_=>Te
def xf:Code->List Nat
 |.region _ ops _=>wl ops.toList
 |.seq a b=>xf a++xf b
 |.cond _ a b=>xf a++xf b
 |.block _ b=>xf b
 |.loop b=>xf b
 |.scope b=>xf b
 |_=>[]
structure Plan where
 tails:List (Nat×Nat)
 loops:List (Nat×iP)
 joins:List (Nat×iP)
def Fc:List (Nat×iP)->Nat->Option iP
 |[],_=>Te
 |(j,m)::l,i=>bif Nat.beq i j then Td m else Fc l i
def qJ(l:List (Nat×iP)):Option Nat->Option iP
 |some i=>Fc l i
 |none=>Te
abbrev Jf:=Exit->bK->zc->Prop
def mB(K:bK->zc->Prop)(Q:Jf):Jf
 |.normal,e,h=>K e h
 |x,e,h=>Q x e h
def mu(id:Nat)(Q:Jf):Jf
 |.exit i,e,h=>bif Nat.beq i id then Q .normal e h else Q (.exit i) e h
 |x,e,h=>Q x e h
def QJ(Q:Jf):Jf
 |.goto _,_,_=>False
 |x,e,h=>Q x e h
def pS{X:Type}(J:iP)(F:kw (ju J) X)(e:bK)(k:X->Prop):Prop:=
 match Xe (ml e) J with
 |some vs=>match iY (ju J) vs F with
  |some q=>k q
  |none=>False
 |none=>False
def Cn(J:iP)(rest:bK->zc->Prop)(F:(bK->zc->Prop)->Prop)(b:bK):Prop:=
 ∀K:kw (ju J) (zc->Prop),qN (ju J) K (λvs q=>∀h,rest (Q0 J vs++b) h->q h)->F λe h=>pS J K e λq=>q h
def AO(J:iP)(body:(bK->zc->Prop)->bK->zc->Prop)(b e:bK)(h:zc):Prop:=
 ∃(I:kw (ju J) (zc->Prop)) (μ:kw (ju J) (zc->Nat)),(pS J (nZ (ju J) I μ) e λp=>p.1 h) /\
  qN (ju J) (nZ (ju J) I μ) λvs p=>∀h,p.1 h->body (λc h'=>pS J (nZ (ju J) I μ) c λq=>q.1 h'/\q.2 h'<p.2 h) (Q0 J vs++b) h
def W(P:Program)(n:Nat)(pl:Plan):Code->Jf->bK->zc->Prop
 |.skip,Q,e,h=>Q .normal e h
 |.ret,Q,e,h=>Q .ret e h
 |.exit id,Q,e,h=>Q (.exit id) e h
 |.label _,Q,e,h=>Q .normal e h
 |.goto l,Q,e,h=>Q (.goto l) e h
 |.region id ops draw,Q,e,h=>regionF P n pl.tails id ops draw (λe h=>Q .normal e h) e h
 |.seq x y,Q,e,h=>match qJ pl.joins (y9 y)with
  |none=>W P n pl x (mB (λe h=>W P n pl y Q e h) Q) e h
  |some J=>Cn J (λe h=>W P n pl y Q e h) (λK=>W P n pl x (mB K Q) e h) (J3 (xf x) e)
 |.cond c x y,Q,e,h=>match Xd e [] c with
  |some (.bool b)=>(b=Ta->W P n pl x Q e h)/\(b=Tc->W P n pl y Q e h)
  |_=>False
 |.block id x,Q,e,h=>W P n pl x (mu id Q) e h
 |.loop x,Q,e,h=>match qJ pl.loops (y9 x)with
  |some J=>AO J (λf e h=>W P n pl x (mB f Q) e h) (J3 (xf x) e) e h
  |none=>False
 |.scope x,Q,e,h=>W P n pl x (QJ Q) e h
 |_,_,_,_=>False
def Ij(n:Nat)(B:World)(ms:List Nat)(a0:Act)(Q:Jf):Exit->Act->World->Prop:=
 λx a w=>∃e d h,w=mk B d h/\Sat n e a/\Same ms a0 a/\Q x e h
theorem Xr{X:Type}{J:iP}{F:kw (ju J) X}{k:X->Prop}(h:pS J F e k):∃vs q,Xe (ml e) J=Td vs/\iY (ju J) vs F=Td q/\k q:=by unfold pS at h;split at h;rename_i vs c;split at h;rename_i q b;exact⟨vs,q,c,b,h⟩;exact h.elim;exact h.elim
theorem UL(hm:P.follows .mixedOrders=Ta){pl:Plan}:∀(c:Code) (Q:Jf) (e:bK) (h:zc),W P n pl c Q e h ->
  ∀(B:World) (d:Nat) (a:Act),Sat n e a->c.wp P (Ij n B (xf c) a Q) a (mk B d h):=by
 intro c;induction c with
 |skip=>exact λQ e h H B d a f=>wp_skip ⟨e,d,h,rfl,f,Same.refl _ _,H⟩
 |ret=>exact λQ e h H B d a f=>wp_ret ⟨e,d,h,rfl,f,Same.refl _ _,H⟩
 |exit id=>exact λQ e h H B d a f=>wp_exit ⟨e,d,h,rfl,f,Same.refl _ _,H⟩
 |label l=>exact λQ e h H B d a f=>wp_label ⟨e,d,h,rfl,f,Same.refl _ _,H⟩
 |goto l=>exact λQ e h H B d a f=>wp_goto ⟨e,d,h,rfl,f,Same.refl _ _,H⟩
 |region id ops aj=>exact λQ e h H B d a f=>Fv hm H B d f λe' a' d' h' j o q3=>⟨e',d',h',rfl,j,o,q3⟩
 |seq x y z A=>
  intro Q e h H B d a f;simp only[W]at H;have E:∀i∈xf x,i∈xf (x.seq y):=λi hi=>YM _ hi;have O:∀i∈xf y,i∈xf (x.seq y):=λi hi=>ZD _ hi;split at H;refine wp_seq (wp_mono (z _ _ _ H B d a f) ?_);rintro ex a1 w1 ⟨t,d1,h1,rfl,s1,m,j⟩;cases ex with
  |normal=>refine wp_mono (A _ _ _ j B d1 a1 s1) ?_;rintro ex a2 w2 ⟨r,d2,u,rfl,s2,w,o⟩;exact⟨r,d2,u,rfl,s2,(m.mono E).trans (w.mono O),o⟩
  |_=>exact⟨t,d1,h1,rfl,s1,m.mono E,j⟩
  rename_i J hJ;have H':=H (nT (ju J) λvs=>λh=>W P n pl y Q (Q0 J vs++J3 (xf x) e) h) (AF λvs h G=>G);refine wp_seq (wp_mono (z _ _ _ H' B d a f) ?_);rintro ex a1 w1 ⟨t,d1,h1,rfl,s1,m,j⟩;cases ex with
  |normal=>obtain⟨vs,q,N,G,hk⟩:=Xr j;have Y:=AN G;subst Y;have S:Sat n (Q0 J vs++J3 (xf x) e) a1:=Xq f s1.defers s1.size m (yj s1 N);refine wp_mono (A _ _ _ hk B d1 a1 S) ?_;rintro ex a2 w2 ⟨r,d2,u,rfl,s2,w,o⟩;exact⟨r,d2,u,rfl,s2,(m.mono E).trans (w.mono O),o⟩
  |_=>exact⟨t,d1,h1,rfl,s1,m.mono E,j⟩
 |cond c x y z A=>intro Q e h H B d a f;simp only[W]at H;have E:∀i∈xf x,i∈xf (zdn c x y):=λi hi=>YM _ hi;have O:∀i∈xf y,i∈xf (zdn c x y):=λi hi=>ZD _ hi;split at H;rename_i b C;refine wp_cond_split (qu f (c:=[]) trivial C) (λT=>?_) (λab=>?_);refine wp_mono (z _ _ _ (H.1 T) B d a f) ?_;rintro ex a2 w2 ⟨r,d2,u,rfl,s2,w,o⟩;exact⟨r,d2,u,rfl,s2,w.mono E,o⟩;refine wp_mono (A _ _ _ (H.2 ab) B d a f) ?_;rintro ex a2 w2 ⟨r,d2,u,rfl,s2,w,o⟩;exact⟨r,d2,u,rfl,s2,w.mono O,o⟩;exact H.elim
 |block id x L=>
  intro Q e h H B d a f;refine wp_block (wp_mono (L _ _ _ H B d a f) ?_);rintro ex a1 w1 ⟨t,d1,h1,rfl,s1,m,j⟩;cases ex with
  |exit i=>simp only[mu]at j;simp only[Exit.inBlock];by_cases C:Nat.beq i id=Ta;rw[zb (YC C)];simp only[C,zI]at j;exact⟨t,d1,h1,rfl,s1,m,j⟩;rw[za (λhe=>C (by rw[he];simp))];simp only[C,zJ]at j;exact⟨t,d1,h1,rfl,s1,m,j⟩
  |_=>exact⟨t,d1,h1,rfl,s1,m,j⟩
 |loop x L=>
  intro Q e h H B d a f;simp only[W]at H;split at H;rename_i J hJ;obtain⟨I,μ,h0,D⟩:=H;obtain⟨aa,p0,ah,ai,af⟩:=Xr h0;let F:=nZ (ju J) I μ;let at_:Act->Option ((zc->Prop)×(zc->Nat)):=λa1=>(Xe (λi=>Td (qh a1 i)) J).bind λvs=>iY (ju J) vs F;refine wp_loop (λa1 w1=>∃d1 h1 vs p,w1=mk B d1 h1/\a1.defers=[]/\a1.tmps.size=n/\Same (xf x) a a1/\Xe (λi=>Td (qh a1 i)) J=Td vs/\iY (ju J) vs F=Td p/\p.1 h1) (λa1 w1=>match at_ a1 with|some p=>p.2 w1.heap|none=>0) ⟨d,h,aa,p0,rfl,f.defers,f.size,Same.refl _ _,yj f ah,ai,af⟩ ?_;rintro a1 w1 ⟨d1,h1,vs,p,rfl,U,ae,k,N,hp,hI⟩;have s1:Sat n (Q0 J vs++J3 (xf x) e) a1:=Xq f U ae k N;have C:=vh hp D h1 hI;refine wp_mono (L _ _ _ C B d1 a1 s1) ?_;rintro ex a2 w2 ⟨r,d2,u,rfl,s2,w,o⟩;cases ex with
  |normal=>
   obtain⟨Z,q,M,G,V,ac⟩:=Xr o;refine⟨⟨d2,u,Z,q,rfl,s2.defers,s2.size,k.trans w,yj s2 M,G,V⟩,?_⟩;have t:at_ a1=Td p:=by simp only[at_,N,zbj];exact hp
   have r:at_ a2=Td q:=by simp only[at_,yj s2 M,zbj];exact G
   rw[t,r];exact ac
  |_=>exact⟨r,d2,u,rfl,s2,k.trans w,o⟩
  exact H.elim
 |scope x L=>
  intro Q e h H B d a f;refine wp_scope_straight (wp_mono (L _ _ _ H B d a f) ?_);rintro ex a1 w1 ⟨t,d1,h1,rfl,s1,m,j⟩;cases ex with
  |goto l=>exact j
  |_=>exact⟨t,d1,h1,rfl,s1,m,j⟩
 |_=>exact λQ e h H=>H.elim
def lD:Nat->List Value->bK
 |_,[]=>[]
 |i,v::vs=>(i,[],v)::lD (i+1) vs
def kZ(P:Program)(h:zc)(e:bK):List ResultVar->(List Value->Prop)->Prop
 |[],K=>K []
 |.tmp t::l,K=>match ml e t with
  |some v=>kZ P h e l λvs=>K (v::vs)
  |none=>False
 |.cell a t::l,K=>match ml e a with
  |some p=>mZ P h t p Te λv=>kZ P h e l λvs=>K (v::vs)
  |none=>False
def lz:List Value->Value
 |[v]=>v
 |vs=>.tuple vs.toArray
def uo(P:Program)(rs:List ResultVar)(R:Value->zc->Prop):Jf
 |.normal,e,h=>kZ P h e rs λvs=>R (lz vs) h
 |.ret,e,h=>kZ P h e rs λvs=>R (lz vs) h
 |_,_,_=>False
def nv(tmps:Array Value):ResultVar->Sem Value
 |.tmp t=>pure (tmps.getD t undef)
 |.cell a t=>do loadVar t (<-asAddr (tmps.getD a undef))
theorem AZ{P:Program}{n:Nat}{h:zc}{e:bK}{a:Act}(c:Sat n e a):∀{l:List ResultVar} {K:List Value->Prop},kZ P h e l K->∃vs,K vs/\vs.length=l.length/\QExec P (l.mapM (nv a.tmps)) h vs
 |[],K,H=>⟨[],H,rfl,λ_ _=>by simp⟩
 |.tmp t::l,K,H=>by simp only[kZ]at H;split at H;rename_i v o;obtain⟨vs,h1,f,i⟩:=AZ c H;refine⟨v::vs,h1,by simp[f],?_⟩;rw[zdh];refine QExec.bind (x:=v) ?_ (i.bind (QExec.pure _));rw[<-Q1 c o];exact QExec.pure _;exact H.elim
 |.cell x t::l,K,H=>by simp only[kZ]at H;split at H;rename_i p j;obtain⟨v,r,m⟩:=Fy H;obtain⟨vs,h1,f,i⟩:=AZ c r;refine⟨v::vs,h1,by simp[f],?_⟩;rw[zdh];refine QExec.bind (x:=v) ?_ (i.bind (QExec.pure _));have k:a.tmps.getD x undef=p:=Q1 c j;simp only[nv,k];have b:=m trivial;unfold zc6 at b;unfold mZ at H;split at H;exact b;exact b;exact H.elim;exact H.elim
theorem Q2{fn:Func}(j:Sat n e a){rs:List ResultVar}(f:fn.results.toList=rs)(H:kZ P h e rs λvs=>R (lz vs) h):
  ∃v,R v h/\QExec P (results fn a.tmps) h v:=by
 obtain⟨vs,h1,c,i⟩:=AZ j H;refine⟨_,h1,?_⟩;intro B d;have b:results fn a.tmps=(fn.results.mapM (nv a.tmps) >>= λvs=>zcj (if h:vs.size=1 then vs[0]else .tuple vs)):=by unfold results;congr 1
 rw[b,Array.mapM_eq_mapM_toList,f,Sem.run_bind,Sem.run_map,i B d];simp only[Result.andThen_ok,Sem.run_pure]
 match vs,c with
 |[],_=>rfl
 |[v],_=>rfl
 |v::u::vs,_=>simp[lz]
theorem uu(args:Array Value)(k:Nat):∀(vs:List Value) (i:Nat),(∀j v,vs[j]?=Td v->(args++za0 k undef).getD (i+j) undef=v) ->
  ∀x∈lD i vs,fact (λi=>(args++za0 k undef).getD i undef) x
 |[],_,_,x,b=>by cases b
 |v::vs,i,h,x,b=>by simp only[lD,YB]at b;rcases b with rfl|b;exact⟨λ_=>h 0 v rfl,λe=>absurd trivial e⟩;exact uu args k vs (i+1) (λj u c=>by have:=h (j+1) u (by simpa using c);rwa[show i+(j+1)=i+1+j by omega]at this) x b
theorem RH(u:P.follows .mixedOrders=Ta){fn:Func}{c:Code}(pl:Plan)(vs:List Value){rs:List ResultVar}(p:P.funcs[f]?=Td fn)(o:fn.body=Td c)(m:fn.results.toList=rs)(t:fn.ntmps=n)
  (hz:Nat.ble vs.length n=Ta) (H:W P n pl c (uo P rs R) (lD 0 vs) h):XC P f vs.toArray h R:=by
 intro B d;subst t;refine calls_of_wp p o ?_;have x:vs.length<=fn.ntmps:=za3 hz;have r:Sat fn.ntmps (lD 0 vs) { tmps:=vs.toArray++za0 (fn.ntmps-vs.toArray.size) undef,defers:=[] }:=by
  refine⟨rfl,by simp;omega,?_⟩;refine uu vs.toArray _ vs 0 λj v k=>?_;have i:j<vs.length:=by rcases ZX j vs.length with h|h;exact h;rw[ZQ h]at k;cases k
  simp only[YP,zas];rw[zb0 (by simpa using i)];simp[k]
 refine wp_mono (UL u c _ _ _ H B d _ r) ?_;rintro ex a w ⟨z,d1,h1,rfl,s1,y,e⟩;cases ex with
 |normal=>obtain⟨v,l,b⟩:=Q2 s1 m e;exact⟨s1.defers,v,b B d1,v,d1,h1,rfl,rfl,l⟩
 |ret=>obtain⟨v,l,b⟩:=Q2 s1 m e;exact⟨s1.defers,v,b B d1,v,d1,h1,rfl,rfl,l⟩
 |_=>exact e.elim
def codeOf(fn:Func):Code:=match fn.body with
 |some c=>c
 |none=>.skip
def Q3(fn:Func):Bool:=match fn.body with
 |some _=>Ta
 |none=>Tc
theorem Sv(i:P.follows .mixedOrders=Ta)(pl:Plan)(vs:List Value){fn:Func}{rs:List ResultVar}(j:P.funcs[f]?=Td fn)(e:Q3 fn=Ta)(k:fn.results.toList=rs)(m:fn.ntmps=n)
  (hz:Nat.ble vs.length n=Ta) (H:W P n pl (codeOf fn) (uo P rs R) (lD 0 vs) h):XC P f vs.toArray h R:=by
 have b:fn.body=Td (codeOf fn):=by unfold Q3 at e;unfold codeOf;split at e;rename_i c l;rw[l];cases e
 exact RH i pl vs j b k m hz H
end
section
variable {n:Nat} {h h':zc} {a:Addr} {e t ty:TypeId} {xs news:List Value} {P:Program} {z:Value}
theorem qm(h:zc)(o:Obj):(h.push o)[h.size]?=Td o:=by simp
theorem Ox(k:Keep n h h')(b:a.block<n):zd h' a=zd h a:=by unfold zd;rw[k.get _ b]
theorem E8(e:h'[a.block]?=h[a.block]?):zd h' a=zd h a:=by unfold zd;rw[e]
def Arr(n:Nat)(h:zc)(a:Option Addr)(cs:List Value):Prop:=
 cs=[]\/∃b o,a=Td ⟨b,o,Te⟩/\b<n/\∀i v,cs[i]?=Td v->zd h ⟨b,o+i,Te⟩=Td v
theorem Arr.keep{a:Option Addr}{cs:List Value}(H:Arr n h a cs)(k:Keep n h h'):Arr n h' a cs:=by rcases H with e|⟨b,o,e,c,f⟩;exact .inl e;exact .inr ⟨b,o,e,c,λi v hi=>(Ox k (a:=⟨b,o+i,Te⟩) c).trans (f i v hi)⟩
theorem zh(b o i:Nat):(⟨b,o,Te⟩:Addr).add i=⟨b,o+i,Te⟩:=by unfold XT;split;rename_i h;rw[h];rfl;rfl
theorem CQ(a:Option Addr)(sz m:Nat):iG a sz 0 m=a:=by
 unfold iG;split;rfl;cases a with
 |none=>rfl
 |some p=>simp[XT]
theorem wrap64{n:Int}(h1:-9223372036854775808<=n)(f:n<=9223372036854775807):XS .i64 n=n:=by
 unfold XS;have e:(2:Int) ^ zah .i64=18446744073709551616:=by decide
 have b:(2:Int) ^ (zah .i64-1)=9223372036854775808:=by decide
 simp only[e,b];have c:zdi .i64=Ta:=rfl;simp only[c,zal,zv];split <;> omega
theorem zu{k:Nat}(h:k<9223372036854775807):XS .i64 ((k:Int)+1)=((k+1:Nat):Int):=by rw[wrap64 (by omega) (by omega)];omega
def Owns(h:zc)(base:Nat)(e:TypeId)(sz:Nat)(s:Sl)(xs:List Value):Prop:=
 (mk default 0 h).ownsRow base e sz (.slice s.a s.len s.cap) s.len xs
theorem Owns.nil(h:zc)(base:Nat)(e:TypeId)(sz:Nat):Owns h base e sz ⟨Te,0,0⟩ []:=World.ownsRow_nil _ _ _ _
theorem Owns.length{base:Nat}{sz:Nat}{s:Sl}(H:Owns h base e sz s xs):xs.length=s.len*sz:=H.1
theorem Owns.arr{base:Nat}{sz:Nat}{s:Sl}(H:Owns h base e sz s xs):Arr h.size h s.a xs:=by rcases H.2 with⟨j,h0⟩|⟨g,cap,b,j,p,l,n,r,o,m⟩;have k:=H.1;rw[h0]at k;exact .inl (by simpa using k);simp only[ZG]at j;have c:g<h.size:=(YE.1 l).1;refine .inr ⟨g,0,j.1,c,λi v hi=>?_⟩;have f:h[g]?=Td (.cells b e (0,0)):=l;unfold zd;simp only[f,YP,Option.isSome_none,zad,if_false];rw[<-m,ZJ]at hi;split at hi;simpa using hi;cases hi
theorem Owns.base_le{base:Nat}{sz:Nat}{s:Sl}(H:Owns h base e sz s xs):∀p,s.a=Td p->base<=p.block/\p.block<h.size:=by intro p b;exact World.ownsRow.lt H p.block (by simp[Value.ownBlock,b])
theorem Owns.keep{base:Nat}{sz:Nat}{s:Sl}(H:Owns h base e sz s xs)(k:∀p,s.a=Td p->h'[p.block]?=h[p.block]?):Owns h' base e sz s xs:=by refine⟨H.1,?_⟩;rcases H.2 with j|⟨g,cap,b,c,f,i,rest⟩;exact .inl j;simp only[ZG]at c;refine .inr ⟨g,cap,b,by simp[c],f,?_,rest⟩;have:=k _ c.1;exact this.trans i
theorem Owns.keepN{base:Nat}{sz:Nat}{s:Sl}(H:Owns h base e sz s xs)(k:Keep h.size h h'):Owns h' base e sz s xs:= H.keep λp b=>k.get _ (H.base_le p b).2
structure ElemT (P:Program) (t e:TypeId) (z:Value) (sz bytes:Nat):Prop where
 slice:P.underlying t=Td (.slice e)
 info:∃i,P.info? e=Td i/\i.zero=Td z/\i.size=sz/\i.bytes=bytes
 zero:z.cells.size=sz
 pos:0<sz
theorem IX{w:World}{i:TypeInfo}{sz bytes base:Nat}(D:P.underlying t=Td (.slice e))(hi:P.info? e=Td i)(hz:i.zero=Td z)(F:i.size=sz)(G:i.bytes=bytes) {v:Value} (o:w.ownsRow base e sz v n xs) {m c:Nat} (C:news.length=m*sz) (f:∀j u,news[j]?=Td u->w.cell? (a.add j)=Td u) (h1:∀u∈news,u.oneCell'=Ta) (Q:n+m<=4611686018427387904) (h:(n+m)*bytes<=140737488355328) {J:Value} {w':World} (k:(YO #[t,t] ty #[v,.slice (Td a) m c]).run P w=.ok J w'):
  ∀E l L,J=.slice (Td E) l L->(∃p S Z,v=.slice (Td p) S Z/\E.block=p.block)\/E.block=w.heap.size:=by
 subst F G;intro E l L b;rcases o.2 with⟨rfl,rfl⟩|⟨g,cap,A,rfl,T,O,U,M,I,H⟩;by_cases Y:m=0;subst Y;have V:news=[]:=YU (by simpa using C);subst V;have y:(YO #[t,t] ty #[.slice Te 0 0,.slice (Td a) 0 c]).run P w=.ok (.slice Te 0 0) w:=by simp[YO,run_underlying D,sizeOf,typeInfo,hi,Builtin.lenOf,zbv,loadCells,loadCellsFrom]
 rw[y]at k;simp only[zdr]at k;rw[<-k.1]at b;cases b;have y:=run_append_nil (P:=P) (ty:=ty) w t e i z D hi hz a m c news C f (by omega) (by omega) (by have N:=h;simp only[YP]at N;omega);rw[y]at k;simp only[zdr]at k;rw[<-k.1]at b;simp only[ZG,XU]at b;exact .inr (by rw[<-b.1]);by_cases r:n+m<=cap;have B:n*i.size+news.length<=A.size:=by rw[C,I,<-za4];exact ZK _ r
 have y:=run_append_room (P:=P) (ty:=ty) w t e i D hi g n cap A O a m c news C f h1 r B;rw[y]at k;simp only[zdr]at k;rw[<-k.1]at b;simp only[ZG,XU]at b;exact .inl ⟨_,_,_,rfl,by rw[<-b.1]⟩;have x:∀j u,xs[j]?=Td u->w.cell? ((⟨g,0,Te⟩:Addr).add j)=Td u:=o.cells (g:=g) rfl;have y:=run_append_grow (P:=P) (ty:=ty) w t e i z D hi hz ⟨g,0,Te⟩ n cap xs o.1 x a m c news C f (by omega) (by omega) (growslice_fits (by omega) h);rw[y]at k;simp only[zdr]at k;rw[<-k.1]at b;simp only[ZG,XU]at b;exact .inr (by rw[<-b.1])
theorem Zs{sz bytes:Nat}(T:ElemT P t e z sz bytes){base:Nat}{s:Sl}(H:Owns h base e sz s xs) {src:Sl} (hs:Arr n h src.a news) (hl:news.length=src.len*sz) (h1:∀u∈news,u.oneCell'=Ta) (c:(s.len+src.len)*bytes<=140737488355328) (y:s.len+src.len<=4611686018427387904) (x:base<=h.size) {K:Value->zc->Prop} (hK:∀(k:Sl) (h':zc),k.len=s.len+src.len->Owns h' base e sz k (xs++news)->(∀i,i<h.size->(∀p,s.a=Td p->i≠p.block)->h'[i]?=h[i]?)->h.size<=h'.size->(∀m,k.a=Td m->(∃p,s.a=Td p/\m.block=p.block)\/m.block=h.size)->K (.slice k.a k.len k.cap) h'):
  yp P (YO #[t,t] ty #[.slice s.a s.len s.cap,.slice src.a src.len src.cap]) h K:=by
 intro B d;obtain⟨i,hi,hz,D,E⟩:=T.info;have key:∃C w',(YO #[t,t] ty #[.slice s.a s.len s.cap,.slice src.a src.len src.cap]).run P (mk B d h)=.ok C w'/\w'.ownsRow base e sz C (s.len+src.len) (xs++news)/\(mk B d h).grownBy w' (Value.ownBlock (.slice s.a s.len s.cap)) /\
   ∀m l N,C=.slice (Td m) l N->(∃p,s.a=Td p/\m.block=p.block)\/m.block=h.size:=by
  have f:(mk B d h).ownsRow base e sz (.slice s.a s.len s.cap) s.len xs:=H;rcases hs with V|⟨b,o,V,S,hc⟩;subst V;have h0:src.len=0:=by rcases zcy src.len with h0|h0;exact h0;have:=Nat.mul_pos h0 T.pos;simp at hl;omega
  rw[h0];have Q:∃q,q=src.a:=⟨_,rfl⟩;obtain⟨q,J⟩:=Q;rw[<-J];cases q with
  |none=>
   refine⟨_,mk B d h,?_,by simpa using f,⟨rfl,rfl,rfl,XV _,λ_ _ _=>rfl⟩,λm l N r=>.inl ⟨m,by simp only[ZG]at r;exact r.1,rfl⟩⟩;have hT:=T.slice;have ab:s.len<=s.cap:=by rcases f.2 with⟨I,U⟩|⟨g,cap,aa,I,_,_,ac,_⟩;omega;simp only[ZG]at I;omega
   generalize s.a=sa at *;cases sa <;> simp[YO,run_underlying hT,sizeOf,typeInfo,hi,Builtin.lenOf,zbv,ab,storeCells]
  |some p=>obtain⟨C,w',F,L,A,_⟩:=run_append_own (P:=P) (w:=mk B d h) base t ty e i z sz bytes T.slice hi hz D E T.zero T.pos (.slice s.a s.len s.cap) s.len xs f p 0 src.cap [] (by simp) (by simp) (by simp) (by unfold maxLen;omega) (by rw[h0]at c;exact c) x;refine⟨C,w',F,L,A,λm l N r=>?_⟩;rcases IX T.slice hi hz D E f (news:=[]) (by simp) (by simp) (by simp) (by rw[h0]at y;exact y) (by rw[h0]at c;exact c) F m l N r with⟨q,l0,c0,J,S⟩|S;simp only[ZG]at J;exact .inl ⟨q,J.1,S⟩;exact .inr S
  rw[V];obtain⟨C,w',F,L,A,_⟩:=run_append_own (P:=P) (w:=mk B d h) base t ty e i z sz bytes T.slice hi hz D E T.zero T.pos (.slice s.a s.len s.cap) s.len xs f ⟨b,o,Te⟩ src.len src.cap news hl (λj u hu=>by rw[zh];exact hc j u hu) h1 (by unfold maxLen;omega) c x;refine⟨C,w',F,L,A,λm l N r=>?_⟩;rcases IX T.slice hi hz D E f hl (λj u hu=>by rw[zh];exact hc j u hu) h1 y c F m l N r with⟨q,l0,c0,J,M⟩|M;simp only[ZG]at J;exact .inl ⟨q,J.1,M⟩;exact .inr M
 obtain⟨C,w',F,L,A,r4⟩:=key;have hw:w'=mk B w'.drawn w'.heap:=by have I:=A.os;have U:=A.tape;have e3:=A.output;cases w';simp only[mk]at *;subst I;subst U;subst e3;rfl
 rw[hw]at F;have hv:∃k:Sl,C=.slice k.a k.len k.cap/\k.len=s.len+src.len:=by rcases L.2 with⟨I,U⟩|⟨g,cap,aa,I,_⟩;exact⟨⟨Te,0,0⟩,I,U.symm⟩;exact⟨⟨Td ⟨g,0,Te⟩,s.len+src.len,cap⟩,I,rfl⟩
 obtain⟨k,rfl,G⟩:=hv;refine⟨_,_,_,F,hK k w'.heap G ?_ ?_ A.size λm Z=>r4 m k.len k.cap (by rw[Z])⟩;rw[<-G]at L;exact L;intro j hj Y;refine A.block j hj λO=>?_;cases Q:s.a with
 |none=>rw[Q]at O;cases O
 |some p=>rw[Q]at O;simp only[Value.ownBlock,XU]at O;exact Y p Q O
end
section
variable {h:zc} {m:Nat} {P:Program} {kt t et:TypeId} {z:Value}
def hX(l:List (Bt×Value))(k:Bt):Option Value:=match l with
 |[]=>Te
 |p::l=>if p.1=k then Td p.2 else hX l k
def kU(l:List (Bt×Value))(k:Bt)(v:Value):List (Bt×Value):=match l with
 |[]=>[(k,v)]
 |p::l=>if p.1=k then(k,v)::l else p::kU l k v
theorem RP(l:List (Bt×Value))(k c:Bt)(v:Value):hX (kU l k v) c=if k=c then Td v else hX l c:=by
 induction l with
 |nil=>simp[kU,hX]
 |cons p l f=>simp only[kU];split;rename_i h;simp only[hX];split <;> rename_i b;rfl;rw[h];simp[b];rename_i h;simp only[hX,f];split <;> rename_i b;rw[za (λe=>h (b.trans e.symm))];rfl
def MapAt(h:zc)(m:Nat)(l:List (Bt×Value)):Prop:=∃c b,h[m]?=Td (.map c b)/\c.toList.map (λe=>(e.key,e.val))=l.map λp=>(ZC p.1,p.2)
theorem MapAt.keep{h h':zc}{l:List (Bt×Value)}(H:MapAt h m l)(k:h'[m]?=h[m]?):MapAt h' m l:=by obtain⟨e,c,h1,b⟩:=H;exact⟨e,c,k.trans h1,b⟩
theorem MapAt.lt{l:List (Bt×Value)}(H:MapAt h m l):m<h.size:=by obtain⟨b,c,h1,e⟩:=H;exact(YE.1 h1).1
theorem MapAt.new(h:zc):MapAt (h.push (.map #[] 0)) h.size []:=⟨#[],0,qm _ _,rfl⟩
structure MapT (P:Program) (t kt et:TypeId) (z:Value):Prop where
 map:P.underlying t=Td (.map kt et)
 key:P.underlying kt=Td .string
 zero:∃i,P.info? et=Td i/\i.zero=Td z
theorem og(a b:Bt):(a==b)=decide (a=b):=by show ByteArray.beq a b=_;cases a;cases b;rw[YW];simp[ByteArray.beq]
instance lawfulBA:LawfulBEq Bt where
 eq_of_beq:=λ {a b} h=>by rw[og]at h;simpa using h
 rfl:=λ {a}=>by rw[og];simp
theorem J4(k:Bt):∀(f:List MapEntry) (l:List (Bt×Value)) (i:Nat),f.map (λe=>(e.key,e.val))=l.map (λp=>(ZC p.1,p.2)) ->
  (hX l k=Te/\zbr .string (.string k) f i=Td Te)\/(∃j v e,hX l k=Td v/\f[j]?=Td e/\e.key=.string k/\e.val=v/\zbr .string (.string k) f i=Td (Td (i+j,v)) /\ ∀w,(f.modify j λe=>{ e with key:=.string k,val:=w }).map (λe=>(e.key,e.val))=(kU l k w).map λp=>(ZC p.1,p.2))
 |[],l,i,h=>by
  have:l=[]:=by cases l <;> simp_all
  subst this;exact .inl ⟨rfl,rfl⟩
 |e::f,l,i,h=>by
  cases l with
  |nil=>simp at h
  |cons p l=>
   simp only[ZE,zbs,zar]at h;obtain⟨⟨h1,m⟩,n⟩:=h;by_cases c:p.1=k;refine .inr ⟨0,p.2,e,by simp[hX,c],rfl,by rw[h1,c],m,?_,λw=>?_⟩;have b:(k==p.1)=Ta:=by rw[og];simpa using c.symm
   simp[zbr,zde,h1,m,b];simp[kU,c,n];have b:(k==p.1)=Tc:=by rw[og];simpa using λe=>c e.symm
   rcases J4 k f l (i+1) n with⟨g1,g2⟩|⟨j,v,u,g1,g2,x,o,t,r⟩;refine .inl ⟨by simp[hX,c,g1],?_⟩;simp[zbr,zde,h1,b,g2];refine .inr ⟨j+1,v,u,by simp[hX,c,g1],by simpa using g2,x,o,?_,λw=>?_⟩;simp[zbr,zde,h1,b,t];omega;simp[kU,c,h1,m,r w]
theorem Xs(c:P.underlying kt=Td .string)(b:Bool)(k:Bt)(h:zc):QExec P (Instr.checkKey b 10000 kt (.string k)) h ():=by intro B d;have e:=QExec.underlying (h:=h) c B d;unfold Instr.checkKey;rw[Sem.run_bind,e];rfl
theorem Zt(c:P.underlying kt=Td .string)(k:Bt)(b:List MapEntry)(r:Option (Nat×Value))(h:zc)(e:zbr .string (.string k) b 0=Td r):
  QExec P (Instr.findKey kt (.string k) b) h r:=by
 intro B d;have f:=QExec.underlying (h:=h) c B d;unfold Instr.findKey;rw[Sem.run_bind,f];simp only[Result.andThen_ok,e];rfl
theorem Qr{b:Array MapEntry}{c:Nat}(e:h[m]?=Td (.map b c)):QExec P (getObj m) h (.map b c):=by intro B d;have:(mk B d h).heap[m]?=Td (.map b c):=e;simp[getObj,Sem.run,this]
theorem Tv(hz:∃i,P.info? t=Td i/\i.zero=Td z):QExec P (zeroValue t) h z:=by obtain⟨i,h1,b⟩:=hz;intro B d;simp[zeroValue,typeInfo,program,h1,b,Sem.run]
def jD(l:List (Bt×Value))(k:Bt)(z:Value):Value:=(hX l k).getD z
theorem Q4(T:MapT P t kt et z){l:List (Bt×Value)}(H:MapAt h m l)(k:Bt)(ok:Bool):
  QExec P (zbe t (.map (Td m)) (.string k) ok) h (if ok then .tuple #[jD l k z,.bool (hX l k).isSome]else jD l k z):=by
 obtain⟨b,c,h1,f⟩:=H;intro B d;have i:=QExec.underlying (h:=h) T.map B d;have n:=Qr (P:=P) h1 B d;have p:=Xs T.key b.isEmpty k h B d;unfold zbe;rw[Sem.run_bind,i];simp only[Result.andThen_ok,Sem.run_bind,n,Sem.run_pure,p];rcases J4 k b.toList l 0 f with⟨g1,g2⟩|⟨j,v,e,g1,g2,u,r,o,_⟩;rw[Zt T.key k b.toList Te h g2 B d];have hz:=Tv (h:=h) T.zero B d;simp only[Result.andThen_ok,Sem.run_bind,hz,Sem.run_pure,jD,g1];cases ok <;> rfl;rw[Zt T.key k b.toList _ h o B d];simp only[Result.andThen_ok,jD,g1];cases ok <;> rfl
theorem J5{l:List (Bt×Value)}{k:Bt}{v:Value}(g:hX l k=Te):kU l k v=l++[(k,v)]:=by
 induction l with
 |nil=>rfl
 |cons p l c=>simp only[hX]at g;split at g;cases g;rename_i b;simp[kU,b,c g]
theorem VC(T:MapT P t kt et z){l:List (Bt×Value)}(H:MapAt h m l)(k:Bt)(v:Value){K:zc->Prop}
  (y:∀h':zc,MapAt h' m (kU l k v)->h'.size=h.size->(∀i,i≠m->h'[i]?=h[i]?)->K h'):XRunU P (zbc t (.map (Td m)) (.string k) v) h K:=by
 have n:=H.lt;obtain⟨f,c,h1,r⟩:=H;intro B d;have u:=QExec.underlying (h:=h) T.map B d;have x:=Qr (P:=P) h1 B d;have A:=Xs T.key Tc k h B d;have b:∀o:Obj,(setObj m o).run P (mk B d h)=.ok () (mk B d (h.setIfInBounds m o)):=by intro o;have:(mk B d h).heap[m]?=Td (.map f c):=h1;simp[setObj,Sem.run,this];rfl
 unfold zbc;rcases J4 k f.toList l 0 r with⟨g1,g2⟩|⟨j,I,e,g1,g2,F,G,E,C⟩;refine⟨d,h.setIfInBounds m (.map (f.push { key:=.string k,val:=v,born:=c }) (c+1)),?_,y _ ⟨f.push { key:=.string k,val:=v,born:=c },c+1,by simp[n],?_⟩ (by simp) (λi hi=>by rw[YV (Ne.symm hi)])⟩;rw[Sem.run_bind,u];simp only[Result.andThen_ok,Sem.run_bind,x,A];rw[Zt T.key k f.toList Te h g2 B d];simp only[Result.andThen_ok];exact b _;rw[J5 g1];simp[r];have w:j<f.size:=by have:=(ZV.1 g2).1;simpa using this
 refine⟨d,_,?_,y (h.setIfInBounds m (.map (f.modify j λe=>{ e with key:=.string k,val:=v }) c)) ⟨f.modify j λe=>{ e with key:=.string k,val:=v },c,by simp[n],?_⟩ (by simp) (λi hi=>by rw[YV (Ne.symm hi)])⟩;rw[Sem.run_bind,u];simp only[Result.andThen_ok,Sem.run_bind,x,A];rw[Zt T.key k f.toList _ h E B d];simp only[Result.andThen_ok,YP];have p:((f[j]?).map (·.key)).getD (.string k)=.string k:=by
  have:f[j]?=Td e:=by simpa using g2
  rw[this];exact F
 rw[p];have D:zch (.string k) (.string k)=pure (.string k):=by unfold zch;rw[zb (by show(k==k)=Ta;rw[og];simp)]
 rw[D];exact b _;have:=C v;simpa using this
end
section
variable {h h':zc} {b n o:Nat} {cs:Array Value} {v:Value} {P:Program}
def Blk(h:zc)(b:Nat)(cs:Array Value):Prop:=∃T,h[b]?=Td (.cells cs T (0,0))
theorem Blk.keep(H:Blk h b cs)(k:h'[b]?=h[b]?):Blk h' b cs:=by obtain⟨T,e⟩:=H;exact⟨T,k.trans e⟩
theorem Blk.keepN(H:Blk h b cs)(k:Keep n h h')(c:b<n):Blk h' b cs:=H.keep (k.get b c)
theorem Blk.new(h:zc)(cs:Array Value)(T:TypeId):Blk (h.push (.cells cs T)) h.size cs:=⟨T,qm _ _⟩
theorem Blk.lt(H:Blk h b cs):b<h.size:=by obtain⟨T,e⟩:=H;exact(YE.1 e).1
theorem Blk.cell(H:Blk h b cs)(c:cs[o]?=Td v):zd h ⟨b,o,Te⟩=Td v:=by obtain⟨T,e⟩:=H;unfold zd;simp[e,c]
theorem Blk.cellAdd{b o k:Nat}(H:Blk h b cs)(c:cs[o+k]?=Td v):zd h ((⟨b,o,Te⟩:Addr).add k)=Td v:=by rw[zh];exact H.cell c
theorem Blk.ld{cs:List Value}(H:Blk h b cs.toArray):zf h ⟨b,0,Te⟩ 0 cs:=by
 have key:∀(l:List Value) (i:Nat),(∀j v,l[j]?=Td v->cs[i+j]?=Td v)->zf h ⟨b,0,Te⟩ i l:=by
  intro l;induction l with
  |nil=>intro i _;trivial
  |cons v l e=>intro i hi;refine⟨?_,e (i+1) λj u f=>?_⟩;rw[zh,YP];exact H.cell (by have:=hi 0 v rfl;simpa using this);have:=hi (j+1) u (by simpa using f);rwa[show i+(j+1)=i+1+j by omega]at this
 exact key cs 0 λj v c=>by simpa using c
theorem Keep.setBlk(o:Obj)(c:n<=b):Keep n h (h.setIfInBounds b o):= ⟨by simp,λi hi=>by rw[YV (by omega)]⟩
theorem vV(H:Blk h b cs)(B:World)(d:Nat):(mk B d h).frozen? ⟨b,o,Te⟩=Tc:=by obtain⟨T,e⟩:=H;have:(mk B d h).heap[b]?=Td (.cells cs T (0,0)):=e;simp[World.frozen?,this]
theorem EA{T:TypeId}(e:h[b]?=Td (.cells cs T (0,0)))(l:o<cs.size)(f:v.oneCell'=Ta)(B:World)(d:Nat):
  (store ⟨b,o,Te⟩ v).run P (mk B d h)=.ok () (mk B d (h.setIfInBounds b (.cells (cs.setIfInBounds o v) T (0,0)))):=by
 have m:(mk B d h).cell? ⟨b,o,Te⟩=Td cs[o]:=Blk.cell (h:=h) ⟨T,e⟩ (by simp[l]);have k:=vV (o:=o) (⟨T,e⟩:Blk h b cs) B d;have c:(mk B d h).setCell ⟨b,o,Te⟩ v=mk B d (h.setIfInBounds b (.cells (cs.setIfInBounds o v) T (0,0))):=by
  unfold World.setCell mk;simp only;congr 1;have j:b<h.size:=(YE.1 e).1;apply zdf;intro i;rw[Array.getElem?_modify];by_cases hi:i=b;subst hi;have n:h[i]=.cells cs T (0,0):=by have:=zae j;rw[e]at this;exact(ZA this).symm
  simp[j,n];rw[za (Ne.symm hi),YV (Ne.symm hi)]
 cases v with
 |agg x=>simp[Value.oneCell']at f
 |tuple x=>simp[Value.oneCell']at f
 |_=>simp only[store,Sem.run,m,k,zad,if_false,c]
theorem cells_one(b:v.oneCell'=Ta):v.cells=#[v]:=by cases v <;> first|rfl|simp[Value.oneCell']at b
theorem Q5{t:TypeId}(hi:yc P t=Ta)(k:yf P t=1)(H:Blk h b cs)(f:o<cs.size)(c:v.oneCell'=Ta){K:zc->Prop}
  (m:∀h':zc,Blk h' b (cs.setIfInBounds o v)->h'.size=h.size->(∀i,i≠b->h'[i]?=h[i]?)->K h'):XRunU P (YG t (.pointer (Td ⟨b,o,Te⟩)) v) h K:=by
 obtain⟨T,e⟩:=H;have j:b<h.size:=(YE.1 e).1;intro B d;refine⟨d,_,?_,m (h.setIfInBounds b (.cells (cs.setIfInBounds o v) T (0,0))) ⟨T,by simp[j]⟩ (by simp) λi hi=>by rw[YV (Ne.symm hi)]⟩;have hz:=QExec.sizeOf (P:=P) (h:=h) (jm hi).choose_spec B d;unfold YG zc2;simp only[Sem.run_bind,Sem.run_pure,Result.andThen_ok];unfold storeVar;rw[Sem.run_bind,hz];simp only[Result.andThen_ok];rw[k,cells_one c];simp only[zcl,YL,zag,YP,ne_eq,not_true_eq_false,if_false];show Sem.run P (storeCells ⟨b,o,Te⟩ [v]) _=_;unfold storeCells;rw[Sem.run_bind];have l:(⟨b,o,Te⟩:Addr).add 0=⟨b,o,Te⟩:=by rw[zh];rfl
 rw[l,EA e f c B d];rfl
theorem Y1{P:Program}{b:Nat}{T:TypeId}(B:World)(d:Nat):∀(vs:List Value) (i:Nat) (h:zc) (cs:Array Value),h[b]?=Td (.cells cs T (0,0))->i+vs.length<=cs.size->(∀v∈vs,v.oneCell'=Ta) ->
  ∃h',(storeCells ⟨b,0,Te⟩ vs i).run P (mk B d h)=.ok () (mk B d h')/\h'[b]?=Td (.cells (cs.toList.take i++vs++cs.toList.drop (i+vs.length)).toArray T (0,0))/\h'.size=h.size/\∀j,j≠b->h'[j]?=h[j]?
 |[],i,h,cs,e,_,_=>⟨h,rfl,by simpa using e,rfl,λ_ _=>rfl⟩
 |v::vs,i,h,cs,e,hl,hv=>by
  have n:b<h.size:=(YE.1 e).1;simp only[YL]at hl;have h1:=EA (P:=P) e (o:=i) (by omega) (hv v YJ) B d;have t:(h.setIfInBounds b (.cells (cs.setIfInBounds i v) T (0,0)))[b]?=Td (.cells (cs.setIfInBounds i v) T (0,0)):=by simp[n]
  have c:i+1+vs.length<=(cs.setIfInBounds i v).size:=by rw[ZL];omega
  obtain⟨h',l,p,k,r⟩:=Y1 (P:=P) B d vs (i+1) (h.setIfInBounds b (.cells (cs.setIfInBounds i v) T (0,0))) (cs.setIfInBounds i v) t c λu m=>hv u (XZ _ m);refine⟨h',?_,?_,by rw[k];simp,λj f=>by rw[r j f,YV (Ne.symm f)]⟩;unfold storeCells;rw[Sem.run_bind,zh,YP,h1];simp only[Result.andThen_ok];exact l;rw[p];congr 3;have hi:i<cs.toList.length:=by simp;omega
  simp only[Array.toList_setIfInBounds,YL];rw[List.take_set,List.drop_set_of_lt (by omega)];have w:(cs.toList.take (i+1)).set i v=cs.toList.take i++[v]:=by
   rw[YD hi,List.set_append_right _ _ (by simp;omega)];have:i-(cs.toList.take i).length=0:=by simp;omega
   rw[this];rfl
  rw[w,show i+(vs.length+1)=i+1+vs.length by omega];simp
theorem Owns.base{h:zc}{base b:Nat}{e:TypeId}{sz:Nat}{s:Sl}{xs:List Value}(H:Owns h base e sz s xs)(k:b<=base):Owns h b e sz s xs:=by refine⟨H.1,?_⟩;rcases H.2 with j|⟨g,cap,c,f,i,rest⟩;exact .inl j;exact .inr ⟨g,cap,c,f,by omega,rest⟩
end
end Go.X
end
section
namespace Go.X
variable {cs:List Value}
inductive Tr where
 |mk (kind:Int) (text:Bt) (keys:List Bt) (items:List Tr)
namespace Tr
@[reducible] def kind:Tr->Int|mk k _ _ _=>k
@[reducible] def text:Tr->Bt|mk _ s _ _=>s
@[reducible] def keys:Tr->List Bt|mk _ _ ks _=>ks
@[reducible] def items:Tr->List Tr|mk _ _ _ xs=>xs
@[simp] theorem XR(t:Tr):mk t.kind t.text t.keys t.items=t:=by cases t;rfl
instance:Inhabited Tr:=⟨mk 0 ⟨#[]⟩ [] []⟩
end Tr
inductive Ty where
 |int (k:IntKind)|bool|str|row (t:Ty)|tree|unit|pair (a b:Ty)|ptr (t:Ty)|iter|err
 deriving DecidableEq
@[reducible] def El:Ty->Type
 |.int _=>Int
 |.bool=>Bool
 |.str=>Bt
 |.row t=>List (El t)
 |.tree=>Tr
 |.unit=>Unit
 |.pair a b=>El a×El b
 |.ptr t=>El t
 |.iter=>Bt×Nat
 |.err=>Bool
def pH:(t:Ty)->El t
 |.int _=>(0:Int)
 |.bool=>Tc
 |.str=>(⟨#[]⟩:Bt)
 |.row _=>[]
 |.tree=>default
 |.unit=>()
 |.pair a b=>(pH a,pH b)
 |.ptr t=>pH t
 |.iter=>(⟨#[]⟩,0)
 |.err=>Ta
def sz:Ty->Nat
 |.tree=>4
 |.unit=>0
 |.pair a b=>sz a+sz b
 |_=>1
abbrev Fr:=Nat->Option (Array Value)
def Fr.le(M M':Fr):Prop:=∀b cs,M b=Td cs->M' b=Td cs
theorem Fr.le.refl(M:Fr):Fr.le M M:=λ_ _ h=>h
theorem Fr.le.trans{a b c:Fr}(h:Fr.le a b)(k:Fr.le b c):Fr.le a c:=λ_ _ e=>k _ _ (h _ _ e)
def cut(cs:Array Value)(o n:Nat):List Value:=(cs.toList.drop o).take n
def RowAt(M:Fr){α:Type}(R:α->List Value->Prop)(z:Nat)(xs:List α)(v:Value):Prop:=
 ∃a c,v=.slice a xs.length c/\(xs.length<=140737488355328/\xs.length<=c)/\(xs=[]\/∃b o cs,a=Td ⟨b,o,Te⟩/\M b=Td cs/\∀i (h:i<xs.length),R xs[i] (cut cs (o+i*z) z))
inductive TrRd (M:Fr):Tr->List Value->Prop where
 |mk {k:Int} {s:Bt} {ks:List Bt} {xs:List Tr} {vk:Value} {a:Option Addr} {c b o:Nat} {cs:Array Value}
  (hk:RowAt M (λs cs=>cs=[.string s]) 1 ks vk) (hn:xs.length<=140737488355328/\xs.length<=c) (hz:xs=[]\/(a=Td ⟨b,o,Te⟩/\M b=Td cs))
  (hi:∀i (h:i<xs.length),TrRd M xs[i] (cut cs (o+i*4) 4)):TrRd M (.mk k s ks xs) [.int .i64 k,.string s,vk,.slice a xs.length c]
def Zu(s:Bt)(p:Nat):Value:=.iface 0 (.agg #[.string s,.int .i64 p])
def Rd(M:Fr):(t:Ty)->El t->List Value->Prop
 |.int k,i,cs=>cs=[.int k i]
 |.bool,b,cs=>cs=[.bool b]
 |.str,s,cs=>cs=[.string s]
 |.row t,xs,cs=>∃v,cs=[v]/\RowAt M (Rd M t) (sz t) xs v
 |.tree,t,cs=>TrRd M t cs
 |.unit,_,cs=>cs=[]
 |.pair a b,x,cs=>∃c1 c2,cs=c1++c2/\Rd M a x.1 c1/\Rd M b x.2 c2
 |.ptr t,x,cs=>∃b o c,cs=[.pointer (Td ⟨b,o,Te⟩)]/\M b=Td c/\Rd M t x (cut c o (sz t))
 |.iter,x,cs=>cs=[Zu x.1 x.2]
 |.err,b,cs=>∃v,cs=[v]/\((b=Ta/\v=.nilIface)\/(b=Tc/\∃t u,v=.iface t u))
theorem RowAt.mono{M M':Fr}(j:Fr.le M M'){α:Type}{R f:α->List Value->Prop}{z:Nat}{xs:List α}{v:Value}(H:RowAt M R z xs v)(n:∀x∈xs,∀cs,R x cs->f x cs):RowAt M' f z xs v:=by obtain⟨a,c,e,l,h⟩:=H;refine⟨a,c,e,l,h.imp id ?_⟩;rintro⟨b,o,cs,m,p,k⟩;exact⟨b,o,cs,m,j _ _ p,λi h=>n _ (YI _) _ (k i h)⟩
theorem TrRd.mono{M M':Fr}(b:Fr.le M M'){t:Tr}(H:TrRd M t cs):TrRd M' t cs:=by
 induction H with
 |mk c f hz _ e=>exact .mk (c.mono b λ_ _ _ h=>h) f (hz.imp id λh=>⟨h.1,b _ _ h.2⟩) e
theorem Rd.mono{M M':Fr}(c:Fr.le M M'):∀{t:Ty} {x:El t} {cs:List Value},Rd M t x cs->Rd M' t x cs
 |.int _,_,_,h=>h
 |.bool,_,_,h=>h
 |.str,_,_,h=>h
 |.row _,_,_,⟨v,e,h⟩=>⟨v,e,h.mono c λ_ _ _ h=>Rd.mono c h⟩
 |.tree,_,_,h=>TrRd.mono c h
 |.unit,_,_,h=>h
 |.pair _ _,_,_,⟨c1,c2,e,h1,h2⟩=>⟨c1,c2,e,Rd.mono c h1,Rd.mono c h2⟩
 |.ptr _,_,_,⟨b,o,cc,e,h1,h2⟩=>⟨b,o,cc,e,c _ _ h1,Rd.mono c h2⟩
 |.iter,_,_,h=>h
 |.err,_,_,h=>h
theorem Rd.len{M:Fr}:∀{t:Ty} {x:El t} {cs:List Value},Rd M t x cs->cs.length=sz t
 |.int _,_,_,h=>by rw[h];rfl
 |.bool,_,_,h=>by rw[h];rfl
 |.str,_,_,h=>by rw[h];rfl
 |.row t,_,_,⟨v,e,_⟩=>by rw[e];rfl
 |.tree,_,_,h=>by cases h;rfl
 |.unit,_,_,h=>by rw[h];rfl
 |.pair _ _,_,_,⟨c1,c2,e,h1,h2⟩=>by rw[e,XX,Rd.len h1,Rd.len h2];rfl
 |.ptr _,_,_,⟨b,o,cc,e,_⟩=>by rw[e];rfl
 |.iter,_,_,h=>by rw[h];rfl
 |.err,_,_,⟨v,e,_⟩=>by rw[e];rfl
theorem Rd.one{M:Fr}:∀{t:Ty} {x:El t} {cs:List Value},Rd M t x cs->∀v∈cs,v.oneCell'=Ta
 |.int _,_,_,h=>by rw[h];simp[Value.oneCell']
 |.bool,_,_,h=>by rw[h];simp[Value.oneCell']
 |.str,_,_,h=>by rw[h];simp[Value.oneCell']
 |.row t,_,_,⟨v,e,a,c,e2,_⟩=>by rw[e,e2];simp[Value.oneCell']
 |.tree,_,_,h=>by
  cases h with
  |mk i _ _ _=>obtain⟨a,c,e,_⟩:=i;rw[e];simp[Value.oneCell']
 |.unit,_,_,h=>by rw[h];simp
 |.pair _ _,_,_,⟨c1,c2,e,h1,h2⟩=>by intro v f;rw[e]at f;rcases YK.1 f with f|f;exact Rd.one h1 v f;exact Rd.one h2 v f
 |.ptr _,_,_,⟨b,o,cc,e,_⟩=>by rw[e];simp[Value.oneCell']
 |.iter,_,_,h=>by rw[h];simp[Value.oneCell',Zu]
 |.err,_,_,⟨v,e,h⟩=>by rw[e];rcases h with⟨_,rfl⟩|⟨_,t,u,rfl⟩ <;> simp[Value.oneCell']
theorem TrRd.keys{M:Fr}{t:Tr}(H:TrRd M t cs):∃e f,cs=[.int .i64 t.kind,.string t.text,e,f]/\Rd M (.row .str) t.keys [e]/\Rd M (.row .tree) t.items [f]:=by
 cases H with
 | @mk k s ks xs e a c b o cs hk hn hz hi=>exact⟨e,_,rfl,⟨e,rfl,hk⟩,⟨_,rfl,a,c,rfl,hn,hz.imp id λh=>⟨b,o,cs,h.1,h.2,hi⟩⟩⟩
theorem TrRd.of{M:Fr}{k:Int}{s:Bt}{ks:List Bt}{xs:List Tr}{l n:Value}(h1:Rd M (.row .str) ks [l])(f:Rd M (.row .tree) xs [n]):TrRd M (.mk k s ks xs) [.int .i64 k,.string s,l,n]:=by
 obtain⟨v,e,h1⟩:=h1;obtain⟨u,t,a,c,j,m,f⟩:=f;cases e;cases t;subst j;rcases f with rfl|⟨b,o,cs,r,j,p⟩;exact .mk (b:=0) (o:=0) (cs:=#[]) h1 m (.inl rfl) λi h=>absurd h (by simp)
 exact .mk h1 m (.inr ⟨r,j⟩) p
def Bd:(t:Ty)->El t->Prop
 |.row _,xs=>xs.length<=140737488355328
 |.tree,t=>t.keys.length<=140737488355328/\t.items.length<=140737488355328
 |.pair a b,x=>Bd a x.1/\Bd b x.2
 |_,_=>True
theorem Rd.bd{M:Fr}:∀{t:Ty} {x:El t} {cs:List Value},Rd M t x cs->Bd t x
 |.int _,_,_,_=>trivial
 |.bool,_,_,_=>trivial
 |.str,_,_,_=>trivial
 |.row t,_,_,⟨v,_,a,c,_,h,_⟩=>h.1
 |.tree,_,_,h=>by
  cases h with
  |mk b f _ _=>obtain⟨a,c,e,h,_⟩:=b;exact⟨h.1,f.1⟩
 |.unit,_,_,_=>trivial
 |.pair _ _,_,_,⟨_,_,_,h1,h2⟩=>⟨Rd.bd h1,Rd.bd h2⟩
 |.ptr _,_,_,_=>trivial
 |.iter,_,_,_=>trivial
 |.err,_,_,_=>trivial
inductive AA where
 |v (x:Value)
 |d (t:Ty) (x:El t)
 |box (c o:Nat)
 |own (c:Nat)
 |oelt (c z:Nat) (i:Nat) (o:Nat)
 |elt (t:Ty) (x:El t) (o:Nat)
 |dc (t:Ty) (xs:List (El t))
inductive AG where
 |a (x:AA)
 |agg (l:List AA)
inductive AV where
 |g (x:AG)
 |tup (l:List AG)
 |nx (b:Bool) (p:Int) (c:Int)
structure Gh where
 M:Fr
 β:Nat->Nat
 σ:Nat->Sl
def All2{α β:Type}(R:α->β->Prop):List α->List β->Prop
 |[],[]=>True
 |x::xs,y::ys=>R x y/\All2 R xs ys
 |_,_=>False
def aK(s:Sl):Value:=.slice s.a s.len s.cap
abbrev iV(x : Int): Value := .int .i64 x
abbrev tA(a : Int)(b : Bt)(c d : Sl): Value := .agg #[.int .i64 a, .string b, aK c, aK d]
abbrev tL(a : Int)(b : Bt)(c d : Sl): List Value := [.int .i64 a, .string b, aK c, aK d]
abbrev tC: Array Value := #[.int .i64 0, .string ⟨#[]⟩, .slice Te 0 0, .slice Te 0 0]
abbrev tZ: Value := .agg tC
def DenA(γ:Gh):AA->Value->Prop
 |.v x,u=>u=x
 |.d t x,u=>Rd γ.M t x [u]
 |.box c o,u=>u=.pointer (Td ⟨γ.β c,o,Te⟩)
 |.own c,u=>u=aK (γ.σ c)
 |.oelt c z i o,u=>∃g,(γ.σ c).a=Td ⟨g,0,Te⟩/\u=.pointer (Td ⟨g,i*z+o,Te⟩)
 |.elt t x o,u=>∃b f cs,u=.pointer (Td ⟨b,f+o,Te⟩)/\γ.M b=Td cs/\Rd γ.M t x (cut cs f (sz t))
 |.dc t xs,u=>∃s:Sl,u=aK s/\s.cap=s.len/\Rd γ.M (.row t) xs [u]
def DenG(γ:Gh):AG->Value->Prop
 |.a x,u=>DenA γ x u
 |.agg l,u=>∃us,u=.agg us.toArray/\All2 (DenA γ) l us
def DenV(γ:Gh):AV->Value->Prop
 |.g x,u=>DenG γ x u
 |.tup l,u=>∃us,u=.tuple us.toArray/\All2 (DenG γ) l us
 |.nx b p c,u=>(b=Ta->u=.tuple #[.bool Ta,.int .i64 p,.int .i32 c])/\(b=Tc->u=.tuple #[.bool Tc])
theorem All2.length{α β:Type}{R:α->β->Prop}:∀{l:List α} {m:List β},All2 R l m->l.length=m.length
 |[],[],_=>rfl
 |[],_::_,h=>h.elim
 |_::_,[],h=>h.elim
 |_::_,_::_,h=>by simp[All2.length h.2]
theorem All2.imp{α β:Type}{R b:α->β->Prop}:∀{l:List α} {m:List β},All2 R l m->(∀x∈l,∀y,R x y->b x y)->All2 b l m
 |[],[],_,_=>trivial
 |[],_::_,h,_=>h.elim
 |_::_,[],h,_=>h.elim
 |_::_,_::_,h,k=>⟨k _ YJ _ h.1,All2.imp h.2 λx e y c=>k x (XZ _ e) y c⟩
theorem All2.append{α β:Type}{R:α->β->Prop}:∀{l b:List α} {m m':List β},All2 R l m->All2 R b m'->All2 R (l++b) (m++m')
 |[],_,[],_,_,h=>h
 |[],_,_::_,_,h,_=>h.elim
 |_::_,_,[],_,h,_=>h.elim
 |_::_,_,_::_,_,h,k=>⟨h.1,All2.append h.2 k⟩
theorem All2.take{α β:Type}{R:α->β->Prop}:∀(n:Nat) {l:List α} {m:List β},All2 R l m->All2 R (l.take n) (m.take n)
 |0,_,_,_=>by simp[All2]
 |_+1,[],[],_=>trivial
 |_+1,[],_::_,h=>h.elim
 |_+1,_::_,[],h=>h.elim
 |n+1,_::_,_::_,h=>⟨h.1,All2.take n h.2⟩
theorem All2.drop{α β:Type}{R:α->β->Prop}:∀(n:Nat) {l:List α} {m:List β},All2 R l m->All2 R (l.drop n) (m.drop n)
 |0,_,_,h=>by simpa using h
 |_+1,[],[],_=>trivial
 |_+1,[],_::_,h=>h.elim
 |_+1,_::_,[],h=>h.elim
 |n+1,_::_,_::_,h=>by simpa using All2.drop n h.2
theorem All2.get{α β:Type}{R:α->β->Prop}:∀{l:List α} {m:List β} {i:Nat} {x:α},All2 R l m->l[i]?=Td x->∃y,m[i]?=Td y/\R x y
 |[],[],_,_,_,h=>by simp at h
 |[],_::_,_,_,h,_=>h.elim
 |_::_,[],_,_,h,_=>h.elim
 |_::_,y::_,0,_,h,e=>by simp at e;subst e;exact⟨y,rfl,h.1⟩
 |_::_,_::_,i+1,_,h,e=>by simpa using All2.get h.2 (by simpa using e)
def Jg:(t:Ty)->El t->List AA
 |.int k,i=>[.v (.int k i)]
 |.bool,b=>[.v (.bool b)]
 |.str,s=>[.v (.string s)]
 |.row t,xs=>[.d (.row t) xs]
 |.tree,t=>[.v (.int .i64 t.kind),.v (.string t.text),.d (.row .str) t.keys,.d (.row .tree) t.items]
 |.unit,_=>[]
 |.pair a b,x=>Jg a x.1++Jg b x.2
 |.ptr t,x=>[.elt t x 0]
 |.iter,x=>[.d .iter x]
 |.err,x=>[.d .err x]
theorem xr{γ:Gh}:∀{t:Ty} {x:El t} {cs:List Value},Rd γ.M t x cs->All2 (DenA γ) (Jg t x) cs
 |.int _,_,_,h=>by rw[h];exact⟨rfl,trivial⟩
 |.bool,_,_,h=>by rw[h];exact⟨rfl,trivial⟩
 |.str,_,_,h=>by rw[h];exact⟨rfl,trivial⟩
 |.row t,_,_,⟨v,e,h⟩=>by rw[e];exact⟨⟨v,rfl,h⟩,trivial⟩
 |.tree,_,_,h=>by obtain⟨f,i,e,h1,c⟩:=TrRd.keys h;rw[e];exact⟨rfl,rfl,h1,c,trivial⟩
 |.unit,_,_,h=>by rw[h];trivial
 |.pair _ _,_,_,⟨c1,c2,e,h1,c⟩=>by rw[e];exact(xr h1).append (xr c)
 |.ptr t,x,_,⟨b,o,cc,e,h1,c⟩=>by rw[e];exact⟨⟨b,o,cc,rfl,h1,c⟩,trivial⟩
 |.iter,x,_,h=>by rw[h];exact⟨rfl,trivial⟩
 |.err,x,_,⟨v,e,h⟩=>by rw[e];exact⟨⟨v,rfl,h⟩,trivial⟩
def nV:Ty->Bool
 |.iter=>Ta
 |.err=>Ta
 |.pair a b=>bif nV a then Ta else nV b
 |_=>Tc
theorem Rd.noIt{M:Fr}:∀{t:Ty} {x:El t} {cs:List Value},nV t=Tc->Rd M t x cs->∀s p,Zu s p∉cs
 |.int _,_,_,_,h,s,p=>by rw[h];simp[Zu]
 |.bool,_,_,_,h,s,p=>by rw[h];simp[Zu]
 |.str,_,_,_,h,s,p=>by rw[h];simp[Zu]
 |.row t,_,_,_,⟨v,e,a,c,e2,_⟩,s,p=>by rw[e,e2];simp[Zu]
 |.tree,_,_,_,h,s,p=>by
  cases h with
  |mk i _ _ _=>obtain⟨a,c,e,_⟩:=i;rw[e];simp[Zu]
 |.unit,_,_,_,h,s,p=>by rw[h];simp
 |.pair a b,_,_,hi,⟨c1,c2,e,h1,h2⟩,s,p=>by
  simp only[nV]at hi;cases ha:nV a with
  |true=>rw[ha]at hi;cases hi
  |false=>rw[ha]at hi;rw[e];intro f;rcases YK.1 f with f|f;exact Rd.noIt ha h1 s p f;exact Rd.noIt hi h2 s p f
 |.ptr _,_,_,_,⟨b,o,cc,e,_⟩,s,p=>by rw[e];simp[Zu]
 |.iter,_,_,hi,_,_,_=>by cases hi
 |.err,_,_,hi,_,_,_=>by cases hi
def iW:List AA->Bool
 |[.d t _]=>nV t
 |[.v (.iface _ _)]=>Ta
 |_=>Tc
theorem sH{γ:Gh}{l:List AA}{us:List Value}(h:iW l=Tc)(j:All2 (DenA γ) l us)(s:Bt)(p:Nat):us≠[Zu s p]:=by
 intro e;subst e
 match l,j with
 |[x],j=>
  cases x with
  |v y=>rw[<-show Zu s p=y from j.1]at h;simp[iW,Zu]at h
  |d t y=>exact Rd.noIt (show nV t=Tc from h) (show Rd γ.M t y [Zu s p]from j.1) s p (by simp)
  |box c o=>have:Zu s p=_:=j.1;simp[Zu]at this
  |own c=>have:Zu s p=_:=j.1;simp[Zu,aK]at this
  |oelt c z i o=>obtain⟨g,_,e⟩:=j.1;simp[Zu]at e
  |elt t y o=>obtain⟨b,f,cs,e,_⟩:=j.1;simp[Zu]at e
  |dc t xs=>obtain⟨k,e,_⟩:=j.1;simp[Zu,aK]at e
 |[],j=>exact j.elim
 |_::_::_,j=>exact j.2.elim
inductive Ch where
 |box (l:List AA)
 |row (e:TypeId) (t:Ty) (xs:List (El t))
 |fz (t:Ty) (xs:List (El t))
abbrev CS:=List (Nat×Ch)
def Q7:CS->Nat->Option Ch
 |[],_=>Te
 |(j,k)::l,i=>bif Nat.beq i j then Td k else Q7 l i
theorem qi{l:CS}{i:Nat}{k:Ch}(h:Q7 l i=Td k):(i,k)∈l:=by
 induction l with
 |nil=>cases h
 |cons x l c=>obtain⟨j,e⟩:=x;simp only[Q7]at h;by_cases b:Nat.beq i j=Ta;simp only[b,zI,XU]at h;subst h;rw[YC b];exact YJ;simp only[b,zJ]at h;exact XZ _ (c h)
def Qc(t t':Ty)(x:El t):Option (El t'):=if h:t=t' then Td (h ▸ x)else Te
theorem J6{M:Fr}{t t':Ty}{x:El t}{y:El t'}(h:Qc t t' x=Td y)(r:Rd M t x cs):Rd M t' y cs:=by unfold Qc at h;split at h;rename_i e;subst e;simp only[XU]at h;subst h;exact r;cases h
def lO(cs:CS):(t:Ty)->AA->Option (El t)
 |.int k,.v (.int k' i)=>if k=k' then Td i else Te
 |.bool,.v (.bool b)=>Td b
 |.str,.v (.string s)=>Td s
 |.row t,.v (.slice Te 0 0)=>Td ([]:List (El t))
 |.row t,.d t' x=>Qc t' (.row t) x
 |.row t,.dc t' x=>Qc (.row t') (.row t) x
 |.row t,.own c=>match Q7 cs c with
  |some (.fz t' xs)=>Qc (.row t') (.row t) xs
  |_=>Te
 |.ptr t,.elt t' x 0=>Qc t' t x
 |.ptr t,.d t' x=>Qc t' (.ptr t) x
 |.iter,.d t' x=>Qc t' .iter x
 |.err,.d t' x=>Qc t' .err x
 |.err,.v .nilIface=>Td Ta
 |.err,.v (.iface _ _)=>Td Tc
 |_,_=>Te
def collect(cs:CS):(t:Ty)->List AA->Option (El t×List AA)
 |.unit,l=>Td ((),l)
 |.pair a b,l=>match collect cs a l with
  |some (x,l')=>match collect cs b l' with
   |some (y,l'')=>Td ((x,y),l'')
   |none=>Te
  |none=>Te
 |.tree,k::s::ks::xs::l=>match lO cs (.int .i64) k,lO cs .str s,lO cs (.row .str) ks,lO cs (.row .tree) xs with
  |some k,Td s,Td ks,some xs=>Td (Tr.mk k s ks xs,l)
  |_,_,_,_=>Te
 |.tree,_=>Te
 |t,x::l=>match lO cs t x with
  |some y=>Td (y,l)
  |none=>Te
 |_,[]=>Te
def lQ(γ:Gh)(cs:CS):Prop:=∀c t xs,(c,Ch.fz t xs)∈cs->Rd γ.M (.row t) xs [aK (γ.σ c)]
theorem j6{γ:Gh}{cs:CS}(j:lQ γ cs){t:Ty}{x:AA}{y:El t}(h:lO cs t x=Td y){u:Value}(c:DenA γ x u):Rd γ.M t y [u]:=by unfold lO at h;split at h;split at h;rename_i l;simp only[XU]at h;subst h;subst l;exact congrArg (λu=>[u]) c;cases h;simp only[XU]at h;subst h;exact congrArg (λu=>[u]) c;simp only[XU]at h;subst h;exact congrArg (λu=>[u]) c;simp only[XU]at h;subst h;exact⟨u,rfl,Te,0,c,by simp,.inl rfl⟩;exact J6 h c;obtain⟨s,_,_,c⟩:=c;exact J6 h c;split at h;rename_i t' xs i;rw[show u=_ from c];exact J6 h (j _ _ _ (qi i));cases h;rename_i t t' x;obtain⟨b,f,cs',e,h1,k⟩:=c;exact⟨b,f,cs',by rw[e];rfl,h1,by unfold Qc at h;split at h;rename_i e;subst e;simp only[XU]at h;subst h;exact k;cases h⟩;exact J6 h c;exact J6 h c;exact J6 h c;simp only[XU]at h;subst h;exact⟨u,rfl,.inl ⟨rfl,c⟩⟩;rename_i t' m;simp only[XU]at h;subst h;exact⟨u,rfl,.inr ⟨rfl,_,_,c⟩⟩;cases h
theorem Jh{γ:Gh}{cs:CS}(c:lQ γ cs):∀{t:Ty} {l e:List AA} {y:El t},collect cs t l=Td (y,e)->∀{us:List Value},All2 (DenA γ) l us->∃c1 c2,us=c1++c2/\Rd γ.M t y c1/\All2 (DenA γ) e c2
 |.unit,l,e,y,h,us,hu=>by simp only[collect,XU,zar]at h;obtain⟨_,rfl⟩:=h;exact⟨[],us,rfl,rfl,hu⟩
 |.pair a b,l,e,y,h,us,hu=>by simp only[collect]at h;split at h;rename_i x I h1;split at h;rename_i z J i;simp only[XU,zar]at h;obtain⟨rfl,rfl⟩:=h;obtain⟨c1,c2,rfl,j,n⟩:=Jh c h1 hu;obtain⟨o,H,rfl,f,m⟩:=Jh c i n;exact⟨c1++o,H,by simp,⟨c1,o,rfl,j,f⟩,m⟩;cases h;cases h
 |.tree,l,e,y,h,us,hu=>by
  match l,us,hu,h with
  |k::s::ks::xs::l,u1::u2::u3::u4::us,hu,h=>simp only[collect]at h;split at h;rename_i B p w r h1 i E A;simp only[XU,zar]at h;obtain⟨rfl,rfl⟩:=h;obtain⟨d1,d2,d3,F,D⟩:=hu;have j:=j6 c h1 d1;have n:=j6 c i d2;have f:=j6 c E d3;have m:=j6 c A F;refine⟨[u1,u2,u3,u4],us,rfl,?_,D⟩;have G:[u1]=[zax .i64 B]:=j;have C:[u2]=[ZC p]:=n;cases G;cases C;exact TrRd.of f m;cases h
  |[],_,_,h=>simp[collect]at h
  |[_],_,_,h=>simp[collect]at h
  |[_,_],_,_,h=>simp[collect]at h
  |[_,_,_],_,_,h=>simp[collect]at h
  |_::_::_::_::_,[],hu,_=>exact hu.elim
  |_::_::_::_::_,[_],hu,_=>exact hu.2.elim
  |_::_::_::_::_,[_,_],hu,_=>exact hu.2.2.elim
  |_::_::_::_::_,[_,_,_],hu,_=>exact hu.2.2.2.elim
 |.int k,x::l,e,y,h,u::us,hu=>by simp only[collect]at h;split at h;rename_i z hz;simp only[XU,zar]at h;obtain⟨rfl,rfl⟩:=h;exact⟨[u],us,rfl,j6 c hz hu.1,hu.2⟩;cases h
 |.bool,x::l,e,y,h,u::us,hu=>by simp only[collect]at h;split at h;rename_i z hz;simp only[XU,zar]at h;obtain⟨rfl,rfl⟩:=h;exact⟨[u],us,rfl,j6 c hz hu.1,hu.2⟩;cases h
 |.str,x::l,e,y,h,u::us,hu=>by simp only[collect]at h;split at h;rename_i z hz;simp only[XU,zar]at h;obtain⟨rfl,rfl⟩:=h;exact⟨[u],us,rfl,j6 c hz hu.1,hu.2⟩;cases h
 |.row _,x::l,e,y,h,u::us,hu=>by simp only[collect]at h;split at h;rename_i z hz;simp only[XU,zar]at h;obtain⟨rfl,rfl⟩:=h;exact⟨[u],us,rfl,j6 c hz hu.1,hu.2⟩;cases h
 |.ptr _,x::l,e,y,h,u::us,hu=>by simp only[collect]at h;split at h;rename_i z hz;simp only[XU,zar]at h;obtain⟨rfl,rfl⟩:=h;exact⟨[u],us,rfl,j6 c hz hu.1,hu.2⟩;cases h
 |.iter,x::l,e,y,h,u::us,hu=>by simp only[collect]at h;split at h;rename_i z hz;simp only[XU,zar]at h;obtain⟨rfl,rfl⟩:=h;exact⟨[u],us,rfl,j6 c hz hu.1,hu.2⟩;cases h
 |.iter,_::_,_,_,_,[],hu=>hu.elim
 |.iter,[],_,_,h,_,_=>by simp[collect]at h
 |.err,x::l,e,y,h,u::us,hu=>by simp only[collect]at h;split at h;rename_i z hz;simp only[XU,zar]at h;obtain⟨rfl,rfl⟩:=h;exact⟨[u],us,rfl,j6 c hz hu.1,hu.2⟩;cases h
 |.err,_::_,_,_,_,[],hu=>hu.elim
 |.err,[],_,_,h,_,_=>by simp[collect]at h
 |.int _,_::_,_,_,_,[],hu=>hu.elim
 |.bool,_::_,_,_,_,[],hu=>hu.elim
 |.str,_::_,_,_,_,[],hu=>hu.elim
 |.row _,_::_,_,_,_,[],hu=>hu.elim
 |.ptr _,_::_,_,_,_,[],hu=>hu.elim
 |.int _,[],_,_,h,_,_=>by simp[collect]at h
 |.bool,[],_,_,h,_,_=>by simp[collect]at h
 |.str,[],_,_,h,_,_=>by simp[collect]at h
 |.row _,[],_,_,h,_,_=>by simp[collect]at h
 |.ptr _,[],_,_,h,_,_=>by simp[collect]at h
end Go.X
end
section
namespace Go.X
section
variable {M M':Fr} {h h':zc} {b c o n0:Nat} {γ γ':Gh} {us:List Value} {u:Value} {t:Ty} {cs C R:CS} {e:TypeId}
def AgM(M:Fr)(h:zc):Prop:=∀b c,M b=Td c->∃T m,h[b]?=Td (.cells c T m)
theorem AgM.lt(H:AgM M h){c:Array Value}(e:M b=Td c):b<h.size:=by obtain⟨T,m,f⟩:=H b c e;exact(YE.1 f).1
theorem AgM.none{M:Fr}{h:zc}(H:AgM M h){b:Nat}(f:h.size<=b):M b=Te:=by
 cases e:M b with
 |none=>rfl
 |some c=>have:=H.lt e;omega
theorem AgM.cell(H:AgM M h){c:Array Value}{v:Value}(e:M b=Td c)(i:c[o]?=Td v):zd h ⟨b,o,Option.none⟩=Td v:=by obtain⟨T,m,f⟩:=H b c e;unfold zd;simp[f,i]
def Gx(c:Option Nat)(γ γ':Gh):Prop:=Fr.le γ.M γ'.M/\∀i,c≠Td i->γ'.β i=γ.β i/\γ'.σ i=γ.σ i
theorem Gx.refl(c:Option Nat)(γ:Gh):Gx c γ γ:=⟨Fr.le.refl _,λ_ _=>⟨rfl,rfl⟩⟩
def ke(c:Nat):AA->Bool
 |.box j _=>Nat.beq j c
 |.own j=>Nat.beq j c
 |.oelt j _ _ _=>Nat.beq j c
 |_=>Tc
def i8(c:Nat):List AA->Bool
 |[]=>Tc
 |x::l=>bif ke c x then Ta else i8 c l
def kz(c:Nat):Ch->Bool
 |.box l=>i8 c l
 |_=>Tc
def pJ(c:Nat):AG->Bool
 |.a x=>ke c x
 |.agg l=>i8 c l
def t6(c:Nat):List AG->Bool
 |[]=>Tc
 |x::l=>bif pJ c x then Ta else t6 c l
def lF(c:Nat):AV->Bool
 |.g x=>pJ c x
 |.tup l=>t6 c l
 |.nx _ _ _=>Tc
def lr{α:Type}(f:Nat->α->Bool):Option Nat->α->Bool
 |none,_=>Tc
 |some c,x=>f c x
theorem pV{j c:Nat}(h:Nat.beq j c=Tc):Td c≠Td j:=by intro e;simp only[XU]at e;subst e;simp at h
theorem DenA.gx{c:Option Nat}(g:Gx c γ γ'):∀{x:AA} {u:Value},lr ke c x=Tc->DenA γ x u->DenA γ' x u
 |.v _,_,_,h=>h
 |.d _ _,_,_,h=>Rd.mono g.1 h
 |.box j o,u,hm,h=>by
  have:c≠Td j:=by cases c with|none=>simp|some c=>exact pV hm
  rw[show u=_ from h];simp only[DenA,(g.2 j this).1]
 |.own j,u,hm,h=>by
  have:c≠Td j:=by cases c with|none=>simp|some c=>exact pV hm
  rw[show u=_ from h];simp only[DenA,(g.2 j this).2]
 |.oelt j z i o,u,hm,h=>by
  have:c≠Td j:=by cases c with|none=>simp|some c=>exact pV hm
  obtain⟨b,k,l⟩:=h;exact⟨b,by rw[(g.2 j this).2];exact k,l⟩
 |.elt _ _ _,_,_,⟨b,f,cs,e,h1,h2⟩=>⟨b,f,cs,e,g.1 _ _ h1,Rd.mono g.1 h2⟩
 |.dc _ _,_,_,⟨s,k,l,h⟩=>⟨s,k,l,Rd.mono g.1 h⟩
theorem Ma{l:List AA}(h:i8 c l=Tc):∀x∈l,ke c x=Tc:=by
 induction l with
 |nil=>intro x b;cases b
 |cons y l e=>
  intro x b;simp only[i8]at h;cases hy:ke c y with
  |true=>simp[hy]at h
  |false=>simp only[hy,zJ]at h;rcases YB.1 b with rfl|b;exact hy;exact e h x b
theorem DenL.gx{c:Option Nat}(g:Gx c γ γ'){l:List AA}(b:lr i8 c l=Tc)(h:All2 (DenA γ) l us):All2 (DenA γ') l us:= h.imp λx f u e=>DenA.gx g (by cases c with|none=>rfl|some c=>exact Ma b x f) e
theorem DenG.gx{c:Option Nat}(g:Gx c γ γ'){x:AG}(b:lr pJ c x=Tc)(h:DenG γ x u):DenG γ' x u:=by
 cases x with
 |a x=>exact DenA.gx g (by cases c <;> exact b) h
 |agg l=>obtain⟨us,e,h⟩:=h;exact⟨us,e,DenL.gx g (by cases c <;> exact b) h⟩
theorem LW{l:List AG}(h:t6 c l=Tc):∀x∈l,pJ c x=Tc:=by
 induction l with
 |nil=>intro x b;cases b
 |cons y l e=>
  intro x b;simp only[t6]at h;cases hy:pJ c y with
  |true=>simp[hy]at h
  |false=>simp only[hy,zJ]at h;rcases YB.1 b with rfl|b;exact hy;exact e h x b
theorem DenV.gx{c:Option Nat}(g:Gx c γ γ'){x:AV}(f:lr lF c x=Tc)(h:DenV γ x u):DenV γ' x u:=by
 cases x with
 |g x=>exact DenG.gx g (by cases c <;> exact f) h
 |tup l=>obtain⟨us,e,h⟩:=h;exact⟨us,e,h.imp λx j u i=>DenG.gx g (by cases c with|none=>rfl|some c=>exact LW f x j) i⟩
 |nx b p c=>exact h
def RowC(M:Fr)(t:Ty)(xs:List (El t))(cells:List Value):Prop:=
 cells.length=xs.length*sz t/\∀i (h:i<xs.length),Rd M t xs[i] ((cells.drop (i*sz t)).take (sz t))
theorem RowC.mono(b:Fr.le M M'){xs:List (El t)}{cells:List Value}(H:RowC M t xs cells):RowC M' t xs cells:=⟨H.1,λi h=>Rd.mono b (H.2 i h)⟩
theorem RowC.nil(M:Fr)(t:Ty):RowC M t [] []:=⟨by simp,λi h=>absurd h (by simp)⟩
theorem RowC.single{x:El t}{cs:List Value}(h:Rd M t x cs):RowC M t [x] cs:=by
 have b:=h.len;refine⟨by simp[b],λi hi=>?_⟩;have:i=0:=by simpa using hi
 subst this;simp only[zda,za2,List.getElem_cons_zero,<-b,YR];exact h
theorem RowC.append{xs ys:List (El t)}{c1 c2:List Value}(h1:RowC M t xs c1)(j:RowC M t ys c2):RowC M t (xs++ys) (c1++c2):=by
 refine⟨by rw[XX,XX,h1.1,j.1,za4],λi hi=>?_⟩;by_cases b:i<xs.length;rw[za8 b];have h:(i+1)*sz t<=c1.length:=by rw[h1.1];exact ZK _ b
 rw[za4,zc5]at h;rw[List.drop_append_of_le_length (by omega),zb5 (by rw[zai];omega)];exact h1.2 i b;have c:xs.length<=i:=by omega
 rw[zbm c];have f:i-xs.length<ys.length:=by rw[XX]at hi;omega
 have:=j.2 (i-xs.length) f;have e:(c1++c2).drop (i*sz t)=c2.drop ((i-xs.length)*sz t):=by
  rw[List.drop_append];have:c1.length<=i*sz t:=by rw[h1.1];exact ZK _ c
  rw[zaw this,za6,h1.1,<-Nat.sub_mul]
 rw[e];exact this
theorem RowC.one{xs:List (El t)}{cells:List Value}(H:RowC M t xs cells):∀v∈cells,v.oneCell'=Ta:=by
 intro v c;obtain⟨j,b,rfl⟩:=zca c;have hz:0<sz t:=by rcases zcy (sz t)with h|h;rw[H.1,h,Nat.mul_zero]at b;omega;exact h
 have hi:j / sz t<xs.length:=by rw[H.1]at b;exact Nat.div_lt_of_lt_mul (by rw[zcm];exact b)
 refine Rd.one (H.2 _ hi) _ ?_;rw[List.mem_iff_getElem?];refine⟨j % sz t,?_⟩;rw[ZJ,zb (Nat.mod_lt _ hz),zaa,zcm,Nat.div_add_mod,YA b]
theorem RowC.rd{xs:List (El t)}{cells:List Value}(H:RowC M t xs cells){cs:Array Value}(h:M b=Td cs)(j:(cs.toList.drop o).take (xs.length*sz t)=cells)(k:xs.length<=140737488355328/\xs.length<=c):
  Rd M (.row t) xs [.slice (Td ⟨b,o,Te⟩) xs.length c]:=by
 refine⟨_,rfl,_,_,rfl,k,.inr ⟨b,o,cs,rfl,h,λi hi=>?_⟩⟩;have:=H.2 i hi;rw[<-j]at this;have f:(i+1)*sz t<=xs.length*sz t:=ZK _ hi;rw[za4,zc5]at f;have e:(((cs.toList.drop o).take (xs.length*sz t)).drop (i*sz t)).take (sz t)=cut cs (o+i*sz t) (sz t):=by unfold cut;rw[List.drop_take,zdj,zcv,zck (by omega)]
 rw[e]at this;exact this
theorem Rd.rowC(ag:AgM M h){xs:List (El t)}(H:Rd M (.row t) xs [u]):∃s:Sl,u=aK s/\s.len=xs.length/\(xs.length<=140737488355328/\xs.length<=s.cap)/\∃cells,RowC M t xs cells/\Arr h.size h s.a cells:=by
 obtain⟨v,e,a,c,rfl,n,H⟩:=H;cases e;refine⟨⟨a,xs.length,c⟩,rfl,rfl,n,?_⟩;rcases H with rfl|⟨b,o,cs,rfl,m,hi⟩;exact⟨[],RowC.nil _ _,.inl rfl⟩;have f:xs=[]\/xs.length*sz t<=(cs.toList.drop o).length:=by
  rcases zcy xs.length with h0|h0;exact .inl (YU h0);right;have:=(hi (xs.length-1) (by omega)).len;unfold cut at this;rw[ZP,zai]at this;rw[zai];rcases zcy (sz t)with hz|hz;rw[hz];simp;have e:xs.length*sz t=(xs.length-1)*sz t+sz t:=by rw[<-zcz];congr 1;omega
  rw[e];omega
 rcases f with rfl|f;exact⟨[],RowC.nil _ _,.inl rfl⟩;refine⟨(cs.toList.drop o).take (xs.length*sz t),⟨by rw[ZP];omega,λi k=>?_⟩,.inr ⟨b,o,rfl,ag.lt m,λi v j=>?_⟩⟩;have:=hi i k;have l:(i+1)*sz t<=xs.length*sz t:=ZK _ k;rw[za4,zc5]at l;unfold cut at this;rw[List.drop_take,zdj,zcv,zck (by omega)];exact this;refine ag.cell m ?_;rw[ZJ]at j;split at j;rw[zaa]at j;simpa using j;cases j
def vT(o:Option Obj)(us:List Value):Prop:=((∃T,o=Td (.cells us.toArray T (0,0)))/\∀s p,us≠[Zu s p])\/(∃s p,us=[Zu s p]/\o=Td (.stringIter s p))
def DenC(n0:Nat)(γ:Gh)(h:zc)(c:Nat):Ch->Prop
 |.box l=>∃us,vT h[γ.β c]? us/\All2 (DenA γ) l us
 |.row e t xs=>∃cells,Owns h n0 e (sz t) (γ.σ c) cells/\RowC γ.M t xs cells/\xs.length<=140737488355328/\(γ.σ c).len=xs.length
 |.fz t xs=>Rd γ.M (.row t) xs [aK (γ.σ c)]
def blk(γ:Gh)(c:Nat):Ch->Option Nat
 |.box _=>Td (γ.β c)
 |.row _ _ _=>(γ.σ c).a.map (·.block)
 |.fz _ _=>Te
structure Inv (h0:zc) (W:Nat->Prop) (M0:Fr) (cs:CS) (γ:Gh) (h:zc):Prop where
 ag:AgM γ.M h
 frame:∀i,i<h0.size->¬W i->h[i]?=h0[i]?
 size:h0.size<=h.size
 old:∀b,b<h0.size->γ.M b=M0 b
 le:Fr.le M0 γ.M
 den:∀x∈cs,DenC h0.size γ h x.1 x.2
 sep:∀x∈cs,∀b,blk γ x.1 x.2=Td b->(h0.size<=b\/W b)/\γ.M b=Te
 apart:cs.Pairwise λx y=>∀b,blk γ x.1 x.2=Td b->blk γ y.1 y.2≠Td b
variable {h0 : zc} {W : Nat -> Prop} {M0 : Fr}
theorem DenC.lt{k:Ch}(H:DenC n0 γ h c k):∀b,blk γ c k=Td b->b<h.size:=by
 intro b f;cases k with
 |box l=>obtain⟨us,e,_⟩:=H;simp only[blk,XU]at f;subst f;rcases e with⟨⟨T,e⟩,_⟩|⟨s,p,_,e⟩;exact(YE.1 e).1;exact(YE.1 e).1
 |row e t xs=>obtain⟨cells,h1,_⟩:=H;simp only[blk,zbk]at f;obtain⟨p,i,rfl⟩:=f;exact(h1.base_le p i).2
 |fz t xs=>cases f
theorem DenC.gx{c:Option Nat}(g:Gx c γ γ'){j:Nat}{k:Ch}(w:c≠Td j)(r:lr kz c k=Tc)(H:DenC n0 γ h j k)(i:∀b,blk γ j k=Td b->h'[b]?=h[b]?):DenC n0 γ' h' j k:=by
 obtain⟨u,f⟩:=g.2 j w;cases k with
 |box l=>obtain⟨us,e,h1⟩:=H;exact⟨us,by rw[u,i _ rfl];exact e,DenL.gx g (by cases c <;> exact r) h1⟩
 |row e t xs=>obtain⟨cells,h1,n,o,x⟩:=H;refine⟨cells,?_,n.mono g.1,o,by rw[f];exact x⟩;rw[f];exact h1.keep λp m=>i _ (by simp[blk,m])
 |fz t xs=>simp only[DenC,f];exact Rd.mono g.1 H
theorem pt{c:Option Nat}(g:Gx c γ γ'){j:Nat}(k:Ch)(e:c≠Td j):blk γ' j k=blk γ j k:=by obtain⟨b,f⟩:=g.2 j e;cases k <;> simp[blk,b,f]
theorem Inv.rest{cs rest:CS}{γ γ':Gh}{h h':zc}(I:Inv h0 W M0 cs γ h)(hsub:rest.Sublist cs){c:Option Nat}(g:Gx c γ γ') (hmen:∀x∈rest,c≠Td x.1/\lr kz c x.2=Tc) (hk:∀x∈rest,∀b,blk γ x.1 x.2=Td b->h'[b]?=h[b]?/\γ'.M b=Te)
  (ag:AgM γ'.M h') (hframe:∀i,i<h0.size->¬W i->h'[i]?=h[i]?) (hsize:h.size<=h'.size) (hold:∀b,b<h0.size->γ'.M b=γ.M b):Inv h0 W M0 rest γ' h' where
 ag:=ag
 frame:=λi hi hw=>(hframe i hi hw).trans (I.frame i hi hw)
 size:=zay I.size hsize
 old:=λb hb=>(hold b hb).trans (I.old b hb)
 le:=I.le.trans g.1
 den:=λx hx=>(I.den x (hsub.subset hx)).gx g (hmen x hx).1 (hmen x hx).2 λb hb=>(hk x hx b hb).1
 sep:=λx hx b hb=>by rw[pt g _ (hmen x hx).1]at hb;exact⟨(I.sep x (hsub.subset hx) b hb).1,(hk x hx b hb).2⟩
 apart:=by refine(I.apart.sublist hsub).imp_of_mem λ {x y} hx hy h=>?_;intro b hb;rw[pt g _ (hmen x hx).1]at hb;rw[pt g _ (hmen y hy).1];exact h b hb
theorem Inv.cons{rest:CS}(I:Inv h0 W M0 rest γ h){k:Ch}(hd:DenC h0.size γ h c k)(hs:∀b,blk γ c k=Td b->(h0.size<=b\/W b)/\γ.M b=Te)
  (ha:∀b,blk γ c k=Td b->∀x∈rest,blk γ x.1 x.2≠Td b):Inv h0 W M0 ((c,k)::rest) γ h where
 ag:=I.ag
 frame:=I.frame
 size:=I.size
 old:=I.old
 le:=I.le
 den:=λx hx=>by rcases YB.1 hx with rfl|hx;exact hd;exact I.den x hx
 sep:=λx hx=>by rcases YB.1 hx with rfl|hx;exact hs;exact I.sep x hx
 apart:=zam.2 ⟨λy hy b hb=>ha b hb y hy,I.apart⟩
theorem Inv.sub{cs rest:CS}(I:Inv h0 W M0 cs γ h)(hsub:rest.Sublist cs):Inv h0 W M0 rest γ h where
 ag:=I.ag
 frame:=I.frame
 size:=I.size
 old:=I.old
 le:=I.le
 den:=λx hx=>I.den x (hsub.subset hx)
 sep:=λx hx=>I.sep x (hsub.subset hx)
 apart:=I.apart.sublist hsub
theorem Inv.fz(I:Inv h0 W M0 cs γ h):lQ γ cs:=λc t xs b=>I.den _ b
theorem Inv.call(I:Inv h0 W M0 cs γ h)(k:Keep h.size h h')(m:Fr.le γ.M M')(e:∀b,b<h.size->M' b=γ.M b)(ag:AgM M' h'):Inv h0 W M0 cs { γ with M:=M' } h':= I.rest (List.Sublist.refl _) (c:=Te) ⟨m,λ_ _=>⟨rfl,rfl⟩⟩ (λx _=>⟨by simp,rfl⟩) (λx l b j=>by have f:=(I.den x l).lt b j;exact⟨k.get b f,(e b f).trans (I.sep x l b j).2⟩) ag (λi hi _=>k.get i (zbu hi I.size)) k.size (λb j=>e b (zbu j I.size))
def q9(c:Nat):CS->CS
 |[]=>[]
 |(j,k)::l=>bif (bif Nat.beq j c then Ta else kz c k)then q9 c l else(j,k)::q9 c l
def qq(c:Nat):CS->Bool
 |[]=>Ta
 |(j,k)::l=>bif (bif Nat.beq j c then Ta else kz c k)then Tc else qq c l
def J7(c:Nat):CS->CS
 |[]=>[]
 |(j,k)::l=>bif Nat.beq j c then J7 c l else(j,k)::J7 c l
theorem wi(c:Nat):∀l:CS,(q9 c l).Sublist l
 |[]=>.slnil
 |(j,k)::l=>by
  simp only[q9];cases(bif Nat.beq j c then Ta else kz c k)with
  |true=>exact(wi c l).cons _
  |false=>exact(wi c l).cons_cons _
theorem xc(c:Nat):∀l:CS,(J7 c l).Sublist l
 |[]=>.slnil
 |(j,k)::l=>by
  simp only[J7];cases Nat.beq j c with
  |true=>exact(xc c l).cons _
  |false=>exact(xc c l).cons_cons _
theorem wK{c:Nat}:∀{l:CS} {x:Nat×Ch},x∈q9 c l->Td c≠Td x.1/\kz c x.2=Tc
 |(j,k)::l,x,h=>by
  simp only[q9]at h;cases hb:(bif Nat.beq j c then Ta else kz c k)with
  |true=>rw[hb]at h;exact wK h
  |false=>
   rw[hb]at h;rcases YB.1 h with rfl|h;cases hj:Nat.beq j c with
   |true=>simp[hj]at hb
   |false=>simp only[hj,zJ]at hb;exact⟨pV hj,hb⟩
   exact wK h
theorem Q8{c:Nat}:∀{l:CS},qq c l=Ta->∀x∈l,Td c≠Td x.1/\kz c x.2=Tc
 |[],_,x,h=>by cases h
 |(j,k)::l,hn,x,h=>by
  simp only[qq]at hn;cases hb:(bif Nat.beq j c then Ta else kz c k)with
  |true=>rw[hb]at hn;cases hn
  |false=>
   rw[hb]at hn;rcases YB.1 h with rfl|h;cases hj:Nat.beq j c with
   |true=>simp[hj]at hb
   |false=>simp only[hj,zJ]at hb;exact⟨pV hj,hb⟩
   exact Q8 hn x h
theorem Ys{c:Nat}:∀{l:CS} {x:Nat×Ch},x∈J7 c l->x∈l/\x.1≠c
 |(j,k)::l,x,h=>by
  simp only[J7]at h;cases hb:Nat.beq j c with
  |true=>rw[hb]at h;exact⟨XZ _ (Ys h).1,(Ys h).2⟩
  |false=>rw[hb]at h;rcases YB.1 h with rfl|h;refine⟨YJ,λe=>?_⟩;simp only at e;subst e;simp at hb;exact⟨XZ _ (Ys h).1,(Ys h).2⟩
def kL(γ:Gh)(c b:Nat):Gh:={ γ with β:=λi=>bif Nat.beq i c then b else γ.β i }
def jL(γ:Gh)(c:Nat)(s:Sl):Gh:={ γ with σ:=λi=>bif Nat.beq i c then s else γ.σ i }
theorem Xt(γ:Gh)(c b:Nat):Gx (Td c) γ (kL γ c b):=⟨Fr.le.refl _,λi hi=>by
 have:Nat.beq i c=Tc:=by
  cases h:Nat.beq i c with
  |false=>rfl
  |true=>exact absurd (congrArg Td (YC h).symm) hi
 simp[kL,this]⟩
theorem Qd(γ:Gh)(c:Nat)(s:Sl):Gx (Td c) γ (jL γ c s):=⟨Fr.le.refl _,λi hi=>by
 have:Nat.beq i c=Tc:=by
  cases h:Nat.beq i c with
  |false=>rfl
  |true=>exact absurd (congrArg Td (YC h).symm) hi
 simp[jL,this]⟩
theorem Z1(γ:Gh)(c b:Nat):(kL γ c b).β c=b:=by simp[kL]
theorem yd(γ:Gh)(c:Nat)(s:Sl):(jL γ c s).σ c=s:=by simp[jL]
theorem oa(e:qq c R=Ta):∀x∈q9 c C++R,Td c≠Td x.1/\lr kz (Td c) x.2=Tc:=by intro x b;rcases YK.1 b with b|b;exact wK b;exact Q8 e x b
theorem Inv.newBoxO(I:Inv h0 W M0 (C++R) γ h)(o:qq c R=Ta){l:List AA}(p:All2 (DenA γ) l us)(t:i8 c l=Tc){ob:Obj}(n:vT (Td ob) us):
  Inv h0 W M0 ((c,.box l)::q9 c C++R) (kL γ c h.size) (h.push ob):=by
 have k:∀x∈q9 c C++R,∀b,blk γ x.1 x.2=Td b->b<h.size:=λx j b f=>(I.den x (((wi c C).append_right R).subset j)).lt b f;have r:Inv h0 W M0 (q9 c C++R) (kL γ c h.size) (h.push ob):=by refine I.rest ((wi c C).append_right R) (Xt γ c h.size) (oa o) (λx j b f=>?_) (λb u e=>?_) (λi hi _=>?_) (by simp) (λb f=>rfl);have:=k x j b f;exact⟨by rw[zau,za (by omega)],(I.sep x (((wi c C).append_right R).subset j) b f).2⟩;have:=I.ag.lt e;obtain⟨w,m,y⟩:=I.ag b u e;exact⟨w,m,by rw[zau,za (by omega)];exact y⟩;have:=I.size;rw[zau,za (by omega)]
 refine r.cons ⟨us,by rw[Z1,qm];exact n,DenL.gx (Xt γ c h.size) t p⟩ (λb f=>?_) (λb f x j e=>?_);simp only[blk,Z1,XU]at f;subst f;exact⟨.inl I.size,I.ag.none (XV _)⟩;simp only[blk,Z1,XU]at f;subst f;rw[pt (Xt γ c h.size) _ (oa o x j).1]at e;have:=k x j _ e;omega
theorem Inv.newBox(I:Inv h0 W M0 (C++R) γ h)(i:qq c R=Ta){l:List AA}(e:All2 (DenA γ) l us)(f:i8 c l=Tc)(b:iW l=Tc)(T:TypeId):
  Inv h0 W M0 ((c,.box l)::q9 c C++R) (kL γ c h.size) (h.push (.cells us.toArray T)):=
 Inv.newBoxO I i e f (.inl ⟨⟨T,rfl⟩,λs p=>sH b e s p⟩)
theorem rq{α:Type}{R:α->α->Prop}(f:∀x y,R x y->R y x):∀{l:List α},l.Pairwise R->∀{x y:α},x∈l->y∈l->x≠y->R x y
 |[],_,_,_,hx,_,_=>by cases hx
 |z::l,h,x,y,hx,hy,hne=>by rw[zam]at h;rcases YB.1 hx with e|h1;rcases YB.1 hy with c|b;exact absurd (e.trans c.symm) hne;rw[e];exact h.1 _ b;rcases YB.1 hy with c|b;rw[c];exact f _ _ (h.1 _ h1);exact rq f h.2 h1 b hne
theorem Inv.setBox(I:Inv h0 W M0 (C++R) γ h){l B:List AA}(D:(c,Ch.box l)∈C)(e:vT h'[γ.β c]? us)
  (r:∀i,i≠γ.β c->h'[i]?=h[i]?) (N:h'.size=h.size) (F:All2 (DenA γ) B us) (L:∀x∈R,x.1≠c):Inv h0 W M0 ((c,.box B)::J7 c C++R) γ h':=by
 have j:=I.sep _ (YM R D) _ rfl;have n:∀x∈J7 c C++R,blk γ x.1 x.2≠Td (γ.β c):=by
  intro x k;have t:x≠(c,Ch.box l):=by rintro rfl;rcases YK.1 k with k|k;exact(Ys k).2 rfl;exact L _ k rfl
  have p:x∈C++R:=((xc c C).append_right R).subset k;have E:=@rq _ (λ(x y:Nat×Ch)=>∀b,blk γ x.1 x.2=Td b->blk γ y.1 y.2≠Td b) (λx y h b f w=>h b w f) _ I.apart;intro f;exact E (YM R D) p (λe=>t e.symm) _ rfl f
 have G:Inv h0 W M0 (J7 c C++R) γ h':=by refine I.rest ((xc c C).append_right R) (c:=Te) (Gx.refl _ _) (λx _=>⟨by simp,rfl⟩) (λx k b f=>?_) (λb H u=>?_) (λi hi z=>?_) (by omega) (λb f=>rfl);exact⟨r b λo=>n x k (o ▸ f),(I.sep x (((xc c C).append_right R).subset k) b f).2⟩;obtain⟨J,m,o⟩:=I.ag b H u;exact⟨J,m,by rw[r b λM=>by rw[M,j.2]at u;cases u];exact o⟩;refine r i λo=>?_;have A:=j.1;simp only at A;rcases A with h1|h1;omega;rw[o]at z;exact z h1
 refine G.cons ⟨us,e,F⟩ (λb f=>?_) (λb f x k=>?_);simp only[blk,XU]at f;subst f;exact j;simp only[blk,XU]at f;subst f;exact n x k
theorem Inv.newRow(I:Inv h0 W M0 (C++R) γ h)(D:qq c R=Ta)(G:h.size<=h'.size){p:Option Nat}(y:∀i,i<h.size->p≠Td i->h'[i]?=h[i]?) (o:∀b,p=Td b->h0.size<=b/\γ.M b=Te/\∀x∈C++R,blk γ x.1 x.2≠Td b) {s:Sl} {xs:List (El t)} {cells:List Value} (r:Owns h' h0.size e (sz t) s cells) (l:∀q,s.a=Td q->p=Td q.block\/q.block=h.size) (w:RowC γ.M t xs cells) (H:xs.length<=140737488355328) (F:s.len=xs.length):
  Inv h0 W M0 ((c,.row e t xs)::q9 c C++R) (jL γ c s) h':=by
 have f:=(wi c C).append_right R;have u:∀x∈q9 c C++R,∀b,blk γ x.1 x.2=Td b->b<h.size:=λx n b l=>(I.den x (f.subset n)).lt b l;have E:Inv h0 W M0 (q9 c C++R) (jL γ c s) h':=by refine I.rest f (Qd γ c s) (oa D) (λx n b l=>?_) (λb B z=>?_) (λi hi N=>?_) G (λb l=>rfl);exact⟨y b (u x n b l) λk=>(o b k).2.2 x (f.subset n) l,(I.sep x (f.subset n) b l).2⟩;obtain⟨J,m,k⟩:=I.ag b B z;exact⟨J,m,by rw[y b (I.ag.lt z) λL=>by have:=(o b L).2.1;rw[show γ.M b=Td B from z]at this;cases this];exact k⟩;have:=I.size;refine y i (by omega) λk=>?_;have:=(o i k).1;omega
 refine E.cons ⟨cells,by rw[yd];exact r,w,H,by rw[yd];exact F⟩ (λb j=>?_) (λb j x n k=>?_);simp only[blk,yd,zbk]at j;obtain⟨q,A,rfl⟩:=j;rcases l q A with h1|h1;exact⟨.inl (o _ h1).1,(o _ h1).2.1⟩;rw[h1];exact⟨.inl I.size,I.ag.none (XV _)⟩;simp only[blk,yd,zbk]at j;obtain⟨q,A,rfl⟩:=j;rw[pt (Qd γ c s) _ (oa D x n).1]at k;rcases l q A with h1|h1;exact(o _ h1).2.2 x (f.subset n) k;rw[h1]at k;have:=u x n _ k;omega
def nD(c:Nat):CS->CS
 |[]=>[]
 |(j,k)::l=>bif Nat.beq j c then(match k with
  |.row _ t xs=>(j,.fz t xs)::nD c l
  |k=>(j,k)::nD c l)else(j,k)::nD c l
def iA(γ:Gh)(b:Nat)(cs:Array Value):Gh:={ γ with M:=λi=>bif Nat.beq i b then Td cs else γ.M i }
theorem Inv.freeze1{A C:CS}{xs:List (El t)}(I:Inv h0 W M0 (A++(c,.row e t xs)::C) γ h):∃γ',Inv h0 W M0 (A++(c,.fz t xs)::C) γ' h/\Gx Te γ γ':=by
 obtain⟨cells,D,r,Z,Q⟩:=I.den (c,.row e t xs) (by simp);have P:=r.1;rcases D.2 with⟨m,h1⟩|⟨g,cap,j,m,l,S,U,O,Y,w⟩;refine⟨γ,?_,Gx.refl _ _⟩;have J:xs=[]:=YU (by omega);have L:DenC h0.size γ h c (.fz t xs):=by subst J;simp only[ZG]at m;exact⟨_,rfl,Te,0,by simp[aK,m],⟨by simp,by simp⟩,.inl rfl⟩
 have k:∀x,x∈A++(c,Ch.fz t xs)::C->x∈A++(c,Ch.row e t xs)::C\/x=(c,Ch.fz t xs):=by intro x f;simp only[YK,YB]at f ⊢;rcases f with h|h|h;exact .inl (.inl h);exact .inr h;exact .inl (.inr (.inr h))
 refine⟨I.ag,I.frame,I.size,I.old,I.le,λx f=>?_,λx f b i=>?_,?_⟩;rcases k x f with h|rfl;exact I.den x h;exact L;rcases k x f with h|rfl;exact I.sep x h b i;cases i;have:=I.apart;simp only[zby,zam]at this ⊢;obtain⟨a1,⟨a2,F⟩,B⟩:=this;refine⟨a1,⟨λy n b i=>(by simp[blk]at i),F⟩,λx f y n b i=>?_⟩;rcases YB.1 n with rfl|n;simp[blk];exact B x f y (XZ _ n) b i;simp only[ZG]at m;have H:γ.M g=Te:=(I.sep (c,.row e t xs) (by simp) g (by simp[blk,m.1])).2;have E:Fr.le γ.M (iA γ g j).M:=by
  intro b N p;have:Nat.beq b g=Tc:=by
   cases i:Nat.beq b g with
   |false=>rfl
   |true=>rw[YC i,H]at p;cases p
  simp[iA,this,p]
 have gx:Gx Te γ (iA γ g j):=⟨E,λ_ _=>⟨rfl,rfl⟩⟩;have T:g<h.size:=(YE.1 S).1;have G:∀x,x∈A++C->blk γ x.1 x.2≠Td g:=by intro x f;have:=I.apart;simp only[zby,zam]at this;obtain⟨a1,⟨a2,F⟩,B⟩:=this;rcases YK.1 f with f|f;intro i;exact B x f (c,.row e t xs) YJ g i (by simp[blk,m.1]);exact a2 x f g (by simp[blk,m.1])
 have z:∀b,b≠g->(iA γ g j).M b=γ.M b:=by
  intro b i;have:Nat.beq b g=Tc:=by
   cases h:Nat.beq b g with
   |false=>rfl
   |true=>exact absurd (YC h) i
  simp[iA,this]
 have u:Inv h0 W M0 (A++C) (iA γ g j) h:=by
  refine I.rest (by simp) gx (λx _=>⟨by simp,rfl⟩) (λx f b i=>?_) (λb N p=>?_) (λ_ _ _=>rfl) (XV _) (λb i=>z b (by omega));have l:b≠g:=λV=>G x f (V ▸ i);refine⟨rfl,(z b l).trans (I.sep x ?_ b i).2⟩;simp only[YK,YB]at f ⊢;rcases f with h|h;exact .inl h;exact .inr (.inr h);by_cases l:b=g;subst l;have:N=j:=by simp[iA]at p;exact p.symm
  subst this;exact⟨_,_,S⟩;rw[z b l]at p;exact I.ag b N p
 refine⟨iA γ g j,?_,gx⟩;have L:DenC h0.size (iA γ g j) h c (.fz t xs):=by
  have:=(r.mono E).rd (b:=g) (o:=0) (c:=cap) (cs:=j) (by simp[iA]) (by rw[za2,<-Q];exact w) ⟨Z,by omega⟩;show Rd _ _ _ [aK (γ.σ c)];have e3:aK (γ.σ c)=.slice (Td ⟨g,0,Te⟩) xs.length cap:=by unfold aK;rw[m.1,Q,m.2.2]
  rw[e3];exact this
 have k:∀x,x∈A++(c,Ch.fz t xs)::C->x∈A++C\/x=(c,Ch.fz t xs):=by intro x f;simp only[YK,YB]at f ⊢;rcases f with h|h|h;exact .inl (.inl h);exact .inr h;exact .inl (.inr h)
 refine⟨u.ag,u.frame,u.size,u.old,u.le,λx f=>?_,λx f b i=>?_,?_⟩;rcases k x f with h|rfl;exact u.den x h;exact L;rcases k x f with h|rfl;exact u.sep x h b i;cases i;have:=u.apart;simp only[zby,zam]at this ⊢;obtain⟨a1,F,B⟩:=this;refine⟨a1,⟨λy n b i=>(by simp[blk]at i),F⟩,λx f y n b i=>?_⟩;rcases YB.1 n with rfl|n;simp[blk];exact B x f y n b i
theorem Inv.freeze{R:CS}{h:zc}(c:Nat):∀(C A:CS) {γ:Gh},Inv h0 W M0 (A++C++R) γ h->∃γ',Inv h0 W M0 (A++nD c C++R) γ' h/\Gx Te γ γ'
 |[],A,γ,I=>⟨γ,I,Gx.refl _ _⟩
 |(j,k)::l,A,γ,I=>by
  have go:∀(k:Ch) {γ:Gh},Inv h0 W M0 (A++(j,k)::l++R) γ h->∃γ',Inv h0 W M0 (A++(j,k)::nD c l++R) γ' h/\Gx Te γ γ':=by intro k γ I;have:=Inv.freeze c l (A++[(j,k)]) (R:=R) (γ:=γ) (by simpa using I);simpa using this
  simp only[nD];cases Nat.beq j c with
  |true=>
   cases k with
   |row e t xs=>obtain⟨m,n,g1⟩:=Inv.freeze1 (A:=A) (C:=l++R) (γ:=γ) (by simpa using I);obtain⟨b,f,g2⟩:=go (.fz t xs) (γ:=m) (by simpa using n);exact⟨b,f,g1.1.trans g2.1,λi hi=>⟨(g2.2 i hi).1.trans (g1.2 i hi).1,(g2.2 i hi).2.trans (g1.2 i hi).2⟩⟩
   |box o=>exact go _ I
   |fz t xs=>exact go _ I
  |false=>exact go _ I
end
section
variable {i n:Nat} {c:qf} {v:AV} {γ γ':Gh} {a:Act} {u:Value} {o:Oper} {g:Option Bool} {σ:Operand -> Value}
abbrev qo:=List (Nat×qf×AV)
def mD:qo->Nat->Option (qf×AV)
 |[],_=>Te
 |(j,c,v)::e,i=>bif Nat.beq i j then Td (c,v)else mD e i
def mA(γ:Gh)(σ:Nat->Value)(x:Nat×qf×AV):Prop:=(valid σ x.2.1->DenV γ x.2.2 (σ x.1))/\(¬valid σ x.2.1->σ x.1=undef)
structure SatA (n:Nat) (e:qo) (γ:Gh) (a:Act):Prop where
 defers:a.defers=[]
 size:a.tmps.size=n
 all:∀x∈e,mA γ (qh a) x
def rE:qo->Nat->qo
 |[],_=>[]
 |(j,c,v)::e,i=>bif (bif Nat.beq i j then Ta else mentions c i)then rE e i else(j,c,v)::rE e i
def DN(e:qo)(i:Nat)(c:qf)(v:AV):qo:=(i,c,v)::rE e i
def uc(e:qo):Option Nat->qf->AV->qo
 |none,_,_=>e
 |some d,c,v=>DN e d c v
def m7:qo->qo
 |[]=>[]
 |(j,[],v)::e=>(j,[],v)::m7 e
 |(_,_::_,_)::e=>m7 e
def pD(c:Nat):qo->qo
 |[]=>[]
 |(j,ch,v)::e=>bif lF c v then pD c e else(j,ch,v)::pD c e
def ug:Option Nat->qo->qo
 |none,e=>e
 |some c,e=>pD c e
theorem Z2{e:qo}(h:mD e i=Td (c,v)):(i,c,v)∈e:=by
 induction e with
 |nil=>cases h
 |cons x e f=>obtain⟨j,k,l⟩:=x;simp only[mD]at h;by_cases b:Nat.beq i j=Ta;simp only[b,zI,XU,zar]at h;obtain⟨rfl,rfl⟩:=h;rw[YC b];exact YJ;simp only[b,zJ]at h;exact XZ _ (f h)
theorem KJ{e:qo}{x:Nat×qf×AV}(h:x∈rE e i):x∈e/\x.1≠i/\mentions x.2.1 i=Tc:=by
 induction e with
 |nil=>cases h
 |cons y e b=>
  obtain⟨j,n,o⟩:=y;simp only[rE]at h;by_cases k:Nat.beq i j=Ta;simp only[k,zI]at h;exact⟨XZ _ (b h).1,(b h).2⟩;have l:Nat.beq i j=Tc:=Bool.eq_false_iff.2 k;simp only[l,zJ]at h;by_cases m:mentions n i=Ta;simp only[m,zI]at h;exact⟨XZ _ (b h).1,(b h).2⟩;have c:mentions n i=Tc:=by simpa using m
  simp only[c,zJ]at h;rcases YB.1 h with rfl|h;refine⟨YJ,λf=>?_,c⟩;simp only at f;rw[f]at k;exact k (by simp);exact⟨XZ _ (b h).1,(b h).2⟩
theorem RX{e:qo}{x:Nat×qf×AV}(h:x∈m7 e):x∈e/\x.2.1=[]:=by
 induction e with
 |nil=>cases h
 |cons y e b=>
  obtain⟨j,f,i⟩:=y;cases f with
  |nil=>simp only[m7]at h;rcases YB.1 h with rfl|h;exact⟨YJ,rfl⟩;exact⟨XZ _ (b h).1,(b h).2⟩
  |cons c cs=>simp only[m7]at h;exact⟨XZ _ (b h).1,(b h).2⟩
theorem Sf{c:Option Nat}{e:qo}{x:Nat×qf×AV}(h:x∈ug c e):x∈e/\lr lF c x.2.2=Tc:=by
 cases c with
 |none=>exact⟨h,rfl⟩
 |some c=>
  have key:∀e:qo,x∈pD c e->x∈e/\lF c x.2.2=Tc:=by
   intro e;induction e with
   |nil=>intro h;cases h
   |cons y e b=>
    obtain⟨j,i,f⟩:=y;intro h;simp only[pD]at h;cases hm:lF c f with
    |true=>rw[hm]at h;exact⟨XZ _ (b h).1,(b h).2⟩
    |false=>rw[hm]at h;rcases YB.1 h with rfl|h;exact⟨YJ,hm⟩;exact⟨XZ _ (b h).1,(b h).2⟩
  exact key e h
theorem SatA.sub{e b:qo}(h:SatA n e γ a)(c:∀x∈b,x∈e):SatA n b γ a:=⟨h.defers,h.size,λx f=>h.all x (c x f)⟩
theorem SatA.clean{e:qo}(h:SatA n e γ a):SatA n (m7 e) γ a:=h.sub λ_ b=>(RX b).1
theorem SatA.gx{e:qo}{c:Option Nat}(h:SatA n e γ a)(g:Gx c γ γ'):SatA n (ug c e) γ' a:= ⟨h.defers,h.size,λx i=>by obtain⟨h1,f⟩:=Sf i;exact⟨λb=>((h.all x h1).1 b).gx g f,(h.all x h1).2⟩⟩
theorem SatA.gx0{e:qo}(h:SatA n e γ a)(g:Gx Te γ γ'):SatA n e γ' a:=h.gx g
theorem SatA.put{e:qo}(h:SatA n e γ a)(hi:i<n)(z:mentions c i=Tc)
  (t:valid (qh a) c->DenV γ v u) (y:¬valid (qh a) c->u=undef):SatA n (DN e i c v) γ (a.put (Td i) u):=by
 refine⟨by rw[xp];exact h.defers,by rw[size_put];exact h.size,λx m=>?_⟩;have k:i<a.tmps.size:=by rw[h.size];exact hi
 rcases YB.1 m with rfl|m;have l:=Zo (σ:=qh (a.put (Td i) u)) (τ:=qh a) z (λj o=>ql o);refine⟨λf=>?_,λf=>?_⟩;simp only;rw[xa k];exact t (l.1 f);exact(xa k).trans (y (λb=>f (l.2 b)));obtain⟨h1,r,w⟩:=KJ m;have l:=Zo (σ:=qh (a.put (Td i) u)) (τ:=qh a) w (λj o=>ql o);have p:=h.all x h1;refine⟨λf=>?_,λf=>?_⟩;rw[ql r];exact p.1 (l.1 f);exact(ql r).trans (p.2 (λb=>f (l.2 b)))
theorem SatA.putO{e:qo}(h:SatA n e γ a){d:Option Nat}(f:jr n c d=Ta)
  (k:valid (qh a) c->DenV γ v u) (l:¬valid (qh a) c->u=undef):SatA n (uc e d c v) γ (a.put d u):=by
 cases d with
 |none=>exact h
 |some i=>
  simp only[jr]at f;by_cases j:mentions c i=Ta;simp[j]at f;have b:mentions c i=Tc:=by simpa using j
  simp only[b,zJ]at f;exact h.put (by simpa[zbo]using f) b k l
def Bn:Value->AG
 |.agg cs=>.agg (cs.toList.map .v)
 |v=>.a (.v v)
def oy:Value->AV
 |.tuple vs=>.tup (vs.toList.map Bn)
 |v=>.g (Bn v)
theorem Du(γ:Gh)(v:Value):DenG γ (Bn v) v:=by
 cases v with
 |agg cs=>
  refine⟨cs.toList,by simp,?_⟩;generalize cs.toList=l;induction l with
  |nil=>trivial
  |cons x l b=>exact⟨rfl,b⟩
 |_=>exact rfl
theorem Ji(γ:Gh)(v:Value):DenV γ (oy v) v:=by
 cases v with
 |tuple vs=>
  refine⟨vs.toList,by simp,?_⟩;generalize vs.toList=l;induction l with
  |nil=>trivial
  |cons x l b=>exact⟨Du γ x,b⟩
 |agg cs=>exact Du γ (.agg cs)
 |_=>exact rfl
def lj:List AA->Option (List Value)
 |[]=>Td []
 |.v x::l=>match lj l with
  |some vs=>Td (x::vs)
  |none=>Te
 |_::_=>Te
def pw:AV->Option Value
 |.g (.a (.v x))=>Td x
 |.g (.agg l)=>match lj l with
  |some vs=>Td (.agg vs.toArray)
  |none=>Te
 |_=>Te
theorem FC{γ:Gh}:∀{l:List AA} {vs us:List Value},lj l=Td vs->All2 (DenA γ) l us->us=vs
 |[],vs,[],h,_=>by simp only[lj,XU]at h;exact h
 |[],_,_::_,_,h=>h.elim
 |.v x::l,vs,u::us,h,hd=>by simp only[lj]at h;split at h;rename_i ws b;simp only[XU]at h;subst h;rw[show u=x from hd.1,FC b hd.2];cases h
 |.v _::_,_,[],_,h=>h.elim
 |.d _ _::_,_,_,h,_=>by simp[lj]at h
 |.box _ _::_,_,_,h,_=>by simp[lj]at h
 |.own _::_,_,_,h,_=>by simp[lj]at h
 |.oelt _ _ _ _::_,_,_,h,_=>by simp[lj]at h
 |.elt _ _ _::_,_,_,h,_=>by simp[lj]at h
 |.dc _ _::_,_,_,h,_=>by simp[lj]at h
theorem xV{x:AV}{v u:Value}(h:pw x=Td v)(b:DenV γ x u):u=v:=by unfold pw at h;split at h;simp only[XU]at h;subst h;exact b;rename_i l;split at h;rename_i vs c;simp only[XU]at h;subst h;obtain⟨us,rfl,e⟩:=b;rw[FC c e];cases h;cases h
def iD(e:qo)(c:qf):Operand->Option AV
 |.tmp t=>match mD e t with
  |some (cs,v)=>bif lu cs c then Td v else Te
  |none=>Te
 |.const v=>Td (oy v)
 |.global g=>Td (.g (.a (.v (.pointer (Td ⟨g,0,Te⟩)))))
 |.func f=>Td (.g (.a (.v (.func (.func f) #[] #[]))))
theorem zx{e:qo}(h:SatA n e γ a)(k:valid (qh a) c){x:Operand}(b:iD e c x=Td v):DenV γ v (a.eval x):=by
 cases x with
 |tmp t=>simp only[iD]at b;split at b;rename_i cs u j;by_cases i:lu cs c=Ta;simp only[i,zI,XU]at b;subst b;exact(h.all _ (Z2 j)).1 (Ja i k);simp[i]at b;cases b
 |const u=>simp only[iD,XU]at b;subst b;exact Ji γ u
 |global g=>simp only[iD,XU]at b;subst b;exact rfl
 |func f=>simp only[iD,XU]at b;subst b;exact rfl
def oZ:AV->Option Bool
 |.g (.a (.v (.bool b)))=>Td b
 |_=>Te
theorem y4{b:Bool}(h:oZ v=Td b)(c:DenV γ v u):u=.bool b:=by unfold oZ at h;split at h;simp only[XU]at h;subst h;exact c;cases h
def Yt(ops:Array Oper)(e:qo):Option (Nat×Bool)->Option qf
 |none=>Td []
 |some (j,p)=>match ja ops j with
  |some g=>match mD e g with
   |some (cg,v)=>match oZ v with
    |some _=>Td ((g,p)::cg)
    |none=>Te
   |none=>Te
  |none=>Te
def rP(e:qo):qf->Option Bool
 |[]=>Td Ta
 |(g,p)::c=>match mD e g with
  |some (cg,v)=>match oZ v with
   |some b=>bif Zp cg c then(match rP e c with
    |some cb=>Td (cb&&(bif p then b else !b))
    |none=>Te)else Te
   |none=>Te
  |none=>Te
theorem Xu{n:Nat}{e:qo}{γ:Gh}{a:Act}(h:SatA n e γ a):∀{c:qf} {b:Bool},rP e c=Td b->(b=Ta↔valid (qh a) c)
 |[],b,hb=>by simp only[rP,XU]at hb;simp[<-hb,valid]
 |(g,p)::c,b,hb=>by
  simp only[rP]at hb;split at hb;rename_i u v r;split at hb;rename_i l j;by_cases k:Zp u c=Ta;simp only[k,zI]at hb;split at hb;rename_i cb i;simp only[XU]at hb;have o:=Xu h i;have m:=h.all _ (Z2 r);rw[Y9 k]at m;by_cases f:valid (qh a) c;have h1:qh a g=.bool l:=y4 j (m.1 f);have t:=o.2 f;subst hb;simp only[valid,h1,f,t,zal,and_true,Value.bool.injEq];cases p <;> cases l <;> simp;have h1:cb=Tc:=by cases cb with|false=>rfl|true=>exact absurd (o.1 rfl) f
  subst hb;simp[valid,f,h1];cases hb;simp[k]at hb;cases hb;cases hb
theorem x9{ops:Array Oper}{e:qo}(h:SatA n e γ a)(f:Yt ops e o.guard=Td c):
  za5 o (yielded ops a.tmps)=Ta↔valid (qh a) c:=by
 unfold za5;cases hg:o.guard with
 |none=>rw[hg]at f;simp only[Yt,XU]at f;simp[<-f,valid]
 |some w=>
  obtain⟨j,p⟩:=w;rw[hg]at f;simp only[Yt]at f;split at f;rename_i g i;split at f;rename_i x v t;split at f;rename_i b y;simp only[XU]at f;subst f;have l:((ops[j]?).bind (·.dst))=Td g:=by simp only[ja]at i;split at i;rename_i z k;simp[k,i];cases i
  have r:=h.all _ (Z2 t);have u:yielded ops a.tmps j=Td p↔qh a g=.bool p:=by
   unfold yielded qh;rw[l];simp only[zbj];cases ht:a.tmps[g]? with
   |none=>simp[zas,ht,undef]
   |some v=>cases v <;> simp[zas,ht]
  simp only[beq_iff_eq,u,valid];constructor;intro h1;refine⟨h1,?_⟩;by_cases m:valid (qh a) x;exact m;have:=r.2 m;simp only at this;rw[h1]at this;exact absurd this.symm IA;exact λh1=>h1.1;cases f;cases f;cases f
def J8(e:qo):qf->Option (Option Bool)
 |[]=>Td Te
 |c=>match rP e c with
  |some b=>Td (Td b)
  |none=>Te
theorem xt{e:qo}(i:SatA n e γ a)(h:J8 e c=Td g)(j:valid (qh a) c):ij g:=by unfold J8 at h;split at h;simp only[XU]at h;subst h;trivial;split at h;rename_i b f;simp only[XU]at h;subst h;exact(Xu i f).2 j;cases h
theorem BJ{e:qo}(j:SatA n e γ a)(h:J8 e c=Td g)(f:¬valid (qh a) c):g=Td Tc:=by
 unfold J8 at h;split at h;exact absurd trivial f;split at h;rename_i b i;simp only[XU]at h;subst h;cases b with
 |false=>rfl
 |true=>exact absurd ((Xu j i).1 rfl) f
 cases h
def uh(ρ:Operand->Option AV)(x:Operand):Value:=match ρ x with
 |some av=>match pw av with
  |some v=>v
  |none=>undef
 |none=>undef
def np(ρ:Operand->Option AV):List Operand->Bool
 |[]=>Ta
 |x::l=>match ρ x with
  |some av=>match pw av with
   |some _=>np ρ l
   |none=>Tc
  |none=>Tc
theorem Sr{ρ:Operand->Option AV}(h:∀x av,ρ x=Td av->DenV γ av (σ x)){l:List Operand}(b:np ρ l=Ta):∀x∈l,σ x=uh ρ x:=by
 induction l with
 |nil=>intro x e;cases e
 |cons y l i=>intro x e;simp only[np]at b;split at b;rename_i av f;split at b;rename_i v c;rcases YB.1 e with rfl|e;rw[xV c (h _ _ f)];simp[uh,f,c];exact i b x e;cases b;cases b
theorem EI{ρ:Operand->Option AV}(f:∀x av,ρ x=Td av->DenV γ av (σ x))(c:Yk o.op=Ta)(e:np ρ o.op.operands.toList=Ta):
  execOp σ o=execOp (uh ρ) o:=
 execOp_congr o (λcs b h=>by rw[h]at c;cases c) λx i=>Sr f e x (by simpa using i)
end
section
variable {o n f k:Nat} {h:zc} {u:Value} {us:List Value} {cs:CS} {γ:Gh} {t ty:TypeId} {P:Program}
variable {h0 : zc} {W : Nat -> Prop} {M0 : Fr}
def takeN(l:List AA)(o n:Nat):Option (List AA):=bif Nat.beq ((l.drop o).take n).length n then Td ((l.drop o).take n)else Te
theorem sT{l r:List AA}(h:takeN l o n=Td r):r=(l.drop o).take n/\r.length=n:=by
 unfold takeN at h;cases hb:Nat.beq ((l.drop o).take n).length n with
 |false=>rw[hb]at h;cases h
 |true=>rw[hb]at h;simp only[zI,XU]at h;subst h;exact⟨rfl,YC hb⟩
theorem Eu{h:zc}{p:Addr}:∀{us:List Value} {i:Nat},(∀j v,us[j]?=Td v->zd h (p.add (i+j))=Td v)->zf h p i us
 |[],_,_=>trivial
 |v::us,i,H=>⟨by have:=H 0 v rfl;simpa using this,Eu λj u b=>by have:=H (j+1) u (by simpa using b);rwa[show i+(j+1)=i+1+j by omega]at this⟩
def Behind(h:zc)(u:Value)(us:List Value):Prop:=∃b o,u=.pointer (Td ⟨b,o,Te⟩)/\∀j v,us[j]?=Td v->zd h ⟨b,o+j,Te⟩=Td v
theorem Behind.ld(H:Behind h u us):∃p:Addr,u=.pointer (Td p)/\zf h p 0 us/\∀v,us=[v]->zd h p=Td v:=by obtain⟨b,o,e,f⟩:=H;refine⟨_,e,Eu λj v c=>?_,λv c=>?_⟩;rw[zh,YP];exact f j v c;have:=f 0 v (by rw[c];rfl);simpa using this
theorem Lx{cs:Array Value}{f n j:Nat}{v:Value}(h:(cut cs f n)[j]?=Td v):cs[f+j]?=Td v:=by unfold cut at h;rw[ZJ]at h;split at h;rw[zaa]at h;simpa using h;cases h
def vo(cs:CS)(n:Nat):AA->Option (List AA)
 |.box c o=>match Q7 cs c with
  |some (.box l)=>bif iW l then Te else takeN l o n
  |_=>Te
 |.elt t x o=>takeN (Jg t x) o n
 |_=>Te
theorem Ra(I:Inv h0 W M0 cs γ h){A:AA}{r:List AA}(k:vo cs n A=Td r)(y:DenA γ A u):
  ∃us,Behind h u us/\us.length=n/\All2 (DenA γ) r us:=by
 unfold vo at k;split at k
 ·rename_i c o;split at k
  ·rename_i l B;cases hit:iW l with
   |true=>rw[hit]at k;cases k
   |false=>
   rw[hit]at k;obtain⟨rfl,w⟩:=sT k;obtain⟨us,e,z⟩:=I.den _ (qi B);rcases e with⟨⟨T,e⟩,_⟩|⟨s,p,e,_⟩;case inr=>exact absurd e (sH hit z s p)
   have m:=(z.drop o).take n;refine⟨(us.drop o).take n,⟨_,_,y,λj v i=>?_⟩,by rw[<-m.length];exact w,m⟩;rw[ZJ]at i;split at i;rw[zaa]at i;unfold zd;simp only[e];simp;exact i;cases i
  cases k
 rename_i t x o;obtain⟨rfl,w⟩:=sT k;obtain⟨b,f,E,e,D,C⟩:=y;have m:=((xr (γ:=γ) C).drop o).take n;refine⟨_,⟨_,_,e,λj v i=>?_⟩,by rw[<-m.length];exact w,m⟩;rw[ZJ]at i;split at i;rw[zaa]at i;have:=Lx i;exact I.ag.cell D (by rw[show f+o+j=f+(o+j)by omega];exact this);cases i;cases k
theorem NT(I:Inv h0 W M0 cs γ h){c:Nat}{e:TypeId}{t:Ty}{xs:List (El t)}(L:Q7 cs c=Td (.row e t xs)){i:Nat}{y:El t}(C:xs[i]?=Td y){r:List AA}(H:takeN (Jg t y) o n=Td r)(E:DenA γ (.oelt c (sz t) i o) u):∃us,Behind h u us/\us.length=n/\All2 (DenA γ) r us:=by
 obtain⟨rfl,J⟩:=sT H;obtain⟨g,A,rfl⟩:=E;obtain⟨cells,f,m,_,G⟩:=I.den _ (qi L);simp only at G f;rcases f.2 with⟨l,h1⟩|⟨g',cap,x,l,_,p,_,_,_,k⟩;simp only[ZG]at l;rw[A]at l;cases l.1;simp only[ZG]at l;rw[A]at l;have z:g=g':=by have:=l.1;simp only[XU,Addr.mk.injEq]at this;exact this.1
 subst z;have hi:i<xs.length:=(ZV.1 C).1;have w:xs[i]=y:=(ZV.1 C).2;have B:=m.2 i hi;rw[w]at B;have D:=((xr (γ:=γ) B).drop o).take n;refine⟨_,⟨_,_,rfl,λj v b=>?_⟩,by rw[<-D.length];exact J,D⟩;rw[ZJ]at b;split at b;rw[zaa,ZJ]at b;split at b;rw[zaa,<-k,ZJ]at b;split at b;have F:h[g]?=Td (.cells x e (0,0)):=p;unfold zd;simp only[F];simp;rw[show i*sz t+o+j=i*sz t+(o+j)by omega];simpa using b;cases b;cases b;cases b
def mb:Option Nat->List AA->Option AG
 |none,[x]=>Td (.a x)
 |some _,l=>Td (.agg l)
 |_,_=>Te
def Xv(P:Program)(t:TypeId):Option (Option Nat):=match kM P t with
 |some (.one _)=>Td Te
 |some (.agg l)=>Td (Td l.length)
 |none=>Te
def l9:Option Nat->Nat
 |none=>1
 |some n=>n
theorem xo{s:Option Nat}(c:Xv P t=Td s)(n:Behind h u us)(k:us.length=l9 s){r:List AA}(b:All2 (DenA γ) r us){ag:AG}(i:mb s r=Td ag):
  ∃v,DenG γ ag v/\QExec P (zc6 t u) h v:=by
 obtain⟨p,e,m,h1⟩:=n.ld;subst e;have f:∀v,QExec P (loadVar t p) h v->QExec P (zc6 t (.pointer (Td p))) h v:=λv o B d=>by unfold zc6 zc2;simp only[Sem.run_bind,Sem.run_pure,Result.andThen_ok];exact o B d
 unfold Xv at c;split at c;rename_i a j;simp only[XU]at c;subst c
 match us,k,r,b with
 |[v],_,[x],b=>simp only[mb,XU]at i;subst i;exact⟨v,b.1,f v (tz j (h1 v rfl))⟩
 |[v],_,[],b=>exact b.elim
 |[v],_,_::_::_,b=>exact b.2.elim
 rename_i l j;simp only[XU]at c;subst c;simp only[mb,XU]at i;subst i;exact⟨.agg us.toArray,⟨us,rfl,b⟩,f _ (tI j k m)⟩;cases c
def po(P:Program)(cs:CS)(t:TypeId)(b:AA)(g:Option Bool)(K:AV->Prop):Prop:=
 match Xv P t with
 |some s=>match b with
  |.oelt c z i o=>match Q7 cs c with
   |some (.row e ty xs)=>bif Nat.beq z (sz ty)then(∃y:El ty,req g (xs[i]?=Td y)/\match takeN (Jg ty y) o (l9 s)with
    |some r=>match mb s r with
     |some ag=>K (.g ag)
     |none=>False
    |none=>False)else False
   |_=>False
  |b=>match vo cs (l9 s) b with
   |some r=>match mb s r with
    |some ag=>K (.g ag)
    |none=>False
   |none=>False
 |none=>False
theorem GR{p:AA}{g:Option Bool}{K:AV->Prop}(H:po P cs t p g K):
  ∃av,K av/\(ij g->∀γ h u,Inv h0 W M0 cs γ h->DenA γ p u->∃v,DenV γ av v/\QExec P (zc6 t u) h v):=by
 unfold po at H;split at H;rename_i s m;split at H;rename_i c z i o;split at H;rename_i e ty xs x;cases hz:Nat.beq z (sz ty)with
 |false=>rw[hz]at H;exact H.elim
 |true=>rw[hz]at H;obtain⟨y,w,H⟩:=H;split at H;rename_i r k;split at H;rename_i ag f;refine⟨_,H,λn γ h u I b=>?_⟩;rw[YC hz]at b;obtain⟨us,h1,j,l⟩:=NT I x (w.out n) k b;exact xo m h1 j l f;exact H.elim;exact H.elim
 exact H.elim;split at H;rename_i r k;split at H;rename_i ag f;refine⟨_,H,λn γ h u I b=>?_⟩;obtain⟨us,h1,j,l⟩:=Ra I k b;exact xo m h1 j l f;exact H.elim;exact H.elim;exact H.elim
def qs(P:Program)(t:TypeId)(f:Nat):Option (Nat×TypeId):=match P.underlying t with
 |some (.struct fs)=>match fs[f]? with
  |some b=>match P.info? b.type with
   |some i=>bif Nat.beq i.size 0 then Te else Td (b.offset,b.type)
   |none=>Te
  |none=>Te
 |_=>Te
def vK(k:Nat):AA->Option AA
 |.box c o=>Td (.box c (o+k))
 |.elt t x o=>Td (.elt t x (o+k))
 |.oelt c z i o=>Td (.oelt c z i (o+k))
 |_=>Te
theorem WK(c:qs P t f=Td (k,ty))(b o:Nat):QExec P (Instr.fieldAt t (.pointer (Td ⟨b,o,Te⟩)) f) h (.pointer (Td ⟨b,o+k,Te⟩)):=by
 unfold qs at c;split at c;rename_i u n;split at c;rename_i p l;split at c;rename_i i hi;cases hz:Nat.beq i.size 0 with
 |true=>rw[hz]at c;cases c
 |false=>
  rw[hz]at c;simp only[zJ,XU,zar]at c;obtain⟨rfl,rfl⟩:=c;intro B d;have m:=QExec.underlying (h:=h) n B d;have r:=QExec.sizeOf (h:=h) hi B d;have j:¬(yf P p.type=0):=by unfold yf;rw[hi];intro e;simp only at e;rw[e]at hz;simp at hz
  unfold Instr.fieldAt zc2 fieldPlace;simp only[Sem.run_bind,m,Result.andThen_ok,l,Sem.run_pure,r,j,if_false,zh]
 cases c;cases c;cases c
theorem Iw{j c:AA}(h:vK k j=Td c)(i:DenA γ j u):∃b o,u=.pointer (Td ⟨b,o,Te⟩)/\DenA γ c (.pointer (Td ⟨b,o+k,Te⟩)):=by unfold vK at h;split at h;simp only[XU]at h;subst h;exact⟨_,_,i,rfl⟩;simp only[XU]at h;subst h;obtain⟨b,f,cs,e,h1,m⟩:=i;exact⟨_,_,e,b,f,cs,by rw[Nat.add_assoc],h1,m⟩;simp only[XU]at h;subst h;obtain⟨g,l,n⟩:=i;exact⟨_,_,n,g,l,by rw[Nat.add_assoc]⟩;cases h
def qY(P:Program)(ty:TypeId)(l:List AA)(k:Nat):Option AG:=match Xv P ty with
 |some s=>match takeN l k (l9 s)with
  |some r=>mb s r
  |none=>Te
 |none=>Te
theorem EQ{s:Option Nat}(f:Xv P t=Td s)(h:zc):QExec P (isAgg t) h s.isSome:=by
 unfold Xv at f;split at f
 ·rename_i a b;simp only[XU]at f;subst f;unfold kM at b;split at b
  ·exact absurd b (by split <;> (first|(intro h;cases h;done)|(cases Nat.beq _ _ <;> intro h <;> cases h)))
  ·exact absurd b (by split <;> (first|(intro h;cases h;done)|(cases Nat.beq _ _ <;> intro h <;> cases h)))
  rename_i d j i c;intro B e;have k:=QExec.underlying (h:=h) c B e;unfold isAgg;rw[Sem.run_bind,k];cases d <;> first|rfl|exact(j _ rfl).elim|exact(i _ _ rfl).elim
  cases b
 rename_i l b;simp only[XU]at f;subst f;unfold kM at b;have c:(∃o,P.underlying t=Td (.struct o))\/∃n e,P.underlying t=Td (.array n e):=by split at b;exact .inl ⟨_,by assumption⟩;exact .inr ⟨_,_,by assumption⟩;simp at b;cases b
 intro B e;rcases c with⟨o,c⟩|⟨m,p,c⟩;have k:=QExec.underlying (h:=h) c B e;unfold isAgg;rw[Sem.run_bind,k];rfl;have k:=QExec.underlying (h:=h) c B e;unfold isAgg;rw[Sem.run_bind,k];rfl;cases f
theorem Uq(c:Xv P t=Td (Td n)):yf P t=n/\∃i,P.info? t=Td i:=by
 unfold Xv at c;split at c;cases c
 ·rename_i l e;simp only[XU]at c;subst c;unfold kM at e;have key:∀x:Option (List Atom),(match x with
    |some l=>bif Nat.beq l.length (yf P t)then Td (VT.agg l)else Te
    |none=>Te)=Td (.agg l)->yf P t=l.length:=by
   intro x b;split at b;rename_i f;cases hb:Nat.beq f.length (yf P t)with
   |false=>rw[hb]at b;cases b
   |true=>rw[hb]at b;simp only[zI,XU,VT.agg.injEq]at b;rw[<-b];exact(YC hb).symm
   cases b
  split at e;exact⟨key _ e,info_of_underlying (by assumption)⟩;exact⟨key _ e,info_of_underlying (by assumption)⟩;simp at e;cases e
 cases c
theorem yW{l:List AA}{ag:AG}(b:qY P ty l k=Td ag)(o:All2 (DenA γ) l us)(h:zc):∃v,DenG γ ag v/\QExec P (part ty us.toArray k) h v:=by
 unfold qY at b;split at b;rename_i s j;split at b;rename_i r t;obtain⟨rfl,u⟩:=sT t;have c:=(o.drop k).take (l9 s);have e:((us.drop k).take (l9 s)).length=l9 s:=by rw[<-c.length];exact u
 cases s with
 |none=>
  generalize f:(us.drop k).take (l9 Te)=q at *
  match q,e,f with
  |[v],_,f=>
   generalize p:(l.drop k).take (l9 Te)=r' at *
   match r',c with
   |[x],c=>
    simp only[mb,XU]at b;subst b;refine⟨v,c.1,λB d=>?_⟩;have m:=EQ j h B d;have w:us[k]?=Td v:=by
     have:((us.drop k).take 1)[0]?=Td v:=by rw[show(us.drop k).take 1=[v]from f];rfl
     rw[ZJ,zb (by omega),zaa]at this;simpa using this
    unfold part;rw[Sem.run_bind,m];simp[w]
   |[],c=>exact c.elim
   |_::_::_,c=>exact c.2.elim
 |some n=>simp only[mb,XU]at b;subst b;refine⟨.agg ((us.drop k).take n).toArray,⟨_,rfl,c⟩,λB d=>?_⟩;have m:=EQ j h B d;obtain⟨hz,i,hi⟩:=Uq j;have y:=QExec.sizeOf (h:=h) hi B d;unfold part;rw[Sem.run_bind,m];simp only[Option.isSome_some,Result.andThen_ok,if_true];rw[Sem.run_bind,y,hz];simp
 cases b;cases b
end
end Go.X
end
